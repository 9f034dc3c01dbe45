import Derived.Test.YtnogebfcpicghaaGreatDoorDB
import Derived.Test.YtnogebfcpicghaaGreatDoorU1
import Derived.Test.YtnogebfcpicghaaGreatDoorP2
set_option linter.all false
set_option linter.unusedVariables false
set_option linter.unusedSimpArgs false
set_option linter.unusedSectionVars false
namespace Go.Proofs.Ytnogebfcpicghaa
open Go Lv Go.Proofs Go.RowKit Go.Shelf Dl
/-! ## The program's lexer -/
abbrev lst (s : ByteArray) (i : Nat) : List UInt8 := s.data.toList.drop i
theorem lst_len (s : ByteArray) (i : Nat) : (lst s i).length = s.size - i := by
  show (List.drop i s.data.toList).length = _
  rw [List.length_drop]; rfl
theorem lst_nil {s : ByteArray} {i : Nat} (h : lst s i = []) : s.size ≤ i := by
  have := lst_len s i
  rw [h] at this; simp at this; omega
theorem lst_cons {s : ByteArray} {i : Nat} {c : UInt8} {r : List UInt8} (h : lst s i = c :: r) : i < s.size ∧ lst s (i + 1) = r ∧ byteAt s i = (c.toNat : Int) := by
  have hl := lst_len s i
  rw [h] at hl
  simp at hl
  refine ⟨by omega, ?_, ?_⟩
  · show List.drop (i + 1) s.data.toList = r
    have : List.drop 1 (List.drop i s.data.toList) = r := by rw [show List.drop i s.data.toList = c :: r from h]; rfl
    rw [List.drop_drop] at this
    exact this
  · unfold byteAt
    rw [List.getD_eq_getElem?_getD]
    have : (List.drop i s.data.toList)[0]? = some c := by rw [show List.drop i s.data.toList = c :: r from h]; rfl
    rw [List.getElem?_drop] at this
    rw [show i + 0 = i from rfl] at this
    rw [this]; rfl
theorem lst_at {s : ByteArray} {i : Nat} (h : i < s.size) : ∃ c r, lst s i = c :: r := by
  have hl := lst_len s i
  cases e : lst s i with
  | nil => rw [e] at hl; simp at hl; omega
  | cons c r => exact ⟨c, r, rfl⟩
theorem ext_bs (s : ByteArray) (i j : Nat) (hij : i ≤ j) : s.extract i j = bs ((lst s i).take (j - i)) := by
  apply Go.WideShapes.bytes_inj
  rw [ByteArray.data_extract]
  simp [lst, List.extract_eq_take_drop]
def cls (c : UInt8) : Int := if letter c then 1 else if digit c then 2 else if c = 95 then 3 else if c = 39 then 4 else if c = 32 then 5 else 0
theorem u8_eq (c : UInt8) (n : Nat) (hn : n < 256) : ((c.toNat : Int) == (n : Int)) = decide (c = UInt8.ofNat n) := by
  by_cases h : c = UInt8.ofNat n
  · subst h; simp; omega
  · have : ¬ (c.toNat : Int) = (n : Int) := fun e => h (by
      apply UInt8.toNat_inj.1
      simp; omega)
    rw [beq_eq_false_iff_ne.2 this]; simp [h]
theorem of_s (c : UInt8) : lex_of.F ((c.toNat : Int), ()) = some (cls c, ()) := by
  rw [lex_of.eq]
  unfold lex_of.B cls letter digit
  have e1 : ((c.toNat : Int) == (95 : Int)) = decide (c = 95) := u8_eq c 95 (by decide)
  have e2 : ((c.toNat : Int) == (39 : Int)) = decide (c = 39) := u8_eq c 39 (by decide)
  have e3 : ((c.toNat : Int) == (32 : Int)) = decide (c = 32) := u8_eq c 32 (by decide)
  have i1 : ((c.toNat : Int) ≥ (97 : Int)) ↔ 97 ≤ c.toNat := by omega
  have i2 : ((c.toNat : Int) ≤ (122 : Int)) ↔ c.toNat ≤ 122 := by omega
  have i3 : ((c.toNat : Int) ≥ (48 : Int)) ↔ 48 ≤ c.toNat := by omega
  have i4 : ((c.toNat : Int) ≤ (57 : Int)) ↔ c.toNat ≤ 57 := by omega
  simp only [e1, e2, e3, i1, i2, i3, i4]
  clear i1 i2 i3 i4 e1 e2 e3
  by_cases h1 : 97 ≤ c.toNat <;> by_cases h2 : c.toNat ≤ 122 <;> by_cases h3 : 48 ≤ c.toNat <;> by_cases h4 : c.toNat ≤ 57 <;> simp [h1, h2, h3, h4, cond_dec] <;> (repeat' split) <;> rfl
theorem foldT_any {R : Type} (y : Int) (fin : Bool → R) : ∀ (ks : List Int) (b : Bool), foldT (fun (k : Int) (b : Bool) => Sum.inl (b || k == y)) fin ks b = fin (b || ks.any (· == y)) := by
  intro ks
  induction ks with
  | nil => intro b; simp [foldT]
  | cons k ks ih => intro b; simp only [foldT, ih, List.any_cons, Bool.or_assoc]
abbrev inK (ks : List Int) (c : UInt8) : Bool := ks.any (· == cls c)
theorem dropWhile_eq_drop {p : UInt8 → Bool} (l : List UInt8) : l.dropWhile p = l.drop (l.takeWhile p).length := by
  induction l with
  | nil => rfl
  | cons a l ih => simp only [List.takeWhile, List.dropWhile]; split <;> simp [*]
theorem takeWhile_eq_take {p : UInt8 → Bool} (l : List UInt8) : l.takeWhile p = l.take (l.takeWhile p).length := by
  induction l with
  | nil => rfl
  | cons a l ih => simp only [List.takeWhile]; split <;> simp [← ih]
theorem run_in (ks : List Int) (hk : ks.length < 1000) (y : Int) {R Q : Type} (K : ((Bool × Unit) ⊕ R) → Option Q) : Option.bind (loopM (S := Bool × Int × Unit) (fun (x7', x36', _) =>
  (bif (decide (x36' < (ks.length : Int))) then
  bif (decide (0 ≤ x36') && decide (x36' < (ks.length : Int))) then
  let e3 : Int := (List.getD ks (Int.toNat x36') (0 : Int))
  (bif x7' then
  let e4 : Int := (IntKind.i64.wrap (x36' + (1 : Int)))
  some (.inl (true, e4, ()))
  else
  let e5 : Int := (IntKind.i64.wrap (x36' + (1 : Int)))
  some (.inl ((e3 == y), e5, ())))
  else none
  else
  some (.inr (.inl (x7', ()))))) (false, (0 : Int), ()) : Option ((Bool × Unit) ⊕ R)) K = K (.inl (ks.any (· == y), ())) := by
  rw [loop_TB (mk := fun (i : Int) (b : Bool) => (b, i, ())) (l := ks) (I := fun _ _ => True) (step := fun k b => .inl (b || k == y)) (fin := fun b => .inl (b, ()))
    (fun i hi b _ => ⟨?_, fun _ _ => trivial⟩) (fun b _ => ?_) false trivial, foldT_any]
  · simp
  · have d1 : decide ((i : Int) < (ks.length : Int)) = true := by simp; omega
    have d0 : decide (0 ≤ (i : Int)) = true := by simp
    simp only [d1, d0, Bool.and_self, cond_true, Int.toNat_natCast, getD_at hi, wrap_s hi (by omega)]
    cases b <;> simp
  · have d1 : decide ((ks.length : Int) < (ks.length : Int)) = false := by simp
    simp only [d1, cond_false]
theorem run_s (ks : List Int) (hk : ks.length < 1000) (s : ByteArray) (hs : s.size ≤ 100000000) (i : Nat) (hi : i ≤ s.size) :
    ∃ j : Nat, i ≤ j ∧ j ≤ s.size ∧ lst s j = (lst s i).dropWhile (inK ks) ∧ lex_scanner_run.F (ks, s, (i : Int), ()) = some (bs ((lst s i).takeWhile (inK ks)), s, (j : Int), ()) := by
  have hj : i + ((lst s i).takeWhile (inK ks)).length ≤ s.size := by
    have h1 := takeWhile_drop (p := inK ks) (lst s i)
    have h2 := lst_len s i
    omega
  refine ⟨i + ((lst s i).takeWhile (inK ks)).length, by omega, hj, ?_, ?_⟩
  · show List.drop _ _ = _
    rw [dropWhile_eq_drop, ← List.drop_drop]
  rw [lex_scanner_run.eq]
  unfold lex_scanner_run.B
  simp only []
  rw [loop_f (m := fun x => s.size - x.2.1.toNat) (I := fun x => x.1 = s ∧ ∃ k : Nat, x.2.1 = (k : Int) ∧ k ≤ s.size) (f := fun x => .inl (x.1, ((x.2.1.toNat + ((lst s x.2.1.toNat).takeWhile (inK ks)).length : Nat) : Int), ())) ?_ _ ⟨rfl, i, rfl, hi⟩]
  · simp only [Option.bind_some, Int.toNat_natCast]
    have c1 : decide (0 ≤ (i : Int)) = true := by simp
    have c2 : decide ((i : Int) ≤ ((i + ((lst s i).takeWhile (inK ks)).length : Nat) : Int)) = true := by simp; omega
    have c3 : decide (((i + ((lst s i).takeWhile (inK ks)).length : Nat) : Int) ≤ (s.size : Int)) = true := by simp only [decide_eq_true_eq]; omega
    rw [c1, c2, c3]
    simp only [Bool.and_self, cond_true, Int.toNat_natCast]
    rw [ext_bs s i _ (by omega), show i + ((lst s i).takeWhile (inK ks)).length - i = ((lst s i).takeWhile (inK ks)).length by omega, ← takeWhile_eq_take]
  · rintro ⟨a, b, ⟨⟩⟩ ⟨ha, k, hk', hle⟩
    simp only at ha hk' hle
    subst ha
    subst hk'
    simp only [Int.toNat_natCast]
    by_cases hlt : k < a.size
    · obtain ⟨c, r, e⟩ := lst_at hlt
      obtain ⟨_, e1, e2⟩ := lst_cons e
      have d1 : decide ((k : Int) < (a.size : Int)) = true := by simp; omega
      have d0 : decide (0 ≤ (k : Int)) = true := by simp
      simp only [d1, d0, Bool.and_self, cond_true, e2, of_s, Option.bind_some, run_in ks hk, wrap_s hlt (by omega)]
      by_cases hb : inK ks c = true
      · left
        have hb' : (ks.any fun x => x == cls c) = true := hb
        simp only [hb', Bool.not_true, cond_false]
        refine ⟨_, rfl, ⟨rfl, k + 1, rfl, by omega⟩, by simp only [Int.toNat_natCast]; omega, ?_⟩
        simp only [Int.toNat_natCast]
        rw [e1, e]
        simp only [List.takeWhile_cons, hb, if_true, List.length_cons]
        congr 4
        omega
      · right
        have hb' : (ks.any fun x => x == cls c) = false := by cases h : (ks.any fun x => x == cls c) with | false => rfl | true => exact absurd h hb
        simp only [hb', Bool.not_false, cond_true]
        rw [e]
        simp only [List.takeWhile_cons, hb', Bool.false_eq_true, if_false, List.length_nil, Nat.add_zero]
    · right
      have : lst a k = [] := by
        have := lst_len a k
        exact List.length_eq_zero_iff.1 (by omega)
      have hd : decide ((k : Int) < (a.size : Int)) = false := by simp; omega
      simp only [this, hd, cond_false, List.takeWhile_nil, List.length_nil, Nat.add_zero]
theorem inK_word (c : UInt8) : inK [1, 2, 3] c = inner c := by
  simp only [inK, List.any_cons, List.any_nil, cls, inner]
  by_cases h3 : c = 95
  · subst h3; decide
  · cases h1 : letter c <;> cases h2 : digit c <;> simp [h1, h2, h3] <;> (repeat' split) <;> simp
theorem inK_digit (c : UInt8) : inK [2] c = digit c := by
  simp only [inK, List.any_cons, List.any_nil, cls]
  by_cases h1 : letter c = true
  · have : digit c = false := by
      simp only [letter, digit, Bool.and_eq_true, decide_eq_true_eq, Bool.and_eq_false_iff, decide_eq_false_iff_not] at h1 ⊢; omega
    simp [h1, this]
  · by_cases h2 : digit c = true <;> simp [h1, h2] <;> (repeat' split) <;> simp
theorem inK_blank (c : UInt8) : inK [5] c = decide (c = 32) := by
  simp only [inK, List.any_cons, List.any_nil, cls]
  by_cases h : c = 32
  · subst h; decide
  · simp only [h, decide_false, if_false]
    (repeat' split) <;> simp
def hd8 : List UInt8 → Int
  | [] => 0
  | c :: _ => (c.toNat : Int)
theorem peek_s (k : Nat) (s : ByteArray) (hs : s.size ≤ 100000000) (i : Nat) (hk : i + k < 9223372036854775808) :
    lex_scanner_peek.F ((k : Int), s, (i : Int), ()) = some (hd8 (lst s (i + k)), s, (i : Int), ()) := by
  rw [lex_scanner_peek.eq]
  unfold lex_scanner_peek.B
  have e : IntKind.i64.wrap ((i : Int) + (k : Int)) = ((i + k : Nat) : Int) := by rw [i64_wrap] <;> omega
  simp only [e]
  by_cases h : i + k < s.size
  · obtain ⟨c, r, hc⟩ := lst_at h
    obtain ⟨_, e1, e2⟩ := lst_cons hc
    have d1 : decide (((i + k : Nat) : Int) ≥ (s.size : Int)) = false := by simp; omega
    have d2 : decide (0 ≤ ((i + k : Nat) : Int)) = true := by simp; omega
    have d3 : decide (((i + k : Nat) : Int) < (s.size : Int)) = true := by simp; omega
    simp only [d1, d2, d3, cond_false, Bool.and_self, cond_true, Int.toNat_natCast, e2, hc, hd8]
  · have : lst s (i + k) = [] := by
      have := lst_len s (i + k)
      exact List.length_eq_zero_iff.1 (by omega)
    have d1 : decide (((i + k : Nat) : Int) ≥ (s.size : Int)) = true := by simp; omega
    simp only [d1, cond_true, this, hd8]
theorem takeWhile_congr {p q : UInt8 → Bool} (h : ∀ c, p c = q c) (l : List UInt8) : l.takeWhile p = l.takeWhile q := by rw [show p = q from funext h]
theorem dropWhile_congr {p q : UInt8 → Bool} (h : ∀ c, p c = q c) (l : List UInt8) : l.dropWhile p = l.dropWhile q := by rw [show p = q from funext h]
theorem word_s (s : ByteArray) (hs : s.size ≤ 100000000) (i : Nat) (hi : i ≤ s.size) :
    ∃ j : Nat, i ≤ j ∧ j ≤ s.size ∧ lst s j = (lst s i).dropWhile inner ∧ lex_scanner_word.F (s, (i : Int), ()) = some (0, bs ((lst s i).takeWhile inner), 0, 0, e0, decide (((lst s i).takeWhile inner).length ≤ 30), s, (j : Int), ()) := by
  obtain ⟨j, h1, h2, h3, h4⟩ := run_s [1, 2, 3] (by decide) s hs i hi
  rw [dropWhile_congr inK_word] at h3
  rw [takeWhile_congr inK_word] at h4
  refine ⟨j, h1, h2, h3, ?_⟩
  rw [lex_scanner_word.eq]
  unfold lex_scanner_word.B
  simp only [h4, Option.bind_some]
  have : decide (((bs ((lst s i).takeWhile inner)).size : Int) ≤ (30 : Int)) = decide (((lst s i).takeWhile inner).length ≤ 30) := by
    have : (bs ((lst s i).takeWhile inner)).size = ((lst s i).takeWhile inner).length := by simp [bs, ByteArray.size]
    rw [this]
    simp
    omega
  rw [this]
theorem bs_size (l : List UInt8) : (bs l).size = l.length := by simp [bs, ByteArray.size]
theorem bs_app (a b : List UInt8) : bs a ++ bs b = bs (a ++ b) := by
  apply Go.WideShapes.bytes_inj
  simp [bs]
theorem beq_bs (a b : List UInt8) : ((bs a).toList == (bs b).toList) = decide (a = b) := by
  rw [beq_bytes]
  by_cases h : a = b
  · subst h; simp
  · have : bs a ≠ bs b := fun e => h (by have := congrArg (fun x : ByteArray => x.data.toList) e; simpa using this)
    simp [h, this]
theorem itoa_bound {w : List UInt8} {v : Int} (h : Lib.atoiAll w = .ok v) : -9223372036854775808 ≤ v ∧ v ≤ 9223372036854775807 := by
  unfold Lib.atoiAll at h
  split at h
  · cases h
  · simp only at h
    split at h
    · cases h
    · cases h
    · split at h
      · cases h
      · split at h
        · cases h
        · cases h
          split <;> omega
theorem atoi_b {Q : Type} (w : List UInt8) (hw : w.length ≤ 100000001) (K : TS strconv_Atoi.so → Option Q) : Option.bind (strconv_Atoi.F (bs w, ())) K = K ((atoiR (bs w)).1, (atoiR (bs w)).2, ()) := by
  have ha : strconv_Atoi.F (bs w, ()) = some ((atoiR (bs w)).1, (atoiR (bs w)).2, ()) := by
    rw [strconv_Atoi.eq]
    show atoiF (bs w, ()) = _
    unfold atoiF
    simp only
    rw [if_pos (by rw [bs_size]; omega)]
  rw [ha]; rfl
theorem itoa_b {Q : Type} (v : Int) (h1 : -9223372036854775808 ≤ v) (h2 : v ≤ 9223372036854775807) (K : TS strconv_Itoa.so → Option Q) : Option.bind (strconv_Itoa.F (v, ())) K = K (bs (Lib.itoa v), ()) := by
  have ha : strconv_Itoa.F (v, ()) = some (bs (Lib.itoa v), ()) := by
    rw [strconv_Itoa.eq]
    show itoaF (v, ()) = _
    unfold itoaF
    simp only
    rw [if_pos ⟨h1, h2⟩]
    rfl
  rw [ha]; rfl
/-- digits, with a sign ahead or without -/
theorem number_s (s : ByteArray) (hs : s.size ≤ 100000000) (i : Nat) {c : UInt8} {r : List UInt8} (hc : lst s i = c :: r) (hd : digit c = true ∨ (c = 45 ∧ hdDigit r = true)) :
    ∃ j : Nat, i < j ∧ j ≤ s.size ∧ lst s j = r.dropWhile digit ∧ match numS (c :: r.takeWhile digit) with
      | some n => lex_scanner_number.F (s, (i : Int), ()) = some (1, e0, 2, n, e0, true, s, (j : Int), ())
      | none => ∃ n, lex_scanner_number.F (s, (i : Int), ()) = some (1, e0, 2, n, e0, false, s, (j : Int), ()) := by
  obtain ⟨hi, h1, _⟩ := lst_cons hc
  have hp := peek_s 0 s hs i (by omega)
  rw [show i + 0 = i from rfl, hc] at hp
  rw [lex_scanner_number.eq]
  unfold lex_scanner_number.B
  have hp' : lex_scanner_peek.F ((0 : Int), s, (i : Int), ()) = some ((c.toNat : Int), s, (i : Int), ()) := hp
  simp only [hp', Option.bind_some]
  have key : ∀ (w : List UInt8) (hw : w.length ≤ 100000001) (j : Nat), Option.bind (strconv_Atoi.F (bs w, ())) (fun y6 =>
      (bif y6.2.1 then Option.bind (strconv_Itoa.F (y6.1, ())) fun y7 =>
        some ((1 : Int), (⟨#[]⟩ : ByteArray), (2 : Int), y6.1, (⟨#[]⟩ : ByteArray), (y7.1.toList == (bs w).toList), s, (j : Int), ())
      else some ((1 : Int), (⟨#[]⟩ : ByteArray), (2 : Int), y6.1, (⟨#[]⟩ : ByteArray), false, s, (j : Int), ()))) = match numS w with
      | some n => some (1, e0, 2, n, e0, true, s, (j : Int), ())
      | none => some (1, e0, 2, (atoiR (bs w)).1, e0, false, s, (j : Int), ()) := by
    intro w hw j
    rw [atoi_b w hw]
    show (bif (atoiR (bs w)).2 then Option.bind (strconv_Itoa.F ((atoiR (bs w)).1, ())) fun y7 => some ((1 : Int), (⟨#[]⟩ : ByteArray), (2 : Int), (atoiR (bs w)).1, (⟨#[]⟩ : ByteArray), (y7.1.toList == (bs w).toList), s, (j : Int), ())
      else some ((1 : Int), (⟨#[]⟩ : ByteArray), (2 : Int), (atoiR (bs w)).1, (⟨#[]⟩ : ByteArray), false, s, (j : Int), ())) = _
    unfold atoiR numS
    simp only [bs_list]
    cases h : Lib.atoiAll w with
    | ok v =>
      obtain ⟨b1, b2⟩ := itoa_bound h
      simp only [cond_true]
      rw [itoa_b v b1 b2]
      show some ((1 : Int), (⟨#[]⟩ : ByteArray), (2 : Int), v, (⟨#[]⟩ : ByteArray), ((bs (Lib.itoa v)).toList == (bs w).toList), s, (j : Int), ()) = _
      rw [beq_bs]
      by_cases hc : Lib.itoa v = w <;> simp [hc]
    | _ => simp
  have fin : ∀ (w : List UInt8) (hw : w.length ≤ 100000001) (j : Nat), match numS w with
      | some n => Option.bind (strconv_Atoi.F (bs w, ())) (fun y6 =>
      (bif y6.2.1 then Option.bind (strconv_Itoa.F (y6.1, ())) fun y7 =>
        some ((1 : Int), (⟨#[]⟩ : ByteArray), (2 : Int), y6.1, (⟨#[]⟩ : ByteArray), (y7.1.toList == (bs w).toList), s, (j : Int), ())
      else some ((1 : Int), (⟨#[]⟩ : ByteArray), (2 : Int), y6.1, (⟨#[]⟩ : ByteArray), false, s, (j : Int), ()))) = some (1, e0, 2, n, e0, true, s, (j : Int), ())
      | none => ∃ n, Option.bind (strconv_Atoi.F (bs w, ())) (fun y6 =>
      (bif y6.2.1 then Option.bind (strconv_Itoa.F (y6.1, ())) fun y7 =>
        some ((1 : Int), (⟨#[]⟩ : ByteArray), (2 : Int), y6.1, (⟨#[]⟩ : ByteArray), (y7.1.toList == (bs w).toList), s, (j : Int), ())
      else some ((1 : Int), (⟨#[]⟩ : ByteArray), (2 : Int), y6.1, (⟨#[]⟩ : ByteArray), false, s, (j : Int), ()))) = some (1, e0, 2, n, e0, false, s, (j : Int), ()) := by
    intro w hw j
    have := key w hw j
    cases h : numS w with
    | none => rw [h] at this; exact ⟨_, this⟩
    | some n => rw [h] at this; exact this
  have hl := lst_len s i
  rw [hc] at hl
  simp only [List.length_cons] at hl
  have ht := takeWhile_drop (p := digit) r
  by_cases h45 : c = 45
  · subst h45
    have e1 : (((45 : UInt8).toNat : Int) == (45 : Int)) = true := by decide
    have e2 : IntKind.i64.wrap ((i : Int) + (1 : Int)) = ((i + 1 : Nat) : Int) := wrap_s hi (by omega)
    obtain ⟨j, g1, g2, g3, g4⟩ := run_s [2] (by decide) s hs (i + 1) (by omega)
    rw [h1] at g3 g4
    rw [dropWhile_congr inK_digit] at g3
    rw [takeWhile_congr inK_digit] at g4
    refine ⟨j, by omega, g2, g3, ?_⟩
    simp only [e1, cond_true, e2, Option.bind_some, g4]
    have e3 : (!decide (((((⟨#[45]⟩ : ByteArray).size + (bs (r.takeWhile digit)).size : Nat)) : Int) > IntKind.i64.max)) = true := by
      rw [bs_size, bs_size]
      have : IntKind.i64.max = 9223372036854775807 := by decide
      rw [this]
      simp
      omega
    simp only [e3, cond_true]
    rw [show (⟨#[45]⟩ : ByteArray) = bs [45] from rfl, bs_app]
    exact fin (45 :: r.takeWhile digit) (by simp; omega) j
  · have hd' : digit c = true := by rcases hd with hd | hd; exact hd; exact absurd hd.1 h45
    have e1 : ((c.toNat : Int) == (45 : Int)) = false := by
      have := u8_eq c 45 (by decide)
      have h' : ((c.toNat : Int) == (45 : Int)) = decide (c = 45) := this
      rw [h']; simp [h45]
    obtain ⟨j, g1, g2, g3, g4⟩ := run_s [2] (by decide) s hs i (by omega)
    rw [hc] at g3 g4
    rw [dropWhile_congr inK_digit, List.dropWhile_cons, if_pos hd'] at g3
    rw [takeWhile_congr inK_digit, List.takeWhile_cons, if_pos hd'] at g4
    have hj : i < j := by
      have a1 := lst_len s j
      rw [g3] at a1
      have := dropWhile_len (p := digit) r
      omega
    refine ⟨j, hj, g2, g3, ?_⟩
    simp only [e1, cond_false, Option.bind_some, g4]
    have e3 : (!decide (((((⟨#[]⟩ : ByteArray).size + (bs (c :: r.takeWhile digit)).size : Nat)) : Int) > IntKind.i64.max)) = true := by
      rw [bs_size, bs_size]
      have : IntKind.i64.max = 9223372036854775807 := by decide
      rw [this]
      simp
      omega
    simp only [e3, cond_true]
    rw [show (⟨#[]⟩ : ByteArray) = bs [] from rfl, bs_app]
    exact fin (c :: r.takeWhile digit) (by simp; omega) j
abbrev i8 (l : List UInt8) : List Int := l.map fun c => (c.toNat : Int)
theorem text_go {R Q : Type} {body : ByteArray × Int × (List Int) × Unit → Option ((ByteArray × Int × (List Int) × Unit) ⊕ R)} {K : R → Option Q} (s : ByteArray) (resT : List UInt8 → Nat → R) (resN : List Int → R) (q : Option Q)
    (hK : ∀ acc, K (resN acc) = q)
    (h0 : ∀ acc, body (s, (s.size : Int), acc, ()) = some (.inr (resN acc)))
    (h1 : ∀ k acc r, lst s k = 39 :: 39 :: r → acc.length ≤ k → body (s, (k : Int), i8 acc, ()) = some (.inl (s, ((k + 2 : Nat) : Int), i8 (acc ++ [39]), ())))
    (h2 : ∀ k acc r, lst s k = 39 :: r → r.head? ≠ some 39 → body (s, (k : Int), i8 acc, ()) = some (.inr (resT acc (k + 1))))
    (h3 : ∀ k acc c r, lst s k = c :: r → c ≠ 39 → acc.length ≤ k → body (s, (k : Int), i8 acc, ()) = some (.inl (s, ((k + 1 : Nat) : Int), i8 (acc ++ [c]), ()))) :
    ∀ (n k : Nat) (acc : List UInt8), s.size - k ≤ n → k ≤ s.size → acc.length ≤ k → Option.bind (loopM body (s, (k : Int), i8 acc, ())) K = match textS (lst s k) with
      | some x => K (resT (acc ++ x.1) (s.size - x.2.length))
      | none => q := by
  intro n
  induction n with
  | zero =>
    intro k acc hn hk ha
    have hk' : k = s.size := by omega
    subst hk'
    have : lst s s.size = [] := by
      have := lst_len s s.size
      exact List.length_eq_zero_iff.1 (by omega)
    rw [loopM_q, h0, this]
    exact hK _
  | succ n ih =>
    intro k acc hn hk ha
    cases e : lst s k with
    | nil =>
      have hk' : k = s.size := by have := lst_nil e; omega
      subst hk'
      rw [loopM_q, h0]
      exact hK _
    | cons c r =>
      obtain ⟨e1, e2, _⟩ := lst_cons e
      rw [textS_cons]
      by_cases hc : c = 39
      · subst hc
        rw [if_pos rfl]
        cases r with
        | nil =>
          rw [loopM_q, h2 k acc [] e (by simp)]
          have := lst_len s k
          rw [e] at this
          simp at this
          simp only [Option.bind_some, List.append_nil, List.length_nil]
          rw [show k + 1 = s.size - 0 by omega]
        | cons d r' =>
          obtain ⟨f1, f2, _⟩ := lst_cons e2
          by_cases hd : d = 39
          · subst hd
            simp only [if_true]
            rw [loopM_q, h1 k acc r' e ha]
            simp only
            rw [ih (k + 2) (acc ++ [39]) (by omega) (by omega) (by simp; omega), f2]
            cases textS r' with
            | none => rfl
            | some x => simp
          · simp only [if_neg hd]
            rw [loopM_q, h2 k acc (d :: r') e (by simpa using hd)]
            have := lst_len s k
            rw [e] at this
            simp at this
            simp only [Option.bind_some, List.append_nil, List.length_cons]
            rw [show k + 1 = s.size - (r'.length + 1) by omega]
      · rw [if_neg hc, loopM_q, h3 k acc c r e hc ha]
        simp only
        rw [ih (k + 1) (acc ++ [c]) (by omega) (by omega) (by simp; omega), e2]
        cases textS r with
        | none => rfl
        | some x => simp
theorem lst_of_len {s : ByteArray} {i : Nat} {r : List UInt8} {j : Nat} (h : ∃ p, lst s i = p ++ r) (hi : i ≤ s.size) (hj : j = s.size - r.length) : lst s j = r ∧ i ≤ j ∧ j ≤ s.size := by
  obtain ⟨p, h⟩ := h
  have hl := lst_len s i
  rw [h] at hl
  simp at hl
  have hj' : j = i + p.length := by omega
  refine ⟨?_, by omega, by omega⟩
  rw [hj']
  show List.drop (i + p.length) s.data.toList = r
  rw [← List.drop_drop]
  show List.drop p.length (lst s i) = r
  rw [h]
  simp
theorem bytesOf_i8 (l : List UInt8) : bytesOf (i8 l) = bs l := by
  unfold bytesOf
  simp only [List.map_map]
  congr 2
  conv => rhs; rw [← List.map_id l]
  apply List.map_congr_left
  intro c _
  simp
theorem bstr_b {Q : Type} (w : List UInt8) (K : TS strings_Builder_String.so → Option Q) : Option.bind (strings_Builder_String.F (i8 w, ())) K = K (bs w, ()) := by
  have ha : strings_Builder_String.F (i8 w, ()) = some (bs w, ()) := by
    rw [strings_Builder_String.eq]
    show (if (∀ x ∈ i8 w, 0 ≤ x ∧ x < 256) then some (bytesOf (i8 w), ()) else none) = _
    rw [if_pos, bytesOf_i8]
    intro x hx
    obtain ⟨c, _, rfl⟩ := List.mem_map.1 hx
    have := c.toNat_lt
    refine ⟨Int.natCast_nonneg _, ?_⟩
    show (c.toNat : Int) < 256
    omega
  rw [ha]; rfl
theorem cc_b {Q : Type} (w : List Int) (K : TS strings_Builder_copyCheck.so → Option Q) : Option.bind (strings_Builder_copyCheck.F (w, ())) K = K (w, ()) := by
  have ha : strings_Builder_copyCheck.F (w, ()) = some (w, ()) := by
    rw [strings_Builder_copyCheck.eq]
    rfl
  rw [ha]; rfl
theorem wb_s (w : List UInt8) (c : UInt8) (hw : w.length ≤ 100000000) : strings_Builder_WriteByte.F ((c.toNat : Int), i8 w, ()) = some (true, i8 (w ++ [c]), ()) := by
  rw [strings_Builder_WriteByte.eq]
  unfold strings_Builder_WriteByte.B
  show Option.bind (strings_Builder_copyCheck.F (i8 w, ())) _ = _
  rw [cc_b]
  show (bif (Nat.ble ((i8 w).length + [(c.toNat : Int)].length) 140737488355328) then some (true, (i8 w ++ [(c.toNat : Int)]), ()) else none) = _
  have : Nat.ble ((i8 w).length + [(c.toNat : Int)].length) 140737488355328 = true := by
    rw [Nat.ble_eq]; simp; omega
  rw [this]
  simp
theorem vmay_text (w : List UInt8) : value_May.F ((3 : Int), (0 : Int), bs w, ()) = some (decide (w.length ≤ 1000), ()) := by
  rw [value_May.eq]
  unfold value_May.B
  have : decide (((bs w).size : Int) ≤ (1000 : Int)) = decide (w.length ≤ 1000) := by
    rw [bs_size]; simp; omega
  simp only [this]
  rfl
theorem text_s (s : ByteArray) (hs : s.size ≤ 100000000) (i : Nat) {r : List UInt8} (hc : lst s i = 39 :: r) :
    match textS r with
    | some x => ∃ j, i < j ∧ j ≤ s.size ∧ lst s j = x.2 ∧ lex_scanner_text.F (s, (i : Int), ()) = some (1, e0, 3, 0, bs x.1, decide (x.1.length ≤ 1000), s, (j : Int), ())
    | none => lex_scanner_text.F (s, (i : Int), ()) = some (0, e0, 0, 0, e0, false, s, (s.size : Int), ()) := by
  obtain ⟨hi, h1, _⟩ := lst_cons hc
  have key : lex_scanner_text.F (s, (i : Int), ()) = match textS r with
      | some x => some (1, e0, 3, 0, bs x.1, decide (x.1.length ≤ 1000), s, ((s.size - x.2.length : Nat) : Int), ())
      | none => some (0, e0, 0, 0, e0, false, s, (s.size : Int), ()) := by
    rw [lex_scanner_text.eq]
    unfold lex_scanner_text.B
    simp only [wrap_s hi (show s.size < 9223372036854775808 by omega)]
    have h0 : ([] : List Int) = i8 [] := rfl
    rw [h0]
    rw [text_go s (fun w j => .inr (1, e0, 3, 0, bs w, decide (w.length ≤ 1000), s, (j : Int), ())) (fun acc => .inl (s, (s.size : Int), acc, ())) (some (0, e0, 0, 0, e0, false, s, (s.size : Int), ())) (fun acc => rfl) ?_ ?_ ?_ ?_ (s.size - (i + 1)) (i + 1) [] (Nat.le_refl _) (by omega) (by simp), h1]
    · cases textS r with
      | none => rfl
      | some x => simp
    · intro acc
      have : decide ((s.size : Int) < (s.size : Int)) = false := by simp
      simp only [this, cond_false]
    · intro k acc r' e ha
      obtain ⟨e1, e2, _⟩ := lst_cons e
      obtain ⟨f1, f2, _⟩ := lst_cons e2
      have d1 : decide ((k : Int) < (s.size : Int)) = true := by simp; omega
      have hp := peek_s 0 s hs k (by omega)
      have hp2 := peek_s 0 s hs (k + 1) (by omega)
      rw [show k + 0 = k from rfl, e] at hp
      rw [show k + 1 + 0 = k + 1 from rfl, e2] at hp2
      have hp' : lex_scanner_peek.F ((0 : Int), s, (k : Int), ()) = some (((39 : UInt8).toNat : Int), s, (k : Int), ()) := hp
      have hp2' : lex_scanner_peek.F ((0 : Int), s, ((k + 1 : Nat) : Int), ()) = some (((39 : UInt8).toNat : Int), s, ((k + 1 : Nat) : Int), ()) := hp2
      have b1 : (((39 : UInt8).toNat : Int) == (39 : Int)) = true := by decide
      have b2 : (((39 : UInt8).toNat : Int) != (39 : Int)) = false := by decide
      have b3 : decide ((((k + 1 : Nat) : Int)) ≥ (s.size : Int)) = false := by simp; omega
      simp only [d1, cond_true, hp', Option.bind_some, b1, wrap_s e1 (show s.size < 9223372036854775808 by omega), hp2', b2, cond_false, b3, wb_s acc 39 (by omega), wrap_s f1 (show s.size < 9223372036854775808 by omega)]
    · intro k acc r' e hh
      obtain ⟨e1, e2, _⟩ := lst_cons e
      have d1 : decide ((k : Int) < (s.size : Int)) = true := by simp; omega
      have hp := peek_s 0 s hs k (by omega)
      have hp2 := peek_s 0 s hs (k + 1) (by omega)
      rw [show k + 0 = k from rfl, e] at hp
      rw [show k + 1 + 0 = k + 1 from rfl, e2] at hp2
      have hp' : lex_scanner_peek.F ((0 : Int), s, (k : Int), ()) = some (((39 : UInt8).toNat : Int), s, (k : Int), ()) := hp
      have b1 : (((39 : UInt8).toNat : Int) == (39 : Int)) = true := by decide
      have b2 : (hd8 r' != (39 : Int)) = true := by
        cases r' with
        | nil => decide
        | cons d q =>
          have hd : d ≠ 39 := by simpa using hh
          have hu : ((d.toNat : Int) == (39 : Int)) = decide (d = 39) := u8_eq d 39 (by decide)
          simp only [hd8, bne, hu, hd, decide_false, Bool.not_false]
      have hp2' : lex_scanner_peek.F ((0 : Int), s, ((k + 1 : Nat) : Int), ()) = some (hd8 r', s, ((k + 1 : Nat) : Int), ()) := hp2
      simp only [d1, cond_true, hp', Option.bind_some, b1, wrap_s e1 (show s.size < 9223372036854775808 by omega), hp2', b2]
      rw [bstr_b]
      simp only [vmay_text, Option.bind_some]
    · intro k acc c r' e hc' ha
      obtain ⟨e1, e2, _⟩ := lst_cons e
      have d1 : decide ((k : Int) < (s.size : Int)) = true := by simp; omega
      have hp := peek_s 0 s hs k (by omega)
      rw [show k + 0 = k from rfl, e] at hp
      have hp' : lex_scanner_peek.F ((0 : Int), s, (k : Int), ()) = some ((c.toNat : Int), s, (k : Int), ()) := hp
      have b1 : ((c.toNat : Int) == (39 : Int)) = false := by
        have hu : ((c.toNat : Int) == (39 : Int)) = decide (c = 39) := u8_eq c 39 (by decide)
        rw [hu]; simp [hc']
      simp only [d1, cond_true, hp', Option.bind_some, b1, cond_false, wb_s acc c (by omega), wrap_s e1 (show s.size < 9223372036854775808 by omega)]
  cases ht : textS r with
  | none => rw [ht] at key; exact key
  | some x =>
    rw [ht] at key
    obtain ⟨a1, a2⟩ := textS_src _ r (Nat.le_refl _) x ht
    have hp : ∃ p, lst s (i + 1) = p ++ x.2 := ⟨dbl x.1 ++ [39], by rw [h1, a1]; simp⟩
    obtain ⟨b1, b2, b3⟩ := lst_of_len (s := s) (i := i + 1) (r := x.2) (j := s.size - x.2.length) hp (by omega) rfl
    exact ⟨_, by omega, b3, b1, key⟩
theorem contains_all : ∀ n, n < 256 → Lib.contains signs [UInt8.ofNat n] = decide (UInt8.ofNat n ∈ signs) := by decide +kernel
theorem contains_sign (c : UInt8) : Lib.contains signs [c] = decide (c ∈ signs) := by
  have := contains_all c.toNat c.toNat_lt
  simpa using this
theorem contains_b {Q : Type} (c : UInt8) (K : TS strings_Contains.so → Option Q) : Option.bind (strings_Contains.F ((⟨#[40, 41, 91, 93, 44, 61, 60, 43, 45, 42, 63]⟩ : ByteArray), bs [c], ())) K = K (decide (c ∈ signs), ()) := by
  have ha : strings_Contains.F ((⟨#[40, 41, 91, 93, 44, 61, 60, 43, 45, 42, 63]⟩ : ByteArray), bs [c], ()) = some (decide (c ∈ signs), ()) := by
    rw [strings_Contains.eq]
    show containsF _ = _
    unfold containsF
    simp only
    rw [if_pos (by decide), ← contains_sign]
    rfl
  rw [ha]; rfl
theorem cls_quote (c : UInt8) : (cls c == 4) = decide (c = 39) := by
  unfold cls
  by_cases h : c = 39
  · subst h; decide
  · simp only [h, decide_false, if_false]
    (repeat' split) <;> rfl
theorem cls_letter (c : UInt8) : (cls c == 1) = letter c := by
  unfold cls
  cases h : letter c
  · simp; (repeat' split) <;> simp
  · simp
theorem cls_digit (c : UInt8) : (cls c == 2) = digit c := by
  have := inK_digit c
  simpa [inK, eq_comm, BEq.comm] using this
theorem digit_not_letter {c : UInt8} (h : digit c = true) : letter c = false := by
  simp only [letter, digit, Bool.and_eq_true, decide_eq_true_eq, Bool.and_eq_false_iff, decide_eq_false_iff_not] at h ⊢; omega
def hdCls : List UInt8 → Int
  | [] => 0
  | d :: _ => cls d
theorem token_s (s : ByteArray) (hs : s.size ≤ 100000000) (i : Nat) {c : UInt8} {r : List UInt8} (hc : lst s i = c :: r) :
    match tokS (c :: r) with
    | some x => ∃ j : Nat, i < j ∧ j ≤ s.size ∧ lst s j = x.2 ∧ lex_scanner_token.F (s, (i : Int), ()) = some (x.1.1, x.1.2.1, x.1.2.2.1, x.1.2.2.2.1, x.1.2.2.2.2, true, s, (j : Int), ())
    | none => ∃ a b d e f j, lex_scanner_token.F (s, (i : Int), ()) = some (a, b, d, e, f, false, s, j, ()) := by
  obtain ⟨hi, h1, _⟩ := lst_cons hc
  have hp := peek_s 0 s hs i (by omega)
  rw [show i + 0 = i from rfl, hc] at hp
  have hp' : lex_scanner_peek.F ((0 : Int), s, (i : Int), ()) = some ((c.toNat : Int), s, (i : Int), ()) := hp
  have hq := peek_s 1 s hs i (by omega)
  rw [h1] at hq
  have hq' : lex_scanner_peek.F ((1 : Int), s, (i : Int), ()) = some (hd8 r, s, (i : Int), ()) := hq
  rw [lex_scanner_token.eq]
  unfold lex_scanner_token.B
  simp only [hp', Option.bind_some, of_s, cls_letter, cls_digit, cls_quote, hq']
  have hd8_of : lex_of.F (hd8 r, ()) = some (hdCls r, ()) := by
    cases r with
    | nil => exact (of_s 0)
    | cons d r' => exact of_s d
  have hd8_d : (hdCls r == 2) = hdDigit r := by
    cases r with
    | nil => rfl
    | cons d r' => exact cls_digit d
  have h45 : ((c.toNat : Int) == (45 : Int)) = decide (c = 45) := u8_eq c 45 (by decide)
  simp only [hd8_of, Option.bind_some, hd8_d, h45]
  simp only [tokS]
  cases hl : letter c with
  | true =>
    simp only [cond_true, if_true]
    obtain ⟨j, g1, g2, g3, g4⟩ := word_s s hs i (by omega)
    rw [hc] at g3 g4
    have hin : inner c = true := by simp [inner, hl]
    rw [List.dropWhile_cons, if_pos hin] at g3
    rw [List.takeWhile_cons, if_pos hin] at g4
    rw [g4]
    simp only [Option.bind_some]
    by_cases hn : (c :: r.takeWhile inner).length ≤ 30
    · rw [if_pos hn]
      refine ⟨j, ?_, g2, g3, ?_⟩
      · have a1 := lst_len s j
        have a2 := lst_len s i
        rw [g3] at a1
        rw [hc] at a2
        have := dropWhile_len (p := inner) r
        simp at a2
        omega
      · simp only [hn, decide_true]
        rfl
    · rw [if_neg hn]
      simp only [hn, decide_false]
      exact ⟨_, _, _, _, _, _, rfl⟩
  | false =>
    simp only [cond_false, Bool.false_eq_true, if_false]
    have num : (digit c = true ∨ (c = 45 ∧ hdDigit r = true)) → match (numS (c :: r.takeWhile digit)).map fun n => (numT n, r.dropWhile digit) with
      | some x => ∃ j : Nat, i < j ∧ j ≤ s.size ∧ lst s j = x.2 ∧ (Option.bind (lex_scanner_number.F (s, (i : Int), ())) fun y7 => some (y7.1, y7.2.1, y7.2.2.1, y7.2.2.2.1, y7.2.2.2.2.1, y7.2.2.2.2.2.1, y7.2.2.2.2.2.2.1, y7.2.2.2.2.2.2.2.1, ())) = some (x.1.1, x.1.2.1, x.1.2.2.1, x.1.2.2.2.1, x.1.2.2.2.2, true, s, (j : Int), ())
      | none => ∃ a b d e f j, (Option.bind (lex_scanner_number.F (s, (i : Int), ())) fun y7 => some (y7.1, y7.2.1, y7.2.2.1, y7.2.2.2.1, y7.2.2.2.2.1, y7.2.2.2.2.2.1, y7.2.2.2.2.2.2.1, y7.2.2.2.2.2.2.2.1, ())) = some (a, b, d, e, f, false, s, j, ()) := by
      intro hd
      obtain ⟨j, g1, g2, g3, g4⟩ := number_s s hs i hc hd
      cases hn : numS (c :: r.takeWhile digit) with
      | none =>
        rw [hn] at g4
        obtain ⟨n, g4⟩ := g4
        rw [g4]
        exact ⟨_, _, _, _, _, _, rfl⟩
      | some n =>
        rw [hn] at g4
        exact ⟨j, g1, g2, g3, by rw [g4]; rfl⟩
    have w1 : IntKind.i64.wrap ((i : Int) + (1 : Int)) = ((i + 1 : Nat) : Int) := wrap_s hi (by omega)
    have w2 : IntKind.i64.wrap (((i + 1 : Nat) : Int) - (1 : Int)) = (i : Int) := by rw [i64_wrap] <;> omega
    have w3 : (decide (0 ≤ (i : Int)) && (decide ((i : Int) ≤ ((i + 1 : Nat) : Int)) && decide (((i + 1 : Nat) : Int) ≤ (s.size : Int)))) = true := by simp; omega
    have w4 : s.extract i (i + 1) = bs [c] := by rw [ext_bs s i (i + 1) (by omega), hc]; simp
    have sgn : match (if c = 39 then (textS r).bind fun x => if x.1.length ≤ 1000 then some (textT x.1, x.2) else none else if c ∈ signs then some (signT c, r) else none) with
      | some x => ∃ j : Nat, i < j ∧ j ≤ s.size ∧ lst s j = x.2 ∧ (bif decide (c = 39) then Option.bind (lex_scanner_text.F (s, (i : Int), ())) fun y8 => some (y8.1, y8.2.1, y8.2.2.1, y8.2.2.2.1, y8.2.2.2.2.1, y8.2.2.2.2.2.1, y8.2.2.2.2.2.2.1, y8.2.2.2.2.2.2.2.1, ()) else
          Option.bind (strings_Contains.F ((⟨#[40, 41, 91, 93, 44, 61, 60, 43, 45, 42, 63]⟩ : ByteArray), bs [c], ())) fun y12 => some ((2 : Int), bs [c], (0 : Int), (0 : Int), (⟨#[]⟩ : ByteArray), y12.1, s, ((i + 1 : Nat) : Int), ())) = some (x.1.1, x.1.2.1, x.1.2.2.1, x.1.2.2.2.1, x.1.2.2.2.2, true, s, (j : Int), ())
      | none => ∃ a b d e f j, (bif decide (c = 39) then Option.bind (lex_scanner_text.F (s, (i : Int), ())) fun y8 => some (y8.1, y8.2.1, y8.2.2.1, y8.2.2.2.1, y8.2.2.2.2.1, y8.2.2.2.2.2.1, y8.2.2.2.2.2.2.1, y8.2.2.2.2.2.2.2.1, ()) else
          Option.bind (strings_Contains.F ((⟨#[40, 41, 91, 93, 44, 61, 60, 43, 45, 42, 63]⟩ : ByteArray), bs [c], ())) fun y12 => some ((2 : Int), bs [c], (0 : Int), (0 : Int), (⟨#[]⟩ : ByteArray), y12.1, s, ((i + 1 : Nat) : Int), ())) = some (a, b, d, e, f, false, s, j, ()) := by
      by_cases h9 : c = 39
      · subst h9
        have ht := text_s s hs i hc
        simp only [if_true, decide_true, cond_true]
        cases hx : textS r with
        | none =>
          rw [hx] at ht
          simp only [Option.bind_none]
          rw [ht]
          exact ⟨_, _, _, _, _, _, rfl⟩
        | some x =>
          rw [hx] at ht
          obtain ⟨j, g1, g2, g3, g4⟩ := ht
          simp only [Option.bind_some]
          rw [g4]
          by_cases hn : x.1.length ≤ 1000
          · rw [if_pos hn]
            exact ⟨j, g1, g2, g3, by simp only [hn, decide_true, Option.bind_some]; rfl⟩
          · rw [if_neg hn]
            simp only [hn, decide_false, Option.bind_some]
            exact ⟨_, _, _, _, _, _, rfl⟩
      · simp only [h9, if_false, decide_false, cond_false]
        rw [contains_b]
        by_cases hg : c ∈ signs
        · rw [if_pos hg]
          exact ⟨i + 1, by omega, by omega, h1, by simp only [hg, decide_true]; rfl⟩
        · rw [if_neg hg]
          simp only [hg, decide_false]
          exact ⟨_, _, _, _, _, _, rfl⟩
    cases hd : digit c with
    | true =>
      simp only [cond_true, Option.bind_some, Bool.true_or, if_true]
      exact num (.inl hd)
    | false =>
      simp only [cond_false, Bool.false_or]
      by_cases h5 : c = 45
      · subst h5
        simp only [decide_true, cond_true, Option.bind_some, Bool.true_and]
        cases hh : hdDigit r with
        | true =>
          simp only [cond_true, if_true]
          exact num (.inr ⟨rfl, hh⟩)
        | false =>
          simp only [cond_false, Bool.false_eq_true, if_false, w1, w2, w3, cond_true, Int.toNat_natCast, w4]
          exact sgn
      · simp only [h5, decide_false, cond_false, Option.bind_some, Bool.false_and, Bool.false_eq_true, if_false, w1, w2, w3, cond_true, Int.toNat_natCast, w4]
        exact sgn
theorem lexS_blanks (l : List UInt8) : lexS (l.dropWhile (inK [5])) = lexS l := by
  rw [dropWhile_congr inK_blank]
  induction l with
  | nil => rfl
  | cons c l ih =>
    by_cases h : c = 32
    · subst h
      rw [List.dropWhile_cons, if_pos (by decide), ih, lexS_blank]
    · rw [List.dropWhile_cons, if_neg (by simpa using h)]
theorem head_blanks (l : List UInt8) : (l.dropWhile (inK [5])).head? ≠ some 32 := by
  rw [dropWhile_congr inK_blank]
  induction l with
  | nil => simp
  | cons c l ih =>
    by_cases h : c = 32
    · subst h
      rw [List.dropWhile_cons, if_pos (by decide)]
      exact ih
    · rw [List.dropWhile_cons, if_neg (by simpa using h)]
      simpa using h
def lexR (out : List Tok) : Option (List Tok) → Int × List Tok × Unit
  | none => (60, [], ())
  | some l => (0, out ++ l, ())
theorem lex_s (s : ByteArray) : lex_Lex.F (s, ()) = some (if 20000 < s.size then (60, [], ()) else lexR [] (lexS s.data.toList)) := by
  rw [lex_Lex.eq]
  unfold lex_Lex.B
  simp only []
  by_cases hb : 20000 < s.size
  · have : decide ((s.size : Int) > (20000 : Int)) = true := by simp; omega
    simp only [this, cond_true, if_pos hb]
  · have : decide ((s.size : Int) > (20000 : Int)) = false := by simp; omega
    simp only [this, cond_false, if_neg hb]
    have hs : s.size ≤ 100000000 := by omega
    obtain ⟨j, g1, g2, g3, g4⟩ := run_s [5] (by decide) s hs 0 (by omega)
    have g4' : lex_scanner_run.F ([(5 : Int)], s, (0 : Int), ()) = some (bs ((lst s 0).takeWhile (inK [5])), s, (j : Int), ()) := g4
    rw [g4']
    simp only [Option.bind_some]
    rw [loop_f (m := fun x => s.size - x.2.2.1.toNat)
      (I := fun x => x.2.1 = s ∧ ∃ k : Nat, x.2.2.1 = (k : Int) ∧ k ≤ s.size ∧ x.1.length ≤ k ∧ (lst s k).head? ≠ some 32)
      (f := fun x => lexR x.1 (lexS (lst s x.2.2.1.toNat))) ?_ _ ⟨rfl, j, rfl, g2, by simp, by rw [g3]; exact head_blanks _⟩]
    · simp only [Int.toNat_natCast]
      rw [g3, lexS_blanks]
      rfl
    · rintro ⟨out, a, b, ⟨⟩⟩ ⟨ha, k, hk, hle, hlen, hh⟩
      simp only at ha hk hlen
      subst ha
      subst hk
      simp only [Int.toNat_natCast]
      by_cases hlt : k < a.size
      · obtain ⟨c, r, e⟩ := lst_at hlt
        have d1 : decide ((k : Int) < (a.size : Int)) = true := by simp; omega
        have hc : c ≠ 32 := by rw [e] at hh; simpa using hh
        have ht := token_s a hs k e
        simp only [d1, cond_true]
        rw [e, lexS_cons r hc]
        cases hx : tokS (c :: r) with
        | none =>
          rw [hx] at ht
          obtain ⟨_, _, _, _, _, _, g⟩ := ht
          right
          rw [g]
          rfl
        | some x =>
          rw [hx] at ht
          obtain ⟨m, t1, t2, t3, t4⟩ := ht
          left
          obtain ⟨n, r1, r2, r3, r4⟩ := run_s [5] (by decide) a hs m t2
          rw [t4]
          have d2 : Nat.ble (out.length + [(x.1.1, (x.1.2.1, (x.1.2.2.1, (x.1.2.2.2.1, x.1.2.2.2.2))))].length) 2513169434916 = true := by
            rw [Nat.ble_eq]; simp; omega
          simp only [Option.bind_some, Bool.not_true, cond_false]
          rw [d2]
          simp only [cond_true, r4, Option.bind_some]
          refine ⟨_, rfl, ⟨rfl, n, rfl, r2, by simp; omega, by rw [r3]; exact head_blanks _⟩, by simp only [Int.toNat_natCast]; omega, ?_⟩
          simp only [Int.toNat_natCast, r3, t3, lexS_blanks]
          cases lexS x.2 with
          | none => rfl
          | some l => simp [lexR]
      · right
        have hd : decide ((k : Int) < (a.size : Int)) = false := by simp; omega
        have : lst a k = [] := by
          have := lst_len a k
          exact List.length_eq_zero_iff.1 (by omega)
        rw [this]
        simp only [hd, cond_false, lexS_nil, lexR, List.append_nil]
theorem takeWhile_self {p : UInt8 → Bool} (l : List UInt8) : decide (l.takeWhile p = l) = l.all p := by
  induction l with
  | nil => simp
  | cons c l ih =>
    simp only [List.takeWhile_cons, List.all_cons]
    cases h : p c with
    | true => simp [← ih]
    | false => simp
theorem Word_s (b : ByteArray) : lex_Word.F (b, ()) = some (isWord b, ()) := by
  rw [lex_Word.eq]
  unfold lex_Word.B isWord
  have hb : b = bs b.data.toList := (bs_data b).symm
  generalize hl : b.data.toList = l at hb
  subst hb
  rw [bs_list] at hl
  simp only [show (⟨#[]⟩ : ByteArray) = bs [] from rfl, beq_bs, bs_size]
  cases l with
  | nil => simp [isWordL]
  | cons c l =>
    simp only [isWordL]
    have e0 : decide (c :: l = ([] : List UInt8)) = false := by simp
    simp only [e0, cond_false]
    by_cases h30 : (c :: l).length ≤ 30
    · have e1 : decide ((((c :: l).length : Nat) : Int) > (30 : Int)) = false := by rw [decide_eq_false_iff_not]; omega
      have e2 : (decide (0 ≤ (0 : Int)) && decide ((0 : Int) < (((c :: l).length : Nat) : Int))) = true := by simp
      have hst : lst (bs (c :: l)) 0 = c :: l := rfl
      have e3 : byteAt (bs (c :: l)) 0 = (c.toNat : Int) := (lst_cons hst).2.2
      simp only [e1, cond_false, e2, cond_true, e3, of_s, Option.bind_some, bne, cls_letter]
      cases hc : letter c with
      | false => simp
      | true =>
        simp only [Bool.not_true, cond_false, Option.bind_some]
        obtain ⟨j, g1, g2, g3, g4⟩ := run_s [1, 2, 3] (by decide) (bs (c :: l)) (by rw [bs_size]; omega) 0 (by omega)
        have g4' : lex_scanner_run.F ([(1 : Int), (2 : Int), (3 : Int)], bs (c :: l), (0 : Int), ()) = some (bs ((lst (bs (c :: l)) 0).takeWhile (inK [1, 2, 3])), bs (c :: l), (j : Int), ()) := g4
        rw [g4', hst, takeWhile_congr inK_word]
        simp only [Option.bind_some, beq_bs, takeWhile_self, Bool.true_and]
        simp only [h30, decide_true, Bool.and_true]
    · have e1 : decide ((((c :: l).length : Nat) : Int) > (30 : Int)) = true := by rw [decide_eq_true_eq]; omega
      simp only [e1, cond_true, Option.bind_some, h30, decide_false, Bool.and_false]
def idxOf (b : ByteArray) : Int → List ByteArray → Int
  | _, [] => -1
  | i, k :: l => if b = k then i else idxOf b (i + 1) l
theorem idxOf_any (b : ByteArray) : ∀ (l : List ByteArray) (i : Int), 0 ≤ i → decide (idxOf b i l ≥ 0) = l.any fun k => decide (k = b) := by
  intro l
  induction l with
  | nil => intro i _; rfl
  | cons k l ih =>
    intro i hi
    rw [List.any_cons]
    by_cases h : b = k
    · have : idxOf b i (k :: l) = i := by simp [idxOf, h]
      rw [show decide (idxOf b i (k :: l) ≥ 0) = decide (i ≥ 0) by rw [this]]
      simp [h, hi]
    · have : ¬ k = b := fun e => h e.symm
      have e : idxOf b i (k :: l) = idxOf b (i + 1) l := by simp [idxOf, h]
      rw [show decide (idxOf b i (k :: l) ≥ 0) = decide (idxOf b (i + 1) l ≥ 0) by rw [e], ih _ (by omega)]; simp [this]
theorem Index_s (l : List ByteArray) (hl : l.length < 1000) (b : ByteArray) : slices_Index_sl_string_string.F (l, b, ()) = some (idxOf b 0 l, ()) := by
  rw [slices_Index_sl_string_string.eq]
  unfold slices_Index_sl_string_string.B
  simp only []
  rw [loop_f (m := fun x => l.length - x.1.toNat) (I := fun x => ∃ k : Nat, x.1 = (k : Int) ∧ k ≤ l.length) (f := fun x => (idxOf b x.1 (l.drop x.1.toNat), ())) ?_ _ ⟨0, rfl, by omega⟩]
  · simp
  · rintro ⟨x, ⟨⟩⟩ ⟨k, hk, hle⟩
    simp only at hk
    subst hk
    simp only [Int.toNat_natCast]
    by_cases hlt : k < l.length
    · have d1 : decide ((k : Int) < (l.length : Int)) = true := by simp; omega
      have d0 : decide (0 ≤ (k : Int)) = true := by simp
      simp only [d1, d0, Bool.and_self, cond_true, getD_at hlt, beq_bytes, wrap_s hlt (show l.length < 9223372036854775808 by omega)]
      rw [List.drop_eq_getElem_cons hlt, idxOf]
      by_cases he : b = l[k]
      · right
        simp only [he, decide_true, cond_true, if_true]
      · left
        simp only [he, decide_false, cond_false, if_false]
        refine ⟨_, rfl, ⟨k + 1, rfl, by omega⟩, by simp only [Int.toNat_natCast]; omega, ?_⟩
        simp only [Int.toNat_natCast]
        rfl
    · right
      have d1 : decide ((k : Int) < (l.length : Int)) = false := by simp; omega
      simp only [d1, cond_false]
      rw [List.drop_eq_nil_of_le (by omega)]
      rfl
theorem Name_s (b : ByteArray) : ddl_Name.F (b, ()) = some (isName b, ()) := by
  rw [ddl_Name.eq]
  unfold ddl_Name.B isName
  simp only [Word_s, Option.bind_some]
  cases isWord b with
  | false => rfl
  | true =>
    have hk : ddl_keywords.F () = some (keywords, ()) := by rw [ddl_keywords.eq]; rfl
    have h1 := Index_s keywords (by decide) b
    have h2 := idxOf_any b keywords 0 (by decide)
    have hc : slices_Contains_sl_string_string.F (keywords, b, ()) = some (keywords.any fun k => decide (k = b), ()) := by
      rw [slices_Contains_sl_string_string.eq]
      unfold slices_Contains_sl_string_string.B
      simp only [h1, Option.bind_some, h2]
    simp only [cond_true, hk, Option.bind_some, hc, Bool.true_and]
end Go.Proofs.Ytnogebfcpicghaa
