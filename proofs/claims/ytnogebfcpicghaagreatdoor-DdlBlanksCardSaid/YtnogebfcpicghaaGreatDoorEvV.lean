import Derived.Test.YtnogebfcpicghaaGreatDoorEvU
import Derived.ProofKit
import Derived.SizedLaws
import Derived.Below
import Derived.ChangeOld
import Derived.Deep.Slices
import Derived.OpenShut
set_option linter.all false
set_option linter.unusedVariables false
set_option linter.unusedSimpArgs false
set_option linter.unusedSectionVars false
namespace Lv
variable [HasG]
open Go Go.RowKit Go.ChangeShapes Go.WideShapes Go.Deep

/-! ## Arguments as data -/
section
variable (P : Program)
def rdF (rec : TypeId → Ty → Bool) (f : Field) (off : Nat) (ty : Ty) : Bool := Nat.beq f.offset off && (Nat.beq (P.cellsOf f.type) ty.n && rec f.type ty)
def rdFs (rec : TypeId → Ty → Bool) : List Field → Nat → Ty → Bool
  | [f], off, ty => rdF P rec f off ty
  | f :: g :: r, off, .pair a b => rdF P rec f off a && rdFs rec (g :: r) (off + a.n) b
  | [], _, .unit => true
  | _, _, _ => false
/-- an array's elements as fields -/
def vfs (n : Nat) (e : TypeId) : List Field := (List.range n).map fun i => { (default : Field) with type := e, offset := i * P.cellsOf e }
def rdB : Nat → TypeId → Ty → Bool
  | 0, _, _ => false
  | d + 1, t, ty => match P.underlying t with
    | some .bool => ty.b .bool
    | some (.int k) => ty.b (.int k)
    | some .string => ty.b .str
    | some (.slice e) => (match ty with | .sl f u => Nat.beq e f && (Nat.beq (P.cellsOf e) u.n && (Nat.ble 1 u.n && rdB d e u)) | _ => false)
    | some (.struct fs) => Nat.beq (P.cellsOf t) ty.n && rdFs (P := P) (rdB d) fs.toList 0 ty
    | some (.array n e) => Nat.beq (P.cellsOf t) ty.n && rdFs (P := P) (rdB d) (vfs (P := P) n e) 0 ty
    | _ => false

/-- what is known of data that came in -/
def In : (t : Ty) → t.T → Prop
  | .int k, x => (Lit.int k x).wf = true
  | .bool, _ => True
  | .str, x => x.size ≤ reachBytes
  | .val, _ => True
  | .unit, _ => True
  | .pair a b, x => In a x.1 ∧ In b x.2
  | .sl e t, xs => xs.length * P.bytesOf e ≤ reachBytes ∧ ∀ x ∈ xs, In t x
end

section
variable {P : Program} {H : Type} {enc : TypeId × Value → H} {w : World}

instance tInhabited {t : Ty} : Inhabited t.T := ⟨t.z⟩

theorem weightsAll_mem {e : TypeId} : ∀ {l : List (DataW H)}, (DataW.weightsAll P e l).all (· ≤ reachBytes) = true → ∀ d ∈ l, (d.weights P e).all (· ≤ reachBytes) = true
  | a :: r, h, d, hd => by
    rw [DataW.weightsAll, List.all_append, Bool.and_eq_true] at h
    rcases List.mem_cons.1 hd with rfl | hd
    · exact h.1
    · exact weightsAll_mem h.2 d hd

theorem rdFs_ok {rec : TypeId → Ty → Bool} (hrec : ∀ t ty, rec t ty = true → ∀ fuel cs x, DataW.trod enc P w 0 (fun _ => true) true fuel t cs = some x → (x.1.weights P t).all (· ≤ reachBytes) = true → ∃ a : ty.T, K (· < w.heap.size) w ty a cs ∧ In P ty a) :
    ∀ (fs : List Field) (off : Nat) (ty : Ty), rdFs P rec fs off ty = true → ∀ (n : Nat) (cs : List Value) (xs : List (DataW H × List MemPlace)), cs.length = off + ty.n → xs.length = fs.length →
      (∀ (i : Nat) (f : Field), fs[i]? = some f → DataW.trod enc P w 0 (fun _ => true) true n f.type ((cs.drop f.offset).take (P.cellsOf f.type)) = xs[i]?) → (DataW.weightsEach P (fs.map (·.type)) (xs.map (·.1))).all (· ≤ reachBytes) = true →
      ∃ a : ty.T, K (· < w.heap.size) w ty a (cs.drop off) ∧ In P ty a := by
  have one : ∀ (f : Field) (off : Nat) (ty : Ty), rdF P rec f off ty = true → ∀ (n : Nat) (cs : List Value) (x : DataW H × List MemPlace),
      DataW.trod enc P w 0 (fun _ => true) true n f.type ((cs.drop f.offset).take (P.cellsOf f.type)) = some x → (x.1.weights P f.type).all (· ≤ reachBytes) = true → ∃ a : ty.T, K (· < w.heap.size) w ty a ((cs.drop off).take ty.n) ∧ In P ty a := by
    intro f off ty h n cs x hx hw
    simp only [rdF, Bool.and_eq_true] at h
    have h1 := Nat.eq_of_beq_eq_true h.1
    have h2 := Nat.eq_of_beq_eq_true h.2.1
    rw [h1, h2] at hx
    exact hrec _ _ h.2.2 _ _ _ hx hw
  intro fs
  induction fs with
  | nil =>
    intro off ty h n cs xs hl hxl hx hw
    cases ty <;> simp only [rdFs] at h <;> try (cases h; done)
    refine ⟨(), ?_, trivial⟩
    show cs.drop off = []
    exact List.drop_of_length_le (by rw [hl]; exact Nat.le_refl _)
  | cons f r ih =>
    intro off ty h n cs xs hl hxl hx hw
    match xs, hxl with
    | x :: xr, hxl =>
      have hx0 := hx 0 f rfl
      simp only [List.map_cons, DataW.weightsEach, List.all_append, Bool.and_eq_true] at hw
      cases r with
      | nil =>
        simp only [rdFs] at h
        obtain ⟨a, k1, k2⟩ := one f off ty h n cs x hx0 hw.1
        refine ⟨a, ?_, k2⟩
        rw [List.take_of_length_le (by rw [List.length_drop]; omega)] at k1
        exact k1
      | cons g r =>
        cases ty with
        | pair a b =>
          simp only [rdFs, Bool.and_eq_true] at h
          obtain ⟨u, k1, k2⟩ := one f off a h.1 n cs x hx0 hw.1
          obtain ⟨v, g1, g2⟩ := ih (off + a.n) b h.2 n cs xr (by rw [hl]; simp only [Ty.n]; omega) (by simpa using hxl) (fun i f' hf => by simpa using hx (i + 1) f' (by simpa using hf)) hw.2
          refine ⟨(u, v), ⟨_, _, ?_, k1, g1⟩, k2, g2⟩
          rw [← List.drop_drop, List.take_append_drop]
        | _ => simp [rdFs] at h

theorem addr_add {a : Addr} (h : a.spot = none) (n : Nat) : a.add n = ⟨a.block, a.off + n, none⟩ := by
  unfold Addr.add
  split
  · subst n; obtain ⟨b, o, s⟩ := a; simp at h; subst h; rfl
  · rfl

theorem weights_all_each (e : TypeId) : ∀ l : List (DataW H), DataW.weightsAll P e l = DataW.weightsEach P (List.replicate l.length e) l
  | [] => rfl
  | a :: r => by
    rw [List.length_cons, List.replicate_succ, DataW.weightsAll, DataW.weightsEach, weights_all_each e r]
theorem rd_ok : ∀ (d : Nat) (t : TypeId) (ty : Ty), rdB P d t ty = true → ∀ fuel cs (x : DataW H × List MemPlace), DataW.trod enc P w 0 (fun _ => true) true fuel t cs = some x → (x.1.weights P t).all (· ≤ reachBytes) = true → ∃ a : ty.T, K (· < w.heap.size) w ty a cs ∧ In P ty a := by
  intro d
  induction d with
  | zero => intro t ty h; cases h
  | succ d ih =>
    intro t ty h fuel cs x hx hw
    simp only [rdB] at h
    split at h
    · rename_i hu
      obtain rfl := Ty.b_eq h
      obtain ⟨b, rfl, rfl⟩ := DataW.trod_bool hu hx
      exact ⟨b, rfl, trivial⟩
    · rename_i k hu
      obtain rfl := Ty.b_eq h
      obtain ⟨n, rfl, rfl, hn⟩ := DataW.trod_int hu hx
      exact ⟨n, rfl, hn⟩
    · rename_i hu
      obtain rfl := Ty.b_eq h
      obtain ⟨s, rfl, rfl, hs⟩ := DataW.trod_string hu hx
      refine ⟨s, rfl, ?_⟩
      have : s.data.size ≤ reachBytes := by simpa [DataW.weights] using hw
      exact this
    · rename_i e hu
      cases ty <;> simp only at h <;> try (cases h; done)
      rename_i f u
      simp only [Bool.and_eq_true] at h
      obtain rfl := Nat.eq_of_beq_eq_true h.1
      have hn := Nat.eq_of_beq_eq_true h.2.1
      have h1 := Nat.le_of_ble_eq_true h.2.2.1
      have hr := h.2.2.2
      rcases open_slice hu hx with ⟨rfl, rfl⟩ | ⟨a, len, cap, m, n, D, Pl, rfl, _, hl, hc, hm, rfl, hel⟩
      · exact ⟨([] : List u.T), ⟨none, 0, rfl, Nat.le_refl _, .inl rfl⟩, by simp, fun x hx => by cases hx⟩
      · simp only [if_true] at hm
        subst hm
        simp only [DataW.weights, hu] at hw
        rw [List.all_cons, List.all_append, Bool.and_eq_true, Bool.and_eq_true] at hw
        obtain ⟨hw1, hw2, _⟩ := hw
        have hw1 := of_decide_eq_true hw1
        simp only [List.length_map, List.length_range] at hw1
        have hA : ∀ i, i < len → ∃ y : u.T, (∃ cs', w.cells? 0 (a.add (i * P.cellsOf e)) (P.cellsOf e) = some cs' ∧ K (· < w.heap.size) w u y cs') ∧ In P u y := by
          intro i hi
          obtain ⟨cs', k1, k2⟩ := hel i (by omega)
          obtain ⟨y, g1, g2⟩ := ih e u hr n cs' _ k2 (weightsAll_mem hw2 (D i) (List.mem_map.2 ⟨i, List.mem_range.2 hi, rfl⟩))
          exact ⟨y, ⟨cs', k1, g1⟩, g2⟩
        obtain ⟨A, hA⟩ := choose_lt hA
        refine ⟨(List.range len).map A, ⟨some a, m, by simp, by simpa using hl, ?_⟩, ?_, ?_⟩
        · by_cases h0 : len = 0
          · left; subst h0; rfl
          · right
            have hcell : ∀ i, i < len → ∀ cs', w.cells? 0 (a.add (i * P.cellsOf e)) (P.cellsOf e) = some cs' → ∀ j v, cs'[j]? = some v → w.cell? ((a.add (i * P.cellsOf e)).add j) = some v := by
              intro i hi cs' hcs j v hj
              obtain ⟨_, hlen, hget⟩ := World.cells?_some hcs
              rw [hget j (by rw [← hlen]; exact (List.getElem?_eq_some_iff.1 hj).1)]
              exact hj
            have hsp : a.spot = none ∧ a.block < w.heap.size := by
              obtain ⟨cs', k1, k2⟩ := (hA 0 (by omega)).1
              obtain ⟨_, hlen, _⟩ := World.cells?_some k1
              rw [hn] at hlen
              have hj : cs'[0]? = some (cs'[0]'(by omega)) := List.getElem?_eq_getElem _
              have hc := hcell 0 (by omega) cs' k1 0 _ hj
              simp only [Nat.zero_mul, Addr.add, if_true, World.cell?] at hc
              split at hc
              · rename_i c _ _ hb
                split at hc
                · cases hc
                · rename_i hs
                  exact ⟨by simpa using hs, (Array.getElem?_eq_some_iff.1 hb).1⟩
              · cases hc
            refine ⟨a.block, a.off, by rw [← hsp.1], hsp.2, fun i y hi => ?_⟩
            have hlt : i < len := by
              have := (List.getElem?_eq_some_iff.1 hi).1
              simpa using this
            obtain ⟨cs', k1, k2⟩ := (hA i hlt).1
            have : y = A i := by
              rw [List.getElem?_map, List.getElem?_range hlt] at hi
              exact (Option.some.inj hi).symm
            subst this
            refine ⟨cs', k2, fun j v hj => ?_⟩
            have := hcell i hlt cs' k1 j v hj
            rw [Deep.add_add, hn] at this
            rw [← this]
            rw [addr_add hsp.1, Nat.add_assoc]
        · simp only [List.length_map, List.length_range]
          exact Nat.le_trans (Nat.mul_le_mul_right _ (Nat.le_add_right _ _)) hw1
        · intro y hy
          obtain ⟨i, hi, rfl⟩ := List.mem_map.1 hy
          exact (hA i (List.mem_range.1 hi)).2
    · rename_i fs hu
      simp only [Bool.and_eq_true] at h
      have hn := Nat.eq_of_beq_eq_true h.1
      obtain ⟨xs, n, _, rfl, hl, hxl, hf⟩ := DataW.trod_struct hu hx
      simp only [DataW.weights, hu] at hw
      have := rdFs_ok (enc := enc) (w := w) (rec := rdB P d) ih fs.toList 0 ty h.2 n cs xs (by rw [hl, hn]; omega) (by simpa using hxl) (fun i f hi => hf i f (by simpa using hi)) hw
      simpa using this
    · rename_i n e hu
      simp only [Bool.and_eq_true] at h
      have hn := Nat.eq_of_beq_eq_true h.1
      obtain ⟨xs, m, _, rfl, hl, hxl, hf⟩ := DataW.trod_array hu hx
      simp only [DataW.weights, hu, weights_all_each, List.length_map, hxl] at hw
      have hty : (vfs P n e).map (·.type) = List.replicate n e := by
        apply List.ext_getElem <;> simp [vfs]
      have := rdFs_ok (enc := enc) (w := w) (rec := rdB P d) ih (vfs P n e) 0 ty h.2 m cs xs (by rw [hl, hn]; omega) (by simp [vfs, hxl]) (fun i f hi => by
        simp only [vfs, List.getElem?_map] at hi
        rcases Nat.lt_or_ge i n with hlt | hge
        · rw [List.getElem?_range hlt] at hi
          cases hi
          exact hf i hlt
        · rw [List.getElem?_eq_none (by simpa using hge)] at hi
          cases hi) (by rw [hty]; exact hw)
      simpa using this
    · cases h

/-! ## The law's arguments -/
def shCr : Ty → List CSh → List CSh
  | .int k, r => .int k :: r
  | .bool, r => .bool :: r
  | .str, r => .str :: r
  | .val, r => .val :: r
  | .unit, r => r
  | .pair a b, r => shCr a (shCr b r)
  | .sl e t, r => .sl e t :: r
def exT {τ : Type} : (t : Ty) → t.T → (r : List CSh) → TL r τ → TL (shCr t r) τ
  | .int _, x, _, y => (x, y)
  | .bool, x, _, y => (x, y)
  | .str, x, _, y => (x, y)
  | .val, x, _, y => (x, y)
  | .unit, _, _, y => y
  | .pair a b, x, r, y => exT a x.1 (shCr b r) (exT b x.2 r y)
  | .sl _ _, x, _, y => (x, y)
theorem ofC_exT {τ : Type} (f : Nat → Nat) : ∀ (t : Ty) (x : t.T) (r : List CSh) (y : TL r τ), ofC f (shCr t r) (exT t x r y) = (t.ex x ++ (ofC f r y).1, (ofC f r y).2)
  | .int _, _, _, _ => rfl
  | .bool, _, _, _ => rfl
  | .str, _, _, _ => rfl
  | .val, _, _, _ => rfl
  | .unit, _, _, _ => rfl
  | .pair a b, x, r, y => by
    show ofC f (shCr a (shCr b r)) (exT a x.1 (shCr b r) (exT b x.2 r y)) = _
    rw [ofC_exT f a, ofC_exT f b]
    simp [Ty.ex]
  | .sl _ _, _, _, _ => rfl

/-- parameters: their types, and whether they are structs -/
@[reducible] def argSl : Nat → List (Ty × Bool) → List (Nat × SSh)
  | _, [] => []
  | i, (t, a) :: r => (i, .v a (shCr t [])) :: argSl (i + 1) r
@[reducible] def ArgT : List (Ty × Bool) → Type
  | [] => Unit
  | (t, _) :: r => t.T × ArgT r
def argX : (i : Nat) → (l : List (Ty × Bool)) → ArgT l → TSl (argSl i l) Unit
  | _, [], _ => ()
  | i, (t, _) :: r, x => exT t x.1 [] (argX (i + 1) r x.2)
def argIn (P : Program) : (l : List (Ty × Bool)) → ArgT l → Prop
  | [], _ => True
  | (t, _) :: r, x => In P t x.1 ∧ argIn P r x.2
def argV : Bool → Nat → Value → Prop
  | true, _, v => ∃ cs, v = .agg cs
  | false, n, v => n = 1 ∧ v.cells.toList = [v]
/-- the arguments read as data -/
def argK (ok : Nat → Prop) (w : World) : (l : List (Ty × Bool)) → ArgT l → List Value → Prop
  | [], _, vs => vs = []
  | (t, a) :: r, x, vs => ∃ v us, vs = v :: us ∧ K ok w t x.1 v.cells.toList ∧ argV a t.n v ∧ argK ok w r x.2 us

theorem argX_env {ok : Nat → Prop} (f : Nat → Nat) (env : Env) : ∀ (l : List (Ty × Bool)) (i : Nat) (x : ArgT l) (t : Nat) (s : Slot), (ofSl f env (argSl i l) (argX i l x)).1 t = some s →
    env t = some s ∨ (i ≤ t ∧ ∃ (ty : Ty) (a : Bool) (y : ty.T), s = .v a (ty.ex y) ∧ ∀ w vs, argK ok w l x vs → ∃ v, vs[t - i]? = some v ∧ K ok w ty y v.cells.toList ∧ argV a ty.n v)
  | [], _, _, _, _, h => .inl h
  | (ty, a) :: r, i, x, t, s, h => by
    have e : ofC f (shCr ty []) (exT ty x.1 [] (argX (i + 1) r x.2)) = (ty.ex x.1 ++ [], argX (i + 1) r x.2) := ofC_exT f ty x.1 [] _
    have h : put (ofSl f env (argSl (i + 1) r) (ofC f (shCr ty []) (exT ty x.1 [] (argX (i + 1) r x.2))).2).1 i (some (.v a (ofC f (shCr ty []) (exT ty x.1 [] (argX (i + 1) r x.2))).1)) t = some s := h
    rw [e, List.append_nil] at h
    unfold Lv.put at h
    split at h
    · rename_i ht
      have := Nat.eq_of_beq_eq_true ht
      subst this
      cases h
      refine .inr ⟨Nat.le_refl _, ty, a, x.1, rfl, fun w vs hk => ?_⟩
      obtain ⟨v, us, rfl, k1, k2, _⟩ := hk
      exact ⟨v, by simp, k1, k2⟩
    · rename_i ht
      rcases argX_env f env r (i + 1) x.2 t s h with k | ⟨k1, ty', a', y, k2, k3⟩
      · exact .inl k
      · refine .inr ⟨by omega, ty', a', y, k2, fun w vs hk => ?_⟩
        obtain ⟨v, us, rfl, _, _, g⟩ := hk
        obtain ⟨v', g1, g2⟩ := k3 w us g
        refine ⟨v', ?_, g2⟩
        rw [show t - i = (t - (i + 1)) + 1 by omega]
        simpa using g1

theorem argX_left (f : Nat → Nat) (env : Env) : ∀ (l : List (Ty × Bool)) (i : Nat) (x : ArgT l), (ofSl f env (argSl i l) (argX i l x)).2 = ()
  | [], _, _ => rfl
  | _ :: _, _, _ => rfl

theorem arg_repE {ok : Nat → Prop} {w : World} {l : List (Ty × Bool)} {x : ArgT l} {args : Array Value} (h : argK ok w l x args.toList) (ρ : Nat → Value) (nx : Nat) : RepE ρ ok w nx (envOut ⟨argSl 0 l, [], [], 0, []⟩ id (argX 0 l x)) args := by
  intro t s hs
  rcases argX_env id (fun _ => none) l 0 x t s hs with k | ⟨_, ty, a, y, rfl, k⟩
  · cases k
  · obtain ⟨v, h1, h2, h3⟩ := k w _ h
    refine ⟨v, by simpa using h1, ?_⟩
    have hex := ex_ok (ρ := ρ) (nx := nx) h2
    cases a with
    | true =>
      obtain ⟨cs, rfl⟩ := h3
      exact ⟨cs.toList, by simp, hex⟩
    | false =>
      obtain ⟨h3, h4⟩ := h3
      rw [h4] at hex
      have hl := ex_len ty y
      rw [h3] at hl
      match hc : ty.ex y, hl with
      | [c], _ =>
        rw [hc] at hex
        obtain ⟨u, e, hu⟩ := hex.one
        cases e
        exact ⟨c, rfl, hu⟩

def prmB (P : Program) : List TypeId → List (Ty × Bool) → Bool
  | [], [] => true
  | t :: ts, (ty, a) :: l => (rdB P 50 t ty && ((match P.underlying t with | some (.struct _) => a | some .bool | some (.int _) | some .string | some (.slice _) => !a && Nat.beq ty.n 1 | _ => false) &&
      (P.readableRec t && Nat.blt t P.types.size))) && prmB P ts l
  | _, _ => false

theorem argV_of {t : TypeId} {v : Value} {n base : Nat} {a : Bool} (hv : Value.okWide P w .any base t v) (h : (match P.underlying t with | some (.struct _) => a | some .bool | some (.int _) | some .string | some (.slice _) => !a && Nat.beq n 1 | _ => false) = true) : argV a n v := by
  unfold Value.okWide at hv
  split at h
  · rename_i fs hu
    subst h
    rw [hu] at hv
    obtain ⟨cs, e, _⟩ := hv
    exact ⟨cs, e⟩
  all_goals (try (cases h; done))
  all_goals
    rename_i hu
    rw [hu] at hv
    simp only [Bool.and_eq_true, Bool.not_eq_true'] at h
    obtain ⟨rfl, hn⟩ := h
    refine ⟨Nat.eq_of_beq_eq_true hn, ?_⟩
    simp only [Cell.okWide, hu, Cell.ok] at hv
    cases v <;> simp_all [Value.cells]

theorem trodAll_argK {base : Nat} : ∀ {ts : List TypeId} {l : List (Ty × Bool)} {vs : List Value} {ds : List (DataW H)} {ps : List MemPlace}, prmB P ts l = true → DataW.TrodAll enc P w 0 (fun _ => true) true ts vs ds ps →
    (∀ (j : Nat) (t : TypeId) (v : Value), ts[j]? = some t → vs[j]? = some v → Value.okWide P w .any base t v) → (DataW.weightsEach P ts ds).all (· ≤ reachBytes) = true → ∃ x : ArgT l, argK (· < w.heap.size) w l x vs ∧ argIn P l x
  | [], l, vs, ds, ps, hb, h, hv, hw => by
    obtain ⟨rfl, rfl, rfl⟩ := trodAll_nil h
    match l, hb with
    | [], _ => exact ⟨(), rfl, trivial⟩
  | t :: ts, l, vs, ds, ps, hb, h, hv, hw => by
    obtain ⟨v, vs, d, ds, p, q, rfl, rfl, rfl, ⟨fuel, h1⟩, h2⟩ := trodAll_cons h
    match l, hb with
    | (ty, a) :: l, hb =>
      simp only [prmB, Bool.and_eq_true] at hb
      rw [DataW.weightsEach, List.all_append, Bool.and_eq_true] at hw
      obtain ⟨x, k1, k2⟩ := rd_ok 50 t ty hb.1.1 fuel _ _ h1 hw.1
      obtain ⟨y, g1, g2⟩ := trodAll_argK hb.2 h2 (fun j t' v' e1 e2 => hv (j + 1) t' v' (by simpa using e1) (by simpa using e2)) hw.2
      exact ⟨(x, y), ⟨v, vs, rfl, k1, argV_of (hv 0 t v rfl rfl) hb.1.2.1, g1⟩, k2, g2⟩

theorem trodAll_below (hl : laidOutB P = true) {w' : World} (hb : Below w.heap.size w w') : ∀ {ts : List TypeId} {l : List (Ty × Bool)} {vs : List Value} {ds : List (DataW H)} {ps : List MemPlace}, prmB P ts l = true → DataW.TrodAll enc P w 0 (fun _ => true) true ts vs ds ps →
    DataW.TrodAll enc P w' 0 (fun b => decide (b < w.heap.size)) true ts vs ds ps
  | [], l, vs, ds, ps, hp, h => by
    obtain ⟨rfl, rfl, rfl⟩ := trodAll_nil h
    rfl
  | t :: ts, l, vs, ds, ps, hp, h => by
    obtain ⟨v, vs, d, ds, p, q, rfl, rfl, rfl, h1, h2⟩ := trodAll_cons h
    match l, hp with
    | (ty, a) :: l, hp =>
      simp only [prmB, Bool.and_eq_true] at hp
      refine ⟨p, q, Below.trod hl hp.1.2.2.1 (Nat.le_of_ble_eq_true hp.1.2.2.2) h1 hb ?_, trodAll_below hl hb hp.2 h2, rfl⟩
      obtain ⟨m, hm⟩ := h1
      exact DataW.trod_lt m _ _ _ hm

def boolSo : Sh := ⟨[(0, .v false [.bool])], [], [], 1000, []⟩
theorem law_calls {g : FuncId} {l : List (Ty × Bool)} {F : TS ⟨argSl 0 l, [], [], 0, []⟩ → Option (TS boolSo)} (hs : SpecOk P g ⟨l.length, ⟨argSl 0 l, [], [], 0, []⟩, boolSo, F⟩) {x : ArgT l} (hF : F (argX 0 l x) = some (true, ())) {args : Array Value} (hn : args.size = l.length)
    (h : argK (· < w.heap.size) w l x args.toList) (hg : Glb (· < w.heap.size) w) : Calls P g args w fun e w' => e = .returned (.bool true) ∧ Below w.heap.size w w' := by
  have hp : hpOut ⟨argSl 0 l, [], [], 0, []⟩ id (argX 0 l x) = fun _ => none := rfl
  refine (hs _ _ hF (fun _ => .bool true) (· < w.heap.size) w args hn ?_ ?_).mono ?_
  · rw [hp]
    exact ⟨fun l o h => (by cases h), fun b h => h, fun l o b h => (by cases h), fun l m o p b h => (by cases h), hg⟩
  · exact arg_repE h _ _
  · rintro e w' ⟨v, ρ', ok', rfl, _, hE, hX⟩
    obtain ⟨v', e1, c, e2, e3⟩ := hE 0 (.v false [.bool true]) rfl
    cases e2
    have e3 : v' = .bool true := e3
    subst e3
    have : v = .bool true := by simpa using e1
    subst this
    refine ⟨rfl, hX.os, hX.tape, hX.output.1, hX.size, fun k hk => hX.same k hk fun l o ho => ?_⟩
    rw [hp] at ho
    cases ho

theorem law_lifted {C : Checked} {g : FuncId} {fn : Func} {s : ChangeSpec} {os : Os} {l : List (Ty × Bool)} {rt : TypeId} {F : TS ⟨argSl 0 l, [], [], 0, []⟩ → Option (TS boolSo)}
    (own : ownKnob C.prog.godebug = none) (started : os.Started) (noInit : C.prog.inits.idxOf? g = none) (hfn : C.prog.funcs[g]? = some fn) (hl : laidOutB C.prog = true)
    (witness : ∃ (w : World) (tape : Tape) (i : Input), w.os = os ∧ (w.forCall tape i).Shaped C.prog ∧ i.vars = [] ∧ Input.okWide C.prog (w.forCall tape i) .any w.heap.size g i ∧
      s.pre6 enc C.prog fn [] false (w.forCall tape i).memory i.args ∧ ({} : Assume).holds C.prog (lone (Frame.enter C.prog g i.args .normal) [] (w.forCall tape i)))
    (hvars : s.vars = []) (hspec : ∀ ds : List (DataW H), ds.length = l.length → s.fn H ds = { results := [.lit (.bool true)], args := ds })
    (hrt : fn.resultTypes = #[rt]) (hru : C.prog.underlying rt = some .bool) (hp : prmB C.prog fn.params.toList l = true)
    (hs : SpecOk C.prog g ⟨l.length, ⟨argSl 0 l, [], [], 0, []⟩, boolSo, F⟩) (hF : ∀ x : ArgT l, argIn C.prog l x → F (argX 0 l x) = some (true, ())) (hB : HasG.bs = []) (hG : ∀ W, HasG.hold W) :
    ReturnsInHanded {} C os g .any (s.pre6 enc C.prog fn [] false) (s.post enc C.prog fn false true false false) := by
  refine returnsInHanded_of_change_sized own started noInit hfn witness ?_
  intro W base args ds gs before hval hW _ hsz _
  have hW' := hW
  obtain ⟨p, q, hA, hV, rfl, _, _⟩ := hW
  rw [hvars] at hV
  obtain ⟨rfl, rfl⟩ := trodVars_none hV
  have hlen : ∀ {ts : List TypeId} {vs : List Value} {ds : List (DataW H)} {ps : List MemPlace} {l : List (Ty × Bool)}, prmB C.prog ts l = true → DataW.TrodAll enc C.prog W 0 (fun _ => true) true ts vs ds ps → vs.length = l.length ∧ ds.length = l.length := by
    intro ts
    induction ts with
    | nil =>
      intro vs ds ps l hp h
      obtain ⟨rfl, rfl, rfl⟩ := trodAll_nil h
      match l, hp with
      | [], _ => exact ⟨rfl, rfl⟩
    | cons t ts ih =>
      intro vs ds ps l hp h
      obtain ⟨v, vs, d, ds, p, q, rfl, rfl, rfl, _, h2⟩ := trodAll_cons h
      match l, hp with
      | (ty, a) :: l, hp =>
        simp only [prmB, Bool.and_eq_true] at hp
        obtain ⟨e1, e2⟩ := ih hp.2 h2
        exact ⟨by simp [e1], by simp [e2]⟩
  obtain ⟨hl1, hl2⟩ := hlen hp hA
  have hv0 : s.plain.varTypes C.prog = [] := by
    have : s.plain.vars = [] := hvars
    unfold DataSpec.varTypes
    rw [this]; rfl
  rw [hv0, List.append_nil, List.append_nil] at hsz
  have hval' : ∀ (j : Nat) (t : TypeId) (v : Value), fn.params.toList[j]? = some t → args.toList[j]? = some v → Value.okWide C.prog W .any base t v := fun j t v e1 e2 => by
    have := hval j t v (by simpa using e1) (by simpa using e2)
    exact this
  obtain ⟨x, k1, k2⟩ := trodAll_argK hp hA (fun j t v e1 e2 => hval' j t v e1 e2) hsz
  · refine (law_calls hs (hF x k2) (by rw [← Array.length_toList, hl1]) k1 ⟨fun b hb => (by rw [hB] at hb; cases hb), hG _⟩).mono ?_
    rintro e w' ⟨rfl, hb⟩
    refine ⟨_, rfl, ds, [], p ++ [], [], p, [], hW', ?_, ?_, ?_, hb.frame _, fun h => by cases h⟩
    · rw [List.append_nil, hspec ds hl2, hrt]
      exact trodAll_mk1 (shut_bool hru _)
    · rw [List.append_nil, hspec ds hl2]
      exact trodAll_below hl hb hp hA
    · rw [List.append_nil, hspec ds hl2, hvars]
      rfl
end
end Lv
