import Derived.Test.YtnogebfcpicghaaGreatDoorEvA
import Derived.MapKept
set_option linter.all false
set_option linter.unusedVariables false
set_option linter.unusedSimpArgs false
set_option linter.unusedSectionVars false
namespace Lv
open Go

/-! ## Data in memory -/
def Row {α : Type} (R : α → List Value → Prop) (n : Nat) (ok : Nat → Prop) (w : World) (A : Option Addr) (xs : List α) : Prop :=
  xs = [] ∨ ∃ b o, A = some ⟨b, o, none⟩ ∧ ok b ∧ ∀ i x, xs[i]? = some x → ∃ cs, R x cs ∧ ∀ j v, cs[j]? = some v → w.cell? ⟨b, o + i * n + j, none⟩ = some v

def K (ok : Nat → Prop) (w : World) : (t : Ty) → t.T → List Value → Prop
  | .int k, x, cs => cs = [.int k x]
  | .bool, x, cs => cs = [.bool x]
  | .str, x, cs => cs = [.string x]
  | .val, x, cs => cs = [x] ∧ x.oneCell' = true
  | .unit, _, cs => cs = []
  | .pair a b, x, cs => ∃ c d, cs = c ++ d ∧ K ok w a x.1 c ∧ K ok w b x.2 d
  | .sl _ t, xs, cs => ∃ A cap, cs = [.slice A xs.length cap] ∧ xs.length ≤ cap ∧ Row (K ok w t) t.n ok w A xs

theorem K_len {ok : Nat → Prop} {w : World} : ∀ {t : Ty} {x : t.T} {cs : List Value}, K ok w t x cs → cs.length = t.n
  | .int _, _, _, h => by cases h; rfl
  | .bool, _, _, h => by cases h; rfl
  | .str, _, _, h => by cases h; rfl
  | .val, _, _, h => by cases h.1; rfl
  | .unit, _, _, h => by cases h; rfl
  | .pair a b, x, cs, h => by
    obtain ⟨c, d, rfl, hc, hd⟩ := h
    rw [List.length_append, K_len hc, K_len hd]; rfl
  | .sl e t, _, _, h => by obtain ⟨A, cap, rfl, _⟩ := h; rfl

theorem K_one {ok : Nat → Prop} {w : World} : ∀ {t : Ty} {x : t.T} {cs : List Value}, K ok w t x cs → ∀ u ∈ cs, u.oneCell' = true
  | .int _, _, _, h => by cases h; intro u hu; cases List.mem_singleton.1 hu; rfl
  | .bool, _, _, h => by cases h; intro u hu; cases List.mem_singleton.1 hu; rfl
  | .str, _, _, h => by cases h; intro u hu; cases List.mem_singleton.1 hu; rfl
  | .val, _, _, h => by
    obtain ⟨h1, h2⟩ := h; cases h1; intro u hu; cases List.mem_singleton.1 hu; exact h2
  | .unit, _, _, h => by cases h; intro u hu; cases hu
  | .pair a b, x, cs, h => by
    obtain ⟨c, d, rfl, hc, hd⟩ := h
    intro u hu
    rcases List.mem_append.1 hu with hu | hu
    · exact K_one hc u hu
    · exact K_one hd u hu
  | .sl e t, _, _, h => by
    obtain ⟨A, cap, rfl, _⟩ := h
    intro u hu; cases List.mem_singleton.1 hu; rfl

/-- the blocks that matter are as they were -/
def Same (ok ok' : Nat → Prop) (w w' : World) : Prop := ∀ b, ok b → ok' b ∧ w'.heap[b]? = w.heap[b]?
theorem Same.cell {ok ok' : Nat → Prop} {w w' : World} (h : Same ok ok' w w') {b o : Nat} (hb : ok b) : w'.cell? ⟨b, o, none⟩ = w.cell? ⟨b, o, none⟩ :=
  World.cell?_of_block (a := ⟨b, o, none⟩) (h b hb).2
theorem Same.refl (ok : Nat → Prop) (w : World) : Same ok ok w w := fun _ h => ⟨h, rfl⟩
theorem Same.trans {ok ok1 ok2 : Nat → Prop} {w w1 w2 : World} (h : Same ok ok1 w w1) (k : Same ok1 ok2 w1 w2) : Same ok ok2 w w2 :=
  fun b hb => ⟨(k b (h b hb).1).1, (k b (h b hb).1).2.trans (h b hb).2⟩

theorem Row.move {α : Type} {R R' : α → List Value → Prop} {n : Nat} {ok ok' : Nat → Prop} {w w' : World} {A : Option Addr} {xs : List α}
    (h : Row R n ok w A xs) (hs : Same ok ok' w w') (hR : ∀ x cs, R x cs → R' x cs) : Row R' n ok' w' A xs := by
  rcases h with h | ⟨b, o, hA, hb, hx⟩
  · exact .inl h
  · refine .inr ⟨b, o, hA, (hs b hb).1, fun i x hi => ?_⟩
    obtain ⟨cs, hc, hv⟩ := hx i x hi
    exact ⟨cs, hR _ _ hc, fun j v hj => (hs.cell hb).trans (hv j v hj)⟩

theorem K_move {ok ok' : Nat → Prop} {w w' : World} (hs : Same ok ok' w w') : ∀ {t : Ty} {x : t.T} {cs : List Value}, K ok w t x cs → K ok' w' t x cs
  | .int _, _, _, h => h
  | .bool, _, _, h => h
  | .str, _, _, h => h
  | .val, _, _, h => h
  | .unit, _, _, h => h
  | .pair _ _, _, _, h => by
    obtain ⟨c, d, e, hc, hd⟩ := h
    exact ⟨c, d, e, K_move hs hc, K_move hs hd⟩
  | .sl _ _, _, _, h => by
    obtain ⟨A, cap, e, hl, hr⟩ := h
    exact ⟨A, cap, e, hl, hr.move hs fun _ _ => K_move hs⟩

inductive All2 {α β : Type} (R : α → β → Prop) : List α → List β → Prop
  | nil : All2 R [] []
  | cons {a b as bs} : R a b → All2 R as bs → All2 R (a :: as) (b :: bs)
namespace All2
variable {α β : Type} {R R' : α → β → Prop}
theorem len : ∀ {as : List α} {bs : List β}, All2 R as bs → as.length = bs.length
  | _, _, .nil => rfl
  | _, _, .cons _ h => by simp [len h]
theorem imp (hR : ∀ a b, R a b → R' a b) : ∀ {as : List α} {bs : List β}, All2 R as bs → All2 R' as bs
  | _, _, .nil => .nil
  | _, _, .cons h t => .cons (hR _ _ h) (imp hR t)
theorem app : ∀ {as : List α} {bs : List β} {cs : List α} {ds : List β}, All2 R as bs → All2 R cs ds → All2 R (as ++ cs) (bs ++ ds)
  | _, _, _, _, .nil, h => h
  | _, _, _, _, .cons h t, k => .cons h (app t k)
theorem take : ∀ (n : Nat) {as : List α} {bs : List β}, All2 R as bs → All2 R (as.take n) (bs.take n)
  | 0, _, _, _ => by simp; exact .nil
  | _ + 1, _, _, .nil => by simp; exact .nil
  | n + 1, _, _, .cons h t => by simp only [List.take_succ_cons]; exact .cons h (take n t)
theorem drop : ∀ (n : Nat) {as : List α} {bs : List β}, All2 R as bs → All2 R (as.drop n) (bs.drop n)
  | 0, _, _, h => by simpa using h
  | _ + 1, _, _, .nil => by simp; exact .nil
  | n + 1, _, _, .cons _ t => by simp only [List.drop_succ_cons]; exact drop n t
theorem get : ∀ {as : List α} {bs : List β}, All2 R as bs → ∀ (i : Nat) a, as[i]? = some a → ∃ b, bs[i]? = some b ∧ R a b
  | _, _, .nil, i, a, h => by simp at h
  | _, _, .cons (b := b) h _, 0, a, e => ⟨b, by simp, by simp at e; exact e ▸ h⟩
  | _, _, .cons _ t, i + 1, a, e => by simpa using get t i a (by simpa using e)
theorem map {γ : Type} {S : γ → β → Prop} (f : γ → α) (hf : ∀ c b, R (f c) b → S c b) : ∀ {cs : List γ} {bs : List β}, All2 R (cs.map f) bs → All2 S cs bs
  | [], _, .nil => .nil
  | _ :: _, _, .cons h t => .cons (hf _ _ h) (map f hf t)
theorem one {a : α} {bs : List β} (h : All2 R [a] bs) : ∃ b, bs = [b] ∧ R a b := by
  cases h with
  | cons h t => cases t; exact ⟨_, rfl, h⟩
end All2

/-! ## Cells, slots, objects -/
def CellR (ρ : Nat → Value) (ok : Nat → Prop) (w : World) (nx : Nat) : Cell → Value → Prop
  | .int k i, v => v = .int k i
  | .bool b, v => v = .bool b
  | .str s, v => v = .string s
  | .val u, v => v = u ∧ u.oneCell' = true
  | .sl e t xs, v => K ok w (.sl e t) xs [v]
  | .ref l, v => l < nx ∧ v = ρ l ∧ v.oneCell' = true
  | .sub l n lo len, v => l < nx ∧ ∃ A cap, v = .slice A len cap ∧ len ≤ cap ∧ (len = 0 ∨ ∃ b L C, ρ l = .slice (some ⟨b, 0, none⟩) L C ∧ A = some ⟨b, lo * n, none⟩ ∧ lo + len ≤ L)
  | .ptr l off, v => l < nx ∧ ∃ b, ρ l = .pointer (some ⟨b, 0, none⟩) ∧ v = .pointer (some ⟨b, off, none⟩)
  | .elp l n i off, v => l < nx ∧ ∃ b L C, ρ l = .slice (some ⟨b, 0, none⟩) L C ∧ i < L ∧ v = .pointer (some ⟨b, i * n + off, none⟩)
  | .ifc b, v => (b = true ∧ v = .nilIface) ∨ (b = false ∧ ∃ t u, v = .iface t u)
  | .np l, v => l < nx ∧ (v = .pointer none ∨ ∃ b, ρ l = .pointer (some ⟨b, 0, none⟩) ∧ v = .pointer (some ⟨b, 0, none⟩))
  | .rdp t x off, v => ∃ b o vs, v = .pointer (some ⟨b, o + off, none⟩) ∧ ok b ∧ K ok w t x vs ∧ ∀ j u, vs[j]? = some u → w.cell? ⟨b, o + j, none⟩ = some u

theorem CellR.one {ρ ok w nx} : ∀ {c : Cell} {v : Value}, CellR ρ ok w nx c v → v.oneCell' = true
  | .int _ _, _, h => by cases h; rfl
  | .bool _, _, h => by cases h; rfl
  | .str _, _, h => by cases h; rfl
  | .val _, _, h => by obtain ⟨h1, h2⟩ := h; cases h1; exact h2
  | .sl _ _ _, v, h => K_one h v (by simp)
  | .ref _, _, h => h.2.2
  | .sub _ _ _ _, _, h => by obtain ⟨_, A, cap, rfl, _⟩ := h; rfl
  | .ptr _ _, _, h => by obtain ⟨_, b, _, rfl⟩ := h; rfl
  | .elp _ _ _ _, _, h => by obtain ⟨_, b, L, C, _, _, rfl⟩ := h; rfl
  | .rdp _ _ _, _, h => by obtain ⟨b, o, vs, rfl, _⟩ := h; rfl
  | .ifc _, _, h => by rcases h with ⟨_, rfl⟩ | ⟨_, t, u, rfl⟩ <;> rfl
  | .np _, _, h => by rcases h with ⟨_, rfl | ⟨b, _, rfl⟩⟩ <;> rfl

theorem CellR.move {ρ ρ' : Nat → Value} {ok ok' : Nat → Prop} {w w' : World} {nx nx' : Nat} (hs : Same ok ok' w w') (hr : ∀ l, l < nx → ρ' l = ρ l) (hn : nx ≤ nx') :
    ∀ {c : Cell} {v : Value}, CellR ρ ok w nx c v → CellR ρ' ok' w' nx' c v
  | .int _ _, _, h => h
  | .bool _, _, h => h
  | .str _, _, h => h
  | .val _, _, h => h
  | .sl _ _ _, v, h => K_move hs h
  | .ref l, _, ⟨h, e, o⟩ => ⟨by omega, e.trans (hr l h).symm, o⟩
  | .sub l _ _ _, _, ⟨h, A, cap, e, hl, hx⟩ => ⟨by omega, A, cap, e, hl, hx.imp id fun ⟨b, L, C, h1, h2⟩ => ⟨b, L, C, (hr l h).trans h1, h2⟩⟩
  | .ptr l _, _, ⟨h, b, e, hv⟩ => ⟨by omega, b, (hr l h).trans e, hv⟩
  | .elp l _ _ _, _, ⟨h, b, L, C, e, hv⟩ => ⟨by omega, b, L, C, (hr l h).trans e, hv⟩
  | .rdp _ _ _, _, ⟨b, o, vs, e, hb, hk, hc⟩ => ⟨b, o, vs, e, (hs b hb).1, K_move hs hk, fun j u hj => (hs.cell hb).trans (hc j u hj)⟩
  | .ifc _, _, h => h
  | .np l, _, ⟨h, g⟩ => ⟨by omega, g.imp (fun h => h) fun ⟨b, e, hv⟩ => ⟨b, (hr l h).trans e, hv⟩⟩

def VR (ρ : Nat → Value) (ok : Nat → Prop) (w : World) (nx : Nat) (agg : Bool) (cs : List Cell) (v : Value) : Prop :=
  match agg with
  | true => ∃ vs, v = .agg vs.toArray ∧ All2 (CellR ρ ok w nx) cs vs
  | false => ∃ c, cs = [c] ∧ CellR ρ ok w nx c v

theorem VR.move {ρ ρ' : Nat → Value} {ok ok' : Nat → Prop} {w w' : World} {nx nx' : Nat} (hs : Same ok ok' w w') (hr : ∀ l, l < nx → ρ' l = ρ l) (hn : nx ≤ nx')
    {agg : Bool} {cs : List Cell} {v : Value} (h : VR ρ ok w nx agg cs v) : VR ρ' ok' w' nx' agg cs v := by
  cases agg with
  | true => obtain ⟨vs, e, h⟩ := h; exact ⟨vs, e, h.imp fun _ _ => CellR.move hs hr hn⟩
  | false => obtain ⟨c, e, h⟩ := h; exact ⟨c, e, h.move hs hr hn⟩

def SlotR (ρ : Nat → Value) (ok : Nat → Prop) (w : World) (nx : Nat) : Slot → Value → Prop
  | .v agg cs, v => VR ρ ok w nx agg cs v
  | .tup l, v => ∃ vs, v = .tuple vs.toArray ∧ All2 (fun (p : Bool × List Cell) u => VR ρ ok w nx p.1 p.2 u) l vs

theorem SlotR.move {ρ ρ' : Nat → Value} {ok ok' : Nat → Prop} {w w' : World} {nx nx' : Nat} (hs : Same ok ok' w w') (hr : ∀ l, l < nx → ρ' l = ρ l) (hn : nx ≤ nx') :
    ∀ {s : Slot} {v : Value}, SlotR ρ ok w nx s v → SlotR ρ' ok' w' nx' s v
  | .v _ _, _, h => VR.move hs hr hn h
  | .tup _, _, ⟨vs, e, h⟩ => ⟨vs, e, h.imp fun _ _ => VR.move hs hr hn⟩

def Ob.own : Ob → Bool
  | .box _ _ => true
  | .arr _ _ _ => true
  | .mp _ _ _ => true
  | _ => false

/-- rows of data, one behind the other -/
def Rows (ok : Nat → Prop) (w : World) (t : Ty) (xs : List t.T) (vs : List Value) : Prop := ∃ css, vs = css.flatten ∧ All2 (K ok w t) xs css

theorem Rows.move {ok ok' : Nat → Prop} {w w' : World} (hs : Same ok ok' w w') {t : Ty} {xs : List t.T} {vs : List Value} (h : Rows ok w t xs vs) : Rows ok' w' t xs vs := by
  obtain ⟨css, e, h⟩ := h
  exact ⟨css, e, h.imp fun _ _ => K_move hs⟩
theorem Rows.len {ok : Nat → Prop} {w : World} {t : Ty} : ∀ {xs : List t.T} {vs : List Value}, Rows ok w t xs vs → vs.length = xs.length * t.n := by
  rintro xs vs ⟨css, rfl, h⟩
  induction h with
  | nil => simp
  | cons h _ ih => simp only [List.flatten_cons, List.length_append, List.length_cons, K_len h, ih, Nat.add_mul, Nat.one_mul]; omega
theorem Rows.one {ok : Nat → Prop} {w : World} {t : Ty} {xs : List t.T} {vs : List Value} (h : Rows ok w t xs vs) : ∀ u ∈ vs, u.oneCell' = true := by
  obtain ⟨css, rfl, h⟩ := h
  induction h with
  | nil => intro u hu; simp at hu
  | cons h _ ih =>
    intro u hu
    rw [List.flatten_cons] at hu
    rcases List.mem_append.1 hu with hu | hu
    · exact K_one h u hu
    · exact ih u hu
theorem Rows.app {ok : Nat → Prop} {w : World} {t : Ty} {xs ys : List t.T} {vs us : List Value} (h : Rows ok w t xs vs) (k : Rows ok w t ys us) : Rows ok w t (xs ++ ys) (vs ++ us) := by
  obtain ⟨css, rfl, h⟩ := h
  obtain ⟨dss, rfl, k⟩ := k
  exact ⟨css ++ dss, by simp, h.app k⟩
theorem Rows.get {ok : Nat → Prop} {w : World} {t : Ty} {xs : List t.T} {vs : List Value} (h : Rows ok w t xs vs) :
    ∀ i x, xs[i]? = some x → ∃ cs, K ok w t x cs ∧ ∀ j v, cs[j]? = some v → vs[i * t.n + j]? = some v := by
  obtain ⟨css, rfl, h⟩ := h
  induction h with
  | nil => intro i x hx; simp at hx
  | cons h _ ih =>
    intro i x hx
    cases i with
    | zero =>
      simp at hx; subst hx
      refine ⟨_, h, fun j v hj => ?_⟩
      have hlt := (List.getElem?_eq_some_iff.1 hj).1
      simp only [List.flatten_cons, Nat.zero_mul, Nat.zero_add]
      rw [List.getElem?_append_left hlt]; exact hj
    | succ i =>
      obtain ⟨cs, hc, hv⟩ := ih i x (by simpa using hx)
      refine ⟨cs, hc, fun j v hj => ?_⟩
      have := hv j v hj
      have hl := K_len h
      simp only [List.flatten_cons]
      rw [List.getElem?_append_right (by rw [hl, Nat.add_mul]; omega), hl]
      rw [show (i + 1) * t.n + j - t.n = i * t.n + j by rw [Nat.add_mul]; omega]; exact this
/-- one row anew -/
theorem Rows.set {ok : Nat → Prop} {w : World} {t : Ty} {xs : List t.T} {vs : List Value} (h : Rows ok w t xs vs) {i : Nat} (hi : i < xs.length) {y : t.T} {cs : List Value} (hy : K ok w t y cs) :
    Rows ok w t (xs.set i y) (vs.take (i * t.n) ++ cs ++ vs.drop (i * t.n + t.n)) := by
  obtain ⟨css, rfl, h⟩ := h
  induction h generalizing i with
  | nil => simp at hi
  | @cons a b as bs h ht ih =>
    have hl := K_len h
    cases i with
    | zero =>
      refine ⟨cs :: bs, ?_, .cons hy ht⟩
      simp only [Nat.zero_mul, List.take_zero, List.nil_append, Nat.zero_add, List.flatten_cons]
      rw [List.drop_append_of_le_length (by omega), List.drop_of_length_le (by omega), List.nil_append]
    | succ i =>
      obtain ⟨dss, e, hd⟩ := ih (i := i) (by simpa using hi)
      refine ⟨b :: dss, ?_, .cons h hd⟩
      rw [show (b :: dss).flatten = b ++ dss.flatten from rfl, ← e, show (b :: bs).flatten = b ++ bs.flatten from rfl]
      rw [show (i + 1) * t.n = b.length + i * t.n by rw [hl, Nat.add_mul]; omega]
      rw [List.take_length_add_append, Nat.add_assoc, List.drop_length_add_append]
      simp [List.append_assoc]

/-- a map's entry -/
def EntR (ok : Nat → Prop) (w : World) (g : Bool) (t : Ty) (p : ByteArray × t.T) (e : MapEntry) : Prop :=
  e.key = .string p.1 ∧ ∃ cs, K ok w t p.2 cs ∧ (match g with | true => e.val = .agg cs.toArray | false => cs = [e.val])
theorem EntR.move {ok ok' : Nat → Prop} {w w' : World} (hs : Same ok ok' w w') {g : Bool} {t : Ty} {p : ByteArray × t.T} {e : MapEntry} (h : EntR ok w g t p e) : EntR ok' w' g t p e :=
  ⟨h.1, h.2.imp fun _ h => ⟨K_move hs h.1, h.2⟩⟩
def ObR (ρ : Nat → Value) (ok : Nat → Prop) (w : World) (nx : Nat) (l : Nat) : Ob → Prop
  | .box e cs => ∃ b vs, ρ l = .pointer (some ⟨b, 0, none⟩) ∧ w.heap[b]? = some (.cells vs.toArray e (0, 0)) ∧ All2 (CellR ρ ok w nx) cs vs
  | .arr e t xs => ∃ inner, w.ownsRow 0 e t.n (ρ l) xs.length inner ∧ Rows ok w t xs inner
  | .frz e t xs => K ok w (.sl e t) xs [ρ l]
  | .clo f a b => ∃ as bs, ρ l = .func (.func f) as.toArray bs.toArray ∧ All2 (CellR ρ ok w nx) a as ∧ All2 (CellR ρ ok w nx) b bs
  | .mp g t kvs => ∃ r es clock, ρ l = .map (some r) ∧ w.heap[r]? = some (.map es clock) ∧ All2 (EntR ok w g t) kvs es.toList ∧ MapKept.Stamped es clock

def blk : Value → Option Nat
  | .pointer (some a) => some a.block
  | .slice (some a) _ _ => some a.block
  | .map (some r) => some r
  | _ => none

theorem ownsRow_same {w w' : World} {e n m : Nat} {v : Value} {xs : List Value} (h : w.ownsRow 0 e n v m xs) (hb : ∀ b, blk v = some b → w'.heap[b]? = w.heap[b]?) : w'.ownsRow 0 e n v m xs := by
  refine ⟨h.1, ?_⟩
  rcases h.2 with hn | ⟨g, cap, cur, rfl, h0, hg, rest⟩
  · exact .inl hn
  · exact .inr ⟨g, cap, cur, rfl, h0, (hb g rfl).trans hg, rest⟩

theorem ObR.move {ρ ρ' : Nat → Value} {ok ok' : Nat → Prop} {w w' : World} {nx nx' l : Nat} (hs : Same ok ok' w w') (hr : ∀ l, l < nx → ρ' l = ρ l) (hn : nx ≤ nx') (hl : ρ' l = ρ l) :
    ∀ {o : Ob}, (o.own = true → ∀ b, blk (ρ l) = some b → w'.heap[b]? = w.heap[b]?) → ObR ρ ok w nx l o → ObR ρ' ok' w' nx' l o
  | .box e cs, hb, ⟨b, vs, h1, h2, h3⟩ => ⟨b, vs, hl.trans h1, (hb rfl b (by rw [h1]; rfl)).trans h2, h3.imp fun _ _ => CellR.move hs hr hn⟩
  | .arr e t xs, hb, ⟨inner, h1, h2⟩ => ⟨inner, by rw [hl]; exact ownsRow_same h1 (hb rfl), h2.move hs⟩
  | .frz e t xs, hb, h => by show K ok' w' (.sl e t) xs [ρ' l]; rw [hl]; exact K_move hs h
  | .clo f a b, hb, ⟨as, bs, h1, h2, h3⟩ => ⟨as, bs, hl.trans h1, h2.imp fun _ _ => CellR.move hs hr hn, h3.imp fun _ _ => CellR.move hs hr hn⟩
  | .mp g t kvs, hb, ⟨r, es, clock, h1, h2, h3, h4⟩ => ⟨r, es, clock, hl.trans h1, (hb rfl r (by rw [h1]; rfl)).trans h2, h3.imp fun _ _ => EntR.move hs, h4⟩

/-! ## Package variables: blocks that stay, and what holds of them -/
class HasG where
  bs : List Nat
  hold : World → Prop
  draw : Bool
  stable : ∀ w w' : World, hold w → (∀ b ∈ bs, w'.heap[b]? = w.heap[b]?) → hold w'
/-- no output; draws go on -/
def Quiet [HasG] (w w' : World) : Prop := w'.output = w.output ∧ (HasG.draw = true → w.drawn ≤ w'.drawn)
theorem Quiet.trans [HasG] {w w1 w2 : World} (k : Quiet w1 w2) (h : Quiet w w1) : Quiet w w2 := ⟨k.1.trans h.1, fun e => Nat.le_trans (h.2 e) (k.2 e)⟩
theorem Quiet.rfl [HasG] {w : World} : Quiet w w := ⟨Eq.refl _, fun _ => Nat.le_refl _⟩

def Glb [HasG] (ok : Nat → Prop) (w : World) : Prop := (∀ b ∈ HasG.bs, ok b) ∧ HasG.hold w
theorem Glb.move [HasG] {ok ok' : Nat → Prop} {w w' : World} (h : Glb ok w) (hs : Same ok ok' w w') : Glb ok' w' :=
  ⟨fun b hb => (hs b (h.1 b hb)).1, HasG.stable w w' h.2 fun b hb => (hs b (h.1 b hb)).2⟩
variable [HasG]

/-! ## The heap of names and the world's -/
structure RepH (ρ : Nat → Value) (ok : Nat → Prop) (w : World) (hp : Heap) (nx : Nat) : Prop where
  ob : ∀ l o, hp l = some o → l < nx ∧ ObR ρ ok w nx l o
  okl : ∀ b, ok b → b < w.heap.size
  sep : ∀ l o b, hp l = some o → o.own = true → blk (ρ l) = some b → ¬ ok b
  dis : ∀ l m o p b, hp l = some o → hp m = some p → o.own = true → p.own = true → blk (ρ l) = some b → blk (ρ m) = some b → l = m
  gl : Glb ok w

def RepE (ρ : Nat → Value) (ok : Nat → Prop) (w : World) (nx : Nat) (env : Env) (tmps : Array Value) : Prop :=
  ∀ t s, env t = some s → ∃ v, tmps[t]? = some v ∧ SlotR ρ ok w nx s v

/-- an own object's block is there -/
theorem RepH.lt {ρ ok w hp nx} (h : RepH ρ ok w hp nx) {l : Nat} {o : Ob} {b : Nat} (ho : hp l = some o) (hw : o.own = true) (hb : blk (ρ l) = some b) : b < w.heap.size := by
  have hr := (h.ob l o ho).2
  cases o with
  | box e cs =>
    obtain ⟨g, vs, h1, h2, _⟩ := hr
    rw [h1] at hb; cases hb
    exact (Array.getElem?_eq_some_iff.1 h2).1
  | arr e t xs =>
    obtain ⟨inner, h1, _⟩ := hr
    rcases h1.2 with ⟨hn, _⟩ | ⟨g, cap, cur, hv, _, hg, _⟩
    · rw [hn] at hb; cases hb
    · rw [hv] at hb; cases hb
      exact (Array.getElem?_eq_some_iff.1 hg).1
  | mp g t kvs =>
    obtain ⟨r, es, clock, h1, h2, _⟩ := hr
    rw [h1] at hb; cases hb
    exact (Array.getElem?_eq_some_iff.1 h2).1
  | frz _ _ _ => cases hw
  | clo _ _ _ => cases hw

/-- how a fragment goes on: D: the names that it wrote -/
structure Goes (ρ : Nat → Value) (ok : Nat → Prop) (w : World) (hp : Heap) (nx : Nat) (D : List Nat) (ρ' : Nat → Value) (ok' : Nat → Prop) (w' : World) (hp' : Heap) (nx' : Nat) : Prop where
  os : w'.os = w.os
  tape : w'.tape = w.tape
  output : Quiet w w'
  size : w.heap.size ≤ w'.heap.size
  nxl : nx ≤ nx'
  same : ∀ b, b < w.heap.size → (∀ l ∈ D, l < nx → ∀ o, hp l = some o → o.own = true → blk (ρ l) ≠ some b) → w'.heap[b]? = w.heap[b]?
  rho : ∀ l, l < nx → ρ' l = ρ l
  okm : ∀ b, ok b → ok' b
  okn : ∀ b, ok' b → ok b ∨ w.heap.size ≤ b ∨ ∃ l ∈ D, l < nx ∧ ∃ o, hp l = some o ∧ o.own = true ∧ blk (ρ l) = some b
  hps : ∀ l, l < nx → l ∉ D → hp' l = hp l
  stay : ∀ l, l < nx → ∀ o, hp' l = some o → ∃ p, hp l = some p ∧ (o.own = true → p.own = true)
  nb : ∀ l o b, nx ≤ l → hp' l = some o → o.own = true → blk (ρ' l) = some b → w.heap.size ≤ b ∨ ∃ m ∈ D, m < nx ∧ ∃ p, hp m = some p ∧ p.own = true ∧ blk (ρ m) = some b

theorem Goes.refl {ρ ok w hp nx} (hN : ∀ l o, hp l = some o → l < nx) : Goes ρ ok w hp nx [] ρ ok w hp nx :=
  ⟨rfl, rfl, Quiet.rfl, Nat.le_refl _, Nat.le_refl _, fun _ _ _ => rfl, fun _ _ => rfl, fun _ h => h, fun _ h => .inl h, fun _ _ _ => rfl,
   fun _ _ o h => ⟨o, h, id⟩, fun l o _ hl ho _ _ => absurd (hN l o ho) (by omega)⟩

theorem Goes.trans {ρ ok w hp nx D ρ1 ok1 w1 hp1 nx1 D1 ρ2 ok2 w2 hp2 nx2} (h : Goes ρ ok w hp nx D ρ1 ok1 w1 hp1 nx1) (k : Goes ρ1 ok1 w1 hp1 nx1 D1 ρ2 ok2 w2 hp2 nx2) :
    Goes ρ ok w hp nx (D1 ++ D) ρ2 ok2 w2 hp2 nx2 := by
  have hnx := h.nxl
  -- an own object in the middle, with a block: where it comes from
  have mid : ∀ l o b, hp1 l = some o → o.own = true → blk (ρ1 l) = some b → (l < nx ∧ ∃ p, hp l = some p ∧ p.own = true ∧ blk (ρ l) = some b) ∨
      (nx ≤ l ∧ (w.heap.size ≤ b ∨ ∃ m ∈ D, m < nx ∧ ∃ p, hp m = some p ∧ p.own = true ∧ blk (ρ m) = some b)) := by
    intro l o b ho hw hb
    by_cases hl : l < nx
    · obtain ⟨p, hp', hpw⟩ := h.stay l hl o ho
      exact .inl ⟨hl, p, hp', hpw hw, by rw [← h.rho l hl]; exact hb⟩
    · exact .inr ⟨by omega, h.nb l o b (by omega) ho hw hb⟩
  refine ⟨k.os.trans h.os, k.tape.trans h.tape, k.output.trans h.output, Nat.le_trans h.size k.size, Nat.le_trans h.nxl k.nxl, ?_, ?_, fun b hb => k.okm b (h.okm b hb), ?_, ?_, ?_, ?_⟩
  · intro b hb hne
    have e1 : w1.heap[b]? = w.heap[b]? := h.same b hb fun l hl => hne l (List.mem_append_right _ hl)
    refine (k.same b (Nat.lt_of_lt_of_le hb h.size) ?_).trans e1
    intro l hl hlt o ho hw hbl
    rcases mid l o b ho hw hbl with ⟨h1, p, h2, h3, h4⟩ | ⟨h1, h2 | ⟨m, hm, h3, p, h4, h5, h6⟩⟩
    · exact hne l (List.mem_append_left _ hl) h1 p h2 h3 h4
    · omega
    · exact hne m (List.mem_append_right _ hm) h3 p h4 h5 h6
  · intro l hl
    exact (k.rho l (by omega)).trans (h.rho l hl)
  · intro b hb
    rcases k.okn b hb with h1 | h1 | ⟨l, hl, hlt, o, ho, hw, hbl⟩
    · rcases h.okn b h1 with h2 | h2 | ⟨l, hl, h3⟩
      · exact .inl h2
      · exact .inr (.inl h2)
      · exact .inr (.inr ⟨l, List.mem_append_right _ hl, h3⟩)
    · exact .inr (.inl (Nat.le_trans h.size h1))
    · rcases mid l o b ho hw hbl with ⟨h1, p, h2, h3, h4⟩ | ⟨h1, h2 | ⟨m, hm, h3, p, h4, h5, h6⟩⟩
      · exact .inr (.inr ⟨l, List.mem_append_left _ hl, h1, p, h2, h3, h4⟩)
      · exact .inr (.inl h2)
      · exact .inr (.inr ⟨m, List.mem_append_right _ hm, h3, p, h4, h5, h6⟩)
  · intro l hl hn
    rw [k.hps l (by omega) (fun hm => hn (List.mem_append_left _ hm))]
    exact h.hps l hl (fun hm => hn (List.mem_append_right _ hm))
  · intro l hl o ho
    obtain ⟨p, h1, h2⟩ := k.stay l (by omega) o ho
    obtain ⟨q, h3, h4⟩ := h.stay l hl p h1
    exact ⟨q, h3, fun hw => h4 (h2 hw)⟩
  · intro l o b hl ho hw hb
    by_cases hl1 : nx1 ≤ l
    · rcases k.nb l o b hl1 ho hw hb with h1 | ⟨m, hm, h2, p, h3, h4, h5⟩
      · exact .inl (Nat.le_trans h.size h1)
      · rcases mid m p b h3 h4 h5 with ⟨g1, q, g2, g3, g4⟩ | ⟨g1, g2 | ⟨m', hm', g3, q, g4, g5, g6⟩⟩
        · exact .inr ⟨m, List.mem_append_left _ hm, g1, q, g2, g3, g4⟩
        · exact .inl g2
        · exact .inr ⟨m', List.mem_append_right _ hm', g3, q, g4, g5, g6⟩
    · obtain ⟨p, h1, h2⟩ := k.stay l (by omega) o ho
      have hb1 : blk (ρ1 l) = some b := by rw [← k.rho l (by omega)]; exact hb
      rcases h.nb l p b hl h1 (h2 hw) hb1 with g | ⟨m, hm, g⟩
      · exact .inl g
      · exact .inr ⟨m, List.mem_append_right _ hm, g⟩

/-- what is data stays as it is -/
theorem Goes.sameOk {ρ ok w hp nx D ρ' ok' w' hp' nx'} (h : Goes ρ ok w hp nx D ρ' ok' w' hp' nx') (hH : RepH ρ ok w hp nx) : Same ok ok' w w' := fun b hb =>
  ⟨h.okm b hb, h.same b (hH.okl b hb) fun l _ _ o ho hw hbl => hH.sep l o b ho hw hbl hb⟩

theorem RepE.move {ρ ok w hp nx D ρ' ok' w' hp' nx' env tmps} (he : RepE ρ ok w nx env tmps) (h : Goes ρ ok w hp nx D ρ' ok' w' hp' nx') (hH : RepH ρ ok w hp nx) : RepE ρ' ok' w' nx' env tmps := fun t s hs =>
  let ⟨v, h1, h2⟩ := he t s hs
  ⟨v, h1, h2.move (h.sameOk hH) h.rho h.nxl⟩

theorem RepE.put {ρ ok w nx env tmps} (he : RepE ρ ok w nx env tmps) {d : Option Nat} {v : Value} {s : Option Slot} (hs : ∀ x, s = some x → SlotR ρ ok w nx x v) (hd : ∀ t, d = some t → t < tmps.size) :
    RepE ρ ok w nx (setDst env d s) (match d with | some t => tmps.setIfInBounds t v | none => tmps) := by
  cases d with
  | none => exact he
  | some t =>
    intro i x hx
    simp only [setDst, Lv.put] at hx
    by_cases hi : Nat.beq i t = true
    · obtain rfl := Nat.eq_of_beq_eq_true hi
      rw [if_pos hi] at hx
      exact ⟨v, by simp [hd i rfl], hs x hx⟩
    · rw [if_neg hi] at hx
      obtain ⟨u, h1, h2⟩ := he i x hx
      refine ⟨u, ?_, h2⟩
      rw [Array.getElem?_setIfInBounds_ne (fun e => hi (by rw [e]; exact Nat.beq_refl i))]
      exact h1
end Lv
