/- The data of layer 33 as plain Lean, and what the walked functions compute. No program in sight. -/
import Derived.Test.YteadlkecngfcoaaGreatDoorBase
namespace Go.Proofs.YteadlkecngfcoaaGreatDoor
open Go.RowKit

structure Part where
  kind : Int
  lit : Int
  kids : List Int
structure Dnnf where
  vars : Int
  parts : List Part

/-- a slice of parts -/
def Parts (F : Nat → Prop) (w : World) (v : Value) (ps : List Part) : Prop :=
  ∃ us : List (Value × Value × Value), Sl3 F w v us ∧ us.length = ps.length ∧ ∀ (j : Nat) u p, us[j]? = some u → ps[j]? = some p →
    u.1 = .int .i64 p.kind ∧ u.2.1 = .int .i64 p.lit ∧ Ints F w u.2.2 p.kids ∧ I64 p.kind ∧ I64 p.lit

section parts
variable {F G : Nat → Prop} {w w' : World} {v : Value} {ps : List Part}
theorem Parts.mono (h : Parts F w v ps) (hg : ∀ b, F b → G b) : Parts G w v ps := by
  obtain ⟨us, h1, h2, h3⟩ := h
  exact ⟨us, h1.mono hg, h2, fun j u p hu hp => let ⟨a, b, c, d⟩ := h3 j u p hu hp; ⟨a, b, c.mono hg, d⟩⟩
theorem Parts.move (h : Parts F w v ps) (hm : ∀ b, F b → b < w.heap.size → w'.heap[b]? = w.heap[b]?) : Parts F w' v ps := by
  obtain ⟨us, h1, h2, h3⟩ := h
  exact ⟨us, h1.move hm, h2, fun j u p hu hp => let ⟨a, b, c, d⟩ := h3 j u p hu hp; ⟨a, b, c.move hm, d⟩⟩
theorem Parts.below (h : Parts F w v ps) (hb : Below w.heap.size w w') : Parts F w' v ps := h.move fun b _ hlt => hb.block b hlt
theorem Parts.len {a : Option Addr} {n cap : Nat} (h : Parts F w (.slice a n cap) ps) : n = ps.length ∧ n ≤ 9223372036854775807 := by
  obtain ⟨us, h1, h2, h3⟩ := h
  rw [← h2]; exact h1.len
theorem Parts.form (h : Parts F w v ps) : ∃ a cap, v = .slice a ps.length cap ∧ ps.length ≤ 9223372036854775807 := by
  obtain ⟨us, h1, h2, h3⟩ := h
  rw [← h2]; exact h1.form
theorem Parts.at {a : Option Addr} {n cap k : Nat} {p : Part} (h : Parts F w (.slice a n cap) ps) (hx : ps[k]? = some p) :
    ∃ b off kv, a = some ⟨b, off, none⟩ ∧ F b ∧ b < w.heap.size ∧ w.cell? ⟨b, off + k * 3, none⟩ = some (.int .i64 p.kind) ∧ w.cell? ⟨b, off + k * 3 + 1, none⟩ = some (.int .i64 p.lit) ∧
      w.cell? ⟨b, off + k * 3 + 2, none⟩ = some kv ∧ Ints F w kv p.kids ∧ I64 p.kind ∧ I64 p.lit := by
  obtain ⟨us, h1, h2, h3⟩ := h
  have hk : k < us.length := by rw [h2]; exact (List.getElem?_eq_some_iff.1 hx).1
  obtain ⟨b, off, e1, e2, e3, e4, e5, e6⟩ := h1.at (List.getElem?_eq_getElem hk)
  obtain ⟨f1, f2, f3, f4, f5⟩ := h3 k _ p (List.getElem?_eq_getElem hk) hx
  exact ⟨b, off, _, e1, e2, e3, by rw [e4, f1], by rw [e5, f2], e6, f3, f4, f5⟩
theorem Parts.nil (F : Nat → Prop) (w : World) : Parts F w (.slice none 0 0) [] := ⟨[], Sl3.nil F w, rfl, by simp⟩
end parts

/-! ### few -/
def fewD : List Part → Int → Bool
  | [], _ => true
  | p :: r, left => if left < p.kids.length then false else fewD r (left - p.kids.length)
def few (ps : List Part) : Bool := fewD ps 200 && decide (ps.length ≤ 60)

/-! ### shaped -/
def shapedK (kind lit : Int) (n : Nat) (vars : Int) : Int :=
  if kind < 0 ∨ 4 < kind ∨ ((kind = 0 ∨ kind = 1 ∨ kind = 2) ∧ 0 < n) ∨ ((kind = 0 ∨ kind = 1 ∨ kind = 3) ∧ lit ≠ 0) ∨ (kind = 4 ∧ n ≠ 2) then 1
  else if (kind = 2 ∧ (lit = 0 ∨ lit < -vars ∨ vars < lit)) ∨ (kind = 4 ∧ (lit < 1 ∨ vars < lit)) then 3
  else 0
def shapedM (p : Part) (vars : Int) : Int := shapedK p.kind p.lit p.kids.length vars

/-! ### mask, checked -/
def ownM (lit : Int) : Nat := if lit = 0 then 0 else 2 ^ (lit.natAbs - 1)
def maskGo (kind : Int) (own : Nat) (ms : List Nat) : List Int → Nat → Option Nat
  | [], all => some all
  | k :: r, all =>
    if (kind = 3 ∧ all &&& ms.getD k.toNat 0 ≠ 0) ∨ (kind = 4 ∧ own &&& ms.getD k.toNat 0 ≠ 0) then none
    else maskGo kind own ms r (all ||| ms.getD k.toNat 0)
def maskM (p : Part) (ms : List Nat) : Option Nat := maskGo p.kind (ownM p.lit) ms p.kids (ownM p.lit)

def checkedGo (vars : Int) : List Part → List Nat → Int × List Nat
  | [], ms => (0, ms)
  | p :: r, ms =>
    if shapedM p vars ≠ 0 then (shapedM p vars, [])
    else if p.kids.any (fun k => decide (k < 0 ∨ (ms.length : Int) ≤ k)) then (10, [])
    else match maskM p ms with
      | none => (2, [])
      | some m => checkedGo vars r (ms ++ [m])
def checkedM (d : Dnnf) : Int × List Nat :=
  if d.vars < 0 then (1, []) else if 40 < d.vars ∨ 16384 < d.parts.length then (4, []) else if d.parts.length = 0 then (1, []) else checkedGo d.vars d.parts []

/-- a pointer to a form (made from block B on) of the normal form with vars and the parts pv -/
def FormAt (B : Nat) (w : World) (fv : Value) (vars : Int) (pv : Value) (ms : List Nat) : Prop :=
  ∃ b mv, fv = .pointer (some ⟨b, 0, none⟩) ∧ B ≤ b ∧ w.cell? ⟨b, 0, none⟩ = some (.int .i64 vars) ∧ w.cell? ⟨b, 1, none⟩ = some pv ∧ w.cell? ⟨b, 2, none⟩ = some mv ∧ Nats (fun b => B ≤ b) w mv ms
theorem FormAt.below {B : Nat} {w w' : World} {fv : Value} {vars : Int} {pv : Value} {ms : List Nat} (h : FormAt B w fv vars pv ms) (hb : Below w.heap.size w w') : FormAt B w' fv vars pv ms := by
  obtain ⟨b, mv, h1, h2, h3, h4, h5, h6⟩ := h
  exact ⟨b, mv, h1, h2, (hb.cell (block_lt h3)).trans h3, (hb.cell (block_lt h4)).trans h4, (hb.cell (block_lt h5)).trans h5, h6.below hb⟩

/-- what checked answers: the pointer to a form, and the code -/
def CheckedPost (W : World) (vars : Int) (pv : Value) (M : Int × List Nat) (e : Ending) (w' : World) : Prop :=
  ∃ fv, e = .returned (.tuple #[fv, .int .i64 M.1]) ∧ Below W.heap.size W w' ∧ (M.1 ≠ 0 → fv = .pointer none) ∧ (M.1 = 0 → FormAt W.heap.size w' fv vars pv M.2)
theorem CheckedPost.no {W : World} {vars : Int} {pv : Value} {M : Int × List Nat} {c : Int} {w' : World} (hb : Below W.heap.size W w') (h : M.1 = c) (hc : c ≠ 0) :
    CheckedPost W vars pv M (.returned (.tuple #[.pointer none, .int .i64 c])) w' := ⟨_, by rw [h], hb, fun _ => rfl, fun h0 => absurd (h ▸ h0) hc⟩
theorem CheckedPost.yes {W : World} {vars : Int} {pv fv : Value} {M : Int × List Nat} {w' : World} (hb : Below W.heap.size W w') (h : M.1 = 0) (hf : FormAt W.heap.size w' fv vars pv M.2) :
    CheckedPost W vars pv M (.returned (.tuple #[fv, .int .i64 0])) w' := ⟨_, by rw [h], hb, fun h0 => absurd h h0, fun _ => hf⟩

theorem shaped_lit {p : Part} {vars : Int} (h : shapedM p vars = 0) (h0 : 0 ≤ vars) (h1 : vars ≤ 40) : -40 ≤ p.lit ∧ p.lit ≤ 40 := by
  unfold shapedM shapedK at h
  split at h
  · cases h
  · split at h
    · cases h
    · omega

theorem ownM_lt (lit : Int) (h1 : -40 ≤ lit) (h2 : lit ≤ 40) : ownM lit < 1099511627776 := by
  unfold ownM
  split
  · omega
  · have : lit.natAbs - 1 < 40 := by omega
    exact Nat.lt_of_lt_of_le (Nat.pow_lt_pow_right (by decide) this) (by decide)
theorem or_lt {a b : Nat} (h1 : a < 1099511627776) (h2 : b < 1099511627776) : a ||| b < 1099511627776 := Nat.or_lt_two_pow (n := 40) h1 h2
theorem and_lt {a b : Nat} (h1 : a < 1099511627776) : a &&& b < 1099511627776 := Nat.lt_of_le_of_lt Nat.and_le_left h1
theorem maskGo_lt {kind : Int} {own : Nat} {ms : List Nat} (hms : ∀ m ∈ ms, m < 1099511627776) : ∀ (ks : List Int) (all m : Nat), all < 1099511627776 → maskGo kind own ms ks all = some m → m < 1099511627776
  | [], all, m, ha, h => by simp [maskGo] at h; omega
  | k :: r, all, m, ha, h => by
    simp only [maskGo] at h
    split at h
    · cases h
    · refine maskGo_lt hms r _ m (or_lt ha ?_) h
      rcases Nat.lt_or_ge k.toNat ms.length with hk | hk
      · simp only [List.getD, List.getElem?_eq_getElem hk, Option.getD_some]; exact hms _ (List.getElem_mem hk)
      · simp [List.getD, List.getElem?_eq_none hk]
theorem maskM_lt {p : Part} {ms : List Nat} {m : Nat} (h : maskM p ms = some m) (hms : ∀ m ∈ ms, m < 1099511627776) (h1 : -40 ≤ p.lit) (h2 : p.lit ≤ 40) : m < 1099511627776 :=
  maskGo_lt hms _ _ _ (ownM_lt _ h1 h2) h

/-! ### the statements' own check -/
def leafB (kind : Int) : Bool := kind == 0 || kind == 1 || kind == 2
def namesB (kind : Int) : Bool := kind == 2 || kind == 4
def bad1 (kind lit : Int) (n : Nat) : Bool := (!leafB kind && kind != 3 && kind != 4) || (leafB kind && decide (0 < n)) || (!namesB kind && lit != 0) || (kind == 4 && (n : Int) != 2)
def bad2 (kind lit vars : Int) : Bool := namesB kind && (lit == 0 || decide (vars < lit) || decide (lit < -vars) || (kind == 4 && decide (lit < 0)))
def clash (kind lit : Int) (ms : List Bool) : List Bool → Nat → Bool
  | [], _ => false
  | b :: r, v => (b && ms.getD v false && (decide (kind = 3) || decide ((v : Int) = lit))) || clash kind lit ms r (v + 1)
def andGo (kind : Int) : List Bool → Nat → List Bool → List Bool
  | [], _, ms => ms
  | b :: r, v, ms => andGo kind r (v + 1) (if b = true ∧ kind = 3 then ms.set v true else ms)
def orGo : List Bool → Nat → List Bool → List Bool
  | [], _, ms => ms
  | b :: r, v, ms => orGo r (v + 1) (ms.set v (ms.getD v false || b))
def kids1 (kind lit : Int) (mss : List (List Bool)) : List Int → List Bool → Option (List Bool)
  | [], ms => some ms
  | x :: r, ms => if clash kind lit ms (mss.getD x.toNat []) 0 then none else kids1 kind lit mss r (andGo kind (mss.getD x.toNat []) 0 ms)
def kids2 (mss : List (List Bool)) : List Int → List Bool → List Bool
  | [], ms => ms
  | x :: r, ms => kids2 mss r (orGo (mss.getD x.toNat []) 0 ms)
/-- what part answers: the code and the variables 0 to vars -/
def partM (vars : Int) (mss : List (List Bool)) (p : Part) : Int × List Bool :=
  if bad1 p.kind p.lit p.kids.length then (1, [])
  else if bad2 p.kind p.lit vars then (3, [])
  else if p.kids.any (fun k => decide (k < 0 ∨ (mss.length : Int) ≤ k)) then (10, [])
  else
    let m0 := List.replicate (vars.toNat + 1) false
    match kids1 p.kind p.lit mss p.kids (if namesB p.kind then m0.set p.lit.natAbs true else m0) with
    | none => (2, [])
    | some m => (0, kids2 mss p.kids m)
def PartPost (W : World) (M : Int × List Bool) (e : Ending) (w' : World) : Prop :=
  ∃ rv, e = .returned (.tuple #[rv, .int .i64 M.1]) ∧ Below W.heap.size W w' ∧ (M.1 ≠ 0 → rv = .slice none 0 0) ∧ (M.1 = 0 → Bools (fun b => W.heap.size ≤ b) w' rv M.2)
theorem PartPost.no {W : World} {M : Int × List Bool} {c : Int} {w' : World} (hb : Below W.heap.size W w') (h : M.1 = c) (hc : c ≠ 0) :
    PartPost W M (.returned (.tuple #[.slice none 0 0, .int .i64 c])) w' := ⟨_, by rw [h], hb, fun _ => rfl, fun h0 => absurd (h ▸ h0) hc⟩
theorem PartPost.yes {W : World} {M : Int × List Bool} {rv : Value} {w' : World} (hb : Below W.heap.size W w') (h : M.1 = 0) (hf : Bools (fun b => W.heap.size ≤ b) w' rv M.2) :
    PartPost W M (.returned (.tuple #[rv, .int .i64 0])) w' := ⟨_, by rw [h], hb, fun h0 => absurd h h0, fun _ => hf⟩
def checkLGo (V : Nat) : List Part → List (List Bool) → Int
  | [], _ => 0
  | p :: r, mss => if (partM V mss p).1 ≠ 0 then (partM V mss p).1 else checkLGo V r (mss ++ [(partM V mss p).2])
def checkL (d : Dnnf) : Int :=
  if d.vars < 0 then 1 else if 40 < d.vars ∨ 16384 < d.parts.length then 4 else if d.parts.length = 0 then 1 else checkLGo d.vars.toNat d.parts []
theorem andGo_len (kind : Int) : ∀ (row : List Bool) (v : Nat) (ms : List Bool), (andGo kind row v ms).length = ms.length
  | [], _, _ => rfl
  | b :: r, v, ms => by rw [andGo, andGo_len]; split <;> simp
theorem orGo_len : ∀ (row : List Bool) (v : Nat) (ms : List Bool), (orGo row v ms).length = ms.length
  | [], _, _ => rfl
  | b :: r, v, ms => by rw [orGo, orGo_len]; simp

theorem kids1_len {kind lit : Int} {mss : List (List Bool)} : ∀ (ks : List Int) (ms m : List Bool), kids1 kind lit mss ks ms = some m → m.length = ms.length
  | [], ms, m, h => by simp [kids1] at h; rw [h]
  | k :: r, ms, m, h => by
    simp only [kids1] at h
    split at h
    · cases h
    · rw [kids1_len r _ _ h, andGo_len]
theorem kids2_len {mss : List (List Bool)} : ∀ (ks : List Int) (ms : List Bool), (kids2 mss ks ms).length = ms.length
  | [], ms => rfl
  | k :: r, ms => by rw [kids2, kids2_len r, orGo_len]
theorem partM_len {V : Nat} {mss : List (List Bool)} {p : Part} (h : (partM V mss p).1 = 0) : (partM V mss p).2.length = V + 1 := by
  unfold partM at h ⊢
  by_cases h1 : bad1 p.kind p.lit p.kids.length = true
  · rw [if_pos h1] at h; cases h
  rw [if_neg h1] at h ⊢
  by_cases h2 : bad2 p.kind p.lit V = true
  · rw [if_pos h2] at h; cases h
  rw [if_neg h2] at h ⊢
  by_cases h3 : (p.kids.any fun k => decide (k < 0 ∨ (mss.length : Int) ≤ k)) = true
  · rw [if_pos h3] at h; cases h
  rw [if_neg h3] at h ⊢
  simp only at h ⊢
  generalize hk : kids1 p.kind p.lit mss p.kids _ = o at h ⊢
  cases o with
  | none => cases h
  | some m =>
    simp only
    rw [kids2_len, kids1_len _ _ _ hk]
    split <;> simp
end Go.Proofs.YteadlkecngfcoaaGreatDoor
