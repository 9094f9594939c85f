/- A step law for a region that draws and appends; slices of clauses whose rows lie low. No condition. -/
import Derived.Test.YtjbhglmmakkkgaaSg
import Derived.Test.YtjbhglmmakkkgaaSB3
import Derived.Test.YtjbhglmmakkkgaaSA1
import Derived.Deep.RegionLaw
namespace Go.Proofs.Ytjbhglmmakkkgaa
open Go.ChangeShapes Go.WideShapes Go.ChangeAt Go.RowKit
set_option linter.unusedVariables false

/-- append of one element onto an owned slice, as one step of a region that draws -/
theorem step_push1 {P : Program} {ops : Array Oper} {o : Oper} {a : Act} {w : World} {K : Act → World → Prop} {Q : Exit → Act → World → Prop} {X : Prop}
    (hgd : o.guard = none) (s x : Operand) (t : TypeId)
    (ho : o.op = .call { callee := .builtin .append, args := #[s, x], argTypes := #[t, t] })
    (E : TypeId) (z : Value) (bytes : Nat) (ht : P.underlying t = some (.slice E)) (hinfo : (P.info? E).map (fun i => (i.zero, i.size, i.bytes)) = some (some z, 1, bytes)) (hz1 : z.cells.size = 1)
    (base : Nat) (v : Value) (n : Nat) (xs : List Value) (B : Nat) (u : Value)
    (hs : a.eval s = v) (hx : a.eval x = .slice (some ⟨B, 0, none⟩) 1 1) (hc : w.cell? ⟨B, 0, none⟩ = some u) (hown : w.ownsRow base E 1 v n xs) (hu : u.oneCell' = true)
    (hn : (n + 1) * bytes ≤ 140737488355328) (hby : 1 ≤ bytes) (hbase : base ≤ w.heap.size)
    (h : ∀ (g cap' : Nat) w', w'.ownsRow base E 1 (.slice (some ⟨g, 0, none⟩) (n + 1) cap') (n + 1) (xs ++ [u]) → w.grownBy w' v.ownBlock → (v.ownBlock = some g ∨ w.heap.size ≤ g) → K (a.put o.dst (.slice (some ⟨g, 0, none⟩) (n + 1) cap')) w') :
    if Region.wanted o (yielded ops a.tmps) = true then Oper.wp P o a w K Q else X := by
  have hw : Region.wanted o (yielded ops a.tmps) = true := by simp [Region.wanted, hgd]
  rw [if_pos hw]
  obtain ⟨i, hi, hz, h1, h2⟩ := info_parts hinfo
  have hle : n + 1 ≤ (n + 1) * bytes := Nat.le_mul_of_pos_right _ hby
  obtain ⟨v', w', hr, k2, k3, k4, k5⟩ := run_append_own_at (P := P) w base t o.type E i z 1 bytes ht hi hz h1 h2 hz1 (by decide) v n xs hown ⟨B, 0, none⟩ 1 1 [u] rfl
    (fun j y hj => by
      match j, hj with
      | 0, hj => simp at hj; subst hj; simpa [Addr.add] using hc)
    (fun y hy => by simp at hy; subst hy; exact hu) (by unfold maxLen; omega) hn hbase
  unfold Oper.wp execOp
  simp only [ho, resolve, invoke, builtin, Sem.run_bind, Sem.run_pure, Result.andThen_ok, List.map_toArray, List.map_cons, List.map_nil, hs, hx, hr]
  rcases k2.2 with ⟨_, h0⟩ | ⟨g, cap', cur, rfl, hb, hh, _⟩
  · omega
  refine h g cap' w' k2 k3 ?_
  rcases k5 with h | h
  · exact .inl h.symm
  · right; simp [Value.ownBlock] at h; omega

theorem own_heap {w w' : World} {base : Nat} {e : TypeId} {size : Nat} {v : Value} {n : Nat} {xs : List Value} (h : w.ownsRow base e size v n xs) (hb : w'.heap = w.heap) : w'.ownsRow base e size v n xs := own_same h fun k _ => by rw [hb]
/-- a slice of clauses that the call owns from block B + 2 on; its rows lie below block B -/
def RowsY (w : World) (B : Nat) (v : Value) (cs : List (List Int)) : Prop :=
  ∃ us, w.ownsRow (B + 2) 25 1 v cs.length us ∧ us.length = cs.length ∧ ∀ (j : Nat) u c, us[j]? = some u → cs[j]? = some c → Ints (fun b => b < B) w u c
theorem RowsY.nil (w : World) (B : Nat) : RowsY w B (.slice none 0 0) [] := ⟨[], World.ownsRow_nil _ _ _ _, rfl, by simp⟩
theorem RowsY.form {w : World} {p : Nat} {v : Value} {ls : List (List Int)} (h : RowsY w p v ls) : ∃ a c, v = .slice a ls.length c := by
  obtain ⟨us, h1, _⟩ := h
  exact own_form h1
theorem RowsY.block {w : World} {B : Nat} {v : Value} {ls : List (List Int)} (h : RowsY w B v ls) : ∀ k, v.ownBlock = some k → B + 2 ≤ k ∧ k < w.heap.size := by
  obtain ⟨us, h1, _⟩ := h
  exact h1.lt
theorem RowsY.keep {w w' : World} {B : Nat} {v : Value} {ls : List (List Int)} (h : RowsY w B v ls) (hb : Below B w w') (ho : ∀ k, v.ownBlock = some k → w'.heap[k]? = w.heap[k]?) : RowsY w' B v ls := by
  obtain ⟨us, h1, h2, h3⟩ := h
  exact ⟨us, own_same h1 ho, h2, fun j u c hu hc => (h3 j u c hu hc).move fun b hb' _ => hb.block b hb'⟩
theorem RowsY.clss {w : World} {B : Nat} {v : Value} {ls : List (List Int)} (h : RowsY w B v ls) (hn : ls.length ≤ 9223372036854775807) : Clss (fun _ => True) w v ls := by
  obtain ⟨us, h1, h2, h3⟩ := h
  exact ⟨us, (ownsRow_sl1 h1 hn).mono fun _ _ => trivial, h2, fun j u c hu hc => (h3 j u c hu hc).mono fun _ _ => trivial⟩
theorem RowsY.push {w w' : World} {B g cap : Nat} {rv : Value} {ls : List (List Int)} {c : List Int} {us : List Value}
    (h2 : us.length = ls.length) (h3 : ∀ (j : Nat) u c, us[j]? = some u → ls[j]? = some c → Ints (fun b => b < B) w u c) (hr : Ints (fun b => b < B) w rv c)
    (hown : w'.ownsRow (B + 2) 25 1 (.slice (some ⟨g, 0, none⟩) (ls.length + 1) cap) (ls.length + 1) (us ++ [rv])) (hb : Below B w w') :
    RowsY w' B (.slice (some ⟨g, 0, none⟩) (ls.length + 1) cap) (ls ++ [c]) := by
  have mv : ∀ u m, Ints (fun b => b < B) w u m → Ints (fun b => b < B) w' u m := fun u m hu => hu.move fun b hb' _ => hb.block b hb'
  refine ⟨_, by rw [List.length_append]; exact hown, by simp [h2], fun j u x hu hx => ?_⟩
  rcases Nat.lt_or_ge j us.length with hj | hj
  · rw [List.getElem?_append_left hj] at hu
    rw [List.getElem?_append_left (by omega)] at hx
    exact mv u x (h3 j u x hu hx)
  · rw [List.getElem?_append_right hj] at hu
    rw [List.getElem?_append_right (by omega)] at hx
    rw [h2] at hu
    rcases hk : j - ls.length with _ | k
    · rw [hk] at hu hx
      simp at hu hx
      subst hu hx
      exact mv rv c hr
    · rw [hk] at hu
      simp at hu
/-- a formula that the law makes itself -/
structure Own3 (w : World) (p : Nat) (vars keep : Int) (v : Value) : Prop where
  c0 : w.cell? ⟨p, 0, none⟩ = some (.int .i64 vars)
  c1 : w.cell? ⟨p, 1, none⟩ = some (.int .i64 keep)
  c2 : w.cell? ⟨p, 2, none⟩ = some v
  fz : w.frozen? ⟨p, 2, none⟩ = false
theorem Own3.same {w w' : World} {p : Nat} {vars keep : Int} {v : Value} (h : Own3 w p vars keep v) (hb : w'.heap[p]? = w.heap[p]?) : Own3 w' p vars keep v :=
  ⟨(World.cell?_of_block hb).trans h.c0, (World.cell?_of_block hb).trans h.c1, (World.cell?_of_block hb).trans h.c2, (World.frozen?_of_block hb).trans h.fz⟩
theorem Own3.set {w : World} {p : Nat} {vars keep : Int} {v : Value} (h : Own3 w p vars keep v) (v' : Value) : Own3 (w.setCell ⟨p, 2, none⟩ v') p vars keep v' :=
  ⟨set_ne (by omega) h.c0, set_ne (by omega) h.c1, set_eq h.c2, by rw [World.frozen?_setCell]; exact h.fz⟩
theorem Own3.lt {w : World} {p : Nat} {vars keep : Int} {v : Value} (h : Own3 w p vars keep v) : p < w.heap.size := block_lt h.c0

/-- one append of the law's: block p's clauses grow by one -/
def GrowPost (W : World) (B p : Nat) (vars keep : Int) (v : Value) (cs : List (List Int)) (w' : World) : Prop :=
  ∃ v', Own3 w' p vars keep v' ∧ RowsY w' B v' cs ∧ Kept (fun k => k = p ∨ v.ownBlock = some k) W w' ∧ ∀ k, v'.ownBlock = some k → v.ownBlock = some k ∨ W.heap.size ≤ k

theorem grow_post {wr W w3 : World} {B p g cap : Nat} {vars keep : Int} {v rv : Value} {ls : List (List Int)} {c : List Int} {us : List Value} (hp1 : B ≤ p) (hp2 : p < B + 2)
    (hbk : ∀ k, v.ownBlock = some k → B + 2 ≤ k ∧ k < wr.heap.size) (ho : Own3 wr p vars keep v)
    (h2 : us.length = ls.length) (h3 : ∀ (j : Nat) u c, us[j]? = some u → ls[j]? = some c → Ints (fun b => b < B) wr u c) (hr : Ints (fun b => b < B) wr rv c)
    (hW : Below wr.heap.size wr W)
    (hown : w3.ownsRow (B + 2) 25 1 (.slice (some ⟨g, 0, none⟩) (ls.length + 1) cap) (ls.length + 1) (us ++ [rv])) (hg : W.grownBy w3 v.ownBlock) (hat : v.ownBlock = some g ∨ W.heap.size ≤ g) :
    Own3 w3 p vars keep v ∧ GrowPost wr B p vars keep v (ls ++ [c]) (w3.setCell ⟨p, 2, none⟩ (.slice (some ⟨g, 0, none⟩) (ls.length + 1) cap)) := by
  have hpw := ho.lt
  have hsz := hW.size
  have hk : Kept (fun k => k = p ∨ v.ownBlock = some k) wr w3 := ⟨hg.os.trans hW.os, hg.tape.trans hW.tape, hg.output.trans hW.output, Nat.le_trans hW.size hg.size, fun i hi hn => (hg.block i (by omega) (fun e => hn (.inr e.symm))).trans (hW.block i hi)⟩
  have hsame : w3.heap[p]? = wr.heap[p]? := (hg.block p (by omega) (fun e => by have := (hbk p e.symm).1; omega)).trans (hW.block p hpw)
  have hb : Below B wr w3 := hk.below (by omega) fun i h => by
    rcases h with h | h
    · omega
    · have := (hbk i h).1; omega
  have ho3 := ho.same hsame
  have hry := RowsY.push h2 h3 hr hown hb
  refine ⟨ho3, _, ho3.set _, hry.keep ((Below.refl _ _).setCell (p := ⟨p, 2, none⟩) hp1 _) (fun k hk' => Below.heap_setCell w3 _ _ k (by show k ≠ p; have := (hry.block k hk').1; omega)), hk.set (p := ⟨p, 2, none⟩) (.inl rfl) _, fun k hk' => ?_⟩
  simp [Value.ownBlock] at hk'
  subst hk'
  rcases hat with h | h
  · exact .inl h
  · right; omega
theorem GrowPost.drew {W w : World} {B p : Nat} {vars keep : Int} {v : Value} {cs : List (List Int)} (h : GrowPost W B p vars keep v cs w) : GrowPost W B p vars keep v cs w.drew := by
  obtain ⟨v', h1, h2, h3, h4⟩ := h
  exact ⟨v', h1.same rfl, h2.keep (Below.refl _ _).drew (fun _ _ => rfl), ⟨h3.os, h3.tape, h3.output, h3.size, h3.block⟩, h4⟩
/-- what such an append leaves of the other formula -/
theorem GrowPost.other {W w : World} {B p q : Nat} {vars keep : Int} {v v2 : Value} {cs ds : List (List Int)} (h : GrowPost W B p vars keep v cs w) (hp1 : B ≤ p) (hp2 : p < B + 2) (hq1 : B ≤ q) (hq2 : q < B + 2) (hpq : q ≠ p)
    (hbk : ∀ k, v.ownBlock = some k → B + 2 ≤ k ∧ k < W.heap.size) (ho : Own3 W q vars keep v2) (hr : RowsY W B v2 ds) (hne : ∀ g, v.ownBlock = some g → v2.ownBlock ≠ some g) (hB : B ≤ W.heap.size) :
    ∃ v', Own3 w p vars keep v' ∧ RowsY w B v' cs ∧ Own3 w q vars keep v2 ∧ RowsY w B v2 ds ∧ Below B W w ∧ W.heap.size ≤ w.heap.size ∧ ∀ g, v'.ownBlock = some g → v2.ownBlock ≠ some g := by
  obtain ⟨v', h1, h2, h3, h4⟩ := h
  have hb : Below B W w := h3.below hB fun i h => by
    rcases h with h | h
    · omega
    · have := (hbk i h).1; omega
  refine ⟨v', h1, h2, ho.same (h3.block q ho.lt fun h => ?_), hr.keep hb (fun k hk => h3.block k (hr.block k hk).2 fun h => ?_), hb, h3.size, fun g hg hg2 => ?_⟩
  · rcases h with h | h
    · exact hpq h
    · have := (hbk q h).1; omega
  · rcases h with h | h
    · have := (hr.block k hk).1; omega
    · exact hne k h hk
  · rcases h4 g hg with h | h
    · exact hne g h hg2
    · have := (hr.block g hg2).2; omega
/-- a list without its p-th place -/
def skipL (p : Nat) : List Int → Nat → List Int
  | [], _ => []
  | l :: r, k => if k = p then skipL p r (k + 1) else l :: skipL p r (k + 1)
theorem skipL_all {p : Nat} : ∀ (L : List Int) (k : Nat), p < k → skipL p L k = L
  | [], _, _ => rfl
  | l :: r, k, h => by rw [skipL, if_neg (by omega), skipL_all r (k + 1) (by omega)]
theorem skipL_erase {p : Nat} : ∀ (L : List Int) (k : Nat), k ≤ p → skipL p L k = L.eraseIdx (p - k)
  | [], _, _ => by simp [skipL]
  | l :: r, k, h => by
    rw [skipL]
    by_cases e : k = p
    · rw [if_pos e, skipL_all r (k + 1) (by omega), show p - k = 0 by omega]
      simp
    · rw [if_neg e, skipL_erase r (k + 1) (by omega), show p - k = (p - (k + 1)) + 1 by omega]
      simp
end Go.Proofs.Ytjbhglmmakkkgaa
