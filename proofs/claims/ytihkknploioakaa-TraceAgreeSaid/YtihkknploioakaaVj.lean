/- (Trace seat) The checker's own slice of kids: laws. No condition but the sizes. -/
import Derived.Test.YtihkknploioakaaVi
import Derived.Deep.RegionLaw
namespace Go.Proofs.Ytihkknploioakaa
open Go.ChangeShapes Go.WideShapes Go.ChangeAt Go.RowKit
set_option linter.unusedVariables false

def cells5 (us : List Row5) : List Value := us.flatMap fun u => [u.1, u.2.1, u.2.2.1, u.2.2.2.1, u.2.2.2.2]
theorem cells5_get : ∀ (us : List Row5) (j : Nat) (u : Row5), us[j]? = some u → (cells5 us)[j * 5]? = some u.1 ∧ (cells5 us)[j * 5 + 1]? = some u.2.1 ∧ (cells5 us)[j * 5 + 2]? = some u.2.2.1 ∧ (cells5 us)[j * 5 + 3]? = some u.2.2.2.1 ∧ (cells5 us)[j * 5 + 4]? = some u.2.2.2.2
  | [], j, u, h => by simp at h
  | x :: r, 0, u, h => by simp at h; subst h; simp [cells5]
  | x :: r, j + 1, u, h => by
    have := cells5_get r j u (by simpa using h)
    simp only [cells5, List.flatMap_cons] at this ⊢
    rw [show (j + 1) * 5 = j * 5 + 5 by omega]
    simpa [List.getElem?_append_right] using this
theorem cells5_snoc (us : List Row5) (u : Row5) : cells5 (us ++ [u]) = cells5 us ++ [u.1, u.2.1, u.2.2.1, u.2.2.2.1, u.2.2.2.2] := by simp [cells5]
/-- the kids collected: an owned slice of claims whose parts lie low -/
def KidsO (w0 wx : World) (B mb : Nat) (v : Value) (ks : List Claim) : Prop :=
  ∃ us : List Row5, wx.ownsRow B 40 5 v ks.length (cells5 us) ∧ us.length = ks.length ∧ ∀ (j : Nat) u c, us[j]? = some u → ks[j]? = some c → ClaimV (fun b => b < mb) w0 u c
theorem KidsO.nil (w0 wx : World) (B mb : Nat) : KidsO w0 wx B mb (.slice none 0 0) [] := ⟨[], World.ownsRow_nil _ _ _ _, rfl, by simp⟩
theorem KidsO.claims {w0 wx : World} {B mb : Nat} {v : Value} {ks : List Claim} (h : KidsO w0 wx B mb v ks) (hb : ∀ b, b < mb → wx.heap[b]? = w0.heap[b]?) (hn : ks.length ≤ 9223372036854775807) : Claims (fun _ => True) wx v ks := by
  obtain ⟨us, h1, h2, h3⟩ := h
  refine ⟨us, ?_, h2, fun j u c hu hc => ((h3 j u c hu hc).move fun b hlt _ => hb b hlt).mono fun _ _ => trivial⟩
  rcases h1.2 with ⟨rfl, h0⟩ | ⟨g, cap, cur, rfl, _⟩
  · have : us = [] := List.eq_nil_of_length_eq_zero (by omega)
    subst this
    exact ⟨none, 0, rfl, by simp, fun j u hu => by simp at hu⟩
  · refine ⟨some ⟨g, 0, none⟩, cap, by rw [h2], by omega, fun j u hu => ⟨g, 0, rfl, trivial, ?_⟩⟩
    have hc := h1.cells (g := g) rfl
    obtain ⟨e1, e2, e3, e4, e5⟩ := cells5_get us j u hu
    have f1 := hc _ _ e1
    have f2 := hc _ _ e2
    have f3 := hc _ _ e3
    have f4 := hc _ _ e4
    have f5 := hc _ _ e5
    rw [add_at] at f1 f2 f3 f4 f5
    rw [Nat.zero_add] at f1 f2 f3 f4 f5 ⊢
    exact ⟨f1, f2, f3, f4, f5⟩
/-- append of one claim onto an owned slice, as one step of a region that draws -/
theorem step_push5 {P : Program} {ops : Array Oper} {o : Oper} {a : Act} {w : World} {K : Act → World → Prop} {Q : Exit → Act → World → Prop} {X : Prop}
    (hgd : o.guard = none) (s x : Operand) (t : TypeId)
    (ho : o.op = .call { callee := .builtin .append, args := #[s, x], argTypes := #[t, t] })
    (E : TypeId) (z : Value) (bytes : Nat) (ht : P.underlying t = some (.slice E)) (hinfo : (P.info? E).map (fun i => (i.zero, i.size, i.bytes)) = some (some z, 5, bytes)) (hz1 : z.cells.size = 5)
    (base : Nat) (v : Value) (n : Nat) (xs : List Value) (B : Nat) (u0 u1 u2 u3 u4 : Value)
    (hs : a.eval s = v) (hx : a.eval x = .slice (some ⟨B, 0, none⟩) 1 1) (hc0 : w.cell? ⟨B, 0, none⟩ = some u0) (hc1 : w.cell? ⟨B, 1, none⟩ = some u1) (hc2 : w.cell? ⟨B, 2, none⟩ = some u2) (hc3 : w.cell? ⟨B, 3, none⟩ = some u3) (hc4 : w.cell? ⟨B, 4, none⟩ = some u4)
    (hown : w.ownsRow base E 5 v n xs) (hu0 : u0.oneCell' = true) (hu1 : u1.oneCell' = true) (hu2 : u2.oneCell' = true) (hu3 : u3.oneCell' = true) (hu4 : u4.oneCell' = true)
    (hn : (n + 1) * bytes ≤ 140737488355328) (hby : 1 ≤ bytes) (hbase : base ≤ w.heap.size)
    (h : ∀ (g cap' : Nat) w', w'.ownsRow base E 5 (.slice (some ⟨g, 0, none⟩) (n + 1) cap') (n + 1) (xs ++ [u0, u1, u2, u3, u4]) → w.grownBy w' v.ownBlock → (v.ownBlock = some g ∨ w.heap.size ≤ g) → K (a.put o.dst (.slice (some ⟨g, 0, none⟩) (n + 1) cap')) w') :
    if Region.wanted o (yielded ops a.tmps) = true then Oper.wp P o a w K Q else X := by
  have hw : Region.wanted o (yielded ops a.tmps) = true := by simp [Region.wanted, hgd]
  rw [if_pos hw]
  obtain ⟨i, hi, hz, h1, h2⟩ := info_parts hinfo
  have hle : n + 1 ≤ (n + 1) * bytes := Nat.le_mul_of_pos_right _ hby
  obtain ⟨v', w', hr, k2, k3, k4, k5⟩ := run_append_own_at (P := P) w base t o.type E i z 5 bytes ht hi hz h1 h2 hz1 (by decide) v n xs hown ⟨B, 0, none⟩ 1 1 [u0, u1, u2, u3, u4] rfl
    (fun j y hj => by
      match j, hj with
      | 0, hj => simp at hj; subst hj; simpa [Addr.add] using hc0
      | 1, hj => simp at hj; subst hj; simpa [Addr.add] using hc1
      | 2, hj => simp at hj; subst hj; simpa [Addr.add] using hc2
      | 3, hj => simp at hj; subst hj; simpa [Addr.add] using hc3
      | 4, hj => simp at hj; subst hj; simpa [Addr.add] using hc4)
    (fun y hy => by simp at hy; rcases hy with rfl | rfl | rfl | rfl | rfl <;> assumption) (by unfold maxLen; omega) hn hbase
  unfold Oper.wp execOp
  simp only [ho, resolve, invoke, builtin, Sem.run_bind, Sem.run_pure, Result.andThen_ok, List.map_toArray, List.map_cons, List.map_nil, hs, hx, hr]
  rcases k2.2 with ⟨_, h0⟩ | ⟨g, cap', cur, rfl, hb, hh, _⟩
  · omega
  refine h g cap' w' k2 k3 ?_
  rcases k5 with h | h
  · exact .inl h.symm
  · right; simp [Value.ownBlock] at h; omega
theorem grow_new {W w1 w2 : World} {g : Nat} {row : Option Nat} (h : W.grownBy w1 (some g)) (h2 : w1.grownBy w2 row) (hr : ∀ b, row = some b → b = g ∨ W.heap.size ≤ b) : W.grownBy w2 (some g) :=
  ⟨h2.os.trans h.os, h2.tape.trans h.tape, h2.output.trans h.output, Nat.le_trans h.size h2.size, fun k hk hne => by
    rw [h2.block k (Nat.lt_of_lt_of_le hk h.size) (fun e => by
      rcases hr k e.symm with h1 | h1
      · subst h1; exact hne rfl
      · omega), h.block k hk hne]⟩
theorem KidsO.push {w0 w' : World} {B mb g cap : Nat} {ks : List Claim} {us : List Row5} {u : Row5} {c : Claim}
    (h2 : us.length = ks.length) (h3 : ∀ (j : Nat) u c, us[j]? = some u → ks[j]? = some c → ClaimV (fun b => b < mb) w0 u c) (hu : ClaimV (fun b => b < mb) w0 u c)
    (hown : w'.ownsRow B 40 5 (.slice (some ⟨g, 0, none⟩) (ks.length + 1) cap) (ks.length + 1) (cells5 us ++ [u.1, u.2.1, u.2.2.1, u.2.2.2.1, u.2.2.2.2])) :
    KidsO w0 w' B mb (.slice (some ⟨g, 0, none⟩) (ks.length + 1) cap) (ks ++ [c]) := by
  refine ⟨us ++ [u], by rw [cells5_snoc, List.length_append]; exact hown, by simp [h2], fun j x y hx hy => ?_⟩
  rcases Nat.lt_or_ge j us.length with hj | hj
  · rw [List.getElem?_append_left hj] at hx
    rw [List.getElem?_append_left (by omega)] at hy
    exact h3 j x y hx hy
  · rw [List.getElem?_append_right hj] at hx
    rw [List.getElem?_append_right (by omega)] at hy
    rw [h2] at hx
    rcases hk : j - ks.length with _ | k
    · rw [hk] at hx hy
      simp at hx hy
      subst hx hy
      exact hu
    · rw [hk] at hx
      simp at hx
theorem ClaimV.lt {F : Nat → Prop} {w : World} {u : Row5} {c : Claim} (h : ClaimV F w u c) : ClaimV (fun b => b < w.heap.size) w u c := by
  refine ⟨⟨?_, h.1.2.1, h.1.2.2.1, (h.1.2.2.2.1.lt).mono fun b hb => hb.2, h.1.2.2.2.2⟩, h.2⟩
  exact clss_lt h.1.1
end Go.Proofs.Ytihkknploioakaa
