/- Laws that the walks of XVb, XVd, XVh, XVk share; no function of their package in sight. No condition. -/
import Derived.Test.YtljaegmmfjllkaaGreatDoorVa
import Derived.Test.YtljaegmmfjllkaaGreatDoorQ7
import Derived.Test.YtljaegmmfjllkaaGreatDoorKo
import Derived.Deep.DeepCutAuto
import Derived.Deep.LoopGhost
import Derived.BigQuiet
import Derived.Deep.QuietTactic
import Derived.Deep.RegionHeld3
import Derived.Test.YtljaegmmfjllkaaGreatDoorKu
import Derived.Deep.RegionLaw
namespace Go.Proofs.YtljaegmmfjllkaaGreatDoor
open Go.ChangeShapes Go.WideShapes Go.ChangeAt Go.RowKit
set_option linter.unusedVariables false
set_option linter.unusedSimpArgs false

theorem dblM_big (t : Nat) (n : Int) (h : 1099511627776 < n) : dblM (t + 1) n = -1 := by rw [dblM, if_pos h]
def IntPost (W : World) (n : Int) (e : Ending) (w' : World) : Prop := e = .returned (.int .i64 n) ∧ Below W.heap.size W w'
theorem keptM_len (keep : Int) (vs : List Int) : (keptM keep vs).length ≤ vs.length := List.length_filter_le _ _
theorem lostM_step (v : Int) (there : List Int) (xs : List Int) (x : Int) : lostM v (xs ++ [x]) there = lostM v xs there + if (decide (x ≠ v) && !there.contains x) = true then 1 else 0 := by
  unfold lostM
  rw [List.filter_append, List.length_append]
  by_cases h : (decide (x ≠ v) && !there.contains x) = true
  · rw [if_pos h, List.filter_cons, if_pos h]; rfl
  · rw [if_neg h, List.filter_cons, if_neg h]; rfl
def pGo (P : List Int → Bool) : List (List Int) → Nat → Int
  | [], _ => -1
  | x :: r, i => if P x = true then i else pGo P r (i + 1)
theorem pGo_any (P : List Int → Bool) : ∀ (xs : List (List Int)) (i : Nat), decide (0 ≤ pGo P xs i) = xs.any P
  | [], i => by simp [pGo]
  | x :: r, i => by
    rw [pGo, List.any_cons]
    by_cases h : P x = true
    · rw [if_pos h, h]; simp
    · rw [if_neg h, pGo_any P r]; simp [h]
theorem one_iff (y : List Int) (lit : Int) : (y == [lit]) = (decide ((y.length : Int) = 1) && (y.getD 0 0 == lit)) := by
  match y with
  | [] => rfl
  | [x] => simp
  | x :: z :: r => simp; omega
/-- what the rules' walks ask of a claim and its kids -/
def RuleOk (c : Claim) (ks : List Claim) (vs : List Int) : Prop :=
  SzC c ∧ (∀ k ∈ ks, SzC k ∧ 0 ≤ k.count ∧ k.count ≤ 1099511627776) ∧ (∀ v ∈ vs, 1 ≤ v ∧ v ≤ 20000) ∧ vs.length ≤ 100000 ∧ ks.length ≤ 100000
theorem varK_mem {lit : Int} : ∀ {vs : List Int}, varK lit vs ≠ 0 → varK lit vs ∈ vs
  | [], h => absurd rfl h
  | v :: r, h => by
    rw [varK] at h ⊢
    split
    · exact List.mem_cons_self ..
    · rename_i hn
      rw [if_neg hn] at h
      exact List.mem_cons_of_mem _ (varK_mem h)
theorem varK_range {lit : Int} {vs : List Int} (hr : ∀ v ∈ vs, 1 ≤ v ∧ v ≤ 20000) : 0 ≤ varK lit vs ∧ varK lit vs ≤ 20000 := by
  by_cases h : varK lit vs = 0
  · omega
  · have := hr _ (varK_mem h); omega
theorem lostM_le (v : Int) (l t : List Int) : lostM v l t ≤ l.length := List.length_filter_le _ _
theorem two_kids {ks : List Claim} (h : ks.length = 2) : ∃ a b, ks = [a, b] := by
  match ks, h with
  | [a, b], _ => exact ⟨a, b, rfl⟩
theorem dblM_le : ∀ (t : Nat) (n : Int), n ≤ 2199023255552 → dblM t n ≤ 2199023255552
  | 0, n, h => h
  | t + 1, n, h => by
    rw [dblM]
    split
    · omega
    · exact dblM_le t _ (by omega)
theorem dblM_ge : ∀ (t : Nat) (n : Int), 0 ≤ n → -1 ≤ dblM t n
  | 0, n, h => by rw [dblM]; omega
  | t + 1, n, h => by
    rw [dblM]
    split
    · omega
    · exact dblM_ge t _ (by omega)
/-- the map of owners: the variables of the earlier kids, and of this kid (number k) so far -/
def OwnM (w : World) (mb k : Nat) (seen cur : List Int) : Prop :=
  ∃ (D : DataW Unit) (n : Nat), w.ownsMap Tryz.prog 3 (plainElem Tryz.prog 3) mb n D ∧ n ≤ seen.length + cur.length ∧ Maps.IsMap D ∧
    ∀ x, I64 x → Maps.has D (.int .i64 x) = decide (x ∈ seen ∨ x ∈ cur) ∧ (x ∈ seen → x ∉ cur → ∃ j : Nat, j < k ∧ D.atKey (.int .i64 x) (.lit (.int .i64 0)) = .lit (.int .i64 j)) ∧ (x ∈ cur → D.atKey (.int .i64 x) (.lit (.int .i64 0)) = .lit (.int .i64 k))
section ownm
variable {w w' : World} {mb k : Nat} {seen cur : List Int}
theorem OwnM.lt (h : OwnM w mb k seen cur) : mb < w.heap.size := let ⟨_, _, h1, _⟩ := h; h1.lt
theorem OwnM.grown {row : Option Nat} (h : OwnM w mb k seen cur) (hg : w.grownBy w' row) (hne : some mb ≠ row) : OwnM w' mb k seen cur := by
  obtain ⟨D, n, h1, h2⟩ := h
  exact ⟨D, n, h1.kept hg hne, h2⟩
theorem OwnM.below (h : OwnM w mb k seen cur) (hb : Below w.heap.size w w') : OwnM w' mb k seen cur := h.grown (row := none) ⟨hb.os, hb.tape, hb.output, hb.size, fun i hi _ => hb.block i hi⟩ (by simp)
theorem OwnM.ok {x : Int} (h : OwnM w mb k seen cur) (hx : I64 x) (hn : x ∉ cur) : ∃ c, (Instr.lookup 111 (.map (some mb)) (.int .i64 x) true).run Tryz.prog w = .ok (.tuple #[.int .i64 c, .bool (decide (x ∈ seen))]) w ∧ (x ∈ seen → c ≠ k) := by
  obtain ⟨D, n, h1, _, h2, h3⟩ := h
  obtain ⟨v, ps, hrun, hv⟩ := h1.look_ok law_int Tryz.underlying111 (z := .int .i64 0) (by kernel_rfl) (plainElem_int Tryz.underlying3 (by decide)) (keyOf_i hx)
  obtain ⟨c, rfl, hc, _⟩ := plainElem_int_inv Tryz.underlying3 hv
  have hh : decide (x ∈ seen ∨ x ∈ cur) = decide (x ∈ seen) := by simp [hn]
  rw [(h3 x hx).1, hh] at hrun
  refine ⟨c, hrun, fun hin => ?_⟩
  obtain ⟨j, hj, h4⟩ := (h3 x hx).2.1 hin hn
  have h5 := congrArg Prod.fst hc
  simp only at h5
  rw [h4] at h5
  simp at h5
  omega
theorem OwnM.next (h : OwnM w mb k seen cur) : OwnM w mb (k + 1) (seen ++ cur) [] := by
  obtain ⟨D, n, h1, hn, h2, h3⟩ := h
  refine ⟨D, n, h1, by simp; exact hn, h2, fun x hx => ⟨by rw [(h3 x hx).1]; simp, fun hin _ => ?_, fun h => by simp at h⟩⟩
  by_cases hc : x ∈ cur
  · exact ⟨k, by omega, (h3 x hx).2.2 hc⟩
  · rcases List.mem_append.1 hin with h | h
    · obtain ⟨j, hj, e⟩ := (h3 x hx).2.1 h hc
      exact ⟨j, by omega, e⟩
    · exact absurd h hc
theorem own_put {D : DataW Unit} {n : Nat} {r : Int} (hr : I64 r) (hno : r ∉ seen)
    (h1 : w'.ownsMap Tryz.prog 3 (plainElem Tryz.prog 3) mb (n + 1) (D.put (.int .i64 r) (.lit (.int .i64 k)))) (hn : n ≤ seen.length + cur.length) (h2 : Maps.IsMap D)
    (h3 : ∀ x, I64 x → Maps.has D (.int .i64 x) = decide (x ∈ seen ∨ x ∈ cur) ∧ (x ∈ seen → x ∉ cur → ∃ j : Nat, j < k ∧ D.atKey (.int .i64 x) (.lit (.int .i64 0)) = .lit (.int .i64 j)) ∧ (x ∈ cur → D.atKey (.int .i64 x) (.lit (.int .i64 0)) = .lit (.int .i64 k))) : OwnM w' mb k seen (cur ++ [r]) := by
  refine ⟨_, n + 1, h1, by simp; omega, h2.put _ _, fun x hx => ?_⟩
  by_cases e : x = r
  · subst e
    rw [Maps.has_put_same h2 (by trivial), Maps.atKey_put_same h2 (by trivial)]
    exact ⟨by simp, fun h => absurd h hno, fun _ => rfl⟩
  · have hne : (Lit.int .i64 x) ≠ Lit.int .i64 r := by simpa using e
    rw [Maps.has_put_other hne, Maps.atKey_put_other hne, (h3 x hx).1]
    refine ⟨by simp [e], fun hin hnc => (h3 x hx).2.1 hin (fun h => hnc (List.mem_append_left _ h)), fun hin => ?_⟩
    rcases List.mem_append.1 hin with h | h
    · exact (h3 x hx).2.2 h
    · simp [e] at h
end ownm
theorem pigeon2 : ∀ (n : Nat) (xs : List Nat), xs.Nodup → (∀ x ∈ xs, x < n) → xs.length ≤ n
  | 0, [], _, _ => Nat.le_refl _
  | 0, x :: r, _, h => by have := h x (List.mem_cons_self ..); omega
  | n + 1, xs, hn, h => by
    have ih := pigeon2 n (xs.erase n) (hn.erase n) fun x hx => by
      have h1 := h x (List.mem_of_mem_erase hx)
      have h2 : x ≠ n := fun e => by subst e; exact (hn.not_mem_erase) hx
      omega
    have := List.length_erase (l := xs) (a := n)
    split at this <;> omega
/-- the references of the nodes are earlier ones -/
theorem nodup_bound {l : List Int} (hn : l.Nodup) (h : ∀ x ∈ l, 1 ≤ x ∧ x ≤ 20000) : l.length ≤ 20000 := by
  have h1 : (l.map fun x => x.toNat - 1).Nodup := by
    refine List.pairwise_map.2 (hn.imp_of_mem fun {a b} ha hb hab e => hab ?_)
    have := h a ha
    have := h b hb
    omega
  have := pigeon2 20000 _ h1 (fun x hx => by
    obtain ⟨y, hy, rfl⟩ := List.mem_map.1 hx
    have := h y hy
    omega)
  simpa using this
theorem grown_c2 {w w' : World} {row : Option Nat} {b o : Nat} {v : Value} (h : w.grownBy w' row) (hb : some b ≠ row) (hc : w.cell? ⟨b, o, none⟩ = some v) : w'.cell? ⟨b, o, none⟩ = some v :=
  (World.cell?_of_block (h.block b (block_lt hc) hb)).trans hc
/-- the clauses collected: an owned slice of slices that lie low -/
def AllO (w0 wx : World) (mb : Nat) (v : Value) (cs : List (List Int)) : Prop :=
  ∃ ps : List (Value × List Int), wx.ownsRow (mb + 1) 43 1 v ps.length (ps.map Prod.fst) ∧ ps.map Prod.snd = cs ∧ ∀ p ∈ ps, Ints (fun b => b < mb) w0 p.1 p.2
theorem clss_lt {F : Nat → Prop} {w : World} {v : Value} {cs : List (List Int)} (h : Clss F w v cs) : Clss (fun b => b < w.heap.size) w v cs := by
  obtain ⟨us, h1, h2, h3⟩ := h
  exact ⟨us, h1.lt.mono fun b hb => hb.2, h2, fun j u x hu hx => ((h3 j u x hu hx).lt).mono fun b hb => hb.2⟩
theorem allO_clss {w0 wx : World} {mb : Nat} {v : Value} {cs : List (List Int)} (h : AllO w0 wx mb v cs) (hb : Below mb w0 wx) (hl : cs.length ≤ 9223372036854775807) : Clss (fun _ => True) wx v cs := by
  obtain ⟨ps, h1, rfl, h3⟩ := h
  have hps : ps.length ≤ 9223372036854775807 := by simpa using hl
  refine ⟨ps.map Prod.fst, (ownsRow_sl1 h1 hps).mono fun _ _ => trivial, by simp, fun j u x hu hx => ?_⟩
  rw [List.getElem?_map] at hu hx
  rcases hp : ps[j]? with _ | p
  · rw [hp] at hu; simp at hu
  · rw [hp] at hu hx
    simp at hu hx
    subst hu hx
    exact ((h3 p (List.mem_of_getElem? hp)).move fun b hlt _ => hb.block b hlt).mono fun _ _ => trivial

def cells5 (us : List Row5) : List Value := us.flatMap fun u => [u.1, u.2.1, u.2.2.1, u.2.2.2.1, u.2.2.2.2]
theorem cells5_get : ∀ (us : List Row5) (j : Nat) (u : Row5), us[j]? = some u → (cells5 us)[j * 5]? = some u.1 ∧ (cells5 us)[j * 5 + 1]? = some u.2.1 ∧ (cells5 us)[j * 5 + 2]? = some u.2.2.1 ∧ (cells5 us)[j * 5 + 3]? = some u.2.2.2.1 ∧ (cells5 us)[j * 5 + 4]? = some u.2.2.2.2
  | [], j, u, h => by simp at h
  | x :: r, 0, u, h => by simp at h; subst h; simp [cells5]
  | x :: r, j + 1, u, h => by
    have := cells5_get r j u (by simpa using h)
    simp only [cells5, List.flatMap_cons] at this ⊢
    rw [show (j + 1) * 5 = j * 5 + 5 by omega]
    simpa [List.getElem?_append_right] using this
theorem cells5_snoc (us : List Row5) (u : Row5) : cells5 (us ++ [u]) = cells5 us ++ [u.1, u.2.1, u.2.2.1, u.2.2.2.1, u.2.2.2.2] := by simp [cells5]
/-- the kids collected: an owned slice of claims whose parts lie low -/
def KidsO (w0 wx : World) (B mb : Nat) (v : Value) (ks : List Claim) : Prop :=
  ∃ us : List Row5, wx.ownsRow B 45 5 v ks.length (cells5 us) ∧ us.length = ks.length ∧ ∀ (j : Nat) u c, us[j]? = some u → ks[j]? = some c → ClaimV (fun b => b < mb) w0 u c
theorem KidsO.nil (w0 wx : World) (B mb : Nat) : KidsO w0 wx B mb (.slice none 0 0) [] := ⟨[], World.ownsRow_nil _ _ _ _, rfl, by simp⟩
theorem KidsO.claims {w0 wx : World} {B mb : Nat} {v : Value} {ks : List Claim} (h : KidsO w0 wx B mb v ks) (hb : ∀ b, b < mb → wx.heap[b]? = w0.heap[b]?) (hn : ks.length ≤ 9223372036854775807) : Claims (fun _ => True) wx v ks := by
  obtain ⟨us, h1, h2, h3⟩ := h
  refine ⟨us, ?_, h2, fun j u c hu hc => ((h3 j u c hu hc).move fun b hlt _ => hb b hlt).mono fun _ _ => trivial⟩
  rcases h1.2 with ⟨rfl, h0⟩ | ⟨g, cap, cur, rfl, _⟩
  · have : us = [] := List.eq_nil_of_length_eq_zero (by omega)
    subst this
    exact ⟨none, 0, rfl, by simp, fun j u hu => by simp at hu⟩
  · refine ⟨some ⟨g, 0, none⟩, cap, by rw [h2], by omega, fun j u hu => ⟨g, 0, rfl, trivial, ?_⟩⟩
    have hc := h1.cells (g := g) rfl
    obtain ⟨e1, e2, e3, e4, e5⟩ := cells5_get us j u hu
    have f1 := hc _ _ e1
    have f2 := hc _ _ e2
    have f3 := hc _ _ e3
    have f4 := hc _ _ e4
    have f5 := hc _ _ e5
    rw [add_at] at f1 f2 f3 f4 f5
    rw [Nat.zero_add] at f1 f2 f3 f4 f5 ⊢
    exact ⟨f1, f2, f3, f4, f5⟩
/-- append of one claim onto an owned slice, as one step of a region that draws -/
theorem step_push5 {P : Program} {ops : Array Oper} {o : Oper} {a : Act} {w : World} {K : Act → World → Prop} {Q : Exit → Act → World → Prop} {X : Prop}
    (hgd : o.guard = none) (s x : Operand) (t : TypeId)
    (ho : o.op = .call { callee := .builtin .append, args := #[s, x], argTypes := #[t, t] })
    (E : TypeId) (z : Value) (bytes : Nat) (ht : P.underlying t = some (.slice E)) (hinfo : (P.info? E).map (fun i => (i.zero, i.size, i.bytes)) = some (some z, 5, bytes)) (hz1 : z.cells.size = 5)
    (base : Nat) (v : Value) (n : Nat) (xs : List Value) (B : Nat) (u0 u1 u2 u3 u4 : Value)
    (hs : a.eval s = v) (hx : a.eval x = .slice (some ⟨B, 0, none⟩) 1 1) (hc0 : w.cell? ⟨B, 0, none⟩ = some u0) (hc1 : w.cell? ⟨B, 1, none⟩ = some u1) (hc2 : w.cell? ⟨B, 2, none⟩ = some u2) (hc3 : w.cell? ⟨B, 3, none⟩ = some u3) (hc4 : w.cell? ⟨B, 4, none⟩ = some u4)
    (hown : w.ownsRow base E 5 v n xs) (hu0 : u0.oneCell' = true) (hu1 : u1.oneCell' = true) (hu2 : u2.oneCell' = true) (hu3 : u3.oneCell' = true) (hu4 : u4.oneCell' = true)
    (hn : (n + 1) * bytes ≤ 140737488355328) (hby : 1 ≤ bytes) (hbase : base ≤ w.heap.size)
    (h : ∀ (g cap' : Nat) w', w'.ownsRow base E 5 (.slice (some ⟨g, 0, none⟩) (n + 1) cap') (n + 1) (xs ++ [u0, u1, u2, u3, u4]) → w.grownBy w' v.ownBlock → (v.ownBlock = some g ∨ w.heap.size ≤ g) → K (a.put o.dst (.slice (some ⟨g, 0, none⟩) (n + 1) cap')) w') :
    if Region.wanted o (yielded ops a.tmps) = true then Oper.wp P o a w K Q else X := by
  have hw : Region.wanted o (yielded ops a.tmps) = true := by simp [Region.wanted, hgd]
  rw [if_pos hw]
  obtain ⟨i, hi, hz, h1, h2⟩ := info_parts hinfo
  have hle : n + 1 ≤ (n + 1) * bytes := Nat.le_mul_of_pos_right _ hby
  obtain ⟨v', w', hr, k2, k3, k4, k5⟩ := run_append_own_at (P := P) w base t o.type E i z 5 bytes ht hi hz h1 h2 hz1 (by decide) v n xs hown ⟨B, 0, none⟩ 1 1 [u0, u1, u2, u3, u4] rfl
    (fun j y hj => by
      match j, hj with
      | 0, hj => simp at hj; subst hj; simpa [Addr.add] using hc0
      | 1, hj => simp at hj; subst hj; simpa [Addr.add] using hc1
      | 2, hj => simp at hj; subst hj; simpa [Addr.add] using hc2
      | 3, hj => simp at hj; subst hj; simpa [Addr.add] using hc3
      | 4, hj => simp at hj; subst hj; simpa [Addr.add] using hc4)
    (fun y hy => by simp at hy; rcases hy with rfl | rfl | rfl | rfl | rfl <;> assumption) (by unfold maxLen; omega) hn hbase
  unfold Oper.wp execOp
  simp only [ho, resolve, invoke, builtin, Sem.run_bind, Sem.run_pure, Result.andThen_ok, List.map_toArray, List.map_cons, List.map_nil, hs, hx, hr]
  rcases k2.2 with ⟨_, h0⟩ | ⟨g, cap', cur, rfl, hb, hh, _⟩
  · omega
  refine h g cap' w' k2 k3 ?_
  rcases k5 with h | h
  · exact .inl h.symm
  · right; simp [Value.ownBlock] at h; omega
theorem grow_new {W w1 w2 : World} {g : Nat} {row : Option Nat} (h : W.grownBy w1 (some g)) (h2 : w1.grownBy w2 row) (hr : ∀ b, row = some b → b = g ∨ W.heap.size ≤ b) : W.grownBy w2 (some g) :=
  ⟨h2.os.trans h.os, h2.tape.trans h.tape, h2.output.trans h.output, Nat.le_trans h.size h2.size, fun k hk hne => by
    rw [h2.block k (Nat.lt_of_lt_of_le hk h.size) (fun e => by
      rcases hr k e.symm with h1 | h1
      · subst h1; exact hne rfl
      · omega), h.block k hk hne]⟩
theorem KidsO.push {w0 w' : World} {B mb g cap : Nat} {ks : List Claim} {us : List Row5} {u : Row5} {c : Claim}
    (h2 : us.length = ks.length) (h3 : ∀ (j : Nat) u c, us[j]? = some u → ks[j]? = some c → ClaimV (fun b => b < mb) w0 u c) (hu : ClaimV (fun b => b < mb) w0 u c)
    (hown : w'.ownsRow B 45 5 (.slice (some ⟨g, 0, none⟩) (ks.length + 1) cap) (ks.length + 1) (cells5 us ++ [u.1, u.2.1, u.2.2.1, u.2.2.2.1, u.2.2.2.2])) :
    KidsO w0 w' B mb (.slice (some ⟨g, 0, none⟩) (ks.length + 1) cap) (ks ++ [c]) := by
  refine ⟨us ++ [u], by rw [cells5_snoc, List.length_append]; exact hown, by simp [h2], fun j x y hx hy => ?_⟩
  rcases Nat.lt_or_ge j us.length with hj | hj
  · rw [List.getElem?_append_left hj] at hx
    rw [List.getElem?_append_left (by omega)] at hy
    exact h3 j x y hx hy
  · rw [List.getElem?_append_right hj] at hx
    rw [List.getElem?_append_right (by omega)] at hy
    rw [h2] at hx
    rcases hk : j - ks.length with _ | k
    · rw [hk] at hx hy
      simp at hx hy
      subst hx hy
      exact hu
    · rw [hk] at hx
      simp at hx
theorem ClaimV.lt {F : Nat → Prop} {w : World} {u : Row5} {c : Claim} (h : ClaimV F w u c) : ClaimV (fun b => b < w.heap.size) w u c := by
  refine ⟨⟨?_, h.1.2.1, h.1.2.2.1, (h.1.2.2.2.1.lt).mono fun b hb => hb.2, h.1.2.2.2.2⟩, h.2⟩
  exact clss_lt h.1.1

theorem keptM_mem {keep x : Int} {vs : List Int} : x ∈ keptM keep vs ↔ x ∈ vs ∧ x ≤ keep := by unfold keptM; rw [List.mem_filter]; simp
theorem kept_le40 {keep : Int} {cs : List (List Int)} (hk : keep ≤ 40) : (keptM keep (occM cs)).length ≤ 40 := by
  have hn : (keptM keep (occM cs)).Nodup := (occM_nodup cs).filter _
  have h1 : ((keptM keep (occM cs)).map fun x => x.toNat - 1).Nodup := by
    refine List.pairwise_map.2 (hn.imp_of_mem fun {a b} ha hb hab e => hab ?_)
    have := occM_range (keptM_mem.1 ha).1
    have := occM_range (keptM_mem.1 hb).1
    omega
  have := pigeon2 40 _ h1 (fun x hx => by
    obtain ⟨y, hy, rfl⟩ := List.mem_map.1 hx
    have h1 := keptM_mem.1 hy
    have := occM_range h1.1
    omega)
  simpa using this
theorem wrap_pow {L P : Nat} (h : 2 ^ L = P) (hP : P ≤ 1099511627776) : IntKind.i64.wrap (2 ^ L) = (P : Int) := by
  have e : ((2 : Int) ^ L) = (P : Int) := by rw [← h]; simp
  rw [e]
  exact IntWalk.i64_in _ ⟨by omega, by omega⟩
theorem set_grown (w : World) (b o : Nat) (v : Value) : w.grownBy (w.setCell ⟨b, o, none⟩ v) (some b) := ⟨rfl, rfl, rfl, by simp, fun k _ hk => Below.heap_setCell _ _ _ _ (fun e => hk (by rw [e]))⟩
theorem KidsO.set {w0 wx : World} {B mb b o : Nat} {q : Value} {ks : List Claim} (h : KidsO w0 wx B mb q ks) (v : Value) (hb : b < B) : KidsO w0 (wx.setCell ⟨b, o, none⟩ v) B mb q ks := by
  obtain ⟨us, h1, h2, h3⟩ := h
  exact ⟨us, own_same h1 fun k hk => Below.heap_setCell _ _ _ _ (fun e => by have := (h1.lt k hk).1; have e : k = b := e; omega), h2, h3⟩
theorem kidsM_take (ts : List Claim) (xs : List Int) (k : Nat) (x : Int) (h : xs[k]? = some x) : (xs.take (k + 1)).map (fun k => ts.getD k.toNat clNil) = (xs.take k).map (fun k => ts.getD k.toNat clNil) ++ [ts.getD x.toNat clNil] := by
  rw [List.take_add_one, h, List.map_append]; rfl
theorem kept_le {keep : Int} {cs : List (List Int)} (hk : 0 ≤ keep) : ((keptM keep (occM cs)).length : Int) ≤ keep := by
  have hn : (keptM keep (occM cs)).Nodup := (occM_nodup cs).filter _
  have h1 : ((keptM keep (occM cs)).map fun x => x.toNat - 1).Nodup := by
    refine List.pairwise_map.2 (hn.imp_of_mem fun {a b} ha hb hab e => hab ?_)
    have := occM_range (keptM_mem.1 ha).1
    have := occM_range (keptM_mem.1 hb).1
    omega
  have := pigeon2 keep.toNat _ h1 (fun x hx => by
    obtain ⟨y, hy, rfl⟩ := List.mem_map.1 hx
    have h1 := keptM_mem.1 hy
    have := occM_range h1.1
    omega)
  rw [List.length_map] at this
  omega
theorem ccGo_all {keep : Int} {ts : List Claim} : ∀ (n i : Nat), ccGo keep ts n i = 0 → ∀ j, i ≤ j → j < i + n → ccM keep ts j = 0
  | 0, i, _, j, h1, h2 => by omega
  | n + 1, i, h, j, h1, h2 => by
    rw [ccGo] at h
    by_cases hz : ccM keep ts i = 0
    · rw [if_neg (by simp [hz])] at h
      by_cases e : j = i
      · rw [e]; exact hz
      · exact ccGo_all n (i + 1) h j (by omega) (by omega)
    · rw [if_pos hz] at h
      exact absurd h hz
/-- an accepted trace -/
def AccT (keep : Int) (cs : List (List Int)) (ts : List Claim) : Prop :=
  keep ≤ 40 ∧ 0 < ts.length ∧ (∀ i : Nat, i < ts.length → ccM keep ts i = 0) ∧ (ts.getD (ts.length - 1) clNil).cls = cs
theorem tck_acc {vars keep : Int} {cs : List (List Int)} {ts : List Claim} (h : tckM vars keep cs ts = 0) : checkM vars keep cs = 0 ∧ AccT keep cs ts := by
  unfold tckM at h
  by_cases h0 : checkM vars keep cs ≠ 0
  · rw [if_pos h0] at h; exact absurd h h0
  rw [if_neg h0] at h
  by_cases h1 : 40 < keep ∨ 65536 < ts.length
  · rw [if_pos h1] at h; cases h
  rw [if_neg h1] at h
  by_cases h2 : ts.length = 0
  · rw [if_pos h2] at h; cases h
  rw [if_neg h2] at h
  by_cases h3 : ccGo keep ts ts.length 0 ≠ 0
  · rw [if_pos h3] at h; exact absurd h h3
  rw [if_neg h3] at h
  by_cases h4 : ((ts.getD (ts.length - 1) clNil).cls == cs) = false
  · rw [if_pos h4] at h; cases h
  refine ⟨by simpa using h0, by omega, by omega, fun i hi => ccGo_all _ _ (by simpa using h3) i (Nat.zero_le _) (by omega), ?_⟩
  simpa using h4
theorem cc_count {keep : Int} {ts : List Claim} {i : Nat} (h : ccM keep ts i = 0) : 0 ≤ keep ∧ keep ≤ 40 ∧ i < ts.length ∧ canB (ts.getD i clNil).cls = true ∧ 0 ≤ (ts.getD i clNil).count ∧ (ts.getD i clNil).count ≤ 2 ^ (keptM keep (occM (ts.getD i clNil).cls)).length ∧
    (∀ k ∈ (ts.getD i clNil).kids, 0 ≤ k ∧ k < (i : Int)) ∧ folM keep (ts.getD i clNil) (kidsM ts (ts.getD i clNil)) (occM (ts.getD i clNil).cls) = true := by
  unfold ccM at h
  by_cases h1 : keep < 0 ∨ 40 < keep ∨ (i : Int) < 0 ∨ (ts.length : Int) ≤ i
  · rw [if_pos h1] at h; cases h
  rw [if_neg h1] at h
  rw [show ((i : Nat) : Int).toNat = i by omega] at h
  by_cases h2 : canB (ts.getD i clNil).cls = false
  · rw [if_pos h2] at h; cases h
  rw [if_neg h2] at h
  by_cases h3 : (ts.getD i clNil).count < 0 ∨ 2 ^ (keptM keep (occM (ts.getD i clNil).cls)).length < (ts.getD i clNil).count
  · rw [if_pos h3] at h; cases h
  rw [if_neg h3] at h
  by_cases h4 : ((ts.getD i clNil).kids.any fun k => decide (k < 0) || decide ((i : Int) ≤ k)) = true
  · rw [if_pos h4] at h; cases h
  rw [if_neg h4] at h
  by_cases h5 : folM keep (ts.getD i clNil) (kidsM ts (ts.getD i clNil)) (occM (ts.getD i clNil).cls) = false
  · rw [if_pos h5] at h; cases h
  refine ⟨by omega, by omega, by omega, by simpa using h2, by omega, by omega, fun k hk => ?_, by simpa using h5⟩
  have h4' : ((ts.getD i clNil).kids.any fun k => decide (k < 0) || decide ((i : Int) ≤ k)) = false := by simpa using h4
  have := List.any_eq_false.1 h4' k hk
  simp at this
  omega
def totA (vars keep : Int) (cs : List (List Int)) (ts : List Claim) : Int := if tckM vars keep cs ts = 0 then totN keep cs ts else 0
def TotPost (W : World) (n c : Int) (e : Ending) (w' : World) : Prop := e = .returned (.tuple #[.int .i64 n, .int .i64 c]) ∧ Below W.heap.size W w'
def FewPost (W : World) (ts : List Claim) (e : Ending) (w' : World) : Prop := ∃ B, e = .returned (.bool B) ∧ Below W.heap.size W w' ∧ (B = true → ts.length ≤ 120 ∧ ∀ c ∈ ts, SzC c)
def ShortPost (W : World) (cs : List (List Int)) (e : Ending) (w' : World) : Prop := ∃ B, e = .returned (.bool B) ∧ Below W.heap.size W w' ∧ (B = true → cs.length ≤ 20 ∧ ∀ x ∈ cs, x.length ≤ 100)
theorem few_no {W w' : World} {ts : List Claim} (h : Below W.heap.size W w') : FewPost W ts (.returned (.bool false)) w' := ⟨false, rfl, h, fun h => by cases h⟩
end Go.Proofs.YtljaegmmfjllkaaGreatDoor
