/- (Counter seat) Walk: Components' closure root; the map of first indices. No condition but the ranges. -/
import Derived.Test.YthanfjpmcckbhaaGreatDoorYh
import Derived.Test.YthanfjpmcckbhaaGreatDoorYp
import Derived.Shelf.Slices.CompactI
namespace Go.Proofs.YthanfjpmcckbhaaGreatDoor
open Go.ChangeShapes Go.WideShapes Go.ChangeAt Go.RowKit
set_option linter.unusedVariables false
set_option linter.unusedSimpArgs false

set_option maxRecDepth 100000 in
set_option maxHeartbeats 4000000 in
theorem root_any (lb gb n : Nat) (ms : List Nat) (i : Nat) (w : World) (hl : w.cell? ⟨lb, 0, none⟩ = some (.slice (some ⟨gb, 0, none⟩) n n)) (hc : ∀ j, j < n → w.cell? ⟨gb, j, none⟩ = some (.int .i64 (ms.getD j 0 : Nat))) (hk : Lk n ms) (hi : i < n) (hn : n ≤ 100000) :
    Calls Tryz.prog 43 #[.int .i64 (i : Nat), .pointer (some ⟨lb, 0, none⟩)] w fun e w' => e = .returned (.int .i64 (rootL ms i : Nat)) ∧ w' = w := by
  obtain ⟨R, hR⟩ : ∃ R, rootL ms i = R := ⟨_, rfl⟩
  have HR := Lib.hid hR
  have HC := Lib.hid hc
  have HK := Lib.hid hk
  rw [hR]
  clear hR hc hk
  go_enter Tryz.func43, Tryz.ntmps43
  go_wp2_with fail
  go_loopg [0] i (fun gg u0 wx => ∃ j : Nat, u0 = .int .i64 (j : Nat) ∧ j < n ∧ j ≤ gg ∧ Hid (rootL ms j = R) ∧ wx = w)
  case atStart => exact ⟨i, rfl, hi, Nat.le_refl _, HR, rfl⟩
  case round =>
  clear HR hi
  obtain ⟨j, rfl, hj, hjg, HR, rfl⟩ := hrel
  have hcj := HC.out j hj
  have hst := rootL_step HK.out hj
  have hle := HK.out.le j hj
  have hj0 : (0 : Int) ≤ j := by omega
  have hjn : (j : Int) < n := by omega
  by_cases h : ms.getD j 0 = j
  · rw [if_pos h] at hst
    rw [h] at hcj
    have hRj : R = j := by rw [← HR.out]; exact hst
    subst hRj
    have hd : ((R : Int) != R) = false := by simp
    clear hst h hle
    go_wp2_with fail
    go_ret
    exact ⟨rfl, rfl⟩
  · obtain ⟨q, hq⟩ : ∃ q, ms.getD j 0 = q := ⟨_, rfl⟩
    rw [if_neg h] at hst
    rw [hq] at hcj hst hle h
    have HR2 : Hid (rootL ms q = R) := Lib.hid (by rw [← hst]; exact HR.out)
    have hd : ((q : Int) != j) = true := by simp; omega
    clear hst hq
    go_wp2_with fail
    go_roundg (gk - 1)
    case measure => omega
    case rel => exact ⟨q, rfl, by omega, by omega, HR2, rfl⟩

/-! ### the map of first indices -/
theorem law_u64 : Maps.Keyed Tryz.prog 56 := Maps.int_keyed Tryz.underlying56
theorem u64_wf {x : Int} (h : 0 ≤ x ∧ x ≤ 9223372036854775808) : (Lit.int .u64 x).wf = true := by
  simp [Lit.wf, IntKind.min, IntKind.max, IntKind.signed, IntKind.bits]
  omega
theorem keyOf_u {x : Int} (h : 0 ≤ x ∧ x ≤ 9223372036854775808) : keyOf Tryz.prog 56 (.int .u64 x) = some (.int .u64 x) := Maps.keyOf_int_mk Tryz.underlying56 (u64_wf h)
def FirstM (w : World) (mb k : Nat) (os : List (Nat × Int)) : Prop :=
  ∃ (D : DataW Unit) (n : Nat), w.ownsMap Tryz.prog 56 (plainElem Tryz.prog 3) mb n D ∧ n ≤ k ∧ Maps.IsMap D ∧
    ∀ s : Int, Maps.has D (.int .u64 s) = (firstO os s).isSome ∧ ∀ q, firstO os s = some q → D.atKey (.int .u64 s) (.lit (.int .i64 0)) = .lit (.int .i64 (q : Nat))
section firstm
variable {w w' : World} {mb k : Nat} {os : List (Nat × Int)}
theorem FirstM.lt (h : FirstM w mb k os) : mb < w.heap.size := let ⟨_, _, h1, _⟩ := h; h1.lt
theorem FirstM.mono {m : Nat} (h : FirstM w mb k os) (hm : k ≤ m) : FirstM w mb m os := let ⟨D, n, h1, h2, h3⟩ := h; ⟨D, n, h1, Nat.le_trans h2 hm, h3⟩
theorem FirstM.grown {row : Option Nat} (h : FirstM w mb k os) (hg : w.grownBy w' row) (hne : some mb ≠ row) : FirstM w' mb k os := by
  obtain ⟨D, n, h1, h2⟩ := h
  exact ⟨D, n, h1.kept hg hne, h2⟩
theorem FirstM.look {s : Int} (h : FirstM w mb k os) (hs : 0 ≤ s ∧ s ≤ 9223372036854775808) : ∃ c, (Instr.lookup 73 (.map (some mb)) (.int .u64 s) true).run Tryz.prog w = .ok (.tuple #[.int .i64 c, .bool (firstO os s).isSome]) w ∧ ∀ q, firstO os s = some q → c = (q : Nat) := by
  obtain ⟨D, n, h1, _, h2, h3⟩ := h
  obtain ⟨v, ps, hrun, hv⟩ := h1.look_ok law_u64 Tryz.underlying73 (z := .int .i64 0) (by kernel_rfl) (plainElem_int Tryz.underlying3 (by decide)) (keyOf_u hs)
  obtain ⟨c, rfl, hc, _⟩ := plainElem_int_inv Tryz.underlying3 hv
  rw [(h3 s).1] at hrun
  refine ⟨c, hrun, fun q hq => ?_⟩
  have h5 := congrArg Prod.fst hc
  simp only at h5
  rw [(h3 s).2 q hq] at h5
  simp at h5
  omega
theorem first_put {D : DataW Unit} {n i : Nat} {r : Int} (hno : firstO os r = none)
    (h1 : w'.ownsMap Tryz.prog 56 (plainElem Tryz.prog 3) mb (n + 1) (D.put (.int .u64 r) (.lit (.int .i64 (i : Nat))))) (hn : n ≤ k) (h2 : Maps.IsMap D)
    (h3 : ∀ s : Int, Maps.has D (.int .u64 s) = (firstO os s).isSome ∧ ∀ q, firstO os s = some q → D.atKey (.int .u64 s) (.lit (.int .i64 0)) = .lit (.int .i64 (q : Nat))) : FirstM w' mb (k + 1) (os ++ [(i, r)]) := by
  refine ⟨_, n + 1, h1, by omega, h2.put _ _, fun s => ?_⟩
  rw [firstO_snoc]
  by_cases e : s = r
  · subst e
    rw [Maps.has_put_same h2 (by trivial), Maps.atKey_put_same h2 (by trivial), hno]
    refine ⟨by simp, fun q hq => ?_⟩
    simp at hq
    rw [hq]
  · have hne : (Lit.int .u64 s) ≠ Lit.int .u64 r := by simpa using e
    rw [Maps.has_put_other hne, Maps.atKey_put_other hne, (h3 s).1]
    rcases hf : firstO os s with _ | p
    · exact ⟨by simp [e], fun q hq => by simp [e] at hq⟩
    · refine ⟨by simp, fun q hq => ?_⟩
      simp at hq
      subst hq
      exact (h3 s).2 p hf
/-- a size met again: nothing new -/
theorem FirstM.again {i q : Nat} {r : Int} (h : FirstM w mb k os) (hq : firstO os r = some q) : FirstM w mb k (os ++ [(i, r)]) := by
  obtain ⟨D, n, h1, h2, h3, h4⟩ := h
  refine ⟨D, n, h1, h2, h3, fun s => ?_⟩
  have e : firstO (os ++ [(i, r)]) s = firstO os s := by
    rw [firstO_snoc]
    rcases hf : firstO os s with _ | p
    · have : s ≠ r := fun e => by rw [e, hq] at hf; cases hf
      simp [this]
    · rfl
  rw [e]
  exact h4 s
end firstm

/-! ### the map of places -/
def AtM (w : World) (mb k : Nat) (f : Nat → Nat) (i : Nat) : Prop :=
  ∃ (D : DataW Unit) (n : Nat), w.ownsMap Tryz.prog 3 (plainElem Tryz.prog 3) mb n D ∧ n ≤ k ∧ Maps.IsMap D ∧
    ∀ r : Nat, f r = r → Maps.has D (.int .i64 (r : Nat)) = decide (r < i) ∧ (r < i → D.atKey (.int .i64 (r : Nat)) (.lit (.int .i64 0)) = .lit (.int .i64 ((rootsTo f r).length : Nat)))
section atm
variable {w w' : World} {mb k i : Nat} {f : Nat → Nat}
theorem AtM.lt (h : AtM w mb k f i) : mb < w.heap.size := let ⟨_, _, h1, _⟩ := h; h1.lt
theorem AtM.grown {row : Option Nat} (h : AtM w mb k f i) (hg : w.grownBy w' row) (hne : some mb ≠ row) : AtM w' mb k f i := by
  obtain ⟨D, n, h1, h2⟩ := h
  exact ⟨D, n, h1.kept hg hne, h2⟩
theorem AtM.look {r : Nat} (h : AtM w mb k f i) (hr : f r = r) (hl : r ≤ 100000) : ∃ c, (Instr.lookup 75 (.map (some mb)) (.int .i64 (r : Nat)) true).run Tryz.prog w = .ok (.tuple #[.int .i64 c, .bool (decide (r < i))]) w ∧ (r < i → c = ((rootsTo f r).length : Nat)) := by
  obtain ⟨D, n, h1, _, h2, h3⟩ := h
  obtain ⟨v, ps, hrun, hv⟩ := h1.look_ok law_int Tryz.underlying75 (z := .int .i64 0) (by kernel_rfl) (plainElem_int Tryz.underlying3 (by decide)) (keyOf_i (x := (r : Nat)) (by unfold I64; omega))
  obtain ⟨c, rfl, hc, _⟩ := plainElem_int_inv Tryz.underlying3 hv
  rw [(h3 r hr).1] at hrun
  refine ⟨c, hrun, fun hq => ?_⟩
  have h5 := congrArg Prod.fst hc
  simp only at h5
  rw [(h3 r hr).2 hq] at h5
  simp at h5
  omega
theorem at_put {D : DataW Unit} {n : Nat} (h1 : w'.ownsMap Tryz.prog 3 (plainElem Tryz.prog 3) mb (n + 1) (D.put (.int .i64 (i : Nat)) (.lit (.int .i64 ((rootsTo f i).length : Nat))))) (hn : n ≤ k) (h2 : Maps.IsMap D)
    (h3 : ∀ r : Nat, f r = r → Maps.has D (.int .i64 (r : Nat)) = decide (r < i) ∧ (r < i → D.atKey (.int .i64 (r : Nat)) (.lit (.int .i64 0)) = .lit (.int .i64 ((rootsTo f r).length : Nat)))) : AtM w' mb (k + 1) f (i + 1) := by
  refine ⟨_, n + 1, h1, by omega, h2.put _ _, fun r hr => ?_⟩
  by_cases e : r = i
  · subst e
    rw [Maps.has_put_same h2 (by trivial), Maps.atKey_put_same h2 (by trivial)]
    exact ⟨by simp, fun _ => rfl⟩
  · have hne : (Lit.int .i64 (r : Nat)) ≠ Lit.int .i64 (i : Nat) := by
      intro h
      injection h with _ h
      omega
    rw [Maps.has_put_other hne, Maps.atKey_put_other hne, (h3 r hr).1]
    exact ⟨by rw [decide_eq_decide]; omega, fun h => (h3 r hr).2 (by omega)⟩
/-- an index that is no root: the map goes on as it is -/
theorem AtM.skip (h : AtM w mb k f i) (hi : f i ≠ i) : AtM w mb (k + 1) f (i + 1) := by
  obtain ⟨D, n, h1, h2, h3, h4⟩ := h
  refine ⟨D, n, h1, by omega, h3, fun r hr => ?_⟩
  have : r ≠ i := fun e => hi (by rw [← e]; exact hr)
  rw [(h4 r hr).1]
  exact ⟨by rw [decide_eq_decide]; omega, fun h => (h4 r hr).2 (by omega)⟩
end atm

/- (Counter seat) Walk: Components. No condition but the sizes. -/
open Go.ChangeShapes Go.WideShapes Go.ChangeAt Go.RowKit
set_option linter.unusedVariables false
set_option linter.unusedSimpArgs false

theorem set_hp {w : World} {b o i : Nat} {v : Value} (h : i ≠ b) : (w.setCell ⟨b, o, none⟩ v).heap[i]? = w.heap[i]? := Below.heap_setCell _ _ _ _ h
/-- a slice of slices of ints, all of the call's own, each in a block of its own -/
def OutR (w : World) (B : Nat) (v : Value) (us : List Value) (gs : List (List Int)) : Prop :=
  w.ownsRow B 32 1 v gs.length us ∧ us.length = gs.length ∧
    (∀ (j : Nat) u g, us[j]? = some u → gs[j]? = some g → w.ownsRow B 3 1 u g.length (g.map (.int .i64)) ∧ (∀ b, u.ownBlock = some b → v.ownBlock ≠ some b)) ∧
    (∀ (i j : Nat) u x b, us[i]? = some u → us[j]? = some x → u.ownBlock = some b → x.ownBlock = some b → i = j)
def OutO (w : World) (B : Nat) (v : Value) (gs : List (List Int)) : Prop := ∃ us, OutR w B v us gs
theorem OutO.nil (w : World) (B : Nat) : OutO w B (.slice none 0 0) [] := ⟨[], World.ownsRow_nil _ _ _ _, rfl, fun j u g h => by simp at h, fun i j u x b h => by simp at h⟩
theorem OutO.kept {w w' : World} {B : Nat} {v : Value} {gs : List (List Int)} (h : OutO w B v gs) (hb : ∀ b, B ≤ b → b < w.heap.size → w'.heap[b]? = w.heap[b]?) : OutO w' B v gs := by
  obtain ⟨us, h1, h2, h3, h4⟩ := h
  exact ⟨us, own_same h1 fun b e => hb b (h1.lt b e).1 (h1.lt b e).2, h2, fun j u g hu hg => ⟨own_same (h3 j u g hu hg).1 fun b e => hb b ((h3 j u g hu hg).1.lt b e).1 ((h3 j u g hu hg).1.lt b e).2, (h3 j u g hu hg).2⟩, h4⟩
/-- nil is appended -/
theorem OutR.push {w w' : World} {B g cap : Nat} {v : Value} {us : List Value} {gs : List (List Int)} (h : OutR w B v us gs)
    (hown : w'.ownsRow B 32 1 (.slice (some ⟨g, 0, none⟩) (gs.length + 1) cap) (gs.length + 1) (us ++ [.slice none 0 0])) (hg : w.grownBy w' v.ownBlock) (hat : v.ownBlock = some g ∨ w.heap.size ≤ g) : OutO w' B (.slice (some ⟨g, 0, none⟩) (gs.length + 1) cap) (gs ++ [[]]) := by
  obtain ⟨h1, h2, h3, h4⟩ := h
  have hin : ∀ (j : Nat) u, (us ++ [Value.slice none 0 0])[j]? = some u → us[j]? = some u ∨ (j = us.length ∧ u = .slice none 0 0) := fun j u hu => by
    rcases Nat.lt_or_ge j us.length with h | h
    · rw [List.getElem?_append_left h] at hu; exact .inl hu
    · rw [List.getElem?_append_right h] at hu
      rcases hq : j - us.length with _ | q
      · rw [hq] at hu; simp at hu; exact .inr ⟨by omega, hu.symm⟩
      · rw [hq] at hu; simp at hu
  refine ⟨us ++ [.slice none 0 0], by simpa using hown, by simp [h2], fun j u x hu hx => ?_, fun i j u x b hu hx e1 e2 => ?_⟩
  · rcases hin j u hu with h | ⟨rfl, rfl⟩
    · have hj : j < gs.length := by rw [← h2]; exact (List.getElem?_eq_some_iff.1 h).1
      rw [List.getElem?_append_left hj] at hx
      obtain ⟨q1, q2⟩ := h3 j u x h hx
      refine ⟨own_same q1 fun b e => hg.block b (q1.lt b e).2 fun e2 => q2 b e e2.symm, fun b e e2 => ?_⟩
      have e3 : g = b := by simpa [Value.ownBlock] using e2
      subst e3
      rcases hat with h5 | h5
      · exact q2 _ e h5
      · have := (q1.lt _ e).2; omega
    · rw [h2] at hx
      simp at hx
      subst hx
      exact ⟨World.ownsRow_nil _ _ _ _, fun b e => by cases e⟩
  · rcases hin i u hu with h | ⟨rfl, rfl⟩
    · rcases hin j x hx with h' | ⟨rfl, rfl⟩
      · exact h4 i j u x b h h' e1 e2
      · cases e2
    · cases e1
/-- a part grows by one index -/
theorem OutR.grow {w w' : World} {B og n cap p g cap' : Nat} {us : List Value} {gs : List (List Int)} {u : Value} {gp : List Int} {x : Int} (h : OutR w B (.slice (some ⟨og, 0, none⟩) n cap) us gs) (hu : us[p]? = some u) (hgp : gs[p]? = some gp)
    (hown : w'.ownsRow B 3 1 (.slice (some ⟨g, 0, none⟩) (gp.length + 1) cap') (gp.length + 1) (gp.map (.int .i64) ++ [.int .i64 x])) (hg : w.grownBy w' u.ownBlock) (hgl : g < w'.heap.size) (hat : u.ownBlock = some g ∨ w.heap.size ≤ g) :
    OutO (w'.setCell ⟨og, p, none⟩ (.slice (some ⟨g, 0, none⟩) (gp.length + 1) cap')) B (.slice (some ⟨og, 0, none⟩) n cap) (gs.set p (gp ++ [x])) := by
  obtain ⟨h1, h2, h3, h4⟩ := h
  obtain ⟨q1, q2⟩ := h3 p u gp hu hgp
  have hpl : p < gs.length := (List.getElem?_eq_some_iff.1 hgp).1
  have hog : u.ownBlock ≠ some og := fun e => q2 og e rfl
  have hogl : og < w.heap.size := (h1.lt og rfl).2
  have hgog : g ≠ og := by
    rcases hat with h | h
    · exact fun e => hog (by rw [h, e])
    · omega
  have h1' : w'.ownsRow B 32 1 (.slice (some ⟨og, 0, none⟩) n cap) gs.length us := own_same h1 fun b e => by
    have e3 : og = b := by simpa [Value.ownBlock] using e
    subst e3
    exact hg.block og hogl fun e => hog e.symm
  have hn : n = gs.length := by
    rcases h1.2 with ⟨e, _⟩ | ⟨_, _, _, e, _⟩
    · cases e
    · injection e
  subst hn
  obtain ⟨_, _, _, _, _, _, hset⟩ := own_at (fun v : Value => v) (ms := us) (v := p) (by rw [List.map_id']; exact h1') hpl
  have hset2 := hset (.slice (some ⟨g, 0, none⟩) (gp.length + 1) cap')
  rw [List.map_id'] at hset2
  refine ⟨us.set p (.slice (some ⟨g, 0, none⟩) (gp.length + 1) cap'), by rw [List.length_set]; exact hset2, by simp [h2], fun j y z hy hz => ?_, fun i j y z b hy hz e1 e2 => ?_⟩
  · rw [List.getElem?_set] at hy hz
    by_cases e : p = j
    · subst e
      rw [if_pos rfl, if_pos (by omega)] at hy hz
      injection hy with hy
      injection hz with hz
      subst hy hz
      refine ⟨?_, fun b e e2 => ?_⟩
      · have : w'.ownsRow B 3 1 (.slice (some ⟨g, 0, none⟩) (gp.length + 1) cap') (gp ++ [x]).length ((gp ++ [x]).map (.int .i64)) := by simpa using hown
        exact own_same this fun b e => set_hp (fun e4 => hgog (by
          have : g = b := by simpa [Value.ownBlock] using e
          omega))
      · have a1 : g = b := by simpa [Value.ownBlock] using e
        have a2 : og = b := by simpa [Value.ownBlock] using e2
        omega
    · rw [if_neg e] at hy hz
      obtain ⟨r1, r2⟩ := h3 j y z hy hz
      refine ⟨own_same r1 fun b eb => ?_, r2⟩
      have hne : b ≠ og := fun e4 => r2 b eb (by rw [e4]; rfl)
      rw [set_hp hne]
      exact hg.block b (r1.lt b eb).2 fun e4 => e (h4 p j u y b hu hy e4.symm eb)
  · have hget : ∀ {a : Nat} {q : Value}, (us.set p (.slice (some ⟨g, 0, none⟩) (gp.length + 1) cap'))[a]? = some q → (a = p ∧ q = .slice (some ⟨g, 0, none⟩) (gp.length + 1) cap') ∨ (a ≠ p ∧ us[a]? = some q) := fun {a q} hq => by
      rw [List.getElem?_set] at hq
      by_cases e : p = a
      · subst e
        rw [if_pos rfl, if_pos (by omega)] at hq
        injection hq with hq
        exact .inl ⟨rfl, hq.symm⟩
      · rw [if_neg e] at hq
        exact .inr ⟨fun e2 => e e2.symm, hq⟩
    have hblk : ∀ {a : Nat} {q : Value} {b : Nat}, a ≠ p → us[a]? = some q → q.ownBlock = some b → b ≠ g := fun {a q b} hne hq hb e => by
      have hal : a < gs.length := by rw [← h2]; exact (List.getElem?_eq_some_iff.1 hq).1
      have hr := (h3 a q _ hq (List.getElem?_eq_getElem hal)).1.lt b hb
      rcases hat with h | h
      · exact hne (h4 a p q u b hq hu hb (by rw [h, e]))
      · omega
    rcases hget hy with ⟨a1, a2⟩ | ⟨a1, a2⟩ <;> rcases hget hz with ⟨b1, b2⟩ | ⟨b1, b2⟩
    · omega
    · subst a2
      have : g = b := by simpa [Value.ownBlock] using e1
      exact absurd this.symm (hblk b1 b2 e2)
    · subst b2
      have : g = b := by simpa [Value.ownBlock] using e2
      exact absurd this.symm (hblk a1 a2 e1)
    · exact h4 i j y z b a2 b2 e1 e2
/-- handed over as a reading -/
theorem OutO.clss {w : World} {B : Nat} {v : Value} {gs : List (List Int)} (h : OutO w B v gs) (hl : gs.length ≤ 9223372036854775807) (hg : ∀ g ∈ gs, g.length ≤ 9223372036854775807 ∧ ∀ x ∈ g, I64 x) : Clss (fun b => B ≤ b) w v gs := by
  obtain ⟨us, h1, h2, h3, _⟩ := h
  refine ⟨us, (ownsRow_sl1 h1 (by omega)).mono fun b hb => hb.1, h2, fun j u g hu hx => ⟨?_, (hg g (List.mem_of_getElem? hx)).2⟩⟩
  exact (ownsRow_sl1 (h3 j u g hu hx).1 (hg g (List.mem_of_getElem? hx)).1).mono fun b hb => hb.1
/-- the links in memory -/
def LinkO (w : World) (B lb gb n : Nat) (ms : List Nat) : Prop := w.cell? ⟨lb, 0, none⟩ = some (.slice (some ⟨gb, 0, none⟩) n n) ∧ w.ownsRow B 3 1 (.slice (some ⟨gb, 0, none⟩) n n) n (ms.map fun k : Nat => .int .i64 (k : Int)) ∧ lb ≠ gb
section linko
variable {w w' : World} {B lb gb n : Nat} {ms : List Nat}
theorem LinkO.lt (h : LinkO w B lb gb n ms) : lb < w.heap.size ∧ gb < w.heap.size := ⟨block_lt h.1, (h.2.1.lt gb rfl).2⟩
theorem LinkO.grown {row : Option Nat} (h : LinkO w B lb gb n ms) (hg : w.grownBy w' row) (h1 : some lb ≠ row) (h2 : some gb ≠ row) : LinkO w' B lb gb n ms :=
  ⟨grown_c2 hg h1 h.1, own_same h.2.1 fun b e => by
    have : gb = b := by simpa [Value.ownBlock] using e
    subst this
    exact hg.block gb h.lt.2 h2, h.2.2⟩
theorem LinkO.cells (h : LinkO w B lb gb n ms) : ∀ j, j < n → w.cell? ⟨gb, j, none⟩ = some (.int .i64 (ms.getD j 0 : Nat)) := fun j hj => by
  obtain ⟨x, h1, h2, _⟩ := own_at (fun k : Nat => Value.int .i64 (k : Int)) h.2.1 hj
  rw [List.getD_eq_getElem?_getD, h1]
  exact h2
theorem LinkO.set (h : LinkO w B lb gb n ms) {v : Nat} (hv : v < n) (u : Nat) : LinkO (w.setCell ⟨gb, v, none⟩ (.int .i64 (u : Int))) B lb gb n (ms.set v u) := by
  obtain ⟨x, _, _, _, _, _, h2⟩ := own_at (fun k : Nat => Value.int .i64 (k : Int)) h.2.1 hv
  exact ⟨set_ne (.inl fun e => h.2.2 e.symm) h.1, h2 u, h.2.2⟩
theorem LinkO.free (h : LinkO w B lb gb n ms) {v : Nat} (hv : v < n) : w.frozen? ⟨gb, v, none⟩ = false := by
  obtain ⟨x, _, _, h2, _⟩ := own_at (fun k : Nat => Value.int .i64 (k : Int)) h.2.1 hv
  exact h2
end linko
/-- what Components hands back -/
def CompPost (W : World) (cs : List (List Int)) (e : Ending) (w' : World) : Prop :=
  ∃ v f, e = .returned v ∧ Clss (fun b => W.heap.size ≤ b) w' v (grpI f cs.length) ∧ Roots cs.length (Rel (connB cs) cs.length) f ∧ Below W.heap.size W w'
theorem set_range {n k : Nat} (h : k < n) : (List.range k ++ List.replicate (n - k) 0).set k k = List.range (k + 1) ++ List.replicate (n - (k + 1)) 0 := by
  apply List.ext_getElem?
  intro j
  rw [List.getElem?_set]
  by_cases e : k = j
  · subst e
    rw [if_pos rfl, if_pos (by simp; omega), List.getElem?_append_left (by simp), List.getElem?_range (by omega)]
  · rw [if_neg e]
    by_cases hj : j < k
    · rw [List.getElem?_append_left (by simpa using hj), List.getElem?_append_left (by simp; omega), List.getElem?_range hj, List.getElem?_range (by omega)]
    · rw [List.getElem?_append_right (by simp; omega), List.getElem?_append_right (by simp; omega), List.getElem?_replicate, List.getElem?_replicate, List.length_range, List.length_range]
      by_cases h2 : j < n
      · rw [if_pos (by omega), if_pos (by omega)]
      · rw [if_neg (by omega), if_neg (by omega)]
theorem made_nats (n : Nat) : (madeCells (Value.cells (.int .i64 0)) (n * 1)).toList = (List.range 0 ++ List.replicate (n - 0) 0).map fun k : Nat => Value.int .i64 (k : Int) := by
  apply List.ext_getElem?
  intro i
  by_cases h : i < n <;> simp [madeCells, Value.cells, h, Nat.mod_one]
theorem min_max_root (a b : Nat) : max (a : Int) b = ((max a b : Nat) : Int) ∧ min (a : Int) b = ((min a b : Nat) : Int) := by constructor <;> omega
set_option maxRecDepth 100000 in
set_option maxHeartbeats 16000000 in
theorem components_any (F : Nat → Prop) (lv : Value) (cs : List (List Int)) (w : World) (hc : Clss F w lv cs) (hl : cs.length ≤ 4000) (hll : ∀ c ∈ cs, c.length ≤ 4000) :
    Calls Tryz.prog 21 #[lv] w (CompPost w cs) := by
  obtain ⟨ca, cn, cc, rfl, HCN, _⟩ := hc.form'
  obtain ⟨s, hs⟩ : ∃ s, w.heap.size = s := ⟨_, rfl⟩
  have hinfo : (Tryz.prog.info? 3).map (fun i => (i.zero, i.size, i.bytes)) = some (some (.int .i64 0), 1, 8) := by kernel_rfl
  obtain ⟨i0, g1, g2, g3, g4⟩ := info_parts hinfo
  have G1 := Lib.hid g1
  have G2 := Lib.hid g2
  have G3 := Lib.hid g3
  have G4 := Lib.hid g4
  have HI := Lib.hid hinfo
  have HIS := Lib.hid (show (Tryz.prog.info? 32).map (fun i => (i.zero, i.size, i.bytes)) = some (some (.slice none 0 0), 1, 24) by kernel_rfl)
  have hn4 : cn ≤ 4000 := by rw [HCN.out]; exact hl
  have HC := Lib.hid (clss_lt hc)
  have HLL := Lib.hid hll
  have HSZ := Lib.hid hs
  have hmm := @run_makeMap Tryz.prog
  clear hc hl hll hs hinfo g1 g2 g3 g4
  go_enter Tryz.func21, Tryz.ntmps21
  go_upto_region 2 with (at_make; refine wpList_make_full _ rfl _ _ 32 rfl w.heap.size 3 i0 (.int .i64 0) 1 Tryz.underlying32 G1.out G2.out G3.out .i64 .i64 _ _ cn rfl rfl (by simp) (by simp) (by rw [G4.out]; omega) (by unfold maxLen; omega) (by simp) ?_; intro w1 hown1 hg1)
  have hlt1 : w.heap.size < w1.heap.size := (hown1.lt _ rfl).2
  obtain ⟨lb, hlb⟩ : ∃ b, w1.heap.size = b := ⟨_, rfl⟩
  obtain ⟨W2, hW2⟩ : ∃ W, w1.alloc (.cells #[.slice (some ⟨w.heap.size, 0, none⟩) cn cn] 32) = W := ⟨_, rfl⟩
  have hb2 : Below w.heap.size w W2 := by rw [← hW2]; exact ((Below.refl _ _).grown hg1 (Nat.le_refl _) (by intro k hk; cases hk)).alloc (by omega) _
  have hrow : W2.heap[lb]? = some (.cells #[.slice (some ⟨w.heap.size, 0, none⟩) cn cn] 32) := by rw [← hW2]; exact new_at' _ _ hlb.symm
  have HLK : Hid (LinkO W2 s lb s cn (List.range 0 ++ List.replicate (cn - 0) 0)) := Lib.hid (by
    rw [made_nats] at hown1
    rw [← HSZ.out]
    refine ⟨by rw [cell_of_row _ _ _ _ _ _ hrow]; rfl, ?_, by omega⟩
    rw [← hW2]
    exact hown1.alloc _)
  have HB2 : Hid (Below s w W2) := Lib.hid (by rw [← HSZ.out]; exact hb2)
  have HW2 := Lib.hid hW2
  have hlb2 : s < lb := by have := HSZ.out; omega
  have hls2 : lb < W2.heap.size := by have := (HLK.out).lt; omega
  rw [hW2, hlb, HSZ.out]
  clear hown1 hg1 hlt1 hb2 hrow hlb hW2
  have hq0 := HLK.out.1
  go_wp2_with fail
  go_loopg [27] cn (fun gg u27 wx => ∃ k : Nat, k + gg = cn ∧ u27 = .int .i64 k ∧ Hid (Below s w wx) ∧ W2.heap.size ≤ wx.heap.size ∧ Hid (LinkO wx s lb s cn (List.range k ++ List.replicate (cn - k) 0)))
  case atStart => exact ⟨0, by omega, rfl, HB2, Nat.le_refl _, HLK⟩
  case round =>
  clear HLK HB2 hq0
  obtain ⟨k, hkg, rfl, HB, hz, HLK⟩ := hrel
  have hq0 := HLK.out.1
  by_cases hk : k < cn
  · have hdk : decide ((k : Int) < cn) = true := by simp; omega
    have hdk' : decide (k < cn) = true := decide_eq_true hk
    have hk0 : (0 : Int) ≤ k := by omega
    have hkn : (k : Int) < cn := by omega
    have hqf := HLK.out.free hk
    have hqc := HLK.out.cells k hk
    have HL2 : Hid (LinkO (wr.setCell ⟨s, k, none⟩ (.int .i64 (k : Int))) s lb s cn (List.range (k + 1) ++ List.replicate (cn - (k + 1)) 0)) := Lib.hid (by rw [← set_range hk]; exact HLK.out.set hk k)
    have HB3 : Hid (Below s w (wr.setCell ⟨s, k, none⟩ (.int .i64 (k : Int)))) := Lib.hid (HB.out.setCell (by simp) _)
    clear HLK HB
    go_wp2_with fail
    go_roundg (gk - 1)
    case measure => omega
    case rel => exact ⟨k + 1, by omega, by go_num, HB3, by simpa using hz, HL2⟩
  obtain rfl : cn = k := by omega
  have hdk : decide ((cn : Int) < cn) = false := by simp
  have hdk' : decide (cn < cn) = false := decide_eq_false (by omega)
  rw [Nat.sub_self, List.replicate_zero, List.append_nil] at HLK
  obtain ⟨mb, hmb⟩ : ∃ b, wr.heap.size = b := ⟨_, rfl⟩
  obtain ⟨W3, hW3⟩ : ∃ W, wr.alloc (.map #[] 0) = W := ⟨_, rfl⟩
  have hg3 : wr.grownBy W3 none := by rw [← hW3]; exact World.grownBy_alloc _ _ _
  have hmw : mb < W3.heap.size := by rw [← hW3]; simp; omega
  have HLK3 : Hid (LinkO W3 s lb s cn (List.range cn)) := Lib.hid (HLK.out.grown hg3 (by simp) (by simp))
  have HB3 : Hid (Below s w W3) := Lib.hid (by rw [← hW3]; exact HB.out.alloc (by have := HB.out.size; have := HSZ.out; omega) _)
  have HF3 : Hid (FirstM W3 mb (4000 * 0) []) := Lib.hid (by rw [← hW3, ← hmb]; exact ⟨_, 0, World.ownsMap_made _ _ _ _, by omega, Maps.isMap_empty, fun s => ⟨by simp [Maps.has, firstO], fun q hq => by simp [firstO] at hq⟩⟩)
  have HS3 : Hid (CoS cs (List.range cn) [] 0 0) := Lib.hid (by have := CoS.start cs; rw [← HCN.out] at this; exact this)
  have hmlb : lb < mb := by rw [← hmb]; omega
  have HMB := Lib.hid hmb
  have HW3 := Lib.hid hW3
  clear hg3 hmb hW3 HLK HB hq0 hz
  go_wp2_with fail
  try rw [HW3.out]
  try rw [HMB.out]
  have hz3 : mb < W3.heap.size := hmw
  have hwx : ∀ x : Int, I64 x → x < 0 → IntKind.u64.wrap (-IntKind.u64.wrap x) = -x := fun x hx h0 => by
    obtain ⟨i1, i2⟩ := hx
    simp [IntKind.wrap, IntKind.bits, IntKind.signed]
    omega
  have HWX := Lib.hid hwx
  clear hwx hk hkg
  go_loopg [39] cn (fun gg u39 wx => ∃ (k : Nat) (l : List Nat) (os : List (Nat × Int)), k + gg = cn ∧ u39 = .int .i64 k ∧ Hid (Below s w wx) ∧ mb < wx.heap.size ∧ Hid (LinkO wx s lb s cn l) ∧ Hid (FirstM wx mb (4000 * k) os) ∧ Hid (CoS cs l os k 0))
  case atStart => exact ⟨0, List.range cn, [], by omega, rfl, HB3, hz3, HLK3, HF3, HS3⟩
  case round =>
  clear HLK3 HB3 HF3 HS3 hz3
  obtain ⟨k, l, os, hkg, rfl, HB, hz, HLK, HFM, HCO⟩ := hrel
  by_cases hk : k < cn
  · obtain ⟨c, hck, ec⟩ := drop_at (xs := cs) (k := k) (by rw [← HCN.out]; exact hk)
    have hcw : Clss (fun b => b < s) wr (.slice ca cn cc) cs := Rows1.move (fun _ _ _ _ _ h hm => h.move hm) (Rows1.mono (fun _ _ _ _ _ h hg => h.mono hg) HC.out fun b hb => by rw [← HSZ.out]; exact hb) fun b hb _ => HB.out.block b hb
    obtain ⟨xb, xo, xv, rfl, hxl, hxb, hcx, hxi⟩ := hcw.at hck
    obtain ⟨xa, xn, xc, rfl, HXN, _⟩ := hxi.form'
    have hcm := List.mem_of_getElem? hck
    have hxn4 : xn ≤ 4000 := by rw [HXN.out]; exact HLL.out c hcm
    have HCG : Hid (cs.getD k [] = c) := Lib.hid (by rw [List.getD_eq_getElem?_getD, hck]; rfl)
    have HXI := Lib.hid hxi
    have hdk : decide ((k : Int) < cn) = true := by simp; omega
    have hdk' : decide (k < cn) = true := decide_eq_true hk
    have HFM0 : Hid (FirstM wr mb (4000 * k + 0) os) := Lib.hid HFM.out
    obtain ⟨GK, hGK⟩ : ∃ G, G = gk := ⟨_, rfl⟩
    subst hGK
    obtain ⟨wo, hwo⟩ : ∃ W, W = wr := ⟨_, rfl⟩
    subst hwo
    clear hcw hck ec hcm hxi HFM
    go_wp2_with fail
    go_loopg [46] xn (fun gg u46 wx => ∃ (j : Nat) (l : List Nat) (os : List (Nat × Int)), j + gg = xn ∧ u46 = .int .i64 j ∧ Hid (Below s w wx) ∧ mb < wx.heap.size ∧ Hid (LinkO wx s lb s cn l) ∧ Hid (FirstM wx mb (4000 * k + j) os) ∧ Hid (CoS cs l os k j) ∧ Hid (Ints (fun b => b < s) wx (.slice xa xn xc) c))
    case atStart => exact ⟨0, l, os, by omega, rfl, HB, hz, HLK, HFM0, HCO, HXI⟩
    case round =>
    clear HB hz HLK HFM0 HCO HXI l os
    obtain ⟨j, l, os, hjg, rfl, HB, hz, HLK, HFM, HCO, HXI⟩ := hrel
    by_cases hj : j < xn
    · obtain ⟨x, hxj, ex⟩ := drop_at (xs := c) (k := j) (by rw [← HXN.out]; exact hj)
      obtain ⟨yb, yo, rfl, _, hyb, hcy, hyi⟩ := HXI.out.at hxj
      have hdj : decide ((j : Int) < xn) = true := by simp; omega
      have hdj' : decide (j < xn) = true := decide_eq_true hj
      have hxg : (cs.getD k [])[j]? = some x := by rw [HCG.out]; exact hxj
      have HXG := Lib.hid hxg
      have hmr := varM_u64 x hyi
      obtain ⟨q, hrun, hq⟩ := HFM.out.look hmr
      have hkc : k < cs.length := by rw [← HCN.out]; exact hk
      obtain ⟨E, hE⟩ : ∃ E, firstO os (varM x) = E := ⟨_, rfl⟩
      have HE := Lib.hid hE
      rw [hE] at hrun
      have HMR := Lib.hid hmr
      have HXJ := Lib.hid hyi
      clear hE hmr hyi hxg hxj
      go_upto_if 53 with fail
      go_cut [11] (fun u11 wx => u11 = .int .u64 (varM x) ∧ wr = wx)
      case first =>
        by_cases hx0 : x < 0
        · have hd : decide (x < 0) = true := decide_eq_true hx0
          have hv : IntKind.u64.wrap (-IntKind.u64.wrap x) = varM x := by rw [HWX.out x HXJ.out hx0]; unfold varM; rw [if_pos hx0]
          go_wp2_with fail
          go_meet
          exact ⟨by go_num, rfl⟩
        · have hd : decide (x < 0) = false := decide_eq_false hx0
          have hv : IntKind.u64.wrap x = varM x := by rw [IntWalk.u64_in _ ⟨by omega, by have := HXJ.out.2; omega⟩]; unfold varM; rw [if_neg hx0]
          go_wp2_with fail
          go_meet
          exact ⟨by go_num, rfl⟩
      case rest =>
      obtain ⟨rfl, hww⟩ := hcut
      have hww := hww.symm
      subst hww
      clear hyb hcx
      rcases E with _ | q'
      · have hown := HFM.out
        obtain ⟨D, m, hown, hmk, hD2, hD3⟩ := hown
        have HD2 := Lib.hid hD2
        have HD3 := Lib.hid hD3
        have HMK := Lib.hid hmk
        have hnb : m + 1 ≤ 9000000000 := by omega
        clear hq hmk hD2 hD3
        simp only [Option.isSome_none] at hrun
        go_wp2_with (at_mapUpdate; refine wpList_mapUpdate_own _ rfl _ _ _ 73 rfl 56 3 law_u64 Tryz.underlying73 (plainElem Tryz.prog 3) mb m D rfl hown (by unfold maxLen; omega) _ _ (.int .u64 (varM x)) rfl rfl (keyOf_u HMR.out) (.lit (.int .i64 (k : Nat))) [] (plainElem_int Tryz.underlying3 (I64_wf ⟨by omega, by omega⟩)) ?_; intro w5 hown5 hgrow5; have HOW5 := Lib.hid hown5; have HG5 := Lib.hid hgrow5; clear hown5 hgrow5 hown)
        have HF5 : Hid (FirstM w5 mb (4000 * k + (j + 1)) (os ++ [(k, varM x)])) := Lib.hid (first_put HE.out HOW5.out HMK.out HD2.out HD3.out)
        have HL5 : Hid (LinkO w5 s lb s cn l) := Lib.hid (HLK.out.grown HG5.out (fun e => by injection e with e; omega) (fun e => by injection e with e; omega))
        have HB5 : Hid (Below s w w5) := Lib.hid (HB.out.grown HG5.out (by have := HSZ.out; have := HB.out.size; omega) fun b hb => by cases hb; omega)
        have HX5 : Hid (Ints (fun b => b < s) w5 (.slice (some ⟨yb, yo, none⟩) xn xc) c) := Lib.hid (HXI.out.move fun b hb hlt => HG5.out.block b hlt fun e => by injection e with e; omega)
        have HC5 := Lib.hid (HCO.out.fresh hkc HXG.out HE.out)
        have hz5 : mb < w5.heap.size := Nat.lt_of_lt_of_le hz HG5.out.size
        go_roundg (gk - 1)
        case measure => omega
        case rel => exact ⟨j + 1, l, os ++ [(k, varM x)], by omega, by go_num, HB5, hz5, HL5, HF5, HC5, HX5⟩
      · have hq := hq q' HE.out
        subst hq
        obtain ⟨hcj, hq'l⟩ := HCO.out.join hkc HXG.out HE.out
        have hlk := HCO.out.uf.lk
        rw [← HCN.out] at hlk hq'l
        obtain ⟨a, ha⟩ : ∃ a, rootL l q' = a := ⟨_, rfl⟩
        obtain ⟨b, hb⟩ : ∃ b, rootL l k = b := ⟨_, rfl⟩
        have hal : a < cn := by rw [← ha]; exact Nat.lt_of_le_of_lt (rootL_le hlk _ hq'l) hq'l
        have hbl : b < cn := by rw [← hb]; exact Nat.lt_of_le_of_lt (rootL_le hlk _ hk) hk
        have hun : unite l q' k = l.set (max a b) (min a b) := by unfold unite; rw [ha, hb]
        have HRA := Lib.hid (root_any lb s cn l q' wc HLK.out.1 HLK.out.cells hlk hq'l (by omega))
        have HRB := Lib.hid (root_any lb s cn l k wc HLK.out.1 HLK.out.cells hlk hk (by omega))
        rw [ha] at HRA
        rw [hb] at HRB
        obtain ⟨mx, hmx⟩ : ∃ m, max a b = m := ⟨_, rfl⟩
        obtain ⟨mn, hmn⟩ : ∃ m, min a b = m := ⟨_, rfl⟩
        have hmxi : max (a : Int) b = mx := by omega
        have hmni : min (a : Int) b = mn := by omega
        have hmxl : mx < cn := by omega
        rw [hmx, hmn] at hun
        rw [hun] at hcj
        have HCJ := Lib.hid hcj
        have HLS := Lib.hid (HLK.out.set hmxl mn)
        have HBS : Hid (Below s w (wc.setCell ⟨s, mx, none⟩ (.int .i64 (mn : Nat)))) := Lib.hid (HB.out.setCell (by simp) _)
        have hgs := set_grown wc s mx (.int .i64 (mn : Nat))
        have HFS : Hid (FirstM (wc.setCell ⟨s, mx, none⟩ (.int .i64 (mn : Nat))) mb (4000 * k + (j + 1)) (os ++ [(k, varM x)])) := Lib.hid (((HFM.out.grown hgs (fun e => by injection e with e; omega)).again HE.out).mono (by omega))
        have HXS : Hid (Ints (fun b => b < s) (wc.setCell ⟨s, mx, none⟩ (.int .i64 (mn : Nat))) (.slice (some ⟨yb, yo, none⟩) xn xc) c) := Lib.hid (HXI.out.move fun b hb hlt => hgs.block b hlt fun e => by injection e with e; omega)
        have hl0 := HLK.out.1
        have hlc := HLK.out.cells mx hmxl
        have hlf := HLK.out.free hmxl
        have hm0 : (0 : Int) ≤ mx := by omega
        have hml : (mx : Int) < cn := by omega
        clear hgs hcj hlk ha hb hun hmx hmn hal hbl HFM HXI HCO
        simp only [Option.isSome_some] at hrun
        go_wp2_with fail
        refine HRA.out.mono ?_
        rintro e w6 ⟨rfl, hw6⟩
        have hw6 := hw6.symm
        subst hw6
        clear HRA hrun
        go_wp2_with fail
        refine HRB.out.mono ?_
        rintro e w6 ⟨rfl, hw6⟩
        have hw6 := hw6.symm
        subst hw6
        clear HRB
        go_wp2_with fail
        go_roundg (gk - 1)
        case measure => omega
        case rel => exact ⟨j + 1, l.set mx mn, os ++ [(k, varM x)], by omega, by go_num, HBS, by simpa using hz, HLS, HFS, HCJ, HXS⟩
    · obtain rfl : xn = j := by omega
      have hdj : decide ((xn : Int) < xn) = false := by simp
      have hdj' : decide (xn < xn) = false := decide_eq_false (by omega)
      have HFN : Hid (FirstM wr mb (4000 * (k + 1)) os) := Lib.hid (HFM.out.mono (by omega))
      have HCX : Hid (CoS cs l os (k + 1) 0) := Lib.hid (HCO.out.next (by rw [HCG.out, HXN.out]; exact Nat.le_refl _))
      go_wp2_with fail
      go_roundg (GK - 1)
      case measure => omega
      case rel => exact ⟨k + 1, l, os, by omega, by go_num, HB, hz, HLK, HFN, HCX⟩
  obtain rfl : cn = k := by omega
  have hdk : decide ((cn : Int) < cn) = false := by simp
  have hdk' : decide (cn < cn) = false := decide_eq_false (by omega)
  have hro := HCO.out
  rw [HCN.out] at hro
  have hroots := hro.roots
  rw [← HCN.out] at hroots
  have HRO := Lib.hid hroots
  have hlk := HCO.out.uf.lk
  rw [← HCN.out] at hlk
  have HLKP := Lib.hid hlk
  obtain ⟨f, hf⟩ : ∃ f, rootL l = f := ⟨_, rfl⟩
  have HRF := Lib.hid hf
  rw [hf] at HRO
  obtain ⟨ab, hab⟩ : ∃ b, wr.heap.size = b := ⟨_, rfl⟩
  obtain ⟨W4, hW4⟩ : ∃ W, wr.alloc (.map #[] 0) = W := ⟨_, rfl⟩
  have hg4 : wr.grownBy W4 none := by rw [← hW4]; exact World.grownBy_alloc _ _ _
  have HLK4 : Hid (LinkO W4 s lb s cn l) := Lib.hid (HLK.out.grown hg4 (by simp) (by simp))
  have HB4 : Hid (Below s w W4) := Lib.hid (by rw [← hW4]; exact HB.out.alloc (by have := HB.out.size; have := HSZ.out; omega) _)
  have HA4 : Hid (AtM W4 ab 0 f 0) := Lib.hid (by rw [← hW4, ← hab]; exact ⟨_, 0, World.ownsMap_made _ _ _ _, by omega, Maps.isMap_empty, fun r _ => ⟨by simp [Maps.has], fun h => by omega⟩⟩)
  obtain ⟨B, hBe⟩ : ∃ B, W4.heap.size = B := ⟨_, rfl⟩
  have hBb : ab + 1 ≤ B := by rw [← hBe, ← hW4]; simp; omega
  have hBs : s < ab ∧ lb < ab := by omega
  have HO4 : Hid (OutO W4 B (.slice none 0 0) (grpI f 0)) := Lib.hid (OutO.nil _ _)
  have HAB := Lib.hid hab
  have HW4 := Lib.hid hW4
  have hzB : B ≤ W4.heap.size := by omega
  clear hro hroots hlk hf hg4 hab hW4 hBe HLK HB HFM HCO hz
  go_wp2_with fail
  try rw [HW4.out]
  try rw [HAB.out]
  clear hk hkg
  go_loopg [17, 86] cn (fun gg u17 u86 wx => ∃ k : Nat, k + gg = cn ∧ u86 = .int .i64 k ∧ Hid (Below s w wx) ∧ B ≤ wx.heap.size ∧ Hid (LinkO wx s lb s cn l) ∧ Hid (AtM wx ab k f k) ∧ Hid (OutO wx B u17 (grpI f k)))
  case atStart => exact ⟨0, by omega, rfl, HB4, hzB, HLK4, HA4, HO4⟩
  case round =>
  clear HLK4 HB4 HA4 HO4 hzB
  obtain ⟨k, hkg, rfl, HB, hz, HLK, HAT, HOO⟩ := hrel
  by_cases hk : k < cn
  case neg =>
    obtain rfl : cn = k := by omega
    have hdk : decide ((cn : Int) < cn) = false := by simp
    have hdk' : decide (cn < cn) = false := decide_eq_false (by omega)
    have HFIN : Hid (CompPost w cs (.returned u17) wr) := Lib.hid ⟨u17, f, rfl, by
      have := HOO.out.clss (by rw [grpI_len]; have := rootsTo_le f cn; omega) fun g hg => ⟨by have := (grpI_mem hg).1; omega, fun x hx => by have := (grpI_mem hg).2 x hx; unfold I64; omega⟩
      rw [← HCN.out]
      exact Rows1.mono (fun _ _ _ _ _ h hg => h.mono hg) this fun b hb => by have := HSZ.out; have := hb; show w.heap.size ≤ b; omega, by rw [← HCN.out]; exact HRO.out, by rw [HSZ.out]; exact HB.out⟩
    go_wp2_with fail
    go_ret
    exact HFIN.out
  have hdk : decide ((k : Int) < cn) = true := by simp; omega
  have hdk' : decide (k < cn) = true := decide_eq_true hk
  have hRA := root_any lb s cn l k wr HLK.out.1 HLK.out.cells HLKP.out hk (by omega)
  have hfk : rootL l k = f k := by rw [HRF.out]
  rw [hfk] at hRA
  have hle := HRO.out.le k hk
  have hid := HRO.out.idem (rel_within _ _) hk
  obtain ⟨r, hr⟩ : ∃ r, f k = r := ⟨_, rfl⟩
  rw [hr] at hRA hle hid
  obtain ⟨c, hrun, hcv⟩ := HAT.out.look hid (by omega)
  have HRA := Lib.hid hRA
  have HR := Lib.hid hr
  have HID := Lib.hid hid
  have HCV := Lib.hid hcv
  have hkl := grpI_len f k
  obtain ⟨oa, oc, rfl⟩ : ∃ a c, u17 = .slice a (grpI f k).length c := by obtain ⟨us, h, _⟩ := HOO.out; exact own_form h
  obtain ⟨gl, hgl⟩ : ∃ g, (grpI f k).length = g := ⟨_, rfl⟩
  have hgl4 : gl ≤ k := by have := rootsTo_le f k; omega
  have HGL := Lib.hid hgl
  clear hRA hfk hr hid hcv
  rw [hgl] at HOO ⊢
  obtain ⟨E, hE⟩ : ∃ E, decide (r < k) = E := ⟨_, rfl⟩
  have HEE := Lib.hid hE
  rw [hE] at hrun
  have hr4 : r ≤ 4000 := by omega
  clear hkl hgl hE
  go_wp2_with fail
  refine HRA.out.mono ?_
  rintro e w6 ⟨rfl, hw6⟩
  have hw6 := hw6.symm
  subst hw6
  clear HRA
  go_upto_if 99 with fail
  go_cut [17, 20] (fun u17 u20 wx => ∃ (gs : List (List Int)) (g : List Int) (p : Nat), u20 = .int .i64 (p : Nat) ∧ Hid (gs[p]? = some g) ∧ Hid (grpI f (k + 1) = gs.set p (g ++ [(k : Int)])) ∧ Hid (OutO wx B u17 gs) ∧ Hid (AtM wx ab (k + 1) f (k + 1)) ∧ Hid (LinkO wx s lb s cn l) ∧ Hid (Below s w wx) ∧ B ≤ wx.heap.size ∧ gs.length ≤ k + 1 ∧ g.length ≤ k)
  case first =>
    rcases bool2 E with rfl | rfl
    · have hrk := of_decide_eq_true HEE.out
      have hc := HCV.out hrk
      subst hc
      obtain ⟨g, hg1, hg2⟩ := grpI_old (f := f) (i := k) (by rw [HR.out]; exact hrk) (by rw [HR.out]; exact HID.out)
      rw [HR.out] at hg1 hg2
      have HFIN : Hid (∃ (gs : List (List Int)) (g : List Int) (p : Nat), Value.int .i64 (((rootsTo f r).length : Nat) : Int) = .int .i64 (p : Nat) ∧ Hid (gs[p]? = some g) ∧ Hid (grpI f (k + 1) = gs.set p (g ++ [(k : Int)])) ∧ Hid (OutO wr B (.slice oa gl oc) gs) ∧ Hid (AtM wr ab (k + 1) f (k + 1)) ∧ Hid (LinkO wr s lb s cn l) ∧ Hid (Below s w wr) ∧ B ≤ wr.heap.size ∧ gs.length ≤ k + 1 ∧ g.length ≤ k) := Lib.hid ⟨grpI f k, g, (rootsTo f r).length, rfl, Lib.hid hg1, Lib.hid hg2, HOO, Lib.hid (HAT.out.skip (by rw [HR.out]; omega)), HLK, HB, hz, by rw [HGL.out]; omega, (grpI_mem (List.mem_of_getElem? hg1)).1⟩
      clear hg1 hg2 hrk
      go_wp2_with fail
      go_meet
      exact HFIN.out
    · have hrk : ¬ r < k := of_decide_eq_false HEE.out
      obtain rfl : k = r := by omega
      obtain ⟨D, m, hown, hmk, hD2, hD3⟩ := HAT.out
      have HD2 := Lib.hid hD2
      have HD3 := Lib.hid hD3
      have HMK := Lib.hid hmk
      have hnb : m + 1 ≤ 9000000000 := by omega
      have hkr : (rootsTo f k).length = gl := by rw [← grpI_len, HGL.out]
      have HKR := Lib.hid hkr
      clear hrk hmk hD2 hD3 hkr
      go_wp2_with (first
        | (at_mapUpdate; refine wpList_mapUpdate_own _ rfl _ _ _ 75 rfl 3 3 law_int Tryz.underlying75 (plainElem Tryz.prog 3) ab m D rfl hown (by unfold maxLen; omega) _ _ (.int .i64 (k : Nat)) rfl rfl (keyOf_i (x := (k : Nat)) ⟨by omega, by omega⟩) (.lit (.int .i64 (gl : Nat))) [] (plainElem_int Tryz.underlying3 (I64_wf ⟨by omega, by omega⟩)) ?_; intro w5 hown5 hgrow5; have HA5 : Hid (AtM w5 ab (k + 1) f (k + 1)) := Lib.hid (at_put (by rw [HKR.out]; exact hown5) HMK.out HD2.out HD3.out); have HL5 : Hid (LinkO w5 s lb s cn l) := Lib.hid (HLK.out.grown hgrow5 (fun e => by injection e with e; omega) (fun e => by injection e with e; omega)); have HB5 : Hid (Below s w w5) := Lib.hid (HB.out.grown hgrow5 (by have := HSZ.out; have := HB.out.size; omega) fun b hb => by cases hb; omega); have hz5 : B ≤ w5.heap.size := Nat.le_trans hz hgrow5.size; obtain ⟨us, hR5⟩ := HOO.out.kept (w' := w5) (fun b hb hlt => hgrow5.block b hlt (fun e => by injection e with e; omega)); have hownO := hR5.1; rw [HGL.out] at hownO; have HR5 := Lib.hid hR5; clear hown5 hgrow5 hown hR5)
        | (at_builtin; go_loud (refine wpList_push1 rfl _ _ 22 rfl 32 (.slice none 0 0) 24 Tryz.underlying22 HIS.out rfl B (.slice oa gl oc) gl us w5 (.slice none 0 0) rfl rfl hownO rfl (by omega) (by omega) (by omega) ?_); intro g7 cap7 w7 hown7 hg7 hs7 hgb hgl hat; have HO7 : Hid (OutO w7 B (.slice (some ⟨g7, 0, none⟩) (gl + 1) cap7) (grpI f k ++ [[]])) := Lib.hid (by { have h := HR5.out.push (by rw [HGL.out]; exact hown7) hg7 hat; rw [HGL.out] at h; exact h }); have HA7 : Hid (AtM w7 ab (k + 1) f (k + 1)) := Lib.hid (HA5.out.grown hg7 (fun e => by have := (hownO.lt _ e.symm).1; omega)); have HL7 : Hid (LinkO w7 s lb s cn l) := Lib.hid (HL5.out.grown hg7 (fun e => by have := (hownO.lt _ e.symm).1; omega) (fun e => by have := (hownO.lt _ e.symm).1; omega)); have HB7 : Hid (Below s w w7) := Lib.hid (HB5.out.grown hg7 (by have := HSZ.out; have := HB5.out.size; omega) (fun b hb => by have := (hownO.lt _ hb).1; omega)); have hz7 : B ≤ w7.heap.size := Nat.le_trans hz5 hg7.size; clear hown7 hg7 hat hownO)
        | go_in)
      go_meet
      exact ⟨grpI f k ++ [[]], [], gl, rfl, Lib.hid (by rw [← HGL.out, List.getElem?_append_right (Nat.le_refl _)]; simp), Lib.hid (by
        rw [grpI_new (fun q hq => HRO.out.le q (by omega)) HID.out, ← HGL.out]
        simp), HO7, HA7, HL7, HB7, hz7, (by rw [List.length_append, HGL.out]; simp; omega), by simp⟩
  case rest =>
  clear HOO HAT HLK HB hz hrun
  obtain ⟨gs, g, p, rfl, HGP, HGE, HOO, HAT, HLK, HB, hz, hgsl, hglk⟩ := hcut
  obtain ⟨us, hR⟩ := HOO.out
  have hpl : p < gs.length := (List.getElem?_eq_some_iff.1 HGP.out).1
  obtain ⟨og, cap, rfl⟩ : ∃ og cap, u17 = .slice (some ⟨og, 0, none⟩) gs.length cap := by
    rcases hR.1.2 with ⟨_, h0⟩ | ⟨og, cap, cur, e, _⟩
    · omega
    · exact ⟨og, cap, e⟩
  obtain ⟨u, hu, hcell, hfz, _, hogl, _⟩ := own_at (fun v : Value => v) (ms := us) (v := p) (by rw [List.map_id']; exact hR.1) hpl
  obtain ⟨q1, q2⟩ := hR.2.2.1 p u g hu HGP.out
  obtain ⟨ua, uc, rfl⟩ := own_form q1
  obtain ⟨gn, hgn⟩ : ∃ n, g.length = n := ⟨_, rfl⟩
  obtain ⟨gsn, hgsn⟩ : ∃ n, gs.length = n := ⟨_, rfl⟩
  have hgn4 : gn ≤ 4001 := by omega
  have HGN := Lib.hid hgn
  have HU := Lib.hid hu
  have HR5 := Lib.hid hR
  have HQ2 := Lib.hid q2
  have hp0 : (0 : Int) ≤ p := by omega
  rw [hgn] at hcell q1 hu
  rw [hgsn] at hpl hgsl ⊢
  have hpn : (p : Int) < gsn := by omega
  have HUB : Hid (∀ b, (Value.slice ua gn uc).ownBlock = some b → B ≤ b ∧ b ≠ og) := Lib.hid fun b hb => ⟨(q1.lt b hb).1, fun e => HQ2.out b (by rw [HGN.out]; exact hb) (by rw [e]; rfl)⟩
  clear hR hu q2 hgn
  go_wp2_with (at_builtin; go_loud (refine wpList_push1 rfl _ _ 32 rfl 3 (.int .i64 0) 8 Tryz.underlying32 HI.out rfl B (.slice ua gn uc) gn (g.map (.int .i64)) wc (.int .i64 (k : Nat)) rfl rfl q1 rfl (by omega) (by omega) (by omega) ?_); intro g7 cap7 w7 hown7 hg7 hs7 hgb hgl hat; have c7 := grown_c2 hg7 (fun e => (HUB.out og e.symm).2 rfl) hcell; have z7 : w7.frozen? ⟨og, p, none⟩ = false := (World.frozen?_of_block (a := ⟨og, p, none⟩) (hg7.block og hogl (fun e => (HUB.out og e.symm).2 rfl))).trans hfz; have HOW7 := Lib.hid hown7; have HG7 := Lib.hid hg7; have HAT7 := Lib.hid hat; clear hown7 hg7 hat q1 hcell hfz)
  have HON : Hid (OutO (w7.setCell ⟨og, p, none⟩ (.slice (some ⟨g7, 0, none⟩) (gn + 1) cap7)) B (.slice (some ⟨og, 0, none⟩) gsn cap) (grpI f (k + 1))) := Lib.hid (by
    have h := HR5.out.grow HU.out HGP.out (x := (k : Int)) (by rw [HGN.out]; exact HOW7.out) (by rw [HGN.out]; exact HG7.out) hgl (by rw [HGN.out]; exact HAT7.out)
    rw [HGN.out, ← HGE.out, hgsn] at h
    exact h)
  have hgs := set_grown w7 og p (.slice (some ⟨g7, 0, none⟩) (gn + 1) cap7)
  have hogB : B ≤ og := (HR5.out.1.lt og rfl).1
  have HAN : Hid (AtM (w7.setCell ⟨og, p, none⟩ (.slice (some ⟨g7, 0, none⟩) (gn + 1) cap7)) ab (k + 1) f (k + 1)) := Lib.hid ((HAT.out.grown HG7.out (fun e => by have := (HUB.out _ e.symm).1; omega)).grown hgs (fun e => by injection e with e; omega))
  have HLN : Hid (LinkO (w7.setCell ⟨og, p, none⟩ (.slice (some ⟨g7, 0, none⟩) (gn + 1) cap7)) s lb s cn l) := Lib.hid ((HLK.out.grown HG7.out (fun e => by have := (HUB.out _ e.symm).1; omega) (fun e => by have := (HUB.out _ e.symm).1; omega)).grown hgs (fun e => by injection e with e; omega) (fun e => by injection e with e; omega))
  have HBN : Hid (Below s w (w7.setCell ⟨og, p, none⟩ (.slice (some ⟨g7, 0, none⟩) (gn + 1) cap7))) := Lib.hid ((HB.out.grown HG7.out (by have := HSZ.out; have := HB.out.size; omega) (fun b hb => by have := (HUB.out _ hb).1; omega)).setCell (by show s ≤ og; omega) _)
  have hzN : B ≤ w7.heap.size := by omega
  have HOGS := Lib.hid hgsn
  clear hgs HR5 HU HGP HGE HAT HLK HB HOO HOW7 HG7 HAT7 HUB HQ2 hgsn
  go_wp2_with fail
  go_roundg (gk - 1)
  case measure => omega
  case rel => exact ⟨k + 1, by omega, by go_num, HBN, by simpa using hzN, HLN, HAN, HON⟩
end Go.Proofs.YthanfjpmcckbhaaGreatDoor
