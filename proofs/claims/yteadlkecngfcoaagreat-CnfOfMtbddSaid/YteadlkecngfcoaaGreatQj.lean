/- Walk of layer 30's worked example. -/
import Derived.Test.YteadlkecngfcoaaGreatQi
import Derived.Test.YteadlkecngfcoaaGreatKo
namespace Go.Proofs.YteadlkecngfcoaaGreat
open Go.ChangeShapes Go.WideShapes Go.ChangeAt Go.RowKit
set_option linter.unusedVariables false

theorem clss_rows {w : World} {b : Nat} {T : TypeId} {fr : Nat × Nat} (ps : List (Value × List Int)) (cap : Nat) (h : w.heap[b]? = some (.cells (ps.map Prod.fst).toArray T fr)) (hl : ps.length ≤ 9223372036854775807)
    (hp : ∀ p ∈ ps, Ints (fun _ => True) w p.1 p.2) : Clss (fun _ => True) w (.slice (some ⟨b, 0, none⟩) ps.length cap) (ps.map Prod.snd) := by
  have hs := sl1_block (ps.map Prod.fst) cap h (by simpa using hl) (fun j u hu => by simpa using hu)
  rw [List.length_map] at hs
  refine ⟨_, hs.mono fun _ _ => trivial, by simp, fun j u p hu hp' => ?_⟩
  rw [List.getElem?_map] at hu hp'
  rcases hj : ps[j]? with _ | q
  · rw [hj] at hu; cases hu
  · rw [hj] at hu hp'
    injection hu with hu
    injection hp' with hp'
    subst hu hp'
    exact hp q (List.mem_of_getElem? hj)
theorem ex_can : canM [[2, 1, 2], [1, -1], [-3], [], [1, 2]] = [[], [1, 2], [-3]] := by decide +kernel
theorem ex_res : resM [[1, 2], [-1, 3], [2]] 1 = [[2], [3]] := by decide +kernel
theorem ex_of : ofBddM 2 3 [(1, 0, 1), (0, 0, 2)] = 0 := by decide +kernel
theorem ex_bdd : canM (bddC 2 3 [(1, 0, 1), (0, 0, 2)]) = [[-1, -3, 4], [-1, 3, -4], [1, -4], [-2, 3], [2, -3], [4]] := by decide +kernel

set_option maxRecDepth 100000 in
set_option maxHeartbeats 8000000 in
theorem known_any (w : World) : Calls Tryz.prog 4 #[] w (BoolPost w true) := by
  go_enter Tryz.func4, Tryz.ntmps4
  go_wp2_with fail
  obtain ⟨Wa, hWa⟩ : ∃ W, ((((((w.alloc (.cells #[.int .i64 2, .int .i64 1, .int .i64 2] 3)).alloc (.cells #[.int .i64 1, .int .i64 (-1)] 3)).alloc (.cells #[.int .i64 (-3)] 3)).alloc (.cells #[] 3)).alloc (.cells #[.int .i64 1, .int .i64 2] 3)).alloc (.cells #[.slice (some ⟨w.heap.size, 0, none⟩) 3 3, .slice (some ⟨w.heap.size + 1, 0, none⟩) 2 2, .slice (some ⟨w.heap.size + 1 + 1, 0, none⟩) 1 1, .slice (some ⟨w.heap.size + 1 + 1 + 1, 0, none⟩) 0 0, .slice (some ⟨w.heap.size + 1 + 1 + 1 + 1, 0, none⟩) 2 2] 22)) = W := ⟨_, rfl⟩
  have hBa : Below w.heap.size w Wa := by rw [← hWa]; exact (((((((Below.refl _ _).alloc (Nat.le_refl _) _).alloc (by simp <;> omega) _).alloc (by simp <;> omega) _).alloc (by simp <;> omega) _).alloc (by simp <;> omega) _).alloc (by simp <;> omega) _)
  have ra0 : Wa.heap[w.heap.size]? = some (.cells #[.int .i64 2, .int .i64 1, .int .i64 2] 3) := by rw [← hWa]; exact (old_at _ _ _ (old_at _ _ _ (old_at _ _ _ (old_at _ _ _ (old_at _ _ _ (new_at' _ _ (by simp)))))))
  have ra1 : Wa.heap[w.heap.size + 1]? = some (.cells #[.int .i64 1, .int .i64 (-1)] 3) := by rw [← hWa]; exact (old_at _ _ _ (old_at _ _ _ (old_at _ _ _ (old_at _ _ _ (new_at' _ _ (by simp))))))
  have ra2 : Wa.heap[w.heap.size + 1 + 1]? = some (.cells #[.int .i64 (-3)] 3) := by rw [← hWa]; exact (old_at _ _ _ (old_at _ _ _ (old_at _ _ _ (new_at' _ _ (by simp)))))
  have ra3 : Wa.heap[w.heap.size + 1 + 1 + 1]? = some (.cells #[] 3) := by rw [← hWa]; exact (old_at _ _ _ (old_at _ _ _ (new_at' _ _ (by simp))))
  have ra4 : Wa.heap[w.heap.size + 1 + 1 + 1 + 1]? = some (.cells #[.int .i64 1, .int .i64 2] 3) := by rw [← hWa]; exact (old_at _ _ _ (new_at' _ _ (by simp)))
  have rao : Wa.heap[w.heap.size + 1 + 1 + 1 + 1 + 1]? = some (.cells #[.slice (some ⟨w.heap.size, 0, none⟩) 3 3, .slice (some ⟨w.heap.size + 1, 0, none⟩) 2 2, .slice (some ⟨w.heap.size + 1 + 1, 0, none⟩) 1 1, .slice (some ⟨w.heap.size + 1 + 1 + 1, 0, none⟩) 0 0, .slice (some ⟨w.heap.size + 1 + 1 + 1 + 1, 0, none⟩) 2 2] 22) := by rw [← hWa]; exact (new_at' _ _ (by simp))
  have ia0 : Ints (fun _ => True) Wa (.slice (some ⟨w.heap.size, 0, none⟩) 3 3) [2, 1, 2] := (ints_block [2, 1, 2] 3 ra0 (by decide) rfl (by simp [I64])).mono fun _ _ => trivial
  have ia1 : Ints (fun _ => True) Wa (.slice (some ⟨w.heap.size + 1, 0, none⟩) 2 2) [1, -1] := (ints_block [1, -1] 2 ra1 (by decide) rfl (by simp [I64])).mono fun _ _ => trivial
  have ia2 : Ints (fun _ => True) Wa (.slice (some ⟨w.heap.size + 1 + 1, 0, none⟩) 1 1) [-3] := (ints_block [-3] 1 ra2 (by decide) rfl (by simp [I64])).mono fun _ _ => trivial
  have ia3 : Ints (fun _ => True) Wa (.slice (some ⟨w.heap.size + 1 + 1 + 1, 0, none⟩) 0 0) [] := (ints_block [] 0 ra3 (by decide) rfl (by simp [I64])).mono fun _ _ => trivial
  have ia4 : Ints (fun _ => True) Wa (.slice (some ⟨w.heap.size + 1 + 1 + 1 + 1, 0, none⟩) 2 2) [1, 2] := (ints_block [1, 2] 2 ra4 (by decide) rfl (by simp [I64])).mono fun _ _ => trivial
  have HCa : Hid (Clss (fun _ => True) Wa (.slice (some ⟨w.heap.size + 1 + 1 + 1 + 1 + 1, 0, none⟩) 5 5) [[2, 1, 2], [1, -1], [-3], [], [1, 2]]) := Lib.hid (clss_rows [((.slice (some ⟨w.heap.size, 0, none⟩) 3 3 : Value), ([2, 1, 2] : List Int)), ((.slice (some ⟨w.heap.size + 1, 0, none⟩) 2 2 : Value), ([1, -1] : List Int)), ((.slice (some ⟨w.heap.size + 1 + 1, 0, none⟩) 1 1 : Value), ([-3] : List Int)), ((.slice (some ⟨w.heap.size + 1 + 1 + 1, 0, none⟩) 0 0 : Value), ([] : List Int)), ((.slice (some ⟨w.heap.size + 1 + 1 + 1 + 1, 0, none⟩) 2 2 : Value), ([1, 2] : List Int))] 5 rao (by simp) (by
    intro p hp
    simp only [List.mem_cons, List.not_mem_nil, or_false] at hp
    rcases hp with rfl | rfl | rfl | rfl | rfl
    · exact ia0
    · exact ia1
    · exact ia2
    · exact ia3
    · exact ia4))
  have HBa := Lib.hid hBa
  rw [hWa]
  clear hWa hBa rao ra0 ia0 ra1 ia1 ra2 ia2 ra3 ia3 ra4 ia4
  have hca := canonical_any _ _ [[2, 1, 2], [1, -1], [-3], [], [1, 2]] Wa HCa.out (by decide) (by decide)
  refine Calls.mono hca ?_
  rintro e w1 ⟨va, rfl, hva, hb1⟩
  rw [ex_can] at hva
  obtain ⟨aa, an, ac, rfl, _, _⟩ := hva.form'
  have HVA := Lib.hid hva
  have HB1 : Hid (Below w.heap.size w w1) := Lib.hid (HBa.out.trans (hb1.mono HBa.out.size))
  clear hca hva hb1 HCa HBa
  go_wp2_with fail
  obtain ⟨Wb, hWb⟩ : ∃ W, ((((w1.alloc (.cells #[.int .i64 1, .int .i64 2] 3)).alloc (.cells #[.int .i64 (-1), .int .i64 3] 3)).alloc (.cells #[.int .i64 2] 3)).alloc (.cells #[.slice (some ⟨w1.heap.size, 0, none⟩) 2 2, .slice (some ⟨w1.heap.size + 1, 0, none⟩) 2 2, .slice (some ⟨w1.heap.size + 1 + 1, 0, none⟩) 1 1] 22)) = W := ⟨_, rfl⟩
  have hBb : Below w1.heap.size w1 Wb := by rw [← hWb]; exact (((((Below.refl _ _).alloc (Nat.le_refl _) _).alloc (by simp <;> omega) _).alloc (by simp <;> omega) _).alloc (by simp <;> omega) _)
  have rb0 : Wb.heap[w1.heap.size]? = some (.cells #[.int .i64 1, .int .i64 2] 3) := by rw [← hWb]; exact (old_at _ _ _ (old_at _ _ _ (old_at _ _ _ (new_at' _ _ (by simp)))))
  have rb1 : Wb.heap[w1.heap.size + 1]? = some (.cells #[.int .i64 (-1), .int .i64 3] 3) := by rw [← hWb]; exact (old_at _ _ _ (old_at _ _ _ (new_at' _ _ (by simp))))
  have rb2 : Wb.heap[w1.heap.size + 1 + 1]? = some (.cells #[.int .i64 2] 3) := by rw [← hWb]; exact (old_at _ _ _ (new_at' _ _ (by simp)))
  have rbo : Wb.heap[w1.heap.size + 1 + 1 + 1]? = some (.cells #[.slice (some ⟨w1.heap.size, 0, none⟩) 2 2, .slice (some ⟨w1.heap.size + 1, 0, none⟩) 2 2, .slice (some ⟨w1.heap.size + 1 + 1, 0, none⟩) 1 1] 22) := by rw [← hWb]; exact (new_at' _ _ (by simp))
  have ib0 : Ints (fun _ => True) Wb (.slice (some ⟨w1.heap.size, 0, none⟩) 2 2) [1, 2] := (ints_block [1, 2] 2 rb0 (by decide) rfl (by simp [I64])).mono fun _ _ => trivial
  have ib1 : Ints (fun _ => True) Wb (.slice (some ⟨w1.heap.size + 1, 0, none⟩) 2 2) [-1, 3] := (ints_block [-1, 3] 2 rb1 (by decide) rfl (by simp [I64])).mono fun _ _ => trivial
  have ib2 : Ints (fun _ => True) Wb (.slice (some ⟨w1.heap.size + 1 + 1, 0, none⟩) 1 1) [2] := (ints_block [2] 1 rb2 (by decide) rfl (by simp [I64])).mono fun _ _ => trivial
  have HCb : Hid (Clss (fun _ => True) Wb (.slice (some ⟨w1.heap.size + 1 + 1 + 1, 0, none⟩) 3 3) [[1, 2], [-1, 3], [2]]) := Lib.hid (clss_rows [((.slice (some ⟨w1.heap.size, 0, none⟩) 2 2 : Value), ([1, 2] : List Int)), ((.slice (some ⟨w1.heap.size + 1, 0, none⟩) 2 2 : Value), ([-1, 3] : List Int)), ((.slice (some ⟨w1.heap.size + 1 + 1, 0, none⟩) 1 1 : Value), ([2] : List Int))] 3 rbo (by simp) (by
    intro p hp
    simp only [List.mem_cons, List.not_mem_nil, or_false] at hp
    rcases hp with rfl | rfl | rfl
    · exact ib0
    · exact ib1
    · exact ib2))
  have HBb := Lib.hid hBb
  rw [hWb]
  clear hWb hBb rbo rb0 ib0 rb1 ib1 rb2 ib2
  have hcb := residual_any _ _ [[1, 2], [-1, 3], [2]] 1 Wb HCb.out (by unfold I64; omega) (by decide) (by decide)
  refine Calls.mono hcb ?_
  rintro e w2 ⟨vb, rfl, hvb, hb2⟩
  rw [ex_res] at hvb
  obtain ⟨ba, bn, bc, rfl, _, _⟩ := hvb.form'
  have hbb := HBb.out.trans (hb2.mono HBb.out.size)
  have HVB := Lib.hid hvb
  have HVA2 := Lib.hid (Clss.below HVA.out hbb)
  have HB2 : Hid (Below w.heap.size w w2) := Lib.hid (HB1.out.trans (hbb.mono HB1.out.size))
  clear hcb hvb hb2 hbb HCb HBb HVA HB1
  go_wp2_with fail
  obtain ⟨Wc, hWc⟩ : ∃ W, w2.alloc (.cells #[.int .i64 1, .int .i64 0, .int .i64 1, .int .i64 0, .int .i64 0, .int .i64 2] 49) = W := ⟨_, rfl⟩
  have hBc : Below w2.heap.size w2 Wc := by rw [← hWc]; exact (Below.refl _ _).alloc (Nat.le_refl _) _
  have rc : Wc.heap[w2.heap.size]? = some (.cells #[.int .i64 1, .int .i64 0, .int .i64 1, .int .i64 0, .int .i64 0, .int .i64 2] 49) := by rw [← hWc]; exact new_at _ _
  have hfc : Forks (fun _ => True) Wc (.slice (some ⟨w2.heap.size, 0, none⟩) 2 2) [(1, 0, 1), (0, 0, 2)] :=
    ⟨(sl3_block [forkC (1, 0, 1), forkC (0, 0, 2)] 2 rc (by decide) (fun j u hu => by
      match j, hu with
      | 0, hu => simp at hu; subst hu; exact ⟨rfl, rfl, rfl⟩
      | 1, hu => simp at hu; subst hu; exact ⟨rfl, rfl, rfl⟩
      | j + 2, hu => simp at hu)).mono fun _ _ => trivial, by simp [ForkOk, I64]⟩
  rw [hWc]
  have hcc := ofbdd_any _ 2 3 _ [(1, 0, 1), (0, 0, 2)] Wc hfc (by unfold I64; omega) (by unfold I64; omega)
  refine Calls.mono hcc ?_
  rintro e w3 ⟨vv, rfl, hb3, _, hyes⟩
  obtain ⟨vc, rfl, hvc⟩ := hyes ex_of
  rw [ex_bdd] at hvc
  rw [ex_of]
  obtain ⟨ca, cn, cc, rfl, _, _⟩ := hvc.form'
  have hbb := hBc.trans (hb3.mono hBc.size)
  have HVC := Lib.hid hvc
  have HVA3 := Lib.hid (Clss.below HVA2.out hbb)
  have HVB3 := Lib.hid (Clss.below HVB.out hbb)
  have HB3 : Hid (Below w.heap.size w w3) := Lib.hid (HB2.out.trans (hbb.mono HB2.out.size))
  clear hcc hvc hb3 hbb hyes hfc hBc hWc rc HVA2 HVB HB2
  go_wp2_with fail
  obtain ⟨w4, hw4⟩ : ∃ W, w3.alloc (.cells #[.int .i64 4, .int .i64 2, .slice ca cn cc] 31) = W := ⟨_, rfl⟩
  have hb4 : Below w3.heap.size w3 w4 := by rw [← hw4]; exact (Below.refl _ _).alloc (Nat.le_refl _) _
  have hs4 : w4.heap.size = w3.heap.size + 1 := by rw [← hw4]; simp
  have j0 : w4.cell? ⟨w3.heap.size, 0, none⟩ = some (.int .i64 4) := by rw [← hw4]; simp
  have j1 : w4.cell? ⟨w3.heap.size, 1, none⟩ = some (.int .i64 2) := by rw [← hw4]; simp
  have j2 : w4.cell? ⟨w3.heap.size, 2, none⟩ = some (.slice ca cn cc) := by rw [← hw4]; simp
  rw [hw4, ← hs4]
  have HVA4 := Lib.hid (Clss.below HVA3.out hb4)
  have HVB4 := Lib.hid (Clss.below HVB3.out hb4)
  have HVC4 := Lib.hid (Clss.below HVC.out hb4)
  have HB4 : Hid (Below w.heap.size w w4) := Lib.hid (HB3.out.trans (hb4.mono HB3.out.size))
  clear hw4 hs4 hb4 HVA3 HVB3 HVC HB3
  obtain ⟨Wd, hWd⟩ : ∃ W, ((((w4.alloc (.cells #[] 3)).alloc (.cells #[.int .i64 1, .int .i64 2] 3)).alloc (.cells #[.int .i64 (-3)] 3)).alloc (.cells #[.slice (some ⟨w4.heap.size, 0, none⟩) 0 0, .slice (some ⟨w4.heap.size + 1, 0, none⟩) 2 2, .slice (some ⟨w4.heap.size + 1 + 1, 0, none⟩) 1 1] 22)) = W := ⟨_, rfl⟩
  have hBd : Below w4.heap.size w4 Wd := by rw [← hWd]; exact (((((Below.refl _ _).alloc (Nat.le_refl _) _).alloc (by simp <;> omega) _).alloc (by simp <;> omega) _).alloc (by simp <;> omega) _)
  have rd0 : Wd.heap[w4.heap.size]? = some (.cells #[] 3) := by rw [← hWd]; exact (old_at _ _ _ (old_at _ _ _ (old_at _ _ _ (new_at' _ _ (by simp)))))
  have rd1 : Wd.heap[w4.heap.size + 1]? = some (.cells #[.int .i64 1, .int .i64 2] 3) := by rw [← hWd]; exact (old_at _ _ _ (old_at _ _ _ (new_at' _ _ (by simp))))
  have rd2 : Wd.heap[w4.heap.size + 1 + 1]? = some (.cells #[.int .i64 (-3)] 3) := by rw [← hWd]; exact (old_at _ _ _ (new_at' _ _ (by simp)))
  have rdo : Wd.heap[w4.heap.size + 1 + 1 + 1]? = some (.cells #[.slice (some ⟨w4.heap.size, 0, none⟩) 0 0, .slice (some ⟨w4.heap.size + 1, 0, none⟩) 2 2, .slice (some ⟨w4.heap.size + 1 + 1, 0, none⟩) 1 1] 22) := by rw [← hWd]; exact (new_at' _ _ (by simp))
  have id0 : Ints (fun _ => True) Wd (.slice (some ⟨w4.heap.size, 0, none⟩) 0 0) [] := (ints_block [] 0 rd0 (by decide) rfl (by simp [I64])).mono fun _ _ => trivial
  have id1 : Ints (fun _ => True) Wd (.slice (some ⟨w4.heap.size + 1, 0, none⟩) 2 2) [1, 2] := (ints_block [1, 2] 2 rd1 (by decide) rfl (by simp [I64])).mono fun _ _ => trivial
  have id2 : Ints (fun _ => True) Wd (.slice (some ⟨w4.heap.size + 1 + 1, 0, none⟩) 1 1) [-3] := (ints_block [-3] 1 rd2 (by decide) rfl (by simp [I64])).mono fun _ _ => trivial
  have HCd : Hid (Clss (fun _ => True) Wd (.slice (some ⟨w4.heap.size + 1 + 1 + 1, 0, none⟩) 3 3) [[], [1, 2], [-3]]) := Lib.hid (clss_rows [((.slice (some ⟨w4.heap.size, 0, none⟩) 0 0 : Value), ([] : List Int)), ((.slice (some ⟨w4.heap.size + 1, 0, none⟩) 2 2 : Value), ([1, 2] : List Int)), ((.slice (some ⟨w4.heap.size + 1 + 1, 0, none⟩) 1 1 : Value), ([-3] : List Int))] 3 rdo (by simp) (by
    intro p hp
    simp only [List.mem_cons, List.not_mem_nil, or_false] at hp
    rcases hp with rfl | rfl | rfl
    · exact id0
    · exact id1
    · exact id2))
  have HBd := Lib.hid hBd
  rw [hWd]
  clear hWd hBd rdo rd0 id0 rd1 id1 rd2 id2
  have hed := lequal_any _ _ [[], [1, 2], [-3]] [[], [1, 2], [-3]] Wd (Clss.below HVA4.out HBd.out) HCd.out
  rw [show ([[], [1, 2], [-3]] == ([[], [1, 2], [-3]] : List (List Int))) = true by decide] at hed
  refine Calls.mono hed ?_
  rintro e w5 ⟨rfl, nd, hd⟩
  have hbd : Below w4.heap.size w4 w5 := by rw [hd]; exact below_drewN HBd.out _
  have HVB5 := Lib.hid (Clss.below HVB4.out hbd)
  have HVC5 := Lib.hid (Clss.below HVC4.out hbd)
  have l0 := below_c hbd (block_lt j0) j0
  have l1 := below_c hbd (block_lt j1) j1
  have l2 := below_c hbd (block_lt j2) j2
  have HB5 : Hid (Below w.heap.size w w5) := Lib.hid (HB4.out.trans (hbd.mono HB4.out.size))
  clear hed hd hbd HVA4 HVB4 HVC4 HB4 HCd HBd j0 j1 j2
  go_wp2_with fail
  obtain ⟨We, hWe⟩ : ∃ W, (((w5.alloc (.cells #[.int .i64 2] 3)).alloc (.cells #[.int .i64 3] 3)).alloc (.cells #[.slice (some ⟨w5.heap.size, 0, none⟩) 1 1, .slice (some ⟨w5.heap.size + 1, 0, none⟩) 1 1] 22)) = W := ⟨_, rfl⟩
  have hBe : Below w5.heap.size w5 We := by rw [← hWe]; exact ((((Below.refl _ _).alloc (Nat.le_refl _) _).alloc (by simp <;> omega) _).alloc (by simp <;> omega) _)
  have re0 : We.heap[w5.heap.size]? = some (.cells #[.int .i64 2] 3) := by rw [← hWe]; exact (old_at _ _ _ (old_at _ _ _ (new_at' _ _ (by simp))))
  have re1 : We.heap[w5.heap.size + 1]? = some (.cells #[.int .i64 3] 3) := by rw [← hWe]; exact (old_at _ _ _ (new_at' _ _ (by simp)))
  have reo : We.heap[w5.heap.size + 1 + 1]? = some (.cells #[.slice (some ⟨w5.heap.size, 0, none⟩) 1 1, .slice (some ⟨w5.heap.size + 1, 0, none⟩) 1 1] 22) := by rw [← hWe]; exact (new_at' _ _ (by simp))
  have ie0 : Ints (fun _ => True) We (.slice (some ⟨w5.heap.size, 0, none⟩) 1 1) [2] := (ints_block [2] 1 re0 (by decide) rfl (by simp [I64])).mono fun _ _ => trivial
  have ie1 : Ints (fun _ => True) We (.slice (some ⟨w5.heap.size + 1, 0, none⟩) 1 1) [3] := (ints_block [3] 1 re1 (by decide) rfl (by simp [I64])).mono fun _ _ => trivial
  have HCe : Hid (Clss (fun _ => True) We (.slice (some ⟨w5.heap.size + 1 + 1, 0, none⟩) 2 2) [[2], [3]]) := Lib.hid (clss_rows [((.slice (some ⟨w5.heap.size, 0, none⟩) 1 1 : Value), ([2] : List Int)), ((.slice (some ⟨w5.heap.size + 1, 0, none⟩) 1 1 : Value), ([3] : List Int))] 2 reo (by simp) (by
    intro p hp
    simp only [List.mem_cons, List.not_mem_nil, or_false] at hp
    rcases hp with rfl | rfl
    · exact ie0
    · exact ie1))
  have HBe := Lib.hid hBe
  rw [hWe]
  clear hWe hBe reo re0 ie0 re1 ie1
  have hee := lequal_any _ _ [[2], [3]] [[2], [3]] We (Clss.below HVB5.out HBe.out) HCe.out
  rw [show ([[2], [3]] == ([[2], [3]] : List (List Int))) = true by decide] at hee
  refine Calls.mono hee ?_
  rintro e w6 ⟨rfl, ne, he⟩
  have hbe : Below w5.heap.size w5 w6 := by rw [he]; exact below_drewN HBe.out _
  have HVC6 := Lib.hid (Clss.below HVC5.out hbe)
  have m0 := below_c hbe (block_lt l0) l0
  have m1 := below_c hbe (block_lt l1) l1
  have m2 := below_c hbe (block_lt l2) l2
  have HB6 : Hid (Below w.heap.size w w6) := Lib.hid (HB5.out.trans (hbe.mono HB5.out.size))
  clear hee he hbe HVB5 HVC5 HB5 HCe HBe l0 l1 l2
  go_wp2_with fail
  obtain ⟨Wf, hWf⟩ : ∃ W, (((((((w6.alloc (.cells #[.int .i64 (-1), .int .i64 (-3), .int .i64 4] 3)).alloc (.cells #[.int .i64 (-1), .int .i64 3, .int .i64 (-4)] 3)).alloc (.cells #[.int .i64 1, .int .i64 (-4)] 3)).alloc (.cells #[.int .i64 (-2), .int .i64 3] 3)).alloc (.cells #[.int .i64 2, .int .i64 (-3)] 3)).alloc (.cells #[.int .i64 4] 3)).alloc (.cells #[.slice (some ⟨w6.heap.size, 0, none⟩) 3 3, .slice (some ⟨w6.heap.size + 1, 0, none⟩) 3 3, .slice (some ⟨w6.heap.size + 1 + 1, 0, none⟩) 2 2, .slice (some ⟨w6.heap.size + 1 + 1 + 1, 0, none⟩) 2 2, .slice (some ⟨w6.heap.size + 1 + 1 + 1 + 1, 0, none⟩) 2 2, .slice (some ⟨w6.heap.size + 1 + 1 + 1 + 1 + 1, 0, none⟩) 1 1] 22)) = W := ⟨_, rfl⟩
  have hBf : Below w6.heap.size w6 Wf := by rw [← hWf]; exact ((((((((Below.refl _ _).alloc (Nat.le_refl _) _).alloc (by simp <;> omega) _).alloc (by simp <;> omega) _).alloc (by simp <;> omega) _).alloc (by simp <;> omega) _).alloc (by simp <;> omega) _).alloc (by simp <;> omega) _)
  have rf0 : Wf.heap[w6.heap.size]? = some (.cells #[.int .i64 (-1), .int .i64 (-3), .int .i64 4] 3) := by rw [← hWf]; exact (old_at _ _ _ (old_at _ _ _ (old_at _ _ _ (old_at _ _ _ (old_at _ _ _ (old_at _ _ _ (new_at' _ _ (by simp))))))))
  have rf1 : Wf.heap[w6.heap.size + 1]? = some (.cells #[.int .i64 (-1), .int .i64 3, .int .i64 (-4)] 3) := by rw [← hWf]; exact (old_at _ _ _ (old_at _ _ _ (old_at _ _ _ (old_at _ _ _ (old_at _ _ _ (new_at' _ _ (by simp)))))))
  have rf2 : Wf.heap[w6.heap.size + 1 + 1]? = some (.cells #[.int .i64 1, .int .i64 (-4)] 3) := by rw [← hWf]; exact (old_at _ _ _ (old_at _ _ _ (old_at _ _ _ (old_at _ _ _ (new_at' _ _ (by simp))))))
  have rf3 : Wf.heap[w6.heap.size + 1 + 1 + 1]? = some (.cells #[.int .i64 (-2), .int .i64 3] 3) := by rw [← hWf]; exact (old_at _ _ _ (old_at _ _ _ (old_at _ _ _ (new_at' _ _ (by simp)))))
  have rf4 : Wf.heap[w6.heap.size + 1 + 1 + 1 + 1]? = some (.cells #[.int .i64 2, .int .i64 (-3)] 3) := by rw [← hWf]; exact (old_at _ _ _ (old_at _ _ _ (new_at' _ _ (by simp))))
  have rf5 : Wf.heap[w6.heap.size + 1 + 1 + 1 + 1 + 1]? = some (.cells #[.int .i64 4] 3) := by rw [← hWf]; exact (old_at _ _ _ (new_at' _ _ (by simp)))
  have rfo : Wf.heap[w6.heap.size + 1 + 1 + 1 + 1 + 1 + 1]? = some (.cells #[.slice (some ⟨w6.heap.size, 0, none⟩) 3 3, .slice (some ⟨w6.heap.size + 1, 0, none⟩) 3 3, .slice (some ⟨w6.heap.size + 1 + 1, 0, none⟩) 2 2, .slice (some ⟨w6.heap.size + 1 + 1 + 1, 0, none⟩) 2 2, .slice (some ⟨w6.heap.size + 1 + 1 + 1 + 1, 0, none⟩) 2 2, .slice (some ⟨w6.heap.size + 1 + 1 + 1 + 1 + 1, 0, none⟩) 1 1] 22) := by rw [← hWf]; exact (new_at' _ _ (by simp))
  have if0 : Ints (fun _ => True) Wf (.slice (some ⟨w6.heap.size, 0, none⟩) 3 3) [-1, -3, 4] := (ints_block [-1, -3, 4] 3 rf0 (by decide) rfl (by simp [I64])).mono fun _ _ => trivial
  have if1 : Ints (fun _ => True) Wf (.slice (some ⟨w6.heap.size + 1, 0, none⟩) 3 3) [-1, 3, -4] := (ints_block [-1, 3, -4] 3 rf1 (by decide) rfl (by simp [I64])).mono fun _ _ => trivial
  have if2 : Ints (fun _ => True) Wf (.slice (some ⟨w6.heap.size + 1 + 1, 0, none⟩) 2 2) [1, -4] := (ints_block [1, -4] 2 rf2 (by decide) rfl (by simp [I64])).mono fun _ _ => trivial
  have if3 : Ints (fun _ => True) Wf (.slice (some ⟨w6.heap.size + 1 + 1 + 1, 0, none⟩) 2 2) [-2, 3] := (ints_block [-2, 3] 2 rf3 (by decide) rfl (by simp [I64])).mono fun _ _ => trivial
  have if4 : Ints (fun _ => True) Wf (.slice (some ⟨w6.heap.size + 1 + 1 + 1 + 1, 0, none⟩) 2 2) [2, -3] := (ints_block [2, -3] 2 rf4 (by decide) rfl (by simp [I64])).mono fun _ _ => trivial
  have if5 : Ints (fun _ => True) Wf (.slice (some ⟨w6.heap.size + 1 + 1 + 1 + 1 + 1, 0, none⟩) 1 1) [4] := (ints_block [4] 1 rf5 (by decide) rfl (by simp [I64])).mono fun _ _ => trivial
  have HCf : Hid (Clss (fun _ => True) Wf (.slice (some ⟨w6.heap.size + 1 + 1 + 1 + 1 + 1 + 1, 0, none⟩) 6 6) [[-1, -3, 4], [-1, 3, -4], [1, -4], [-2, 3], [2, -3], [4]]) := Lib.hid (clss_rows [((.slice (some ⟨w6.heap.size, 0, none⟩) 3 3 : Value), ([-1, -3, 4] : List Int)), ((.slice (some ⟨w6.heap.size + 1, 0, none⟩) 3 3 : Value), ([-1, 3, -4] : List Int)), ((.slice (some ⟨w6.heap.size + 1 + 1, 0, none⟩) 2 2 : Value), ([1, -4] : List Int)), ((.slice (some ⟨w6.heap.size + 1 + 1 + 1, 0, none⟩) 2 2 : Value), ([-2, 3] : List Int)), ((.slice (some ⟨w6.heap.size + 1 + 1 + 1 + 1, 0, none⟩) 2 2 : Value), ([2, -3] : List Int)), ((.slice (some ⟨w6.heap.size + 1 + 1 + 1 + 1 + 1, 0, none⟩) 1 1 : Value), ([4] : List Int))] 6 rfo (by simp) (by
    intro p hp
    simp only [List.mem_cons, List.not_mem_nil, or_false] at hp
    rcases hp with rfl | rfl | rfl | rfl | rfl | rfl
    · exact if0
    · exact if1
    · exact if2
    · exact if3
    · exact if4
    · exact if5))
  have HBf := Lib.hid hBf
  rw [hWf]
  clear hWf hBf rfo rf0 if0 rf1 if1 rf2 if2 rf3 if3 rf4 if4 rf5 if5
  have hef := lequal_any _ _ [[-1, -3, 4], [-1, 3, -4], [1, -4], [-2, 3], [2, -3], [4]] [[-1, -3, 4], [-1, 3, -4], [1, -4], [-2, 3], [2, -3], [4]] Wf (Clss.below HVC6.out HBf.out) HCf.out
  rw [show ([[-1, -3, 4], [-1, 3, -4], [1, -4], [-2, 3], [2, -3], [4]] == ([[-1, -3, 4], [-1, 3, -4], [1, -4], [-2, 3], [2, -3], [4]] : List (List Int))) = true by decide] at hef
  refine Calls.mono hef ?_
  rintro e w7 ⟨rfl, nf, hf⟩
  have hbf : Below w6.heap.size w6 w7 := by rw [hf]; exact below_drewN HBf.out _
  have HB7 : Hid (Below w.heap.size w w7) := Lib.hid (HB6.out.trans (hbf.mono HB6.out.size))
  clear hef hf hbf HVC6 HB6 HCf HBf m0 m1 m2
  go_wp2_with fail
  go_ret
  exact ⟨rfl, HB7.out⟩
end Go.Proofs.YteadlkecngfcoaaGreat
