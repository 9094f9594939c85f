/- Walk of layer 31's worked example. -/
import Derived.Test.YtjbhglmmakkkgaaSw15
namespace Go.Proofs.Ytjbhglmmakkkgaa
open Go.ChangeShapes Go.WideShapes Go.ChangeAt Go.RowKit
set_option linter.unusedVariables false

def exC : List (List Int) := [[-1, 2], [1, -2], [1, 2]]
theorem ex_solves : solvesM 2 0 exC = ([true, true], true, 0) := by decide +kernel
theorem ex_prop : propagateM 2 0 exC [-2] = ([], true, 0) := by decide +kernel
theorem ex_back : backboneM 2 0 exC = ([1, 2], 0) := by decide +kernel
theorem ex_clss {W : World} {B : Nat} (H0 : W.heap[B]? = some (.cells #[.int .i64 (-1), .int .i64 2] 3)) (H1 : W.heap[B + 1]? = some (.cells #[.int .i64 1, .int .i64 (-2)] 3)) (H2 : W.heap[B + 1 + 1]? = some (.cells #[.int .i64 1, .int .i64 2] 3))
    (H3 : W.heap[B + 1 + 1 + 1]? = some (.cells #[.slice (some ⟨B, 0, none⟩) 2 2, .slice (some ⟨B + 1, 0, none⟩) 2 2, .slice (some ⟨B + 1 + 1, 0, none⟩) 2 2] 25)) : Clss (fun _ => True) W (.slice (some ⟨B + 1 + 1 + 1, 0, none⟩) 3 3) exC := by
  have hs := sl1_block [.slice (some ⟨B, 0, none⟩) 2 2, .slice (some ⟨B + 1, 0, none⟩) 2 2, .slice (some ⟨B + 1 + 1, 0, none⟩) 2 2] 3 H3 (by simp) (fun j u hu => by simpa using hu)
  have i0 : Ints (fun _ => True) W (.slice (some ⟨B, 0, none⟩) 2 2) [-1, 2] := (ints_block [-1, 2] 2 H0 (by decide) rfl (by simp [I64])).mono fun _ _ => trivial
  have i1 : Ints (fun _ => True) W (.slice (some ⟨B + 1, 0, none⟩) 2 2) [1, -2] := (ints_block [1, -2] 2 H1 (by decide) rfl (by simp [I64])).mono fun _ _ => trivial
  have i2 : Ints (fun _ => True) W (.slice (some ⟨B + 1 + 1, 0, none⟩) 2 2) [1, 2] := (ints_block [1, 2] 2 H2 (by decide) rfl (by simp [I64])).mono fun _ _ => trivial
  refine ⟨_, hs.mono fun _ _ => trivial, rfl, fun j u p hu hp => ?_⟩
  match j, hu, hp with
  | 0, hu, hp => simp [exC] at hu hp; subst hu hp; exact i0
  | 1, hu, hp => simp [exC] at hu hp; subst hu hp; exact i1
  | 2, hu, hp => simp [exC] at hu hp; subst hu hp; exact i2
  | j + 3, hu, hp => simp at hu

set_option maxRecDepth 100000 in
set_option maxHeartbeats 4000000 in
theorem known_any (w : World) : Calls Try.prog 12 #[] w (BoolPost w true) := by
  go_enter Try.func12, Try.ntmps12
  go_wp2_with fail
  generalize hW : (((((w.alloc (.cells #[.int .i64 (-1), .int .i64 2] 3)).alloc (.cells #[.int .i64 1, .int .i64 (-2)] 3)).alloc (.cells #[.int .i64 1, .int .i64 2] 3)).alloc
    (.cells #[.slice (some ⟨w.heap.size, 0, none⟩) 2 2, .slice (some ⟨w.heap.size + 1, 0, none⟩) 2 2, .slice (some ⟨w.heap.size + 1 + 1, 0, none⟩) 2 2] 25)).alloc (.cells #[.int .i64 2, .int .i64 0, .slice (some ⟨w.heap.size + 1 + 1 + 1, 0, none⟩) 3 3] 24)) = W
  have hsz : W.heap.size = w.heap.size + 5 := by rw [← hW]; simp
  have H0 : W.heap[w.heap.size]? = some (.cells #[.int .i64 (-1), .int .i64 2] 3) := by rw [← hW]; exact old_at _ _ _ (old_at _ _ _ (old_at _ _ _ (old_at _ _ _ (new_at _ _))))
  have H1 : W.heap[w.heap.size + 1]? = some (.cells #[.int .i64 1, .int .i64 (-2)] 3) := by rw [← hW]; exact old_at _ _ _ (old_at _ _ _ (old_at _ _ _ (new_at' _ _ (by simp))))
  have H2 : W.heap[w.heap.size + 1 + 1]? = some (.cells #[.int .i64 1, .int .i64 2] 3) := by rw [← hW]; exact old_at _ _ _ (old_at _ _ _ (new_at' _ _ (by simp)))
  have H3 : W.heap[w.heap.size + 1 + 1 + 1]? = some (.cells #[.slice (some ⟨w.heap.size, 0, none⟩) 2 2, .slice (some ⟨w.heap.size + 1, 0, none⟩) 2 2, .slice (some ⟨w.heap.size + 1 + 1, 0, none⟩) 2 2] 25) := by rw [← hW]; exact old_at _ _ _ (new_at' _ _ (by simp))
  have k0 : W.cell? ⟨w.heap.size + 1 + 1 + 1 + 1, 0, none⟩ = some (.int .i64 2) := by rw [← hW, cell_of_row _ _ _ _ _ _ (new_at' _ _ (by simp))]; rfl
  have k1 : W.cell? ⟨w.heap.size + 1 + 1 + 1 + 1, 1, none⟩ = some (.int .i64 0) := by rw [← hW, cell_of_row _ _ _ _ _ _ (new_at' _ _ (by simp))]; rfl
  have k2 : W.cell? ⟨w.heap.size + 1 + 1 + 1 + 1, 2, none⟩ = some (.slice (some ⟨w.heap.size + 1 + 1 + 1, 0, none⟩) 3 3) := by rw [← hW, cell_of_row _ _ _ _ _ _ (new_at' _ _ (by simp))]; rfl
  have hB : Below w.heap.size w W := by rw [← hW]; exact (((((Below.refl _ _).alloc (Nat.le_refl _) _).alloc (by simp) _).alloc (by simp; omega) _).alloc (by simp; omega) _).alloc (by simp; omega) _
  have HP := Lib.hid (ex_clss H0 H1 H2 H3)
  have HB := Lib.hid hB
  clear hW H0 H1 H2 H3 hB
  have hc := Solve_any 2 0 _ exC W HP.out (by unfold I64; omega) (by unfold I64; omega) (by omega)
  rw [ex_solves] at hc
  refine hc.mono ?_
  rintro e w1 ⟨mv, rfl, hm1, hb1⟩
  obtain ⟨ma, mc, rfl, _⟩ := hm1.form
  have j0 := below_c hb1 (by omega) k0
  have j1 := below_c hb1 (by omega) k1
  have j2 := below_c hb1 (by omega) k2
  have HP1 := Lib.hid (HP.out.below hb1)
  have HM1 := Lib.hid hm1
  have HB1 : Hid (Below w.heap.size w w1) := Lib.hid (HB.out.trans (hb1.mono (by omega)))
  have hs1 : w.heap.size + 1 + 1 + 1 + 1 < w1.heap.size := block_lt j0
  have hsw1 := HB1.out.size
  clear hc hb1 k0 k1 k2 hsz hm1 HP HB
  go_wp2_with fail
  have hba : Below w1.heap.size w1 (w1.alloc (.cells #[.int .i64 (-2)] 3)) := (Below.refl _ _).alloc (Nat.le_refl _) _
  have hp := Propagate_any 2 0 _ _ exC [-2] (w1.alloc (.cells #[.int .i64 (-2)] 3)) (HP1.out.below hba) ((ints_block [-2] 1 (new_at w1 _) (by simp) (by simp) (by simp [I64])).mono fun _ _ => trivial) (by unfold I64; omega) (by unfold I64; omega)
  rw [ex_prop] at hp
  have HBA := Lib.hid hba
  clear hba
  refine Calls.mono hp ?_
  rintro e w2 ⟨lv, rfl, hl2, hb2⟩
  have HB2' := Lib.hid (HBA.out.trans (hb2.mono HBA.out.size))
  have i0 := below_c HB2'.out hs1 j0
  have i1 := below_c HB2'.out hs1 j1
  have i2 := below_c HB2'.out hs1 j2
  obtain ⟨la, lc, rfl, _⟩ := hl2.form
  have HP2 := Lib.hid (HP1.out.below HB2'.out)
  have HM2 := Lib.hid (Bools.below HM1.out HB2'.out)
  have HB2 : Hid (Below w.heap.size w w2) := Lib.hid (HB1.out.trans (HB2'.out.mono hsw1))
  have hs2 := HB2'.out.size
  clear hp hb2 hl2 j0 j1 j2 HP1 HM1 HB1 HBA HB2'
  go_wp2_with fail
  have hq := Backbone_any 2 0 _ exC w2 HP2.out (by unfold I64; omega) (by unfold I64; omega) (by omega)
  rw [ex_back] at hq
  refine Calls.mono hq ?_
  rintro e w3 ⟨bv, rfl, hl3, hb3⟩
  obtain ⟨ba, bc, rfl, _⟩ := hl3.form
  have HL3 := Lib.hid hl3
  have HM3 := Lib.hid (Bools.below HM2.out hb3)
  have HB3 : Hid (Below w.heap.size w w3) := Lib.hid (HB2.out.trans (hb3.mono HB2.out.size))
  clear hq hb3 hl3 i0 i1 i2 HP2 HM2 HB2
  go_wp2_with fail
  have hba : Below w3.heap.size w3 (w3.alloc (.cells #[.bool true, .bool true] 4)) := (Below.refl _ _).alloc (Nat.le_refl _) _
  have hbb := (sl1_block [.bool true, .bool true] 2 (new_at w3 (.cells #[.bool true, .bool true] 4)) (by simp) (fun j u hu => by simpa using hu)).mono (G := fun _ => True) fun _ _ => trivial
  have he := equalb_any _ _ [true, true] [true, true] (w3.alloc (.cells #[.bool true, .bool true] 4)) (Bools.below HM3.out hba) hbb
  have HBA := Lib.hid hba
  have HL4 := Lib.hid (HL3.out.below hba)
  clear hba hbb
  refine Calls.mono he ?_
  rintro e w4 ⟨rfl, h4⟩
  have hb4 : Below w3.heap.size w3 w4 := by
    obtain ⟨n, rfl⟩ := h4
    exact below_drewN HBA.out n
  have HB4 : Hid (Below w.heap.size w w4) := Lib.hid (HB3.out.trans (hb4.mono HB3.out.size))
  have HL5 := Lib.hid (HL3.out.below hb4)
  clear he h4 hb4 HL4 HL3 HM3 HBA HB3
  go_wp2_with fail
  have hba : Below w4.heap.size w4 (w4.alloc (.cells #[.int .i64 1, .int .i64 2] 3)) := (Below.refl _ _).alloc (Nat.le_refl _) _
  have he := equal_any _ _ [1, 2] [1, 2] (w4.alloc (.cells #[.int .i64 1, .int .i64 2] 3)) (HL5.out.below hba) ((ints_block [1, 2] 2 (new_at w4 _) (by simp) (by simp) (by simp [I64])).mono (G := fun _ => True) fun _ _ => trivial)
  have HB5 : Hid (Below w.heap.size w (w4.alloc (.cells #[.int .i64 1, .int .i64 2] 3))) := Lib.hid (HB4.out.trans (hba.mono HB4.out.size))
  clear hba
  refine Calls.mono he ?_
  rintro e w5 ⟨rfl, n5, rfl⟩
  clear he
  go_wp2_with fail
  go_ret
  exact ⟨rfl, below_drewN HB5.out _⟩
end Go.Proofs.Ytjbhglmmakkkgaa
