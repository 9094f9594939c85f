/- Walks of layer 33: the worked example. -/
import Derived.Test.YteadlkecngfcoaaGreatDoorDw4
import Derived.Test.YteadlkecngfcoaaGreatDoorDc
namespace Go.Proofs.YteadlkecngfcoaaGreatDoor
open Go.ChangeShapes Go.WideShapes Go.ChangeAt Go.RowKit
set_option linter.unusedVariables false

def exD : Dnnf := ⟨3, [⟨2, 2, []⟩, ⟨2, -3, []⟩, ⟨3, 0, [0, 1]⟩, ⟨4, 1, [2, 0]⟩]⟩
def exE : Dnnf := ⟨1, [⟨2, 2, []⟩]⟩
theorem ex_checked : checkedM exD = (0, [2, 4, 6, 7]) := by decide +kernel
theorem ex_checked2 : (checkedM exE).1 = 3 := by decide +kernel
theorem ex_ok : CountOk exD [2, 4, 6, 7] := by
  refine ⟨by decide, by decide, by decide, by decide, by decide, ?_, by decide +kernel, by decide +kernel⟩
  have g1 : gapM (restM 1 7) 6 = 0 := by decide +kernel
  have g2 : gapM (restM 1 7) 2 = 1 := by decide +kernel
  simp [exD, countSafe, partSafe, stepM, mulGo, mulSafe, sumSafe, List.getD, g1, g2]
theorem ex_count : countA exD = 3 := by decide +kernel

theorem ex_parts {W : World} {B : Nat} (H0 : W.heap[B]? = some (.cells #[.int .i64 0, .int .i64 1] 3)) (H1 : W.heap[B + 1]? = some (.cells #[.int .i64 2, .int .i64 0] 3))
    (H2 : W.heap[B + 1 + 1]? = some (.cells #[.int .i64 2, .int .i64 2, .slice none 0 0, .int .i64 2, .int .i64 (-3), .slice none 0 0, .int .i64 3, .int .i64 0, .slice (some ⟨B, 0, none⟩) 2 2,
      .int .i64 4, .int .i64 1, .slice (some ⟨B + 1, 0, none⟩) 2 2] 43)) : Parts (fun _ => True) W (.slice (some ⟨B + 1 + 1, 0, none⟩) 4 4) exD.parts := by
  have hs := sl3_block [(.int .i64 2, .int .i64 2, .slice none 0 0), (.int .i64 2, .int .i64 (-3), .slice none 0 0), (.int .i64 3, .int .i64 0, .slice (some ⟨B, 0, none⟩) 2 2), (.int .i64 4, .int .i64 1, .slice (some ⟨B + 1, 0, none⟩) 2 2)] 4 H2 (by simp) ?_
  refine ⟨_, hs.mono fun _ _ => trivial, rfl, ?_⟩
  rotate_left
  · intro j u hu
    match j, hu with
    | 0, hu => simp at hu; subst hu; simp
    | 1, hu => simp at hu; subst hu; simp
    | 2, hu => simp at hu; subst hu; simp
    | 3, hu => simp at hu; subst hu; simp
    | j + 4, hu => simp at hu
  · intro j u p hu hp
    have i0 : Ints (fun _ => True) W (.slice (some ⟨B, 0, none⟩) 2 2) [0, 1] := (ints_block [0, 1] 2 H0 (by decide) rfl (by simp [I64])).mono fun _ _ => trivial
    have i1 : Ints (fun _ => True) W (.slice (some ⟨B + 1, 0, none⟩) 2 2) [2, 0] := (ints_block [2, 0] 2 H1 (by decide) rfl (by simp [I64])).mono fun _ _ => trivial
    match j, hu, hp with
    | 0, hu, hp => simp [exD] at hu hp; subst hu hp; exact ⟨rfl, rfl, Ints.nil _ _, by simp [I64], by simp [I64]⟩
    | 1, hu, hp => simp [exD] at hu hp; subst hu hp; exact ⟨rfl, rfl, Ints.nil _ _, by simp [I64], by simp [I64]⟩
    | 2, hu, hp => simp [exD] at hu hp; subst hu hp; exact ⟨rfl, rfl, i0, by simp [I64], by simp [I64]⟩
    | 3, hu, hp => simp [exD] at hu hp; subst hu hp; exact ⟨rfl, rfl, i1, by simp [I64], by simp [I64]⟩
    | j + 4, hu, hp => simp at hu
theorem ex_parts2 {W : World} {B : Nat} (H2 : W.heap[B]? = some (.cells #[.int .i64 2, .int .i64 2, .slice none 0 0] 43)) : Parts (fun _ => True) W (.slice (some ⟨B, 0, none⟩) 1 1) exE.parts := by
  have hs := sl3_block [(.int .i64 2, .int .i64 2, .slice none 0 0)] 1 H2 (by simp) ?_
  refine ⟨_, hs.mono fun _ _ => trivial, rfl, ?_⟩
  rotate_left
  · intro j u hu
    match j, hu with
    | 0, hu => simp at hu; subst hu; simp
    | j + 1, hu => simp at hu
  · intro j u p hu hp
    match j, hu, hp with
    | 0, hu, hp => simp [exE] at hu hp; subst hu hp; exact ⟨rfl, rfl, Ints.nil _ _, by simp [I64], by simp [I64]⟩
    | j + 1, hu, hp => simp at hu

set_option maxRecDepth 100000 in
set_option maxHeartbeats 4000000 in
theorem known_any (w : World) : Calls Tryz.prog 4 #[] w fun e w' => e = .returned (.bool true) ∧ Below w.heap.size w w' := by
  go_enter Tryz.func4, Tryz.ntmps4
  go_wp2_with fail
  generalize hW : (((w.alloc (.cells #[.int .i64 0, .int .i64 1] 3)).alloc (.cells #[.int .i64 2, .int .i64 0] 3)).alloc (.cells #[.int .i64 2, .int .i64 2, .slice none 0 0, .int .i64 2, .int .i64 (-3), .slice none 0 0,
     .int .i64 3, .int .i64 0, .slice (some ⟨w.heap.size, 0, none⟩) 2 2, .int .i64 4, .int .i64 1, .slice (some ⟨w.heap.size + 1, 0, none⟩) 2 2] 43)).alloc (.cells #[.int .i64 3, .slice (some ⟨w.heap.size + 1 + 1, 0, none⟩) 4 4] 29) = W
  have hsz : W.heap.size = w.heap.size + 4 := by rw [← hW]; simp
  have H0 : W.heap[w.heap.size]? = some (.cells #[.int .i64 0, .int .i64 1] 3) := by rw [← hW]; exact old_at _ _ _ (old_at _ _ _ (old_at _ _ _ (new_at _ _)))
  have H1 : W.heap[w.heap.size + 1]? = some (.cells #[.int .i64 2, .int .i64 0] 3) := by rw [← hW]; exact old_at _ _ _ (old_at _ _ _ (new_at' _ _ (by simp)))
  have H2 : W.heap[w.heap.size + 1 + 1]? = some (.cells #[.int .i64 2, .int .i64 2, .slice none 0 0, .int .i64 2, .int .i64 (-3), .slice none 0 0,
     .int .i64 3, .int .i64 0, .slice (some ⟨w.heap.size, 0, none⟩) 2 2, .int .i64 4, .int .i64 1, .slice (some ⟨w.heap.size + 1, 0, none⟩) 2 2] 43) := by rw [← hW]; exact old_at _ _ _ (new_at' _ _ (by simp))
  have H3 : W.cell? ⟨w.heap.size + 1 + 1 + 1, 0, none⟩ = some (.int .i64 3) := by rw [← hW, cell_of_row _ _ _ _ _ _ (new_at' _ _ (by simp))]; rfl
  have H4 : W.cell? ⟨w.heap.size + 1 + 1 + 1, 1, none⟩ = some (.slice (some ⟨w.heap.size + 1 + 1, 0, none⟩) 4 4) := by rw [← hW, cell_of_row _ _ _ _ _ _ (new_at' _ _ (by simp))]; rfl
  have hB : Below w.heap.size w W := by rw [← hW]; exact ((((Below.refl _ _).alloc (Nat.le_refl _) _).alloc (by simp) _).alloc (by simp; omega) _).alloc (by simp; omega) _
  have HP := Lib.hid (ex_parts H0 H1 H2)
  have HB := Lib.hid hB
  have HS := Lib.hid hsz
  clear hW H0 H1 H2 hB
  have hc := Count_any (fun _ => True) 3 _ exD.parts W HP.out (by simp [I64]) (fun _ => by
    show CountOk exD (checkedM exD).2
    rw [ex_checked]; exact ex_ok)
  rw [show (countA ⟨3, exD.parts⟩) = 3 from ex_count, show (checkedM ⟨3, exD.parts⟩) = (0, [2, 4, 6, 7]) from ex_checked] at hc
  refine hc.mono ?_
  rintro e w1 ⟨rfl, hb1⟩
  have h3 := below_c hb1 (by omega) H3
  have h4 := below_c hb1 (by omega) H4
  have HP1 := Lib.hid (HP.out.below hb1)
  have HB1 : Hid (Below w.heap.size w w1) := Lib.hid (HB.out.trans (hb1.mono (by omega)))
  have hs1 := hb1.size
  have hs2 : w.heap.size + 1 + 1 + 1 < w1.heap.size := by omega
  clear hc hb1 H3 H4 hsz hs1
  have hk1 := Check_any (fun _ => True) 3 _ exD.parts w1 HP1.out (by simp [I64])
  rw [show (checkedM ⟨3, exD.parts⟩) = (0, [2, 4, 6, 7]) from ex_checked] at hk1
  have HK1 := Lib.hid hk1
  clear hk1
  go_wp2_with fail
  refine HK1.out.mono ?_
  rintro e w2 ⟨rfl, hb2⟩
  have HB2 : Hid (Below w.heap.size w w2) := Lib.hid (HB1.out.trans (hb2.mono HB1.out.size))
  clear hb2
  go_wp2_with fail
  have hk2 := Check_any (fun _ => True) 1 _ exE.parts (w2.alloc (.cells #[.int .i64 2, .int .i64 2, .slice none 0 0] 43)) (ex_parts2 (B := w2.heap.size) (new_at _ _)) (by simp [I64])
  rw [show (checkedM ⟨1, exE.parts⟩).1 = 3 from ex_checked2] at hk2
  refine hk2.mono ?_
  rintro e w3 ⟨rfl, hb3⟩
  have HB3 : Hid (Below w.heap.size w w3) := Lib.hid ((HB2.out.alloc HB2.out.size _).trans (hb3.mono (by rw [World.size_alloc]; have := HB2.out.size; omega)))
  clear hb3 hk2
  go_wp2_with fail
  go_ret
  exact ⟨rfl, HB3.out⟩
end Go.Proofs.YteadlkecngfcoaaGreatDoor
