/- (Trace seat Z) Walk: the statement TraceClaims. No condition. -/
import Derived.Test.YtihkknploioakaaGreatVo
import Derived.Test.YtihkknploioakaaGreatWjx
namespace Go.Proofs.YtihkknploioakaaGreat
open Go.ChangeShapes Go.WideShapes Go.ChangeAt Go.RowKit
set_option linter.unusedVariables false

set_option maxRecDepth 100000 in
set_option maxHeartbeats 8000000 in
theorem law_any (keep i : Int) (tv : Value) (ts : List Claim) (w : World) (hx : Claims (fun _ => True) w tv ts) (hik : I64 keep) (hii : I64 i) :
    Calls Tryz.prog 3 #[.int .i64 keep, .agg #[tv], .int .i64 i] w (KnPost w) := by
  obtain ⟨ta, tn, tc, rfl, HTN, _⟩ := hx.form
  obtain ⟨bb, hbb⟩ : ∃ b, w.heap.size = b := ⟨_, rfl⟩
  obtain ⟨W1, hW1⟩ : ∃ W, w.alloc (.cells #[.slice ta tn tc] 24) = W := ⟨_, rfl⟩
  have hb1 : Below w.heap.size w W1 := by rw [← hW1]; exact (Below.refl _ _).alloc (Nat.le_refl _) _
  have hs1 : W1.heap.size = bb + 1 := by rw [← hW1]; simp; omega
  have hr1 : W1.heap[bb]? = some (.cells #[.slice ta tn tc] 24) := by rw [← hW1]; exact new_at' _ _ hbb.symm
  have t0 : W1.cell? ⟨bb, 0, none⟩ = some (.slice ta tn tc) := by rw [cell_of_row _ _ _ _ _ _ hr1]; rfl
  have HX := Lib.hid (hx.below hb1)
  have HB1 := Lib.hid hb1
  have HIK := Lib.hid hik
  have HII := Lib.hid hii
  have HKN := Lib.hid (known_any W1)
  clear hx hr1 hb1 hik hii
  go_enter Tryz.func3, Tryz.ntmps3
  go_wp2_with fail
  try rw [hW1]
  clear hW1 hbb
  refine HKN.out.mono ?_
  rintro e w2 ⟨rfl, hb2⟩
  have HB2 := Lib.hid (HB1.out.trans (hb2.mono HB1.out.size))
  have HX2 := Lib.hid (HX.out.below hb2)
  have yt := below_c hb2 (by omega) t0
  have hs2 := hb2.size
  clear hb2 HKN HB1 HX t0
  have HF := Lib.hid (few_any _ ts w2 HX2.out)
  go_wp2_with fail
  refine HF.out.mono ?_
  rintro e w3 ⟨B1, rfl, hb3, hB1⟩
  have HB3 := Lib.hid (HB2.out.trans (hb3.mono HB2.out.size))
  have HX3 := Lib.hid (HX2.out.below hb3)
  have zt := below_c hb3 (by omega) yt
  have hs3 := hb3.size
  have HBT := Lib.hid hB1
  clear hb3 HF HB2 HX2 yt hB1
  rcases bool2 B1 with rfl | rfl
  rotate_left
  · go_wp2_with fail
    go_ret
    exact ⟨rfl, HB3.out⟩
  obtain ⟨ht1, ht2⟩ := HBT.out rfl
  have hbt : bb < w3.heap.size := by omega
  obtain ⟨E, hE⟩ : ∃ E, ccM keep ts i = E := ⟨_, rfl⟩
  have HC1 : Hid (∀ W, Below w3.heap.size w3 W → Calls Tryz.prog 10 #[.int .i64 keep, .agg #[.slice ta tn tc], .int .i64 i] W (CodePost W E)) := Lib.hid fun W hW => by
    rw [← hE]; exact cc_any keep i _ ts W (HX3.out.below hW) HIK.out HII.out ht2 (by omega)
  have HC2 : Hid (∀ W, Below w3.heap.size w3 W → Calls Tryz.prog 11 #[.int .i64 keep, .agg #[.slice ta tn tc], .int .i64 i] W (CodePost W E)) := Lib.hid fun W hW => by
    rw [← hE]; exact lclaim_any keep i _ ts W (HX3.out.below hW) HIK.out HII.out ht2 (by omega)
  have HB0 : Hid (Below w3.heap.size w3 w3.drew) := Lib.hid (Below.refl _ _).drew
  clear HBT ht1 ht2 hE
  go_wp2_with fail
  go_region_held3 (fun w' => w'.cell? ⟨bb, 0, none⟩ = some (.slice ta tn tc))
    (first | exact zt | exact p0 | exact r0 | go_keep)
    (first
      | (go_at_call 10; refine (HC1.out _ HB0.out).mono ?_; rintro e w5 ⟨rfl, hb5⟩; have HB5 := Lib.hid (HB0.out.trans (hb5.mono HB0.out.size)); have p0 := below_c HB5.out hbt zt; clear hb5)
      | (go_at_call 11; refine (HC2.out _ HB5.out).mono ?_; rintro e w6 ⟨rfl, hb6⟩; have HB6 := Lib.hid (HB5.out.trans (hb6.mono HB5.out.size)); have r0 := below_c HB6.out hbt zt; clear hb6)
      | fail)
  go_wp2_with fail
  go_ret
  exact ⟨by simp, HB3.out.trans (HB6.out.mono HB3.out.size)⟩
end Go.Proofs.YtihkknploioakaaGreat
