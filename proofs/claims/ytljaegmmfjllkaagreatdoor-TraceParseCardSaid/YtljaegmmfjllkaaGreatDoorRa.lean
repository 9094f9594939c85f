/- (Trace text seat) Walk: the statement TraceParse. Condition: the tables and the two errors of strconv lie as laid. -/
import Derived.Test.YtljaegmmfjllkaaGreatDoorR8
import Derived.Test.YtljaegmmfjllkaaGreatDoorVo
namespace Go.Proofs.YtljaegmmfjllkaaGreatDoor
open Go.ChangeShapes Go.WideShapes Go.ChangeAt Go.RowKit Go.Lib
set_option linter.unusedVariables false
set_option linter.unusedSimpArgs false

set_option maxRecDepth 100000 in
set_option maxHeartbeats 8000000 in
theorem TraceParse_any (S : ByteArray) (w : World) (ht : TabT w.heap.size w) (he : ErrT w.heap.size w) :
    Calls Tryz.prog 4 #[.string S] w (KnPost w) := by
  obtain ⟨t, htt⟩ : ∃ t, S.data.toList = t := ⟨_, rfl⟩
  have hT : S = BA t := by rw [← htt]; exact ByteArray.ext (by simp [BA])
  have hsz : S.size = t.length := by rw [hT, ba_size]
  have HKN := Lib.hid (known_any w)
  have HT := Lib.hid ht
  have HE := Lib.hid he
  clear ht he htt
  go_enter Tryz.func4, Tryz.ntmps4
  go_wp2_with fail
  refine HKN.out.mono ?_
  rintro e w2 ⟨rfl, hb2⟩
  have HB2 := Lib.hid hb2
  by_cases hbig : 2000 < S.size
  · have d1 : decide (2000 < (S.size : Int)) = true := decide_eq_true (by omega)
    have d1' : decide (2000 < S.size) = true := decide_eq_true hbig
    clear hT hsz hb2
    go_wp2_with fail
    go_ret
    exact ⟨rfl, HB2.out⟩
  have d1 : decide (2000 < (S.size : Int)) = false := decide_eq_false (by omega)
  have d1' : decide (2000 < S.size) = false := decide_eq_false hbig
  have HPA := Lib.hid (parse_gen w.heap.size S t w2 hT (by omega) (HE.out.below hb2 (Nat.le_refl _)) (HT.out.below hb2 (Nat.le_refl _)) hb2.size)
  have htl : t.length ≤ 2000 := by omega
  have HTL := Lib.hid htl
  have HTE := Lib.hid hT
  clear hb2 HKN hT hsz hbig htl
  go_wp2_with fail
  refine HPA.out.mono ?_
  rintro e w3 ⟨v, code, cs, rfl, hcl, hb3, HRES, HEX⟩
  obtain ⟨ca, cn, cc, rfl, HCN, _⟩ := hcl.form
  obtain ⟨D, hD⟩ : ∃ g, w3.heap.size = g := ⟨_, rfl⟩
  obtain ⟨W4, hW4⟩ : ∃ W, w3.alloc (.cells #[.slice ca cn cc] 24) = W := ⟨_, rfl⟩
  have hb4 : Below w3.heap.size w3 W4 := by rw [← hW4]; exact (Below.refl _ _).alloc (Nat.le_refl _) _
  have hr4 : W4.heap[D]? = some (.cells #[.slice ca cn cc] 24) := by rw [← hW4]; exact new_at' _ _ hD.symm
  have c0 : W4.cell? ⟨D, 0, none⟩ = some (.slice ca cn cc) := by rw [cell_of_row _ _ _ _ _ _ hr4]; rfl
  have HB4 : Hid (Below w.heap.size w W4) := Lib.hid ((HB2.out.trans (hb3.mono HB2.out.size)).trans (hb4.mono (Nat.le_trans HB2.out.size hb3.size)))
  have HC4 := Lib.hid (hcl.below hb4)
  have HW4 := Lib.hid hW4
  have HDD := Lib.hid hD
  clear hb3 hb4 hr4 hcl hW4 hD HPA HEX
  rcases HRES.out with ⟨rfl, htx, hz, hnc, hls⟩ | ⟨rfl, rfl⟩
  · have HPR := Lib.hid (printable_any _ cs W4 HC4.out)
    rw [hz] at HPR
    have HTX := Lib.hid htx
    have HTXT : Hid (∀ W, Below W4.heap.size W4 W → Calls Tryz.prog 10 #[.agg #[.slice ca cn cc]] W (TxPost W (trcT cs))) := Lib.hid fun W hW => ltext_any _ cs W (HC4.out.below hW) (by rw [htx]; have := HTL.out; omega) (fun c hc => by have h1 := lineS_mem hc; have := HTL.out; omega) hnc
    clear HRES htx hz hnc hls
    go_upto_region 6 with fail
    try rw [HW4.out, HDD.out]
    go_wp2_with fail
    refine HPR.out.mono ?_
    rintro e w5 ⟨rfl, hb5⟩
    have c0 := below_c hb5 (block_lt c0) c0
    have HTC := Lib.hid (HTXT.out _ hb5)
    have HB5 := Lib.hid (HB4.out.trans (hb5.mono HB4.out.size))
    clear hb5 HPR HTXT
    simp only [Bool.not_false]
    go_wp2_with fail
    refine HTC.out.mono ?_
    rintro e w6 ⟨U, rfl, HU, hb6⟩
    have hUS : U = S := by rw [HU.out, HTX.out, HTE.out]
    subst hUS
    have hUU : (U.toList == U.toList) = true := by simp
    have HB6 := Lib.hid (HB5.out.trans (hb6.mono HB5.out.size))
    clear hb6 HU HTC
    go_wp2_with fail
    go_ret
    exact ⟨by simp, HB6.out⟩
  · have hcn : cn = 0 := HCN.out
    subst hcn
    clear HRES
    go_upto_region 6 with fail
    try rw [HW4.out, HDD.out]
    go_wp2_with fail
    go_ret
    exact ⟨rfl, HB4.out⟩
end Go.Proofs.YtljaegmmfjllkaaGreatDoor
