/- Walk: the statement CnfCheck. No condition. -/
import Derived.Test.YtjjbpfbbfjdhdaaQj
import Derived.Test.YtjjbpfbbfjdhdaaQk
import Derived.Test.YtjjbpfbbfjdhdaaKq
namespace Go.Proofs.Ytjjbpfbbfjdhdaa
open Go.ChangeShapes Go.WideShapes Go.ChangeAt Go.RowKit
set_option linter.unusedVariables false

theorem few_lens {cs : List (List Int)} {m l : Int} (h : fewC cs m l = true) : (cs.length : Int) ≤ m ∧ ∀ c ∈ cs, (c.length : Int) ≤ l := by
  unfold fewC at h
  rw [Bool.and_eq_true, decide_eq_true_eq] at h
  exact ⟨h.1, fewGo_len cs l h.2⟩
set_option maxRecDepth 100000 in
set_option maxHeartbeats 8000000 in
theorem CnfCheck_any (F : Nat → Prop) (vars keep : Int) (cv : Value) (cs : List (List Int)) (w : World) (hx : Clss F w cv cs) (hv : I64 vars) (hk : I64 keep) :
    Calls Try.prog 6 #[.agg #[.int .i64 vars, .int .i64 keep, cv]] w (BoolPost w true) := by
  obtain ⟨a, n, c, rfl, HN, hn⟩ := hx.form'
  obtain ⟨W1, hW1⟩ : ∃ W, w.alloc (.cells #[.int .i64 vars, .int .i64 keep, .slice a n c] 28) = W := ⟨_, rfl⟩
  have hb : Below w.heap.size w W1 := by rw [← hW1]; exact (Below.refl _ _).alloc (Nat.le_refl _) _
  have k0 : W1.cell? ⟨w.heap.size, 0, none⟩ = some (.int .i64 vars) := by rw [← hW1]; simp
  have k1 : W1.cell? ⟨w.heap.size, 1, none⟩ = some (.int .i64 keep) := by rw [← hW1]; simp
  have k2 : W1.cell? ⟨w.heap.size, 2, none⟩ = some (.slice a n c) := by rw [← hW1]; simp
  have HX1 := Lib.hid (hx.below hb)
  have HB1 := Lib.hid hb
  have HV := Lib.hid hv
  have HK := Lib.hid hk
  clear hx hb hv hk
  go_enter Try.func6, Try.ntmps6
  go_wp2_with fail
  clear hW1
  refine (known_any W1).mono ?_
  rintro e w2 ⟨rfl, hb2⟩
  have m0 := below_c hb2 (block_lt k0) k0
  have m1 := below_c hb2 (block_lt k1) k1
  have m2 := below_c hb2 (block_lt k2) k2
  have HX2 := Lib.hid (HX1.out.below hb2)
  have HB2 : Hid (Below w.heap.size w w2) := Lib.hid (HB1.out.trans (hb2.mono HB1.out.size))
  obtain ⟨Fw, hFw⟩ : ∃ b, fewC cs 60 300 = b := ⟨_, rfl⟩
  have hfew := lfew_any F (.slice a n c) cs 60 300 w2 HX2.out (by omega) (by omega)
  rw [hFw] at hfew
  have HFEW := Lib.hid hfew
  have HFW := Lib.hid hFw
  clear hb2 k0 k1 k2 HX1 HB1 hfew hFw
  go_wp2_with fail
  refine HFEW.out.mono ?_
  rintro e w3 ⟨rfl, rfl⟩
  rcases bool2 Fw with rfl | rfl
  case inr =>
    go_wp2_with fail
    go_ret
    exact ⟨rfl, HB2.out⟩
  obtain ⟨hl, hll⟩ := few_lens HFW.out
  have HCK := Lib.hid (check_any F vars keep (.slice a n c) cs w3.drew (HX2.out.drewN 1) HV.out HK.out)
  have HLC : Hid (∀ w5, Below w3.heap.size w3.drew w5 → Calls Try.prog 26 #[.agg #[.int .i64 vars, .int .i64 keep, .slice a n c]] w5 (CodePost w5 (checkM vars keep cs))) :=
    Lib.hid fun w5 hb5 => lcheck_any F vars keep (.slice a n c) cs w5 ((HX2.out.drewN 1).below hb5) HV.out HK.out (by omega) (fun c hc => by have := hll c hc; omega)
  generalize checkM vars keep cs = CK at *
  have hlt := block_lt m0
  clear HFEW HFW hl hll
  go_wp2_with fail
  go_region_held3 (fun w' => w'.cell? ⟨w.heap.size, 0, none⟩ = some (.int .i64 vars) ∧ w'.cell? ⟨w.heap.size, 1, none⟩ = some (.int .i64 keep) ∧ w'.cell? ⟨w.heap.size, 2, none⟩ = some (.slice a n c))
    (first | exact ⟨m0, m1, m2⟩ | exact ⟨below_c hb6 (Nat.lt_of_lt_of_le hlt hb5.size) (below_c hb5 hlt m0), below_c hb6 (Nat.lt_of_lt_of_le hlt hb5.size) (below_c hb5 hlt m1), below_c hb6 (Nat.lt_of_lt_of_le hlt hb5.size) (below_c hb5 hlt m2)⟩ | exact ⟨below_c hb5 hlt m0, below_c hb5 hlt m1, below_c hb5 hlt m2⟩ | go_keep)
    (first | (go_at_call 25; refine HCK.out.mono ?_; rintro e w5 ⟨rfl, hb5⟩) | (go_at_call 26; refine (HLC.out _ hb5).mono ?_; rintro e w6 ⟨rfl, hb6⟩))
  have HBF : Hid (Below w.heap.size w w6) := Lib.hid ((HB2.out.trans ((show Below w3.heap.size w3 w5 from ⟨hb5.os, hb5.tape, hb5.output, hb5.size, hb5.block⟩).mono HB2.out.size)).trans (hb6.mono (Nat.le_trans HB2.out.size hb5.size)))
  clear hb5 hb6
  go_wp2_with fail
  go_ret
  exact ⟨rfl, HBF.out⟩
end Go.Proofs.Ytjjbpfbbfjdhdaa
