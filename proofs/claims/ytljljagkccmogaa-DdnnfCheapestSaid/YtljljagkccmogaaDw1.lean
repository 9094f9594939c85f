/- Walks of layer 33: few, shaped. -/
import Derived.Test.YtljljagkccmogaaChecked
import Derived.Test.YtljljagkccmogaaDd
namespace Go.Proofs.Ytljljagkccmogaa
open Go.ChangeShapes Go.WideShapes Go.ChangeAt Go.RowKit
set_option linter.unusedVariables false

theorem few_any (F : Nat → Prop) (vars : Int) (pv : Value) (ps : List Part) (w : World) (hp : Parts F w pv ps) :
    Calls Try.prog 11 #[.agg #[.int .i64 vars, pv]] w fun e w' => e = .returned (.bool (few ps)) ∧ Below w.heap.size w w' := by
  obtain ⟨a, cap, rfl, hlen⟩ := hp.form
  go_enter Try.func11, Try.ntmps11
  go_wp2
  go_loopw [2, 3, 9] (fun r left i wr => ∃ (k : Nat) (lf : Int), k ≤ ps.length ∧ 0 ≤ lf ∧ lf ≤ 200 ∧ i = .int .i64 k ∧ left = .int .i64 lf ∧ r = .bool false ∧
     Hid (fewM ps 200 = fewM (ps.drop k) lf) ∧ Below w.heap.size w wr ∧ wr.cell? ⟨w.heap.size, 0, none⟩ = some (.int .i64 vars) ∧ wr.cell? ⟨w.heap.size, 1, none⟩ = some (.slice a ps.length cap)) (fun _ _ i _ => ps.length - (intOf i).toNat)
  case atStart => exact ⟨0, 200, by omega, by omega, by omega, rfl, rfl, rfl, rfl, (Below.refl _ _).alloc (Nat.le_refl _) _, by simp, by simp⟩
  case round =>
    obtain ⟨k, lf, hk1, hl1, hl2, rfl, rfl, rfl, hinv, hB, hc1, hc2⟩ := hrel
    rcases hd : ps.drop k with _ | ⟨p, r⟩
    · have hge := drop_nil hd
      have hk : k = ps.length := by omega
      have hd' := Lib.hid hd
      clear hd
      subst hk
      go_wp2
      go_ret
      refine ⟨?_, hB⟩
      have := hinv.out
      rw [hd'.out] at this
      simp [few, this, fewM]
      omega
    · obtain ⟨h1, h2, h3⟩ := drop_cons hd
      obtain ⟨b, off, kv, rfl, _, hb, c1, c2, c3, hks, _, _⟩ := (hp.below hB).at h1
      obtain ⟨ka, kc, rfl, hkl⟩ := hks.form
      have hbw := hB.size
      have H1 := Lib.hid h1
      have H2 := Lib.hid h2
      have HD := Lib.hid hd
      clear hd h1 h2
      by_cases hlt : lf < p.kids.length
      · go_wp2
        go_ret
        refine ⟨?_, ?_⟩
        · have := hinv.out
          rw [HD.out] at this
          simp [few, this, fewM, hlt]
        · exact (hB.alloc (by omega) _)
      · go_wp2
        go_roundw
        case rel =>
          refine ⟨k + 1, lf - p.kids.length, by omega, by omega, by omega, by go_num, rfl, rfl, ?_, ?_, ?_, ?_⟩
          · have := hinv.out
            rw [HD.out] at this
            rw [H2.out]
            simp only [fewM] at this
            rw [if_neg hlt] at this
            exact this
          · exact (hB.alloc (by omega) _)
          · exact cell_alloc _ hc1
          · exact cell_alloc _ hc2
        case measure => simp [intOf]; omega

set_option maxHeartbeats 4000000 in
theorem shaped_any (F : Nat → Prop) (p : Part) (kv : Value) (vars : Int) (w : World) (hk : Ints F w kv p.kids) (hv0 : 0 ≤ vars) (hv1 : vars ≤ 40) (i1 : I64 p.kind) (i2 : I64 p.lit) :
    Calls Try.prog 46 #[.agg #[.int .i64 p.kind, .int .i64 p.lit, kv], .int .i64 vars] w fun e w' => e = .returned (.int .i64 (shapedM p vars)) ∧ Below w.heap.size w w' := by
  obtain ⟨kind, lit, kids⟩ := p
  obtain ⟨ka, kc, rfl, hkl⟩ := hk.form
  simp only at i1 i2 hk hkl ⊢
  clear hk
  show Calls _ _ _ _ fun e w' => e = .returned (.int .i64 (shapedK kind lit kids.length vars)) ∧ _
  generalize kids.length = n at *
  obtain ⟨i11, i12⟩ := i1
  obtain ⟨i21, i22⟩ := i2
  have hb : ∀ kd lt, Below w.heap.size w (w.alloc (.cells #[.int .i64 kd, .int .i64 lt, .slice ka n kc] 61)) := fun _ _ => (Below.refl _ _).alloc (Nat.le_refl _) _
  have HB := Lib.hid hb
  clear hb
  by_cases hlo : kind < 0
  · go_enter Try.func46, Try.ntmps46
    go_wp2
    go_ret
    refine ⟨?_, HB.out _ _⟩
    simp [shapedK, hlo]
  by_cases hhi : 4 < kind
  · go_enter Try.func46, Try.ntmps46
    go_wp2
    go_ret
    refine ⟨?_, HB.out _ _⟩
    simp [shapedK, hhi]
  have hcase : kind = 0 ∨ kind = 1 ∨ kind = 2 ∨ kind = 3 ∨ kind = 4 := by omega
  clear hlo hhi i11 i12
  rcases hcase with rfl | rfl | rfl | rfl | rfl
  all_goals
    go_enter Try.func46, Try.ntmps46
    go_wp2
    all_goals
      go_ret
      refine ⟨?_, HB.out _ _⟩
      simp_all [shapedK]
      try omega
end Go.Proofs.Ytljljagkccmogaa
