/- Walks of layer 33: the statements' own 'check'. -/
import Derived.Test.YteadlkecngfcoaaGreatDoorDw6
namespace Go.Proofs.YteadlkecngfcoaaGreatDoor
open Go.ChangeShapes Go.WideShapes Go.ChangeAt Go.RowKit
set_option linter.unusedVariables false

set_option maxRecDepth 100000 in
set_option maxHeartbeats 4000000 in
theorem lcheckd_any (F : Nat → Prop) (vars : Int) (pv : Value) (ps : List Part) (w : World) (hp : Parts F w pv ps) (hv : I64 vars) :
    Calls Tryz.prog 8 #[.agg #[.int .i64 vars, pv]] w fun e w' => e = .returned (.int .i64 (checkL ⟨vars, ps⟩)) ∧ Below w.heap.size w w' := by
  obtain ⟨pa, pc, rfl, hlen⟩ := hp.form
  have hbel : Below w.heap.size w (w.alloc (.cells #[.int .i64 vars, .slice pa ps.length pc] 29)) := (Below.refl _ _).alloc (Nat.le_refl _) _
  have HB := Lib.hid hbel
  clear hbel
  obtain ⟨M, hM⟩ : ∃ M, checkL ⟨vars, ps⟩ = M := ⟨_, rfl⟩
  rw [hM]
  by_cases h1 : vars < 0
  · have HM : Hid (M = 1) := Lib.hid (by rw [← hM]; simp [checkL, h1])
    clear hM
    go_enter Tryz.func8, Tryz.ntmps8
    go_wp2
    go_ret
    exact ⟨by rw [HM.out]; rfl, HB.out⟩
  by_cases h2 : 40 < vars ∨ 16384 < ps.length
  · have HM : Hid (M = 4) := Lib.hid (by rw [← hM]; simp [checkL, h1, h2])
    clear hM
    by_cases h3 : 40 < vars
    · clear h2
      go_enter Tryz.func8, Tryz.ntmps8
      go_wp2
      go_ret
      exact ⟨by rw [HM.out]; rfl, HB.out⟩
    · have h4 : 16384 < ps.length := by omega
      clear h2
      go_enter Tryz.func8, Tryz.ntmps8
      go_wp2
      go_ret
      exact ⟨by rw [HM.out]; rfl, HB.out⟩
  have h3 : vars ≤ 40 := by omega
  have h4 : ps.length ≤ 16384 := by omega
  by_cases h5 : ps.length = 0
  · have HM : Hid (M = 1) := Lib.hid (by rw [← hM]; unfold checkL; rw [if_neg h1, if_neg h2, if_pos h5])
    have h6 : ((ps.length : Int) == 0) = true := by simp [h5]
    clear hM h2 h5
    go_enter Tryz.func8, Tryz.ntmps8
    go_wp2
    go_ret
    exact ⟨by rw [HM.out]; rfl, HB.out⟩
  obtain ⟨V, rfl⟩ := Int.eq_ofNat_of_zero_le (show 0 ≤ vars by omega)
  have HM : Hid (M = checkLGo V (ps.drop 0) []) := Lib.hid (by rw [← hM]; unfold checkL; rw [if_neg h1, if_neg h2, if_neg h5]; rfl)
  have h6 : ((ps.length : Int) == 0) = false := by rw [beq_eq_false_iff_ne]; omega
  have hinfo : (Tryz.prog.info? 36).map (fun i => (i.zero, i.size, i.bytes)) = some (some (.slice none 0 0), 1, 24) := by kernel_rfl
  have HI := Lib.hid hinfo
  have hV : V ≤ 40 := by omega
  clear hM h1 h2 h5 hinfo
  go_enter Tryz.func8, Tryz.ntmps8
  go_wp2
  go_loopg [2, 3, 27] (ps.length) (fun g u2 u3 u27 wr => ∃ (k : Nat) (mss : List (List Bool)), k + g = ps.length ∧ u27 = .int .i64 k ∧ u2 = .int .i64 0 ∧ Hid (M = checkLGo V (ps.drop k) mss) ∧ Hid (mss.length = k) ∧
    Below w.heap.size w wr ∧ wr.cell? ⟨w.heap.size, 0, none⟩ = some (.int .i64 V) ∧ wr.cell? ⟨w.heap.size, 1, none⟩ = some (.slice pa ps.length pc) ∧
    RowsOwn wr (w.heap.size + 1) 36 u3 k mss ∧ Hid (∀ m ∈ mss, m.length = V + 1))
  case atStart =>
    exact ⟨0, [], by omega, rfl, rfl, HM, Lib.hid rfl, HB.out, by simp, by simp, RowsOwn.nil _ _ _, Lib.hid (by simp)⟩
  case round =>
    obtain ⟨k, mss, hkg, rfl, rfl, hinv, hmsl, hB, c0, c1, hown, hms⟩ := hrel
    rcases hd : ps.drop k with _ | ⟨p, r⟩
    · have hge := drop_nil hd
      have hk : ps.length = k := by omega
      have HMM : Hid (M = 0) := Lib.hid (by rw [hinv.out, hd]; rfl)
      have HB1 := Lib.hid hB
      have hkl : ¬ ((k : Int) < (ps.length : Int)) := by omega
      clear hd hB hown hk
      go_wp2
      go_ret
      exact ⟨by rw [HMM.out]; rfl, HB1.out⟩
    · obtain ⟨hd1, hd2, hd3⟩ := drop_cons hd
      have HD := Lib.hid hd
      have H2 := Lib.hid hd2
      have hpw := hp.below hB
      obtain ⟨b, off, kv, rfl, _, hb, e1, e2, e3, hks, i1, i2⟩ := hpw.at hd1
      have hbw := hB.size
      have hsz := block_lt c0
      have HOWN := Lib.hid hown
      have HBB := Lib.hid hB
      have HLT := Lib.hid hown.lt
      obtain ⟨ka, kc, rfl, hkl⟩ := hks.form
      clear hd hd1 hd2 hown hB
      go_wp2_with fail
      have hba : Below wr.heap.size wr (wr.alloc (.cells #[.int .i64 p.kind, .int .i64 p.lit, .slice ka p.kids.length kc] 43)) := (Below.refl _ _).alloc (Nat.le_refl _) _
      have hpart := part_any V p.kind p.lit p.kids (.slice (some ⟨b, off, none⟩) ps.length pc) u3 _ mss _ (((HOWN.out.below hba).rows1 (by omega)).mono (fun _ _ _ _ _ h hg => Bools.mono h hg) (fun _ _ => trivial : ∀ b, True → (fun _ => True) b)) ((hks.below hba).mono (fun _ _ => trivial)) hV i2 hms.out
      rw [hmsl.out] at hpart
      refine hpart.mono ?_
      rintro e w1 ⟨rv, rfl, hb1, hr1, hr2⟩
      obtain ⟨hc1, hf1⟩ := bcell hb1
      have hs1 := hb1.size
      simp only [World.size_alloc] at hs1
      have d0 := (hc1 w.heap.size 0 (by simp; omega)).trans (cell_alloc _ c0)
      have d1 := (hc1 w.heap.size 1 (by simp; omega)).trans (cell_alloc _ c1)
      have HB1 : Hid (Below w.heap.size w w1) := Lib.hid ((HBB.out.trans (hba.mono (by omega))).trans (hb1.mono (by simp; omega)))
      have HO1 := Lib.hid ((HOWN.out.below hba).below hb1)
      have HR1 := Lib.hid hr1
      have HR2 := Lib.hid hr2
      obtain ⟨pc1, hpc1⟩ : ∃ c, (partM V mss p).1 = c := ⟨_, rfl⟩
      have hpe : (partM V mss ⟨p.kind, p.lit, p.kids⟩).1 = pc1 := hpc1
      simp only [hpe]
      have HPC := Lib.hid hpc1
      clear hpart hba hb1 hc1 hf1 c0 c1 e1 e2 e3 hpw hks hpc1 hpe hr1 hr2 HBB HOWN
      by_cases hz : pc1 = 0
      case neg =>
        have hne : (pc1 != 0) = true := by simp [hz]
        have HMM : Hid (M = pc1) := Lib.hid (by rw [hinv.out, HD.out]; simp only [checkLGo, HPC.out, if_pos hz])
        clear hz
        go_wp2
        go_ret
        exact ⟨by rw [HMM.out]; rfl, HB1.out⟩
      have hne : (pc1 != 0) = false := by simp [hz]
      have HZ : Hid ((partM V mss p).1 = 0) := Lib.hid (by rw [HPC.out, hz])
      have HN : Hid (M = checkLGo V (ps.drop (k + 1)) (mss ++ [(partM V mss p).2])) := Lib.hid (by
        rw [hinv.out, HD.out, H2.out]; simp only [checkLGo, HZ.out, ne_eq, not_true, if_false])
      have hbools : Bools (fun b => wr.heap.size ≤ b) w1 rv (partM V mss p).2 := (HR2.out HZ.out).mono fun b hb => by simp at hb; omega
      have hmlen := partM_len HZ.out
      generalize (partM V mss p).2 = m at *
      obtain ⟨us, hown, hul, hus⟩ := HO1.out
      have hlt := hown.lt
      have hold : ∀ b, wr.heap.size ≤ b → u3.ownBlock ≠ some b := by
        intro b hb e; have := HLT.out b e; omega
      have HOLD := Lib.hid hold
      have HUS := Lib.hid hus
      have HBO := Lib.hid hbools
      have HUL := Lib.hid hul
      have HML := Lib.hid hmlen
      obtain ⟨ra, rc, rfl, _⟩ := hbools.form
      clear hz hlt hold hus hbools hul hmlen
      go_wp2_with (at_builtin; go_loud (refine wpList_push1 rfl _ _ 53 rfl 36 (.slice none 0 0) 24 Tryz.underlying53 HI.out rfl (w.heap.size + 1) u3 k us w1 _ rfl rfl hown rfl (by omega) (by omega) (by omega) ?_); intro g3 cap3 w3 hown3 hg3 hs3 hgb hgl hat; have HR := Lib.hid (RowsOwn.push HUL.out HUS.out (HBO.out.mono HOLD.out) hown3 hg3 hat); have HB3 := Lib.hid (HB1.out.grown hg3 (by omega) (fun k hk => by have := (hown.lt k hk).1; omega)); have t0 := hg3.cell d0 (fun e => by have := (hown.lt _ e.symm).1; simp at this; omega); have t1 := hg3.cell d1 (fun e => by have := (hown.lt _ e.symm).1; simp at this; omega); clear hown3 hg3 hown)
      go_roundg (gk - 1)
      case measure => omega
      case rel =>
        exact ⟨k + 1, mss ++ [m], by omega, by go_num, rfl, HN, Lib.hid (by simp [hmsl.out]), HB3.out, t0, t1, HR.out, Lib.hid (fun x hx => by
          rcases List.mem_append.1 hx with h | h
          · exact hms.out x h
          · simp at h; subst h; exact HML.out)⟩
end Go.Proofs.YteadlkecngfcoaaGreatDoor
