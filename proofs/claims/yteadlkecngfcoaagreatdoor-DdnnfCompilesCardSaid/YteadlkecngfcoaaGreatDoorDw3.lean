/- Walks of layer 33: checked. -/
import Derived.Test.YteadlkecngfcoaaGreatDoorDw1
import Derived.Test.YteadlkecngfcoaaGreatDoorDw2
namespace Go.Proofs.YteadlkecngfcoaaGreatDoor
open Go.ChangeShapes Go.WideShapes Go.ChangeAt Go.RowKit
set_option linter.unusedVariables false

set_option maxRecDepth 100000 in
set_option maxHeartbeats 4000000 in
theorem checked_any (F : Nat → Prop) (vars : Int) (pv : Value) (ps : List Part) (w : World) (hp : Parts F w pv ps) (hv : I64 vars) :
    Calls Tryz.prog 20 #[.agg #[.int .i64 vars, pv]] w (CheckedPost w vars pv (checkedM ⟨vars, ps⟩)) := by
  obtain ⟨pa, pc, rfl, hlen⟩ := hp.form
  have hbel : Below w.heap.size w (w.alloc (.cells #[.int .i64 vars, .slice pa ps.length pc] 29)) := (Below.refl _ _).alloc (Nat.le_refl _) _
  have HB := Lib.hid hbel
  clear hbel
  obtain ⟨M, hM⟩ : ∃ M, checkedM ⟨vars, ps⟩ = M := ⟨_, rfl⟩
  rw [hM]
  by_cases h1 : vars < 0
  · have HM : Hid (M.1 = 1) := Lib.hid (by rw [← hM]; simp [checkedM, h1])
    clear hM
    go_enter Tryz.func20, Tryz.ntmps20
    go_wp2
    go_ret2
    exact CheckedPost.no HB.out HM.out (by decide)
  by_cases h2 : 40 < vars ∨ 16384 < ps.length
  · have HM : Hid (M.1 = 4) := Lib.hid (by rw [← hM]; simp [checkedM, h1, h2])
    clear hM
    by_cases h3 : 40 < vars
    · clear h2
      go_enter Tryz.func20, Tryz.ntmps20
      go_wp2
      go_ret2
      exact CheckedPost.no HB.out HM.out (by decide)
    · have h4 : 16384 < ps.length := by omega
      clear h2
      go_enter Tryz.func20, Tryz.ntmps20
      go_wp2
      go_ret2
      exact CheckedPost.no HB.out HM.out (by decide)
  have h3 : vars ≤ 40 := by omega
  have h4 : ps.length ≤ 16384 := by omega
  by_cases h5 : ps.length = 0
  · have HM : Hid (M.1 = 1) := Lib.hid (by rw [← hM]; unfold checkedM; rw [if_neg h1, if_neg h2, if_pos h5])
    have h6 : ((ps.length : Int) == 0) = true := by simp [h5]
    clear hM h2 h5
    go_enter Tryz.func20, Tryz.ntmps20
    go_wp2
    go_ret2
    exact CheckedPost.no HB.out HM.out (by decide)
  have HM : Hid (M = checkedGo vars ps []) := Lib.hid (by rw [← hM]; unfold checkedM; rw [if_neg h1, if_neg h2, if_neg h5])
  have h6 : ((ps.length : Int) == 0) = false := by rw [beq_eq_false_iff_ne]; omega
  have h0 : 0 ≤ vars := by omega
  clear hM h1 h2 h5
  go_enter Tryz.func20, Tryz.ntmps20
  go_wp2
  go_loopg [2, 3, 37] (ps.length) (fun g u2 u3 u37 wr => ∃ (k : Nat) (ms : List Nat) (mv : Value), k + g = ps.length ∧ u37 = .int .i64 k ∧ u2 = .pointer none ∧ u3 = .int .i64 0 ∧ Hid (M = checkedGo vars (ps.drop k) ms) ∧ Hid (ms.length = k) ∧
    Below w.heap.size w wr ∧ wr.cell? ⟨w.heap.size, 0, none⟩ = some (.int .i64 vars) ∧ wr.cell? ⟨w.heap.size, 1, none⟩ = some (.slice pa ps.length pc) ∧
    wr.cell? ⟨w.heap.size + 1, 0, none⟩ = some (.int .i64 vars) ∧ wr.cell? ⟨w.heap.size + 1, 1, none⟩ = some (.slice pa ps.length pc) ∧ wr.cell? ⟨w.heap.size + 1, 2, none⟩ = some mv ∧
    wr.frozen? ⟨w.heap.size + 1, 2, none⟩ = false ∧ wr.ownsRow (w.heap.size + 2) 65 1 mv k (ms.map fun (x : Nat) => .int .u64 (x : Int)) ∧ Hid (∀ m ∈ ms, m < 1099511627776))
  case atStart =>
    exact ⟨0, [], _, by omega, rfl, rfl, rfl, HM, Lib.hid rfl, HB.out.alloc (by simp) _, by simp, by simp, by simp, by simp, by simp, by simp, World.ownsRow_nil _ _ _ _, Lib.hid (by simp)⟩
  case round =>
    have g0 : ∃ G, G = gk := ⟨_, rfl⟩
    obtain ⟨G, hG⟩ := g0
    subst hG
    obtain ⟨k, ms, mv, hkg, rfl, rfl, rfl, hinv, hmsl, hB, c0, c1, f0, f1, f2, fz, hown, hms⟩ := hrel
    rcases hd : ps.drop k with _ | ⟨p, r⟩
    · have hge := drop_nil hd
      have hk : k = ps.length := by omega
      have HMM : Hid (M = (0, ms)) := Lib.hid (by rw [hinv.out, hd]; rfl)
      clear hd
      subst hk
      go_wp2
      go_ret2
      refine CheckedPost.yes hB (by rw [HMM.out]) ?_
      refine ⟨_, mv, rfl, by omega, f0, f1, f2, ?_⟩
      rw [HMM.out]
      exact ⟨(ownsRow_sl1 hown (by omega)).mono fun b hb => by omega, hms.out⟩
    · obtain ⟨hd1, hd2, hd3⟩ := drop_cons hd
      have HD := Lib.hid hd
      have H2 := Lib.hid hd2
      have hpw := hp.below hB
      obtain ⟨b, off, kv, rfl, _, hb, e1, e2, e3, hks, i1, i2⟩ := hpw.at hd1
      obtain ⟨ka, kc, rfl, hkl⟩ := hks.form
      have hbw := hB.size
      have hsz := block_lt f0
      have hsz0 : w.heap.size < wr.heap.size := by omega
      clear hd hd1 hd2
      go_wp2_with fail
      refine (shaped_any F p _ vars _ (hks.below (Below.alloc (Below.refl _ _) (Nat.le_refl _) _)) h0 h3 i1 i2).mono ?_
      rintro e w1 ⟨rfl, hb1⟩
      obtain ⟨hc1, hf1⟩ := bcell hb1
      have hs1 := hb1.size
      simp only [World.size_alloc] at hs1
      have hsz1 : w.heap.size + 1 < w1.heap.size := by omega
      have g0 : w1.cell? ⟨w.heap.size + 1, 0, none⟩ = some (.int .i64 vars) := (hc1 _ _ (by simp; omega)).trans (cell_alloc _ f0)
      have g1 : w1.cell? ⟨w.heap.size + 1, 1, none⟩ = some (.slice (some ⟨b, off, none⟩) ps.length pc) := (hc1 _ _ (by simp; omega)).trans (cell_alloc _ f1)
      have g2 : w1.cell? ⟨w.heap.size + 1, 2, none⟩ = some mv := (hc1 _ _ (by simp; omega)).trans (cell_alloc _ f2)
      have gz : w1.frozen? ⟨w.heap.size + 1, 2, none⟩ = false := (hf1 _ _ (by simp; omega)).trans ((World.frozen?_of_block (Below.heap_alloc wr _ _ hsz)).trans fz)
      have d0 : w1.cell? ⟨w.heap.size, 0, none⟩ = some (.int .i64 vars) := (hc1 _ _ (by simp; omega)).trans (cell_alloc _ c0)
      have d1 : w1.cell? ⟨w.heap.size, 1, none⟩ = some (.slice (some ⟨b, off, none⟩) ps.length pc) := (hc1 _ _ (by simp; omega)).trans (cell_alloc _ c1)
      have p0 : w1.cell? ⟨wr.heap.size, 0, none⟩ = some (.int .i64 p.kind) := (hc1 _ _ (by simp)).trans (by simp)
      have p1 : w1.cell? ⟨wr.heap.size, 1, none⟩ = some (.int .i64 p.lit) := (hc1 _ _ (by simp)).trans (by simp)
      have p2 : w1.cell? ⟨wr.heap.size, 2, none⟩ = some (.slice ka p.kids.length kc) := (hc1 _ _ (by simp)).trans (by simp)
      have hks1 := (hks.below (Below.alloc (Below.refl _ _) (Nat.le_refl _) (.cells #[.int .i64 p.kind, .int .i64 p.lit, .slice ka p.kids.length kc] 43))).below hb1
      have hB1 : Below w.heap.size w w1 := (hB.alloc (by omega) _).trans (hb1.mono (by simp; omega))
      have HB1 := Lib.hid hB1
      have HOW : Hid (w1.ownsRow (w.heap.size + 2) 65 1 mv k (ms.map fun (x : Nat) => .int .u64 (x : Int))) := Lib.hid ((hown.alloc _).kept (row := none) ⟨hb1.os, hb1.tape, hb1.output, hb1.size, fun i hi _ => hb1.block i hi⟩ (by cases h : mv.ownBlock <;> simp))
      clear hB1 hb1 hown hc1 hf1 hB c0 c1 f0 f1 f2 fz e1 e2 e3 hks hpw
      by_cases hsh : shapedM p vars = 0
      case neg =>
        have HMM : Hid (M.1 = shapedM p vars) := Lib.hid (by rw [hinv.out, HD.out]; simp [checkedGo, hsh])
        have hne : (shapedM p vars != 0) = true := by simp [hsh]
        go_wp2_with fail
        go_ret2
        exact CheckedPost.no HB1.out HMM.out hsh
      have hne : (shapedM p vars != 0) = false := by simp [hsh]
      have HSH := Lib.hid hsh
      have hlit := shaped_lit hsh h0 h3
      clear hsh
      go_wp2_with fail
      go_loopg [2, 3, 52] (p.kids.length) (fun g u2 u3 u52 wx => ∃ (j : Nat), j + g = p.kids.length ∧ u52 = .int .i64 j ∧ u2 = .pointer none ∧ u3 = .int .i64 0 ∧ wx = w1 ∧
        Hid (p.kids.any (fun x => decide (x < 0 ∨ (ms.length : Int) ≤ x)) = (p.kids.drop j).any (fun x => decide (x < 0 ∨ (ms.length : Int) ≤ x))))
      case atStart => exact ⟨0, by omega, rfl, rfl, rfl, rfl, Lib.hid rfl⟩
      case round =>
        obtain ⟨j, hjg, rfl, rfl, rfl, rfl, hany⟩ := hrel
        rcases hd : p.kids.drop j with _ | ⟨x, q⟩
        · have hge := drop_nil hd
          have hk : j = p.kids.length := by omega
          have HA : Hid (p.kids.any (fun x => decide (x < 0 ∨ (ms.length : Int) ≤ x)) = false) := Lib.hid (by rw [hany.out, hd]; rfl)
          have hk2 : (j : Int) < p.kids.length → False := by omega
          clear hd hany
          have hown := HOW.out
          have hkr : ∀ x ∈ p.kids, 0 ≤ x ∧ x < ms.length := by
            intro x hx
            have := List.any_eq_false.1 HA.out x hx
            simp at this
            omega
          have HKR := Lib.hid hkr
          clear hkr HA
          have hnats : Nats (fun b => w.heap.size + 2 ≤ b ∧ mv.ownBlock = some b) wr mv ms := ⟨ownsRow_sl1 hown (by omega), hms.out⟩
          go_wp2_with fail
          refine (mask_any p.kind p.lit p.kids _ mv (w.heap.size + 1) ms _ g2 hnats hks1 hlit.1 hlit.2 HKR.out).mono ?_
          rintro e w2 ⟨rfl, hb2⟩
          obtain ⟨hc2, hf2⟩ := bcell hb2
          have hs2 := hb2.size
          have hB2 : Below w.heap.size w w2 := HB1.out.trans (hb2.mono (by omega))
          have HB2 := Lib.hid hB2
          have q0 := (hc2 _ 0 (by omega)).trans g0
          have q1 := (hc2 _ 1 (by omega)).trans g1
          have q2 := (hc2 _ 2 (by omega)).trans g2
          have qz := (hf2 _ 2 (by omega)).trans gz
          have r0 := (hc2 w.heap.size 0 (by omega)).trans d0
          have r1 := (hc2 w.heap.size 1 (by omega)).trans d1
          have hown2 : w2.ownsRow (w.heap.size + 2) 65 1 mv k (ms.map fun (x : Nat) => .int .u64 (x : Int)) := hown.kept (row := none) ⟨hb2.os, hb2.tape, hb2.output, hb2.size, fun i hi _ => hb2.block i hi⟩ (by cases h : mv.ownBlock <;> simp)
          clear hB2 hb2 hc2 hf2 g0 g1 g2 gz d0 d1 p0 p1 p2 hown HOW hnats hks1
          have hsz2 : w.heap.size + 1 < w2.heap.size := by omega
          have hanyf : p.kids.any (fun x => decide (x < 0 ∨ (ms.length : Int) ≤ x)) = false := by
            rw [List.any_eq_false]; intro x hx; have := HKR.out x hx; simp; omega
          rcases hmk : maskM p ms with _ | m
          · have HMM : Hid (M.1 = 2) := Lib.hid (by
              rw [hinv.out, HD.out]
              simp only [checkedGo, HSH.out, hanyf, hmk]; simp)
            clear hmk hanyf
            simp only [Option.getD_none, Option.isSome_none]
            go_wp2_with fail
            go_ret2
            exact CheckedPost.no HB2.out HMM.out (by decide)
          · have HMM : Hid (M = checkedGo vars (ps.drop (k + 1)) (ms ++ [m])) := Lib.hid (by
              rw [hinv.out, HD.out, H2.out]
              simp only [checkedGo, HSH.out, hanyf, hmk]; simp)
            have hml := maskM_lt hmk hms.out hlit.1 hlit.2
            clear hmk hanyf
            simp only [Option.getD_some, Option.isSome_some]
            have hinfo : (Tryz.prog.info? 65).map (fun i => (i.zero, i.size, i.bytes)) = some (some (.int .u64 0), 1, 8) := by kernel_rfl
            have HI := Lib.hid hinfo
            clear hinfo
            go_wp2_with (at_builtin; go_loud (refine wpList_push1 rfl _ _ 71 rfl 65 (.int .u64 0) 8 Tryz.underlying71 HI.out rfl (w.heap.size + 2) mv k _ w2 (.int .u64 m) rfl rfl hown2 rfl (by omega) (by omega) (by omega) ?_); intro g3 cap3 w3 hown3 hg3 hs3 hgb hgl _; have hb3 := grown_below hg3 (by omega) hown2; have t0 := below_c hb3 (by omega) q0; have t1 := below_c hb3 (by omega) q1; have t2 := below_c hb3 (by omega) q2; have tz := below_z hb3 (by omega) qz; have v0 := below_c hb3 (by omega) r0; have v1 := below_c hb3 (by omega) r1; have HB3 := Lib.hid hb3; have HO3 := Lib.hid hown3; clear hb3 hown3 hown2 hg3 q0 q1 q2 qz r0 r1)
            have hown4 := HO3.out
            go_roundg (G - 1)
            case measure => omega
            case rel =>
              refine ⟨k + 1, ms ++ [m], .slice (some ⟨g3, 0, none⟩) (k + 1) cap3, by omega, by go_num, rfl, rfl, HMM, Lib.hid (by simp [hmsl.out]), ?_, ?_, ?_, ?_, ?_, ?_, ?_, ?_, ?_⟩
              · exact (HB2.out.trans (HB3.out.mono (by omega))).setCell (by show _ ≤ _; simp) _
              · exact set_ne (by omega) v0
              · exact set_ne (by omega) v1
              · exact set_ne (by omega) t0
              · exact set_ne (by omega) t1
              · exact set_eq t2
              · rw [World.frozen?_setCell]; exact tz
              · exact ownsRow_setCell_below (by simpa using hown4) (by show _ < _; simp) _
              · exact Lib.hid (fun x hx => by
                  rcases List.mem_append.1 hx with h | h
                  · exact hms.out x h
                  · simp at h; omega)
        · obtain ⟨hd1, hd2, hd3⟩ := drop_cons hd
          obtain ⟨kb, koff, rfl, _, hkb, hck, hxr⟩ := hks1.at hd1
          obtain ⟨hx1, hx2⟩ := hxr
          by_cases hbad : x < 0 ∨ (ms.length : Int) ≤ x
          · have HMM : Hid (M.1 = 10) := Lib.hid (by
              rw [hinv.out, HD.out]
              have : p.kids.any (fun x => decide (x < 0 ∨ (ms.length : Int) ≤ x)) = true := by rw [hany.out, hd]; simp [hbad]
              simp only [checkedGo, HSH.out, this]; simp)
            have hbad' : x < 0 ∨ (k : Int) ≤ x := by rw [← hmsl.out]; exact hbad
            clear hd hd1 hd2 hbad
            by_cases hx0 : x < 0
            · clear hbad'
              go_wp2_with fail
              go_ret2
              exact CheckedPost.no HB1.out HMM.out (by decide)
            · have hx3 : (k : Int) ≤ x := by omega
              clear hbad'
              go_wp2_with fail
              go_ret2
              exact CheckedPost.no HB1.out HMM.out (by decide)
          · have hnx : 0 ≤ x ∧ x < (k : Int) := by rw [← hmsl.out]; omega
            have HN : Hid (p.kids.any (fun x => decide (x < 0 ∨ (ms.length : Int) ≤ x)) = (p.kids.drop (j + 1)).any (fun x => decide (x < 0 ∨ (ms.length : Int) ≤ x))) := Lib.hid (by rw [hany.out, hd, hd2]; simp [hbad])
            obtain ⟨hnx1, hnx2⟩ := hnx
            clear hd hd1 hd2 hbad hany
            go_wp2_with fail
            go_roundg (gk - 1)
            case measure => omega
            case rel => exact ⟨j + 1, by omega, by go_num, rfl, rfl, rfl, HN⟩
end Go.Proofs.YteadlkecngfcoaaGreatDoor
