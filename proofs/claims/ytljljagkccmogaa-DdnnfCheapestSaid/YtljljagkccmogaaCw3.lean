/- Walks: Condition, fit. -/
import Derived.Test.YtljljagkccmogaaCw2
import Derived.Test.YtljljagkccmogaaDw4
import Derived.Test.YtljljagkccmogaaDw7
namespace Go.Proofs.Ytljljagkccmogaa
open Go.ChangeShapes Go.WideShapes Go.ChangeAt Go.RowKit
set_option linter.unusedVariables false

/-- what Condition answers for a valid normal form -/
def ConditionPost (W : World) (V : Nat) (ps qs : List Part) (c : Int) (e : Ending) (w' : World) : Prop :=
  ∃ rv, e = .returned (.tuple #[rv, .int .i64 c]) ∧ Below W.heap.size W w' ∧ (c ≠ 0 → rv = .agg #[.int .i64 0, .slice none 0 0]) ∧ (c = 0 → ∃ pv, rv = .agg #[.int .i64 V, pv] ∧ Parts (fun b => W.heap.size ≤ b) w' pv qs)

set_option maxRecDepth 100000 in
set_option maxHeartbeats 8000000 in
theorem condition_any {F G : Nat → Prop} (V : Nat) (pv lv : Value) (ps : List Part) (lits : List Int) (w : World) (hp : Parts F w pv ps) (hl : Ints G w lv lits) (h0 : (checkedM ⟨V, ps⟩).1 = 0) (hks : ∀ p ∈ ps, p.kids.length ≤ 16384) :
    Calls Try.prog 21 #[.agg #[.int .i64 V, pv], lv] w (ConditionPost w V ps (condM ⟨V, ps⟩ lits).parts (seenGo V lits (List.replicate (V + 1) false))) := by
  obtain ⟨pa, pn, pc, rfl, HPN⟩ : ∃ a n c, pv = .slice a n c ∧ Hid (n = ps.length) := by
    obtain ⟨a, c, h1, h2⟩ := hp.form
    exact ⟨a, _, c, h1, rfl⟩
  obtain ⟨la, ln, lc, rfl, HLN, hln⟩ := hl.form'
  have hinfo : (Try.prog.info? 4).map (fun i => (i.zero, i.size, i.bytes)) = some (some (.bool false), 1, 1) := by kernel_rfl
  obtain ⟨i0, g1, g2, g3, g4⟩ := info_parts hinfo
  have G1 := Lib.hid g1
  have G2 := Lib.hid g2
  have G3 := Lib.hid g3
  have G4 := Lib.hid g4
  obtain ⟨hsh, _, hV40, _, hpl⟩ := sh_of_checkedM _ h0
  have hV : V ≤ 40 := by simp only at hV40; omega
  simp only [Int.toNat_natCast] at hsh
  have HSH := Lib.hid hsh
  obtain ⟨M, hM⟩ : ∃ M, seenGo V lits (List.replicate (V + 1) false) = M := ⟨_, rfl⟩
  have HM : Hid (M = seenGo V (lits.drop 0) (List.replicate (V + 1) false)) := Lib.hid (by rw [← hM]; rfl)
  have HLO : Hid (M = 0 → LitsOk V lits) := Lib.hid (fun h => lits_ok V lits _ (by rw [hM]; exact h))
  rw [hM]
  have HP := Lib.hid hp
  have HL := Lib.hid hl
  have HKS := Lib.hid hks
  have HPL := Lib.hid hpl
  have hbel : Below w.heap.size w ((w.alloc (.cells #[.int .i64 V, .slice pa pn pc] 24)).alloc (.cells #[.int .i64 0, .slice none 0 0] 24)) := ((Below.refl _ _).alloc (Nat.le_refl _) _).alloc (by simp) _
  have hck := Check_any F V _ ps _ (hp.below hbel) (by unfold I64; omega)
  rw [h0] at hck
  have HCK := Lib.hid hck
  have HB0 := Lib.hid hbel
  clear g1 g2 g3 g4 hinfo hM hp hl hks hsh hV40 hpl hck hbel h0
  go_enter Try.func21, Try.ntmps21
  go_wp2_with fail
  refine HCK.out.mono ?_
  rintro e w1 ⟨rfl, hb1⟩
  have d0 := below_c hb1 (show w.heap.size < _ by simp; omega) (o := 0) (v := .int .i64 V) (by simp)
  have d1 := below_c hb1 (show w.heap.size < _ by simp; omega) (o := 1) (v := .slice pa pn pc) (by simp)
  have r0 := below_c hb1 (show w.heap.size + 1 < _ by simp) (o := 0) (v := .int .i64 0) (by simp)
  have r1 := below_c hb1 (show w.heap.size + 1 < _ by simp) (o := 1) (v := .slice none 0 0) (by simp)
  have z0 := below_z hb1 (show w.heap.size + 1 < _ by simp) (o := 0) (by simp)
  have z1 := below_z hb1 (show w.heap.size + 1 < _ by simp) (o := 1) (by simp)
  have hs1 : w.heap.size + 1 < w1.heap.size := block_lt r0
  have HB1 : Hid (Below w.heap.size w w1) := Lib.hid (HB0.out.trans (hb1.mono (by simp; omega)))
  clear hb1 HCK
  go_upto_region 5 with (at_make; refine wpList_make_full _ rfl _ _ 29 rfl (w.heap.size + 2) 4 i0 (.bool false) 1 Try.underlying29 G1.out G2.out G3.out .i64 .i64 _ _ (V + 1) rfl rfl (by simp) (by simp) (by rw [G4.out]; omega) (by unfold maxLen; omega) (by omega) ?_; intro w2 hown2 hg2)
  have hsz2 : w1.heap.size < w2.heap.size := (hown2.lt w1.heap.size (by simp [Value.ownBlock])).2
  have HO2 : Hid (w2.ownsRow (w.heap.size + 2) 4 1 (.slice (some ⟨w1.heap.size, 0, none⟩) (V + 1) (V + 1)) (V + 1) ((List.replicate (V + 1) false).map .bool)) := Lib.hid (by rw [made_bools] at hown2; exact hown2)
  have hb2 : Below w1.heap.size w1 w2 := (Below.refl _ _).grown hg2 (Nat.le_refl _) (by intro k hk; cases hk)
  have HB2 := Lib.hid (HB1.out.trans (hb2.mono HB1.out.size))
  have e0 := below_c hb2 (by omega) d0
  have e1 := below_c hb2 (by omega) d1
  have s0 := below_c hb2 (by omega) r0
  have s1 := below_c hb2 (by omega) r1
  have y0 := below_z hb2 (by omega) z0
  have y1 := below_z hb2 (by omega) z1
  clear hown2 hg2 hb2 d0 d1 r0 r1 z0 z1
  go_wp2
  go_loopg [23] ln (fun g u23 wx => ∃ (k : Nat) (sn : List Bool), k + g = ln ∧ u23 = .int .i64 k ∧ Hid (M = seenGo V (lits.drop k) sn) ∧
    wx.ownsRow (w.heap.size + 2) 4 1 (.slice (some ⟨w1.heap.size, 0, none⟩) (V + 1) (V + 1)) (V + 1) (sn.map .bool) ∧ Hid (Below w1.heap.size w2 wx))
  case atStart => exact ⟨0, _, by omega, rfl, HM, HO2.out, Lib.hid (Below.refl _ _)⟩
  case round =>
  obtain ⟨k, sn, hkg, rfl, hinv, hown, HBW⟩ := hrel
  have HOW := Lib.hid hown
  clear hown
  have hww := HBW.out.size
  have f0 := below_c HBW.out (by omega) e0
  have f1 := below_c HBW.out (by omega) e1
  have t0 := below_c HBW.out (by omega) s0
  have t1 := below_c HBW.out (by omega) s1
  have x0 := below_z HBW.out (by omega) y0
  have x1 := below_z HBW.out (by omega) y1
  have HBR : Hid (Below w.heap.size w wr) := Lib.hid (HB2.out.trans (HBW.out.mono (by omega)))
  clear e0 e1 s0 s1 y0 y1
  by_cases hlt : k < ln
  · obtain ⟨l, hy⟩ : ∃ y, lits[k]? = some y := ⟨_, List.getElem?_eq_getElem (by have := HLN.out; omega)⟩
    obtain ⟨b, off, rfl, _, hb, hc, hyi⟩ := (HL.out.below HBR.out).at hy
    have e : lits.drop k = l :: lits.drop (k + 1) := by
      obtain ⟨hlt, he⟩ := List.getElem?_eq_some_iff.1 hy
      rw [List.drop_eq_getElem_cons hlt, he]
    have HI : Hid (M = seenGo V (l :: lits.drop (k + 1)) sn) := Lib.hid (by rw [hinv.out, e])
    clear e hinv
    by_cases hbad : l = 0 ∨ l < -(V : Int) ∨ (V : Int) < l
    · have HMF : Hid (M = 3) := Lib.hid (by rw [HI.out, seenGo, if_pos hbad])
      have v0 := set_ne (b := w.heap.size + 1) (b' := w.heap.size + 1) (o := 0) (o' := 1) (u := .slice none 0 0) (by omega) (set_eq (u := .int .i64 0) t0)
      have v1 := set_eq (u := .slice none 0 0) (set_ne (o' := 0) (b' := w.heap.size + 1) (u := .int .i64 0) (by omega) t1)
      have HBE := Lib.hid ((HBR.out.setCell (p := ⟨w.heap.size + 1, 0, none⟩) (by simp) (.int .i64 0)).setCell (p := ⟨w.heap.size + 1, 1, none⟩) (by simp) (.slice none 0 0))
      by_cases hl0 : l = 0
      · subst hl0
        clear hbad
        go_wp2
        refine bodyPost_ret (v := .tuple #[.agg #[.int .i64 0, .slice none 0 0], .int .i64 3]) (by simp [results, Try.results21, go_sem, v0, v1]) rfl ?_
        rw [HMF.out]
        exact ⟨_, rfl, HBE.out, fun _ => rfl, fun h => absurd h (by decide)⟩
      have hne : (l == 0) = false := by simp [hl0]
      by_cases hl1 : l < -(V : Int)
      · clear hbad hl0
        go_wp2
        refine bodyPost_ret (v := .tuple #[.agg #[.int .i64 0, .slice none 0 0], .int .i64 3]) (by simp [results, Try.results21, go_sem, v0, v1]) rfl ?_
        rw [HMF.out]
        exact ⟨_, rfl, HBE.out, fun _ => rfl, fun h => absurd h (by decide)⟩
      · have hl2 : (V : Int) < l := by omega
        clear hbad hl0
        go_wp2
        refine bodyPost_ret (v := .tuple #[.agg #[.int .i64 0, .slice none 0 0], .int .i64 3]) (by simp [results, Try.results21, go_sem, v0, v1]) rfl ?_
        rw [HMF.out]
        exact ⟨_, rfl, HBE.out, fun _ => rfl, fun h => absurd h (by decide)⟩
    · have HMN : Hid (M = if sn.getD l.natAbs false = true then 8 else seenGo V (lits.drop (k + 1)) (sn.set l.natAbs true)) := Lib.hid (by rw [HI.out, seenGo, if_neg hbad])
      have hne : (l == 0) = false := by rw [beq_eq_false_iff_ne]; omega
      have hlb : l ≤ (V : Int) ∧ -(V : Int) ≤ l ∧ l ≠ 0 := by omega
      clear hbad
      obtain ⟨sb, hsn, hcell, hfz, hg1, hg2, hset⟩ := own_at .bool HOW.out (show l.natAbs < V + 1 by omega)
      have HRW := Lib.hid (hset true)
      have hsg : sn.getD l.natAbs false = sb := by simp [List.getD, hsn]
      rw [hsg] at HMN
      obtain ⟨m, hm1, hm⟩ : ∃ m : Nat, 1 ≤ m ∧ (l = m ∨ l = -(m : Int)) := ⟨l.natAbs, by omega, by omega⟩
      have hmV : m < V + 1 := by omega
      obtain ⟨z, hz⟩ : ∃ z, l.natAbs = z := ⟨_, rfl⟩
      have hzm : z = m := by omega
      subst hzm
      rw [hz] at HMN HRW hcell hfz
      clear hz hlb hyi hset hsn hsg
      rcases bool2 sb with rfl | rfl
      · have HMF : Hid (M = 8) := Lib.hid (by rw [HMN.out, if_pos rfl])
        have v0 := set_ne (b := w.heap.size + 1) (b' := w.heap.size + 1) (o := 0) (o' := 1) (u := .slice none 0 0) (by omega) (set_eq (u := .int .i64 0) t0)
        have v1 := set_eq (u := .slice none 0 0) (set_ne (o' := 0) (b' := w.heap.size + 1) (u := .int .i64 0) (by omega) t1)
        have HBE := Lib.hid ((HBR.out.setCell (p := ⟨w.heap.size + 1, 0, none⟩) (by simp) (.int .i64 0)).setCell (p := ⟨w.heap.size + 1, 1, none⟩) (by simp) (.slice none 0 0))
        clear HMN
        rcases hm with rfl | rfl
        all_goals
          go_wp2
          refine bodyPost_ret (v := .tuple #[.agg #[.int .i64 0, .slice none 0 0], .int .i64 8]) (by simp [results, Try.results21, go_sem, v0, v1]) rfl ?_
          rw [HMF.out]
          exact ⟨_, rfl, HBE.out, fun _ => rfl, fun h => absurd h (by decide)⟩
      · have HMF : Hid (M = seenGo V (lits.drop (k + 1)) (sn.set z true)) := Lib.hid (by rw [HMN.out, if_neg (by simp)])
        clear HMN
        rcases hm with rfl | rfl
        all_goals
          go_wp2
          go_roundg (gk - 1)
          case measure => omega
          case rel =>
            exact ⟨k + 1, _, by omega, by go_num, HMF, HRW.out, Lib.hid (HBW.out.setCell (by show w1.heap.size ≤ w1.heap.size; omega) _)⟩
  · have hk : k = ln := by omega
    have HMF : Hid (M = 0) := Lib.hid (by rw [hinv.out, List.drop_eq_nil_of_le (by have := HLN.out; omega)]; rfl)
    have hlo := HLO.out HMF.out
    subst hk
    clear hinv hlt
    have hcd := conditioned_any V _ _ ps lits wr (HP.out.below HBR.out) (HL.out.below HBR.out) hV HSH.out hlo HPL.out HKS.out
    have hcm : (condM ⟨V, ps⟩ lits).vars = V := rfl
    obtain ⟨C, hC⟩ : ∃ C, condM ⟨V, ps⟩ lits = C := ⟨_, rfl⟩
    have HCE := Lib.hid hC
    rw [hC] at hcd hcm
    have HCD := Lib.hid hcd
    have HCM := Lib.hid hcm
    clear hcd hC hcm hlo
    go_wp2_with fail
    refine HCD.out.mono ?_
    rintro e w3 ⟨qv, rfl, hqp, hb3⟩
    obtain ⟨qa, qn, qc, rfl⟩ : ∃ a n c, qv = .slice a n c := by
      obtain ⟨a, c, h, _⟩ := hqp.form
      exact ⟨a, _, c, h⟩
    have g0 := below_c hb3 (by omega) t0
    have g1 := below_c hb3 (by omega) t1
    have k0 := below_z hb3 (by omega) x0
    have k1 := below_z hb3 (by omega) x1
    have v0 := set_ne (b := w.heap.size + 1) (b' := w.heap.size + 1) (o := 0) (o' := 1) (u := .slice qa qn qc) (by omega) (set_eq (u := .int .i64 C.vars) g0)
    have v1 := set_eq (u := .slice qa qn qc) (set_ne (o' := 0) (b' := w.heap.size + 1) (u := .int .i64 C.vars) (by omega) g1)
    have HBE := Lib.hid (((HBR.out.trans (hb3.mono (by omega))).setCell (p := ⟨w.heap.size + 1, 0, none⟩) (by simp) (.int .i64 C.vars)).setCell (p := ⟨w.heap.size + 1, 1, none⟩) (by simp) (.slice qa qn qc))
    have HPE : Hid (Parts (fun b => w.heap.size ≤ b) ((w3.setCell ⟨w.heap.size + 1, 0, none⟩ (.int .i64 C.vars)).setCell ⟨w.heap.size + 1, 1, none⟩ (.slice qa qn qc)) (.slice qa qn qc) C.parts) :=
      Lib.hid ((hqp.move fun b hb _ => by rw [Below.heap_setCell _ _ _ _ (by show b ≠ w.heap.size + 1; omega), Below.heap_setCell _ _ _ _ (by show b ≠ w.heap.size + 1; omega)]).mono fun b hb => by omega)
    clear hqp hb3 t0 t1 x0 x1
    go_wp2_with fail
    refine bodyPost_ret (v := .tuple #[.agg #[.int .i64 C.vars, .slice qa qn qc], .int .i64 0]) (by simp [results, Try.results21, go_sem, v0, v1]) rfl ?_
    rw [HMF.out, HCE.out]
    exact ⟨_, rfl, HBE.out, fun h => absurd rfl h, fun _ => ⟨_, by rw [HCM.out], HPE.out⟩⟩
end Go.Proofs.Ytljljagkccmogaa
