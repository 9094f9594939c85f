/- Walks: the statement's models; Frequency. -/
import Derived.Test.YtljljagkccmogaaFw1
namespace Go.Proofs.Ytljljagkccmogaa
open Go.ChangeShapes Go.WideShapes Go.ChangeAt Go.RowKit
set_option linter.unusedVariables false

/-- the models of a normal form in lexicographic order -/
def modelsM (V : Nat) (ps : List Part) : List (List Bool) := (allA V).filter (evalM ps)
theorem modelsM_eq (V : Nat) (ps : List Part) : modelsM V ps = ((List.range (2 ^ V)).map (assM V)).filter (evalM ps) := by rw [modelsM, allA_eq]

def RowsPost (W : World) (mss : List (List Bool)) (e : Ending) (w' : World) : Prop := ∃ v, e = .returned v ∧ Rows1 Bools (fun _ => True) w' v mss ∧ Below W.heap.size W w'
theorem drop_map_range (V K k : Nat) (h : k < K) : ((List.range K).map (assM V)).drop k = assM V k :: ((List.range K).map (assM V)).drop (k + 1) := by
  rw [List.drop_eq_getElem_cons (by simpa using h)]
  simp

set_option maxRecDepth 100000 in
set_option maxHeartbeats 4000000 in
theorem models_any {F : Nat → Prop} (V : Nat) (pv : Value) (ps : List Part) (w : World) (hp : Parts F w pv ps) (hV : V ≤ 8) (h0 : 0 < ps.length) (hps : ps.length ≤ 60) (hwf : wfGo V ps 0) :
    Calls Try.prog 18 #[.agg #[.int .i64 V, pv]] w (RowsPost w (modelsM V ps)) := by
  obtain ⟨pa, pn, pc, rfl, HPN⟩ : ∃ a n c, pv = .slice a n c ∧ Hid (n = ps.length) := by
    obtain ⟨a, c, h1, h2⟩ := hp.form
    exact ⟨a, _, c, h1, rfl⟩
  have hinfo : (Try.prog.info? 29).map (fun i => (i.zero, i.size, i.bytes)) = some (some (.slice none 0 0), 1, 24) := by kernel_rfl
  have HI := Lib.hid hinfo
  obtain ⟨M, hM⟩ : ∃ M, modelsM V ps = M := ⟨_, rfl⟩
  obtain ⟨K, hK⟩ : ∃ K : Nat, 2 ^ V = K := ⟨_, rfl⟩
  have hK256 : K ≤ 256 := by rw [← hK]; exact Nat.le_trans (Nat.pow_le_pow_right (by decide) hV) (by decide)
  have hKw : wrap64 ((2 : Int) ^ V) = (K : Int) := by
    rw [show (2 : Int) ^ V = ((2 ^ V : Nat) : Int) by simp, hK]
    exact IntWalk.wrap64_in _ ⟨by omega, by omega⟩
  have HM : Hid (M = [] ++ (((List.range K).map (assM V)).drop 0).filter (evalM ps)) := Lib.hid (by rw [← hM, modelsM_eq, hK]; rfl)
  rw [hM]
  have hbel : Below w.heap.size w (w.alloc (.cells #[.int .i64 V, .slice pa pn pc] 24)) := (Below.refl _ _).alloc (Nat.le_refl _) _
  have HB := Lib.hid hbel
  have HP := Lib.hid (hp.below hbel)
  have HWF := Lib.hid hwf
  have HKW := Lib.hid hKw
  clear hbel hp hwf hM hK hinfo hKw
  go_enter Try.func18, Try.ntmps18
  go_upto_block 0 with fail
  rw [HKW.out]
  obtain ⟨W1, hW1⟩ : ∃ W1, w.alloc (.cells #[.int .i64 V, .slice pa pn pc] 24) = W1 := ⟨_, rfl⟩
  have c0 : W1.cell? ⟨w.heap.size, 0, none⟩ = some (.int .i64 V) := by rw [← hW1]; simp
  have c1 : W1.cell? ⟨w.heap.size, 1, none⟩ = some (.slice pa pn pc) := by rw [← hW1]; simp
  have hs1 : w.heap.size < W1.heap.size := by rw [← hW1]; simp
  have hs1' : W1.heap.size ≤ w.heap.size + 1 := by rw [← hW1]; simp
  rw [hW1] at HB HP ⊢
  clear hW1
  go_wp2
  go_loopg [3, 9] K (fun g u3 u9 wx => ∃ (k : Nat) (mss : List (List Bool)), k + g = K ∧ u9 = .int .i64 k ∧ Hid (M = mss ++ (((List.range K).map (assM V)).drop k).filter (evalM ps)) ∧ RowsOwn wx (w.heap.size + 1) 29 u3 mss.length mss ∧ mss.length ≤ k ∧ Hid (Below (w.heap.size + 1) W1 wx))
  case atStart => exact ⟨0, [], by omega, rfl, HM, RowsOwn.nil _ _ _, by simp, Lib.hid (Below.refl _ _)⟩
  case round =>
  obtain ⟨k, mss, hkg, rfl, hinv, hown, hmk, HBX⟩ := hrel
  have hsx := HBX.out.size
  have d0 := below_c HBX.out (by omega) c0
  have d1 := below_c HBX.out (by omega) c1
  have HOWN := Lib.hid hown
  have HLT := Lib.hid hown.lt
  have HBR : Hid (Below w.heap.size w wr) := Lib.hid (HB.out.trans (HBX.out.mono (by omega)))
  clear hown
  by_cases hlt : k < K
  case neg =>
    have HMF : Hid (M = mss) := Lib.hid (by rw [hinv.out, List.drop_eq_nil_of_le (by simp; omega)]; simp)
    clear hinv
    go_wp2
    go_ret
    exact ⟨_, rfl, by rw [HMF.out]; exact HOWN.out.rows1 (by omega), HBR.out⟩
  have HIN : Hid (M = mss ++ (assM V k :: ((List.range K).map (assM V)).drop (k + 1)).filter (evalM ps)) := Lib.hid (by rw [hinv.out, drop_map_range V K k hlt])
  clear hinv
  go_wp2_with fail
  refine (assign_any V k _ (by omega) (by omega)).mono ?_
  rintro e w2 ⟨iv, rfl, hib, hb2⟩
  have hil : (assM V k).length = V := assM_len V k
  obtain ⟨inp, hinp⟩ : ∃ inp, assM V k = inp := ⟨_, rfl⟩
  rw [hinp] at hib hil HIN
  obtain ⟨ia, ic, rfl, _⟩ := hib.form
  have HIL := Lib.hid hil
  have e0 := below_c hb2 (by omega) d0
  have e1 := below_c hb2 (by omega) d1
  have hs2 := hb2.size
  have HBR2 : Hid (Below w.heap.size w w2) := Lib.hid (HBR.out.trans (hb2.mono (by omega)))
  have HBR2out := Lib.hid hb2
  have HP2 := Lib.hid (HP.out.below ((HBX.out.trans (hb2.mono (by omega))).mono (by omega)))
  have HOWN2 := Lib.hid (HOWN.out.below hb2)
  have HIB := Lib.hid hib
  clear hib hb2 hil hinp d0 d1
  go_wp2_with fail
  refine (holds_any V _ _ ps inp w2 HP2.out HIB.out h0 (by omega) (by rw [HIL.out]; exact HWF.out) (by rw [HIL.out]; omega)).mono ?_
  rintro e w3 ⟨rfl, hb3⟩
  have f0 := below_c hb3 (by omega) e0
  have f1 := below_c hb3 (by omega) e1
  have hs3 := hb3.size
  have HBR3 : Hid (Below w.heap.size w w3) := Lib.hid (HBR2.out.trans (hb3.mono (by omega)))
  have HBX3 : Hid (Below (w.heap.size + 1) W1 w3) := Lib.hid ((HBX.out.trans (HBR2out.out.mono (by omega))).trans (hb3.mono (by omega)))
  have HOWN3 := Lib.hid (HOWN2.out.below hb3)
  have HIB3 := Lib.hid (HIB.out.below hb3)
  clear hb3 e0 e1
  obtain ⟨B, hB⟩ : ∃ B, evalM ps inp = B := ⟨_, rfl⟩
  rw [hB]
  rcases bool2 B with rfl | rfl
  case inr =>
    have HN : Hid (M = mss ++ (((List.range K).map (assM V)).drop (k + 1)).filter (evalM ps)) := Lib.hid (by rw [HIN.out, List.filter_cons, hB]; simp)
    clear hB
    go_wp2_with fail
    go_roundg (gk - 1)
    case measure => omega
    case rel => exact ⟨k + 1, mss, by omega, by go_num, HN, HOWN3.out, by omega, HBX3⟩
  case inl =>
    have HN : Hid (M = (mss ++ [inp]) ++ (((List.range K).map (assM V)).drop (k + 1)).filter (evalM ps)) := Lib.hid (by rw [HIN.out, List.filter_cons, hB]; simp)
    obtain ⟨us, hown, hul, hus⟩ := HOWN3.out
    have hold : ∀ b, wr.heap.size ≤ b → u3.ownBlock ≠ some b := by
      intro b hb e; have := HLT.out b e; omega
    have HBO := Lib.hid (HIB3.out.mono hold)
    have HUS := Lib.hid hus
    have HUL := Lib.hid hul
    clear hB hold hus hul
    go_wp2_with (at_builtin; go_loud (refine wpList_push1 rfl _ _ 38 rfl 29 (.slice none 0 0) 24 Try.underlying38 HI.out rfl (w.heap.size + 1) u3 mss.length us w3 _ rfl rfl hown rfl (by omega) (by omega) (by omega) ?_); intro g3 cap3 w4 hown3 hg3 hs4 hgb hgl hat; have HR := Lib.hid (RowsOwn.push HUL.out HUS.out HBO.out hown3 hg3 hat); have HB3 := Lib.hid (HBX3.out.grown hg3 (by omega) (fun k hk => (hown.lt k hk).1)); clear hown3 hg3 hown)
    go_roundg (gk - 1)
    case measure => omega
    case rel => exact ⟨k + 1, mss ++ [inp], by omega, by go_num, HN, by simpa using HR.out, by simp; omega, HB3⟩

/-- the number of models in which the variable j + 1 is true -/
def freqN (V : Nat) (ps : List Part) (j : Nat) : Int := ((withN V ps [(j : Int) + 1] : Nat) : Int)
/-- Frequency of a normal form: the code, and for each variable the number of models in which it is true -/
def FreqPost (W : World) (V : Nat) (ps : List Part) (c : Int) (e : Ending) (w' : World) : Prop :=
  ∃ v, e = .returned (.tuple #[v, .int .i64 c]) ∧ Below W.heap.size W w' ∧ (c ≠ 0 → v = .slice none 0 0) ∧ (c = 0 → Ints (fun _ => True) w' v ((List.range V).map (freqN V ps)))
theorem withN_le (V : Nat) (ps : List Part) (lits : List Int) (hV : V ≤ 40) : withN V ps lits ≤ 1099511627776 := by
  unfold withN
  refine Nat.le_trans (Nat.div_le_self _ _) (Nat.le_trans (Cn_le V _) ?_)
  rw [show (1099511627776 : Nat) = 2 ^ 40 by decide]
  exact Nat.pow_le_pow_right (by decide) hV
theorem range_snoc {α : Type} (f : Nat → α) (j : Nat) : (List.range (j + 1)).map f = (List.range j).map f ++ [f j] := by simp [List.range_succ]

set_option maxRecDepth 100000 in
set_option maxHeartbeats 4000000 in
theorem freq_any {F : Nat → Prop} (vars : Int) (pv : Value) (ps : List Part) (w : World) (hp : Parts F w pv ps) (hv : I64 vars) (hks : ∀ p ∈ ps, p.kids.length ≤ 16384) :
    Calls Try.prog 17 #[.agg #[.int .i64 vars, pv]] w (FreqPost w vars.toNat ps (checkedM ⟨vars, ps⟩).1) := by
  obtain ⟨pa, pn, pc, rfl, HPN⟩ : ∃ a n c, pv = .slice a n c ∧ Hid (n = ps.length) := by
    obtain ⟨a, c, h1, h2⟩ := hp.form
    exact ⟨a, _, c, h1, rfl⟩
  have hinfo : (Try.prog.info? 3).map (fun i => (i.zero, i.size, i.bytes)) = some (some (.int .i64 0), 1, 8) := by kernel_rfl
  have HI := Lib.hid hinfo
  have hbel : Below w.heap.size w (w.alloc (.cells #[.int .i64 vars, .slice pa pn pc] 24)) := (Below.refl _ _).alloc (Nat.le_refl _) _
  have hck := Check_any F vars _ ps _ (hp.below hbel) hv
  obtain ⟨c, hc⟩ : ∃ c, (checkedM ⟨vars, ps⟩).1 = c := ⟨_, rfl⟩
  rw [hc] at hck ⊢
  have HC := Lib.hid hc
  have HCK := Lib.hid hck
  have HB := Lib.hid hbel
  have HP := Lib.hid (hp.below hbel)
  have HKS := Lib.hid hks
  clear hinfo hck hc hbel hp hks
  go_enter Try.func17, Try.ntmps17
  go_wp2_with fail
  refine HCK.out.mono ?_
  rintro e w1 ⟨rfl, hb1⟩
  have c0 := below_c hb1 (show w.heap.size < _ by simp) (o := 0) (v := .int .i64 vars) (by simp)
  have c1 := below_c hb1 (show w.heap.size < _ by simp) (o := 1) (v := .slice pa pn pc) (by simp)
  have HB1 : Hid (Below w.heap.size w w1) := Lib.hid (HB.out.trans (hb1.mono (by simp)))
  have HP1 := Lib.hid (HP.out.below hb1)
  have hs1 := block_lt c0
  clear hb1 HCK HP HB
  by_cases hc0 : c = 0
  case neg =>
    have hne : (c != 0) = true := by simp [hc0]
    have HN := Lib.hid hc0
    clear hc0
    go_wp2_with fail
    go_ret2
    exact ⟨_, rfl, HB1.out, fun _ => rfl, fun h => absurd h HN.out⟩
  subst hc0
  obtain ⟨_, hv0, hv40, _, _⟩ := sh_of_checkedM _ HC.out
  simp only at hv0 hv40
  obtain ⟨V, rfl⟩ := Int.eq_ofNat_of_zero_le hv0
  rw [Int.toNat_natCast]
  have hV : V ≤ 40 := by omega
  have hown0 : (w1.alloc (.cells #[] 3)).ownsRow w1.heap.size 3 1 (.slice (some ⟨w1.heap.size, 0, none⟩) 0 0) 0 [] := by
    simpa using own_new (base := w1.heap.size) (w := w1) #[] 3 (Nat.le_refl _) (by simp)
  have HO0 : Hid ((w1.alloc (.cells #[] 3)).ownsRow w1.heap.size 3 1 (.slice (some ⟨w1.heap.size, 0, none⟩) 0 0) 0 (((List.range 0).map (freqN V ps)).map (.int .i64))) := Lib.hid (by simpa using hown0)
  have HB2 : Hid (Below w1.heap.size w1 (w1.alloc (.cells #[] 3))) := Lib.hid ((Below.refl _ _).alloc (Nat.le_refl _) _)
  clear hown0
  go_wp2
  go_loopg [5, 6] V (fun g u5 u6 wx => ∃ j : Nat, j + g = V ∧ u6 = .int .i64 ((j : Int) + 1) ∧ wx.ownsRow w1.heap.size 3 1 u5 j (((List.range j).map (freqN V ps)).map (.int .i64)) ∧ Hid (Below w1.heap.size w1 wx))
  case atStart => exact ⟨0, by omega, by go_num, HO0.out, HB2⟩
  case round =>
  obtain ⟨j, hjg, rfl, hown, HBX⟩ := hrel
  have hsx := HBX.out.size
  have d0 := below_c HBX.out hs1 c0
  have d1 := below_c HBX.out hs1 c1
  have HOX := Lib.hid hown
  have HBR : Hid (Below w.heap.size w wr) := Lib.hid (HB1.out.trans (HBX.out.mono (by omega)))
  clear hown
  by_cases hlt : j < V
  case neg =>
    have hjV : j = V := by omega
    subst hjV
    clear hlt
    go_wp2
    go_ret2
    refine ⟨_, rfl, HBR.out, fun h => absurd rfl h, fun _ => ⟨(ownsRow_sl1 HOX.out (by omega)).mono fun _ _ => trivial, fun x hx => ?_⟩⟩
    obtain ⟨i, _, rfl⟩ := List.mem_map.1 hx
    have := withN_le j ps [(i : Int) + 1] hV
    unfold I64 freqN; simp only [Int.toNat_natCast]; omega
  have hba : Below wr.heap.size wr (wr.alloc (.cells #[.int .i64 ((j : Int) + 1)] 3)) := (Below.refl _ _).alloc (Nat.le_refl _) _
  have hli : Ints (fun c => c = wr.heap.size) (wr.alloc (.cells #[.int .i64 ((j : Int) + 1)] 3)) (.slice (some ⟨wr.heap.size, 0, none⟩) 1 1) [(j : Int) + 1] :=
    ints_block [(j : Int) + 1] 1 (new_at _ _) (by simp) rfl (by intro x hx; simp at hx; subst hx; unfold I64; omega)
  have hwi := with_any V _ _ ps [(j : Int) + 1] _ ((HP1.out.below HBX.out).below hba) hli HC.out (by intro l hl; simp at hl; subst hl; omega) HKS.out (by simp)
  have hle := withN_le V ps [(j : Int) + 1] hV
  obtain ⟨R, hR⟩ : ∃ R, withN V ps [(j : Int) + 1] = R := ⟨_, rfl⟩
  have HRG : Hid ((List.range (j + 1)).map (freqN V ps) = (List.range j).map (freqN V ps) ++ [(R : Int)]) := Lib.hid (by rw [range_snoc]; unfold freqN; rw [hR])
  rw [hR] at hwi hle
  have HWI := Lib.hid hwi
  have HBA := Lib.hid hba
  clear hba hli hwi hR
  go_wp2_with fail
  refine HWI.out.mono ?_
  rintro e w2 ⟨rfl, hb2⟩
  have hs2 := hb2.size
  simp only [World.size_alloc] at hs2
  have hb2' : Below wr.heap.size wr w2 := HBA.out.trans (hb2.mono (by simp))
  have e0 := below_c hb2' (by omega) d0
  have e1 := below_c hb2' (by omega) d1
  have hown2 := own_below HOX.out hb2'
  have HBX2 : Hid (Below w1.heap.size w1 w2) := Lib.hid (HBX.out.trans (hb2'.mono (by omega)))
  clear hb2 hb2' d0 d1 HWI
  go_wp2_with (at_builtin; go_loud (refine wpList_push1 rfl _ _ 35 rfl 3 (.int .i64 0) 8 Try.underlying35 HI.out rfl w1.heap.size u5 j _ w2 (.int .i64 R) rfl rfl hown2 rfl (by omega) (by omega) (by omega) ?_); intro g3 cap3 w4 hown3 hg3 hs4 hgb hgl hat; have HO3 := Lib.hid hown3; have HB3 := Lib.hid (HBX2.out.grown hg3 (by omega) (fun k hk => (hown2.lt k hk).1)); clear hown3 hg3 hown2)
  go_roundg (gk - 1)
  case measure => omega
  case rel =>
    refine ⟨j + 1, by omega, by go_num, ?_, HB3⟩
    rw [HRG.out]
    simpa using HO3.out
end Go.Proofs.Ytljljagkccmogaa
