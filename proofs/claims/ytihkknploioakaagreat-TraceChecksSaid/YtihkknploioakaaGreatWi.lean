/- (Trace seat Z) Walk: split of the statement's definitions. No condition but the sizes and the ranges. -/
import Derived.Test.YtihkknploioakaaGreatWp
import Derived.Deep.RegionHeld3
import Derived.Test.YtihkknploioakaaGreatWg
namespace Go.Proofs.YtihkknploioakaaGreat
open Go.ChangeShapes Go.WideShapes Go.ChangeAt Go.RowKit
set_option linter.unusedVariables false

/-- the clauses collected: an owned slice of slices that lie low -/
def AllB (w0 wx : World) (mb : Nat) (v : Value) (cs : List (List Int)) : Prop :=
  ∃ ps : List (Value × List Int), wx.ownsRow mb 40 1 v ps.length (ps.map Prod.fst) ∧ ps.map Prod.snd = cs ∧ ∀ p ∈ ps, Ints (fun b => b < mb) w0 p.1 p.2
theorem allB_clss {w0 wx : World} {mb : Nat} {v : Value} {cs : List (List Int)} (h : AllB w0 wx mb v cs) (hb : Below mb w0 wx) (hl : cs.length ≤ 9223372036854775807) : Clss (fun _ => True) wx v cs := by
  obtain ⟨ps, h1, rfl, h3⟩ := h
  have hps : ps.length ≤ 9223372036854775807 := by simpa using hl
  refine ⟨ps.map Prod.fst, (ownsRow_sl1 h1 hps).mono fun _ _ => trivial, by simp, fun j u x hu hx => ?_⟩
  rw [List.getElem?_map] at hu hx
  rcases hp : ps[j]? with _ | p
  · rw [hp] at hu; simp at hu
  · rw [hp] at hu hx
    simp at hu hx
    subst hu hx
    exact ((h3 p (List.mem_of_getElem? hp)).move fun b hlt _ => hb.block b hlt).mono fun _ _ => trivial
theorem grow_opt {W w1 w2 : World} {r0 row : Option Nat} (h : W.grownBy w1 r0) (h2 : w1.grownBy w2 row) (hr : ∀ b, row = some b → r0 = some b ∨ W.heap.size ≤ b) : W.grownBy w2 r0 :=
  ⟨h2.os.trans h.os, h2.tape.trans h.tape, h2.output.trans h.output, Nat.le_trans h.size h2.size, fun k hk hne => by
    rw [h2.block k (Nat.lt_of_lt_of_le hk h.size) (fun e => by
      rcases hr k e.symm with h1 | h1
      · exact hne h1.symm
      · omega), h.block k hk hne]⟩

set_option maxRecDepth 100000 in
set_option maxHeartbeats 8000000 in
theorem lsplit_any (F : Nat → Prop) (fv qv : Value) (f : List (List Int)) (ks : List Claim) (w : World) (hf : Clss F w fv f) (hks : Claims (fun _ => True) w qv ks) (hfl : f.length ≤ 4000)
    (hsk : ∀ k ∈ ks, SzC k ∧ 0 ≤ k.count ∧ k.count ≤ 1099511627776) (hkl : ks.length ≤ 4000) :
    Calls Tryz.prog 62 #[fv, qv] w (PairB w (splitS f ks)) := by
  obtain ⟨R, hR⟩ : ∃ R, splitS f ks = R := ⟨_, rfl⟩
  have hR2 := hR
  unfold splitS at hR2
  rw [hR]
  obtain ⟨ca, cn, cc, rfl, HCN, hcn⟩ := hf.form'
  obtain ⟨qa, qn, qc, rfl, HQN, hqn⟩ := hks.form
  clear hR
  by_cases h1 : ks.length < 2
  · rw [if_pos h1] at hR2
    subst hR2
    have e1 : decide ((qn : Int) < 2) = true := decide_eq_true (by have := HQN.out; omega)
    have e1' : decide (qn < 2) = true := decide_eq_true (by have := HQN.out; omega)
    clear hf hks hsk h1
    go_enter Tryz.func62, Tryz.ntmps62
    go_wp2_with fail
    go_ret2
    exact ⟨rfl, Below.refl _ _⟩
  rw [if_neg h1] at hR2
  have e1 : decide ((qn : Int) < 2) = false := decide_eq_false (by have := HQN.out; omega)
  have e1' : decide (qn < 2) = false := decide_eq_false (by have := HQN.out; omega)
  obtain ⟨dj, hdj⟩ : ∃ d, disjGo ks [] = d := ⟨_, rfl⟩
  rw [hdj] at hR2
  have HR2 := Lib.hid hR2
  have HDJ : Hid (disjGo (ks.drop 0) [] = dj) := Lib.hid hdj
  have HCL := Lib.hid (clss_lt hf)
  have HKS := Lib.hid hks
  have HSK := Lib.hid hsk
  obtain ⟨mb, hmb⟩ : ∃ mb, w.heap.size = mb := ⟨_, rfl⟩
  have HMB := Lib.hid hmb
  have hq5 : qn ≤ 4000 := by rw [HQN.out]; exact hkl
  have hc5 : cn ≤ 4000 := by rw [HCN.out]; exact hfl
  have HIS := Lib.hid (show (Tryz.prog.info? 40).map (fun i => (i.zero, i.size, i.bytes)) = some (some (.slice none 0 0), 1, 24) by kernel_rfl)
  have HI1 := Lib.hid (show (Tryz.prog.info? 3).map (fun i => (i.zero, i.size, i.bytes)) = some (some (.int .i64 0), 1, 8) by kernel_rfl)
  obtain ⟨W0, hW0⟩ : ∃ W, w.alloc (.cells #[] 40) = W := ⟨_, rfl⟩
  obtain ⟨W1, hW1⟩ : ∃ W, W0.alloc (.cells #[] 3) = W := ⟨_, rfl⟩
  have hs0 : W0.heap.size = mb + 1 := by rw [← hW0]; simp; omega
  have hs1 : W1.heap.size = mb + 2 := by rw [← hW1]; simp; omega
  have HB0 : Hid (Below mb w W1) := Lib.hid (by rw [← hW1, ← hW0, ← hmb]; exact ((Below.refl _ _).alloc (Nat.le_refl _) _).alloc (by simp) _)
  have hA0 : W0.ownsRow mb 40 1 (.slice (some ⟨mb, 0, none⟩) 0 0) 0 [] := by rw [← hW0, ← hmb]; exact own_new (base := w.heap.size) (w := w) #[] 40 (Nat.le_refl _) (by simp)
  have HA0 : Hid (AllB w W1 mb (.slice (some ⟨mb, 0, none⟩) 0 0) (allM (ks.take 0))) := Lib.hid ⟨[], by rw [← hW1]; exact own_below hA0 ((Below.refl _ _).alloc (Nat.le_refl _) _), rfl, by simp⟩
  have HV0 : Hid (W1.ownsRow mb 3 1 (.slice (some ⟨mb + 1, 0, none⟩) 0 0) 0 (([] : List Int).map (.int .i64))) := Lib.hid (by rw [← hW1, ← hs0]; exact own_new (base := mb) (w := W0) #[] 3 (by omega) (by simp))
  have HN0 : Hid (∀ b, (Value.slice (some ⟨mb, 0, none⟩) 0 0).ownBlock = some b → (Value.slice (some ⟨mb + 1, 0, none⟩) 0 0).ownBlock ≠ some b) := Lib.hid (fun b h1 h2 => by simp [Value.ownBlock] at h1 h2; omega)
  have HX0 : Hid (∀ x ∈ ([] : List Int), 1 ≤ x ∧ x ≤ 20000) := Lib.hid (by simp)
  have HW0 := Lib.hid hW0
  have HW1 := Lib.hid hW1
  have HS0 := Lib.hid hs0
  clear hf hks hsk hR2 hdj hmb hW0 hW1 h1 hkl hA0 hs0
  go_enter Tryz.func62, Tryz.ntmps62
  go_wp2_with fail
  rw [HW0.out, HW1.out, HMB.out]
  go_loopg [6, 7, 9, 23] qn (fun gg u6 u7 u9 u23 wx => ∃ (k vn : Nat) (av vv : Value) (seen : List Int), k + gg = qn ∧ u23 = .int .i64 k ∧ u6 = av ∧ u7 = vv ∧ u9 = .bool ((ks.take k).any fun x => decide (x.count = 0)) ∧ Hid (Below mb w wx) ∧ mb + 2 ≤ wx.heap.size ∧
    Hid (AllB w wx mb av (allM (ks.take k))) ∧ Hid (wx.ownsRow mb 3 1 vv vn (seen.map (.int .i64))) ∧ Hid (∀ b, av.ownBlock = some b → vv.ownBlock ≠ some b) ∧ Hid (disjGo (ks.drop k) seen = dj) ∧ Hid (∀ x ∈ seen, 1 ≤ x ∧ x ≤ 20000) ∧ Hid (seen.length = vn) ∧ vn ≤ 20000 * k ∧ (allM (ks.take k)).length ≤ 4000 * k)
  case atStart => exact ⟨0, 0, _, _, [], by omega, rfl, rfl, rfl, by simp, HB0, by omega, HA0, HV0, HN0, HDJ, HX0, Lib.hid rfl, by simp, by simp [allM]⟩
  case round =>
  clear HB0 HA0 HV0 HN0 HX0 HDJ HW0 HW1 hs1 HS0
  obtain ⟨k, vn, av, vv, seen, hkg, rfl, h6, h7, rfl, HB, hZ, HA, HV, HNE, HD, HXS, HVN, hsl, hal⟩ := hrel
  have h6 := h6.symm
  have h7 := h7.symm
  subst h6 h7
  by_cases hk : k < qn
  case neg =>
    obtain rfl : k = qn := by omega
    have hdk : decide ((k : Int) < k) = false := by simp
    have hdk' : decide (k < k) = false := decide_eq_false (by omega)
    have hkk : ks.take k = ks := List.take_of_length_le (by rw [HQN.out]; exact Nat.le_refl _)
    have hd : true = dj := by
      have := HD.out
      rw [List.drop_eq_nil_of_le (by rw [HQN.out]; exact Nat.le_refl _)] at this
      exact this
    subst hd
    rw [hkk] at HA ⊢
    have hfa := allB_clss HA.out HB.out (by rw [hkk] at hal; omega)
    obtain ⟨aa, an, ac, rfl, HAN, han⟩ := hfa.form'
    have HFA := Lib.hid hfa
    have hR3 := HR2.out
    rw [if_neg (by simp)] at hR3
    have HBW : Hid (Below w.heap.size w wr) := Lib.hid (by rw [HMB.out]; exact HB.out)
    obtain ⟨A, hA⟩ : ∃ A, (ks.any fun x => decide (x.count = 0)) = A := ⟨_, rfl⟩
    have HAA := Lib.hid hA
    rw [hA] at hR3 ⊢
    by_cases hle : an = cn
    case neg =>
      rw [if_pos (.inl (by rw [← HAN.out, ← HCN.out]; exact hle))] at hR3
      subst hR3
      have e3 : ((an : Int) != cn) = true := by simp; omega
      clear hle hfa hkk hA
      go_wp2_with fail
      go_ret2
      exact ⟨rfl, HBW.out⟩
    have e3 : ((an : Int) != cn) = false := by simp; omega
    obtain ⟨E, hE⟩ : ∃ E, (canM (allM ks) == f) = E := ⟨_, rfl⟩
    have hal2 : (allM ks).length ≤ 4000 := by rw [← HAN.out, hle]; exact hc5
    have hcan := lcanonical_any _ _ (allM ks) wr hfa (by omega) (fun x hx => by
      obtain ⟨kk, hkk, hx⟩ := List.mem_flatMap.1 hx
      have := (HSK.out kk hkk).1.2.1 x hx
      omega)
    have hcls : Clss (fun b => b < w.heap.size) wr (.slice ca cn cc) f := Rows1.move (fun _ _ _ _ _ h hm => h.move hm) HCL.out fun b hb _ => HBW.out.block b hb
    have HCLS := Lib.hid hcls
    have HCAN := Lib.hid hcan
    have hR4 : R = (if E = false then (0, false) else if A = true then (0, true) else prodS ks 1) := by
      rw [← hR3]
      by_cases he : E = false
      · rw [if_pos he, if_pos (.inr (by rw [hE]; exact he))]
      · rw [if_neg he, if_neg]
        rintro (h | h)
        · exact h (by rw [← HAN.out, ← HCN.out]; exact hle)
        · exact he (by rw [← hE]; exact h)
    have HR4 := Lib.hid hR4
    have HE := Lib.hid hE
    clear hcan hcls hR3 hR4 hle hfa hkk hA hE hal2
    go_wp2_with fail
    refine HCAN.out.mono ?_
    rintro e w5 ⟨rv, rfl, hrv, hb5⟩
    have HRV := Lib.hid hrv
    obtain ⟨ra, rn, rc, rfl, _, _⟩ := hrv.form'
    have hbd : Below wr.heap.size wr w5 := ⟨hb5.os, hb5.tape, hb5.output, hb5.size, hb5.block⟩
    have HBD := Lib.hid hbd
    have HCL5 := Lib.hid (HCLS.out.below hbd)
    clear hrv hb5 hbd
    have HEQ := Lib.hid (lequal_any _ _ _ _ w5 HRV.out HCL5.out)
    go_wp2_with fail
    refine HEQ.out.mono ?_
    rintro e w6 ⟨rfl, nd, rfl⟩
    have HB6 : Hid (Below wr.heap.size wr (w5.drewN nd)) := Lib.hid (below_drewN HBD.out nd)
    rw [HE.out]
    obtain ⟨w6, hw6⟩ : ∃ W, w5.drewN nd = W := ⟨_, rfl⟩
    rw [hw6] at HB6 ⊢
    have HB7 : Hid (Below w.heap.size w w6) := Lib.hid (HBW.out.trans (HB6.out.mono HBW.out.size))
    clear hw6 HCL5 HBD HRV HCAN HE HEQ
    rcases bool2 E with rfl | rfl
    case inr =>
      have hF := HR4.out
      rw [if_pos rfl] at hF
      subst hF
      go_wp2_with fail
      go_ret2
      exact ⟨rfl, HB7.out⟩
    rcases bool2 A with rfl | rfl
    · have hF := HR4.out
      rw [if_neg (by simp), if_pos rfl] at hF
      subst hF
      have HP0 : Hid ((∃ x ∈ ks.take 0, x.count = 0) → (1 : Int) = 0) := Lib.hid (by simp)
      go_wp2_with fail
      go_loopg [8, 68] k (fun gg u8 u68 wx => ∃ (j : Nat) (p : Int), j + gg = k ∧ u68 = .int .i64 j ∧ u8 = .int .i64 p ∧ Hid (Below w.heap.size w wx) ∧ Hid ((∃ x ∈ ks.take j, x.count = 0) → p = 0))
      case atStart => exact ⟨0, 1, by omega, rfl, rfl, HB7, HP0⟩
      case round =>
      clear HP0
      obtain ⟨j, p, hjg, rfl, rfl, HBJ, HP⟩ := hrel
      by_cases hj : j < k
      case neg =>
        obtain rfl : j = k := by omega
        have hp : p = 0 := HP.out (by
          rw [List.take_of_length_le (by rw [HQN.out]; exact Nat.le_refl _)]
          obtain ⟨x, hx, h⟩ := List.any_eq_true.1 HAA.out
          exact ⟨x, hx, of_decide_eq_true h⟩)
        subst hp
        go_wp2_with fail
        go_ret2
        exact ⟨rfl, HBJ.out⟩
      obtain ⟨kid, hkid, ek⟩ := drop_at (xs := ks) (k := j) (by have := HQN.out; omega)
      have hks2 := HKS.out
      obtain ⟨kb, ko, kcv, kkv, rfl, _, hkb, k0, k1, k2, k3, k4, ⟨⟨hkcl, _, _, hkki, _⟩, _⟩⟩ := hks2.at hkid
      obtain ⟨ka, kn, kc, rfl, _, _⟩ := hkcl.form'
      obtain ⟨kka, kkn, kkc, rfl, _, _⟩ := hkki.form'
      have y0 := below_c HBJ.out hkb k0
      have y1 := below_c HBJ.out hkb k1
      have y2 := below_c HBJ.out hkb k2
      have y3 := below_c HBJ.out hkb k3
      have y4 := below_c HBJ.out hkb k4
      have hdj : decide ((j : Int) < k) = true := by simp; omega
      have hdj' : decide (j < k) = true := decide_eq_true hj
      have hbA := fun o => HBJ.out.alloc HBJ.out.size o
      have HBA := Lib.hid hbA
      have HPN : Hid ((∃ x ∈ ks.take (j + 1), x.count = 0) → wrap64 (p * kid.count) = 0) := Lib.hid (by
        rw [List.take_add_one, hkid]
        rintro ⟨x, hx, hz⟩
        rcases List.mem_append.1 hx with h | h
        · rw [HP.out ⟨x, h, hz⟩, Int.zero_mul]; exact IntWalk.wrap64_in _ ⟨by omega, by omega⟩
        · simp at h; subst h; rw [hz, Int.mul_zero]; exact IntWalk.wrap64_in _ ⟨by omega, by omega⟩)
      clear hks2 hkid ek hkcl hkki k0 k1 k2 k3 k4 HP hbA
      go_wp2_with fail
      go_roundg (gk - 1)
      case measure => omega
      case rel => exact ⟨j + 1, _, by omega, by go_num, rfl, Lib.hid (HBA.out _), HPN⟩
    have hF := HR4.out
    rw [if_neg (by simp), if_neg (by simp)] at hF
    have HF : Hid (prodS (ks.drop 0) 1 = R) := Lib.hid hF.symm
    clear hF
    go_wp2_with fail
    go_loopg [8, 68] k (fun gg u8 u68 wx => ∃ (j : Nat) (p : Int), j + gg = k ∧ u68 = .int .i64 j ∧ u8 = .int .i64 p ∧ 0 ≤ p ∧ p ≤ 1099511627776 ∧ Hid (Below w.heap.size w wx) ∧ Hid (prodS (ks.drop j) p = R))
    case atStart => exact ⟨0, 1, by omega, rfl, rfl, by omega, by omega, HB7, HF⟩
    case round =>
    obtain ⟨j, p, hjg, rfl, rfl, hp0, hp1, HBJ, HP⟩ := hrel
    by_cases hj : j < k
    case neg =>
      obtain rfl : j = k := by omega
      have hP := HP.out
      rw [List.drop_eq_nil_of_le (by rw [HQN.out]; exact Nat.le_refl _), prodS] at hP
      subst hP
      clear HP
      go_wp2_with fail
      go_ret2
      exact ⟨rfl, HBJ.out⟩
    obtain ⟨kid, hkid, ek⟩ := drop_at (xs := ks) (k := j) (by have := HQN.out; omega)
    have hkm := HSK.out kid (List.mem_of_getElem? hkid)
    have hkne : kid.count ≠ 0 := fun e => by
      have := HAA.out
      rw [List.any_eq_false] at this
      exact this kid (List.mem_of_getElem? hkid) (by simp [e])
    obtain ⟨_, hk0, hk1⟩ := hkm
    have hks2 := HKS.out
    obtain ⟨kb, ko, kcv, kkv, rfl, _, hkb, k0, k1, k2, k3, k4, ⟨⟨hkcl, _, _, hkki, _⟩, _⟩⟩ := hks2.at hkid
    obtain ⟨ka, kn, kc, rfl, _, _⟩ := hkcl.form'
    obtain ⟨kka, kkn, kkc, rfl, _, _⟩ := hkki.form'
    have y0 := below_c HBJ.out hkb k0
    have y1 := below_c HBJ.out hkb k1
    have y2 := below_c HBJ.out hkb k2
    have y3 := below_c HBJ.out hkb k3
    have y4 := below_c HBJ.out hkb k4
    have hdj : decide ((j : Int) < k) = true := by simp; omega
    have hdj' : decide (j < k) = true := decide_eq_true hj
    have hk1' : 1 ≤ kid.count := by omega
    have hP := HP.out
    rw [ek, prodS] at hP
    have hbA := fun o => HBJ.out.alloc HBJ.out.size o
    have HBA := Lib.hid hbA
    clear hkne hks2 hkid ek hkcl hkki k0 k1 k2 k3 k4 HP hbA
    by_cases hdv : 1099511627776 / kid.count < p
    · rw [if_pos hdv] at hP
      subst hP
      have hdd : decide (1099511627776 / kid.count < p) = true := decide_eq_true hdv
      go_wp2_with fail
      go_ret2
      exact ⟨rfl, HBA.out _⟩
    · rw [if_neg hdv] at hP
      have HPN := Lib.hid hP
      have hdd : decide (1099511627776 / kid.count < p) = false := decide_eq_false hdv
      have hpm : p * kid.count ≤ 1099511627776 := by
        have h1 : p ≤ 1099511627776 / kid.count := by omega
        have h2 := Int.mul_le_mul_of_nonneg_right h1 hk0
        have h3 := Int.ediv_mul_le 1099511627776 (show kid.count ≠ 0 by omega)
        omega
      have hpz : 0 ≤ p * kid.count := Int.mul_nonneg hp0 hk0
      have hwp : IntKind.i64.wrap (p * kid.count) = p * kid.count := IntWalk.i64_in _ ⟨by omega, by omega⟩
      clear hP hdv
      go_wp2_with fail
      go_roundg (gk - 1)
      case measure => omega
      case rel => exact ⟨j + 1, p * kid.count, by omega, by go_num, by go_num, hpz, hpm, Lib.hid (HBA.out _), HPN⟩
  obtain ⟨kid, hkid, ek⟩ := drop_at (xs := ks) (k := k) (by have := HQN.out; omega)
  have hkm := HSK.out kid (List.mem_of_getElem? hkid)
  have hks2 := HKS.out
  obtain ⟨kb, ko, kcv, kkv, rfl, _, hkb, k0, k1, k2, k3, k4, ⟨⟨hkcl, _, _, hkki, _⟩, _⟩⟩ := hks2.at hkid
  obtain ⟨ka, kn, kc, rfl, HKN, _⟩ := hkcl.form'
  obtain ⟨kka, kkn, kkc, rfl, _, _⟩ := hkki.form'
  have hkbm : kb < mb := by rw [← HMB.out]; exact hkb
  have y0 := below_c HB.out hkbm k0
  have y1 := below_c HB.out hkbm k1
  have y2 := below_c HB.out hkbm k2
  have y3 := below_c HB.out hkbm k3
  have y4 := below_c HB.out hkbm k4
  have HKC := Lib.hid (clss_lt hkcl)
  have hdk : decide ((k : Int) < qn) = true := by simp; omega
  have hdk' : decide (k < qn) = true := decide_eq_true hk
  obtain ⟨W2, hW2⟩ : ∃ W, wr.alloc (.cells #[.slice ka kn kc, .int .i64 kid.rule, .int .i64 kid.lit, .slice kka kkn kkc, .int .i64 kid.count] 42) = W := ⟨_, rfl⟩
  have hb2 : Below wr.heap.size wr W2 := by rw [← hW2]; exact (Below.refl _ _).alloc (Nat.le_refl _) _
  have hs2 : W2.heap.size = wr.heap.size + 1 := by rw [← hW2]; simp
  obtain ⟨g1, hg1⟩ : ∃ g, wr.heap.size = g := ⟨_, rfl⟩
  have hkx : ∀ o v, #[Value.slice ka kn kc, .int .i64 kid.rule, .int .i64 kid.lit, .slice kka kkn kkc, .int .i64 kid.count][o]? = some v → W2.cell? ⟨g1, o, none⟩ = some v := fun o v h => by rw [← hg1, ← hW2, cell_of_row _ _ _ _ _ _ (new_at _ _)]; exact h
  have x0 := hkx 0 _ rfl
  have x4 := hkx 4 _ rfl
  have hcl2 : Clss (fun b => b < mb) W2 (.slice ka kn kc) kid.cls := Rows1.move (fun _ _ _ _ _ h hm => h.move hm) (Rows1.mono (fun _ _ _ _ _ h hg => h.mono hg) HKC.out (fun b hb => by rw [← HMB.out]; exact hb)) fun b hb _ => (hb2.block b (by have := HB.out.size; omega)).trans (HB.out.block b hb)
  have hoc := loccur_any _ _ kid.cls W2 hcl2 hkm.1.1 hkm.1.2.1
  have HOC := Lib.hid hoc
  have HB2 := Lib.hid (HB.out.trans (hb2.mono (by omega)))
  have HA2 : Hid (AllB w W2 mb av (allM (ks.take k))) := Lib.hid (by obtain ⟨ps, p1, p2, p3⟩ := HA.out; exact ⟨ps, own_below p1 hb2, p2, p3⟩)
  have HV2 := Lib.hid (own_below HV.out hb2)
  have HW2 := Lib.hid hW2
  have HG1 := Lib.hid hg1
  have hkc4 : kid.cls.length ≤ 4000 := hkm.1.1
  have HKN2 := HKN
  rw [hg1] at hs2 hZ
  have HAB : Hid (∀ e, av.ownBlock = some e → e < g1) := Lib.hid fun e he => by obtain ⟨ps, p1, _⟩ := HA.out; have := (p1.lt e he).2; omega
  have HVB : Hid (∀ e, vv.ownBlock = some e → e < g1) := Lib.hid fun e he => by have := (HV.out.lt e he).2; omega
  have HTK : Hid (ks.take (k + 1) = ks.take k ++ [kid]) := Lib.hid (by rw [List.take_add_one, hkid]; rfl)
  have HDK : Hid ((if (occM kid.cls).any (fun v => seen.contains v) = true then false else disjGo (ks.drop (k + 1)) (seen ++ occM kid.cls)) = dj) := Lib.hid (by have := HD.out; rw [ek, disjGo] at this; exact this)
  obtain ⟨N, hN⟩ : ∃ N, ((ks.take k).any fun x => decide (x.count = 0)) = N := ⟨_, rfl⟩
  have HN := Lib.hid hN
  obtain ⟨GK, hGK⟩ : ∃ G, G = gk := ⟨_, rfl⟩
  subst hGK
  rw [hN]
  clear hks2 hkid ek hkm hkcl hkki hkx hcl2 hoc hb2 hW2 hg1 HA HV HD HB hN k0 k1 k2 k3 k4
  go_wp2_with fail
  rw [HW2.out, HG1.out]
  refine HOC.out.mono ?_
  rintro e w3 ⟨ov, os, rfl, hos, hb3, hst, hmem⟩
  obtain rfl := occ_eq hst hmem
  obtain ⟨oa, on, oc, rfl, HON, hon⟩ := hos.form'
  have hoi : ∀ x ∈ occM kid.cls, 1 ≤ x ∧ x ≤ 20000 := fun x hx => occM_range hx
  have hol : (occM kid.cls).length ≤ 20000 := by
    have hnd := occM_nodup kid.cls
    have := nodup_bound hnd hoi
    omega
  have HOI := Lib.hid hoi
  have HND := Lib.hid (occM_nodup kid.cls)
  have HOS := Lib.hid hos
  have z0 := below_c hb3 (by omega) x0
  have z4 := below_c hb3 (by omega) x4
  have HB3 := Lib.hid (HB2.out.trans (hb3.mono (by omega)))
  have HA3 : Hid (AllB w w3 mb av (allM (ks.take k))) := Lib.hid (by obtain ⟨ps, p1, p2, p3⟩ := HA2.out; exact ⟨ps, own_below p1 hb3, p2, p3⟩)
  have HV3 : Hid (w3.ownsRow mb 3 1 vv (vn + 0) ((seen ++ (occM kid.cls).take 0).map (.int .i64))) := Lib.hid (by rw [List.take_zero, List.append_nil]; exact own_below HV2.out hb3)
  have hs3 : g1 + 1 ≤ w3.heap.size := by have := hb3.size; omega
  have hon2 : on ≤ 20000 := by rw [HON.out]; exact hol
  obtain ⟨O, hO⟩ : ∃ O, occM kid.cls = O := ⟨_, rfl⟩
  rw [hO] at HON HOI HND HOS HDK HV3
  obtain ⟨T, hT⟩ : ∃ T, (O.any fun v => seen.contains v) = T := ⟨_, rfl⟩
  rw [hT] at HDK
  have HT0 : Hid (((O.drop 0).any fun v => seen.contains v) = T) := Lib.hid hT
  obtain ⟨v0, hv0⟩ : ∃ b, vv.ownBlock = b := ⟨_, rfl⟩
  have HVL : Hid (∀ b, v0 = some b → mb ≤ b ∧ b < g1) := Lib.hid (fun b hb => ⟨(HV2.out.lt b (by rw [hv0]; exact hb)).1, HVB.out b (by rw [hv0]; exact hb)⟩)
  have HNA : Hid (∀ b, av.ownBlock = some b → v0 ≠ some b) := Lib.hid (fun b hb => by rw [← hv0]; exact HNE.out b hb)
  have HG3 : Hid (w3.grownBy w3 v0) := Lib.hid (World.grownBy.refl w3 _)
  have HOB3 : Hid (∀ b, vv.ownBlock = some b → v0 = some b ∨ w3.heap.size ≤ b) := Lib.hid (fun b hb => .inl (by rw [← hv0]; exact hb))
  have HV0 := Lib.hid hv0
  have HSZ3 := Lib.hid hs3
  clear hos hb3 hst hmem hoi hol hO hT x0 x4 HA2 HOC HW2 HV2 hv0
  go_wp2_with fail
  go_loopg [7, 31] on (fun gg u7 u31 wx => ∃ (j : Nat) (uv : Value), j + gg = on ∧ u31 = .int .i64 j ∧ u7 = uv ∧ Hid (w3.grownBy wx v0) ∧ Hid (∀ b, uv.ownBlock = some b → v0 = some b ∨ w3.heap.size ≤ b) ∧ Hid (wx.ownsRow mb 3 1 uv (vn + j) ((seen ++ O.take j).map (.int .i64))) ∧ Hid (((O.drop j).any fun v => seen.contains v) = T))
  case atStart => exact ⟨0, _, by omega, rfl, rfl, HG3, HOB3, HV3, HT0⟩
  case round =>
  clear HG3 HOB3 HV3 HT0
  obtain ⟨j, uv, hjg, rfl, rfl, HG, HOB, HV, HT⟩ := hrel
  obtain ⟨ua, uc, huv⟩ := own_form HV.out
  subst huv
  have hszr := HG.out.size
  obtain ⟨m, hm⟩ : ∃ m, vn + j = m := ⟨_, rfl⟩
  rw [hm] at HV HOB ⊢
  have HM := Lib.hid hm
  have hvm : vn + j = m := hm
  have hg1v : some g1 ≠ v0 := fun e => by have := HVL.out g1 e.symm; omega
  have q0 := grown_c2 HG.out hg1v z0
  have q4 := grown_c2 HG.out hg1v z4
  have HBR : Hid (Below mb w wr) := Lib.hid (HB3.out.trans ⟨HG.out.os, HG.out.tape, HG.out.output, HG.out.size, fun i hi => HG.out.block i (by have := HSZ3.out; omega) (fun e => by have := HVL.out i e.symm; omega)⟩)
  have HBF : Hid (Below w.heap.size w wr) := Lib.hid (by rw [HMB.out]; exact HBR.out)
  by_cases hj : j < on
  · obtain ⟨x, hxj, ex⟩ := drop_at (xs := O) (k := j) (by have := HON.out; omega)
    have hxr := HOI.out x (List.mem_of_getElem? hxj)
    obtain ⟨xb, xo, rfl, hxb0, hxb, hcx0, hxi⟩ := HOS.out.at hxj
    have hcx := grown_c2 HG.out (fun e => by have := HVL.out xb e.symm; omega) hcx0
    have hxn : x ∉ O.take j := fun hm => by
      have hnd := HND.out
      rw [← List.take_append_drop j O, ex] at hnd
      exact (List.nodup_append.1 hnd).2.2 x hm x (List.mem_cons_self ..) rfl
    have hdj' : decide ((j : Int) < on) = true := by simp; omega
    have hdj2 : decide (j < on) = true := decide_eq_true hj
    have hml : (seen ++ O.take j).length = m := by rw [List.length_append, HVN.out, List.length_take]; have := HON.out; omega
    have HCT := Lib.hid (contains_any _ _ (seen ++ O.take j) x wr ⟨(ownsRow_sl1 HV.out (by omega)).mono (G := fun _ => True) fun _ _ => trivial, fun y hy => by
      rcases List.mem_append.1 hy with h | h
      · have := HXS.out y h; unfold I64; omega
      · have := HOI.out y (List.mem_of_mem_take h); unfold I64; omega⟩ hxi)
    have hcs : (seen ++ O.take j).contains x = seen.contains x := by
      rw [Bool.eq_iff_iff]
      simp [hxn]
    rw [hcs] at HCT
    have HTX : Hid ((seen.contains x || (O.drop (j + 1)).any fun v => seen.contains v) = T) := Lib.hid (by have := HT.out; rw [ex, List.any_cons] at this; exact this)
    obtain ⟨S, hS⟩ : ∃ S, seen.contains x = S := ⟨_, rfl⟩
    rw [hS] at HCT HTX
    have HTJ : Hid (O.take (j + 1) = O.take j ++ [x]) := Lib.hid (by rw [List.take_add_one, hxj]; rfl)
    have HXR := Lib.hid hxr
    clear hxn hxj ex hcx0 hxi hcs hml hm hS hxr
    go_wp2_with fail
    refine HCT.out.mono ?_
    rintro e w9 ⟨rfl, hw9⟩
    subst hw9
    rcases bool2 S with rfl | rfl
    · have hRf : R = (0, false) := by
        have h1 := HTX.out
        rw [Bool.true_or] at h1
        have h2 := HDK.out
        rw [← h1, if_pos rfl] at h2
        have h3 := HR2.out
        rw [← h2, if_pos rfl] at h3
        exact h3.symm
      subst hRf
      go_wp2_with fail
      go_ret2
      exact ⟨rfl, HBF.out⟩
    have HTF : Hid (((O.drop (j + 1)).any fun v => seen.contains v) = T) := Lib.hid (by have := HTX.out; rw [Bool.false_or] at this; exact this)
    have hown := HV.out
    clear HTX HT HCT HBR HBF
    go_wp2_with (at_builtin; go_loud (refine wpList_push1 rfl _ _ 40 rfl 3 (.int .i64 0) 8 Tryz.underlying40 HI1.out rfl mb (.slice ua m uc) m ((seen ++ O.take j).map (.int .i64)) _ (.int .i64 x) rfl rfl hown rfl (by omega) (by omega) (by have := HSZ3.out; omega) ?_); intro g7 cap7 w7 hown7 hg7 hs7 hgb hgl hat; have HG7 := Lib.hid hg7; have HAT := Lib.hid hat; have HO7 := Lib.hid hown7; clear hown7 hg7 hat hgb hgl hs7 hown)
    go_roundg (gk - 1)
    case measure => omega
    case rel =>
      refine ⟨j + 1, _, by omega, by go_num, rfl, Lib.hid (grow_opt HG.out HG7.out HOB.out), Lib.hid (fun b hb => ?_), Lib.hid (by rw [HTJ.out, ← List.append_assoc, List.map_append, show vn + (j + 1) = m + 1 by omega]; exact HO7.out), HTF⟩
      have hbg : g7 = b := by simpa [Value.ownBlock] using hb
      subst hbg
      rcases HAT.out with h | h
      · exact HOB.out _ h
      · exact .inr (by omega)
  obtain rfl : j = on := by omega
  have hdj' : decide ((j : Int) < j) = false := by simp
  have hdj2 : decide (j < j) = false := decide_eq_false (by omega)
  have hTf : T = false := by
    have := HT.out
    rw [List.drop_eq_nil_of_le (by rw [HON.out]; exact Nat.le_refl _), List.any_nil] at this
    exact this.symm
  subst hTf
  have HDN : Hid (disjGo (ks.drop (k + 1)) (seen ++ O) = dj) := Lib.hid (by have := HDK.out; rw [if_neg (by simp)] at this; exact this)
  have HVO : Hid (wr.ownsRow mb 3 1 (.slice ua m uc) m ((seen ++ O).map (.int .i64))) := Lib.hid (by
    have := HV.out
    rw [List.take_of_length_le (by rw [HON.out]; exact Nat.le_refl _)] at this
    exact this)
  obtain ⟨ps, p1, p2, p3⟩ := HA3.out
  obtain ⟨us, u1, u2, u3⟩ := HKC.out
  have hown := p1.kept HG.out (by
    rcases hav : av.ownBlock with _ | b
    · exact .inl rfl
    · exact .inr (fun e => HNA.out b hav e.symm))
  have HAW : Hid (∀ b, av.ownBlock = some b → (Value.slice ua m uc).ownBlock ≠ some b) := Lib.hid fun b hb e => by
    rcases HOB.out b e with h | h
    · exact HNA.out b hb h
    · have := HAB.out b hb; have := HSZ3.out; omega
  obtain ⟨aa, ac, hav⟩ := own_form hown
  obtain ⟨an, han⟩ : ∃ m, ps.length = m := ⟨_, rfl⟩
  rw [han] at hown hav
  subst hav
  have hanl : an ≤ 4000 * k := by rw [← han]; have h := hal; rw [← p2, List.length_map] at h; exact h
  have hbw := HBR.out
  have hsr : Sl1 (fun b => b < w.heap.size) wr (.slice ka kn kc) us := u1.move fun b hb _ => hbw.block b (by rw [← HMB.out]; exact hb)
  have hone : ∀ u ∈ us, u.oneCell' = true := fun u hu => by
    obtain ⟨i, hi, he⟩ := List.mem_iff_getElem.1 hu
    obtain ⟨_, _, h1, _⟩ := (u3 i u (kid.cls.getD i []) (by rw [List.getElem?_eq_getElem hi, he]) (by rw [List.getD_eq_getElem?_getD, List.getElem?_eq_getElem (by rw [← u2]; exact hi)]; rfl)).form
    rw [h1]; rfl
  have HSR := Lib.hid hsr
  have HONE := Lib.hid hone
  have hkn4 : kn ≤ 4000 := by rw [HKN2.out]; exact hkc4
  have hszw : mb + 2 ≤ wr.heap.size := by have := HSZ3.out; omega
  have hg1r : g1 < wr.heap.size := by have := HSZ3.out; omega
  have HALL : Hid (∀ v' w', w'.ownsRow mb 40 1 v' (an + kn) (ps.map Prod.fst ++ us) → AllB w w' mb v' (allM (ks.take (k + 1)))) := Lib.hid fun v' w' ho => by
    have hz1 : us.length = kid.cls.length := u2
    refine ⟨ps ++ us.zip kid.cls, ?_, ?_, fun p hp => ?_⟩
    · rw [List.map_append, List.map_fst_zip (by omega), List.length_append, List.length_zip, han]
      have : min us.length kid.cls.length = kn := by rw [hz1, Nat.min_self]; exact HKN2.out.symm
      rw [this]
      exact ho
    · rw [List.map_append, List.map_snd_zip (by omega), p2, HTK.out]
      simp [allM]
    · rcases List.mem_append.1 hp with h | h
      · exact p3 p h
      · obtain ⟨i, hi, he⟩ := List.mem_iff_getElem.1 h
        rw [List.length_zip] at hi
        rw [List.getElem_zip] at he
        have := u3 i us[i] kid.cls[i] (List.getElem?_eq_getElem (by omega)) (List.getElem?_eq_getElem (by omega))
        rw [← he]
        exact this.mono fun b hb => by rw [← HMB.out]; exact hb
  have hsln : m ≤ 20000 * (k + 1) := by omega
  have hall2 : (allM (ks.take (k + 1))).length ≤ 4000 * (k + 1) := by rw [HTK.out]; simp only [allM, List.flatMap_append, List.length_append, List.flatMap_cons, List.flatMap_nil, List.append_nil] at hal ⊢; omega
  have HAN : Hid (((ks.take (k + 1)).any fun x => decide (x.count = 0)) = (N || decide (kid.count = 0))) := Lib.hid (by rw [HTK.out, List.any_append, HN.out]; simp)
  have HXN : Hid (∀ x ∈ seen ++ O, 1 ≤ x ∧ x ≤ 20000) := Lib.hid fun x hx => by
    rcases List.mem_append.1 hx with h | h
    · exact HXS.out x h
    · exact HOI.out x h
  have HLN : Hid ((seen ++ O).length = m) := Lib.hid (by rw [List.length_append, HVN.out, ← HON.out]; exact hm)
  have HL2 := Lib.hid (And.intro hsln hall2)
  have HVB7 : Hid (∀ b, (Value.slice ua m uc).ownBlock = some b → b < wr.heap.size) := Lib.hid fun b hb => (HVO.out.lt b hb).2
  have HGA : Hid (∀ b, (Value.slice aa an ac).ownBlock = some b → g1 ≠ b) := Lib.hid fun b hb e => by have := HAB.out b hb; omega
  clear hbw p1 p2 p3 u1 u2 u3 hsr hone HT HV z0 z4 han HOS HND HOI HA3 hsln hall2 hal hsl HB2 hm HBF HB3
  have key : ∀ (v' : Value) (w7 : World), w7.ownsRow mb 40 1 v' (an + kn) (ps.map Prod.fst ++ us) → wr.grownBy w7 (Value.slice aa an ac).ownBlock → (v'.ownBlock = (Value.slice aa an ac).ownBlock ∨ v'.ownBlock = some wr.heap.size) →
      Hid (Below mb w w7) ∧ mb + 2 ≤ w7.heap.size ∧ Hid (AllB w w7 mb v' (allM (ks.take (k + 1)))) ∧ Hid (w7.ownsRow mb 3 1 (.slice ua m uc) m ((seen ++ O).map (.int .i64))) ∧ Hid (∀ b, v'.ownBlock = some b → (Value.slice ua m uc).ownBlock ≠ some b) ∧ w7.cell? ⟨g1, 4, none⟩ = some (.int .i64 kid.count) := by
    intro v' w7 h1 h2 h3
    refine ⟨Lib.hid (HBR.out.grown h2 (by omega) (fun k hk => by have := (hown.lt k hk).1; omega)), by have := h2.size; omega, Lib.hid (HALL.out v' w7 h1), Lib.hid (HVO.out.kept h2 ?_), Lib.hid fun b hb e => ?_, grown_c2 h2 (fun e => HGA.out _ e.symm rfl) q4⟩
    · rcases hvo : (Value.slice ua m uc).ownBlock with _ | b
      · exact .inl rfl
      · exact .inr (fun e => HAW.out b e.symm hvo)
    · rcases h3 with h | h
      · exact HAW.out b (by rw [← h]; exact hb) e
      · have := HVB7.out b e
        rw [h] at hb
        injection hb with hb
        omega
  have KEY := Lib.hid key
  clear key HALL HBR HVO HAW HGA HVB7
  rcases bool2 N with rfl | rfl
  · go_wp2_with (at_builtin; go_loud (refine wpList_pushAll rfl _ _ 30 rfl 40 (.slice none 0 0) 24 Tryz.underlying30 HIS.out rfl mb (.slice aa an ac) an _ wr _ ka kn kc us rfl rfl hown HSR.out HONE.out (by omega) (by omega) (by omega) ?_); intro v' w7 hown7 hg7 hat; obtain ⟨HB7, hz7, HA7, HV7, HE7, q4'⟩ := KEY.out v' w7 hown7 hg7 hat; clear hown7 hg7 hat hown)
    go_roundg (GK - 1)
    case measure => omega
    case rel => exact ⟨k + 1, _, _, _, _, by omega, by go_num, rfl, rfl, by rw [HAN.out]; rfl, HB7, hz7, HA7, HV7, HE7, HDN, HXN, HLN, HL2.out.1, HL2.out.2⟩
  · by_cases hz : kid.count = 0
    · have hz1 : (kid.count == 0) = true := by simp; exact hz
      have HAN2 : Hid (((ks.take (k + 1)).any fun x => decide (x.count = 0)) = true) := Lib.hid (by rw [HAN.out, decide_eq_true hz]; rfl)
      clear hz HAN
      go_wp2_with (at_builtin; go_loud (refine wpList_pushAll rfl _ _ 30 rfl 40 (.slice none 0 0) 24 Tryz.underlying30 HIS.out rfl mb (.slice aa an ac) an _ wr _ ka kn kc us rfl rfl hown HSR.out HONE.out (by omega) (by omega) (by omega) ?_); intro v' w7 hown7 hg7 hat; obtain ⟨HB7, hz7, HA7, HV7, HE7, q4'⟩ := KEY.out v' w7 hown7 hg7 hat; clear hown7 hg7 hat hown)
      go_roundg (GK - 1)
      case measure => omega
      case rel => exact ⟨k + 1, _, _, _, _, by omega, by go_num, rfl, rfl, by rw [HAN2.out], HB7, hz7, HA7, HV7, HE7, HDN, HXN, HLN, HL2.out.1, HL2.out.2⟩
    · have hz1 : (kid.count == 0) = false := by simp; exact hz
      have HAN2 : Hid (((ks.take (k + 1)).any fun x => decide (x.count = 0)) = false) := Lib.hid (by rw [HAN.out, decide_eq_false hz]; rfl)
      clear hz HAN
      go_wp2_with (at_builtin; go_loud (refine wpList_pushAll rfl _ _ 30 rfl 40 (.slice none 0 0) 24 Tryz.underlying30 HIS.out rfl mb (.slice aa an ac) an _ wr _ ka kn kc us rfl rfl hown HSR.out HONE.out (by omega) (by omega) (by omega) ?_); intro v' w7 hown7 hg7 hat; obtain ⟨HB7, hz7, HA7, HV7, HE7, q4'⟩ := KEY.out v' w7 hown7 hg7 hat; clear hown7 hg7 hat hown)
      go_roundg (GK - 1)
      case measure => omega
      case rel => exact ⟨k + 1, _, _, _, _, by omega, by go_num, rfl, rfl, by rw [HAN2.out], HB7, hz7, HA7, HV7, HE7, HDN, HXN, HLN, HL2.out.1, HL2.out.2⟩

/- (Trace seat Z) Walks: the closure of follows of the statement's definitions, and ContainsFunc at it. No condition. -/
open Go.ChangeShapes Go.WideShapes Go.ChangeAt Go.RowKit
set_option linter.unusedVariables false

set_option maxHeartbeats 2000000 in
theorem folc_any (F : Nat → Prop) (bx : Nat) (lit : Int) (u : Value) (y : List Int) (w : World) (hc : w.cell? ⟨bx, 2, none⟩ = some (.int .i64 lit)) (hl : I64 lit) (hy : Ints F w u y) :
    Calls Tryz.prog 59 #[u, .pointer (some ⟨bx, 0, none⟩)] w (BoolPost w (y == [lit])) := by
  obtain ⟨a, n, c, rfl, _, _⟩ := hy.form'
  obtain ⟨W1, hW1⟩ : ∃ W, w.alloc (.cells #[.int .i64 lit] 3) = W := ⟨_, rfl⟩
  have hb1 : Below w.heap.size w W1 := by rw [← hW1]; exact (Below.refl _ _).alloc (Nat.le_refl _) _
  have ho1 : W1.ownsRow w.heap.size 3 1 (.slice (some ⟨w.heap.size, 0, none⟩) 1 1) 1 ([lit].map (.int .i64)) := by rw [← hW1]; simpa using own_new (base := w.heap.size) (w := w) #[.int .i64 lit] 3 (Nat.le_refl _) (by simp)
  have hi1 : Ints (fun _ => True) W1 (.slice (some ⟨w.heap.size, 0, none⟩) 1 1) [lit] := ⟨(ownsRow_sl1 ho1 (by simp)).mono fun _ _ => trivial, fun x hx => by simp at hx; subst hx; exact hl⟩
  have HEQ := Lib.hid (equal_any _ _ y [lit] W1 (hy.below hb1) hi1)
  have HB1 := Lib.hid hb1
  clear hy hb1 ho1 hi1
  go_enter Tryz.func59, Tryz.ntmps59
  go_wp2_with fail
  try rw [hW1]
  clear hW1
  refine HEQ.out.mono ?_
  rintro e w2 ⟨rfl, nd, rfl⟩
  have HB2 := Lib.hid (below_drewN HB1.out nd)
  go_wp2_with fail
  go_ret
  exact ⟨rfl, HB2.out⟩
set_option maxHeartbeats 1000000 in
theorem indexfL_any (F : Nat → Prop) (P : List Int → Bool) (g : Nat) (v : Value) (xs : List (List Int)) (w : World) (hx : Clss F w v xs)
    (hp : ∀ (W : World) (u : Value) (y : List Int), Below w.heap.size w W → y ∈ xs → Ints F W u y → Calls Tryz.prog 59 #[u, .pointer (some ⟨g, 0, none⟩)] W (BoolPost W (P y))) :
    Calls Tryz.prog 79 #[v, .func (.func 59) #[] #[.pointer (some ⟨g, 0, none⟩)]] w (IntPost w (pGo P xs 0)) := by
  obtain ⟨a, n, c, rfl, HN, hn⟩ := hx.form'
  obtain ⟨R, hR⟩ : ∃ R, pGo P xs 0 = R := ⟨_, rfl⟩
  have HR : Hid (R = pGo P (xs.drop 0) 0) := Lib.hid hR.symm
  rw [hR]
  have HX := Lib.hid hx
  have HP := Lib.hid hp
  have HB0 : Hid (Below w.heap.size w w) := Lib.hid (Below.refl _ _)
  clear hR hx hp
  go_enter Tryz.func79, Tryz.ntmps79
  go_wp2
  go_loopg [4, 8] n (fun g u4 u8 wx => ∃ k : Nat, k + g = n ∧ u8 = .int .i64 k ∧ u4 = .int .i64 0 ∧ Hid (Below w.heap.size w wx) ∧ Hid (R = pGo P (xs.drop k) k))
  case atStart => exact ⟨0, by omega, rfl, rfl, HB0, HR⟩
  case round =>
    obtain ⟨k, hk, rfl, rfl, HB, hinv⟩ := hrel
    by_cases hlt : k < n
    · obtain ⟨y, hy, e⟩ := drop_at (xs := xs) (k := k) (by have := HN.out; omega)
      have hxs := HX.out
      obtain ⟨b, off, yv, rfl, _, hb, hc0, hyi⟩ := hxs.at hy
      have hc := below_c HB.out hb hc0
      obtain ⟨ya, yn, yc, rfl, HYN, hyn⟩ := hyi.form'
      have HI : Hid (R = if P y = true then (k : Int) else pGo P (xs.drop (k + 1)) (k + 1)) := Lib.hid (by rw [hinv.out, e]; rfl)
      obtain ⟨B, hB⟩ : ∃ B, P y = B := ⟨_, rfl⟩
      have hoc := HP.out wr _ y HB.out (List.mem_of_getElem? hy) (hyi.below HB.out)
      rw [hB] at HI hoc
      have HOC := Lib.hid hoc
      clear hinv e hy hB hoc hxs hyi hc0
      rcases bool2 B with rfl | rfl
      · have HF : Hid (R = k) := Lib.hid (by rw [HI.out, if_pos rfl])
        go_wp2_with fail
        refine HOC.out.mono ?_
        rintro e w' ⟨rfl, hb'⟩
        have HB' := Lib.hid (HB.out.trans (hb'.mono HB.out.size))
        go_wp2_with fail
        go_ret
        exact ⟨by rw [HF.out]; rfl, HB'.out⟩
      · have HF : Hid (R = pGo P (xs.drop (k + 1)) (k + 1)) := Lib.hid (by rw [HI.out, if_neg (by simp)])
        go_wp2_with fail
        refine HOC.out.mono ?_
        rintro e w' ⟨rfl, hb'⟩
        have HB' := Lib.hid (HB.out.trans (hb'.mono HB.out.size))
        clear hb'
        go_wp2_with fail
        go_roundg (gk - 1)
        case measure => omega
        case rel => exact ⟨k + 1, by omega, by go_num, rfl, HB', HF⟩
    · have HF : Hid (R = -1) := Lib.hid (by rw [hinv.out, List.drop_eq_nil_of_le (by have := HN.out; omega)]; rfl)
      clear hinv
      go_wp2
      go_ret
      exact ⟨by rw [HF.out]; rfl, HB.out⟩
theorem containsfL_any (F : Nat → Prop) (P : List Int → Bool) (g : Nat) (v : Value) (xs : List (List Int)) (w : World) (hx : Clss F w v xs)
    (hp : ∀ (W : World) (u : Value) (y : List Int), Below w.heap.size w W → y ∈ xs → Ints F W u y → Calls Tryz.prog 59 #[u, .pointer (some ⟨g, 0, none⟩)] W (BoolPost W (P y))) :
    Calls Tryz.prog 51 #[v, .func (.func 59) #[] #[.pointer (some ⟨g, 0, none⟩)]] w (BoolPost w (xs.any P)) := by
  have hc := pGo_any P xs 0
  have hI := indexfL_any F P g v xs w hx hp
  obtain ⟨R, hR⟩ : ∃ R, pGo P xs 0 = R := ⟨_, rfl⟩
  rw [hR] at hc hI
  rw [← hc]
  have HI := Lib.hid hI
  clear hc hR hI hx hp
  go_enter Tryz.func51, Tryz.ntmps51
  go_wp2_with fail
  refine HI.out.mono ?_
  rintro e w' ⟨rfl, hb'⟩
  go_wp2_with fail
  go_ret
  exact ⟨rfl, hb'⟩
end Go.Proofs.YtihkknploioakaaGreat
