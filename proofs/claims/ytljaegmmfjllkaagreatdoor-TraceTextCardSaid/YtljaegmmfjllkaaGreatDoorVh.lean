/- (Trace seat) Walk: split of the checker. No condition but the sizes and ranges. -/
import Derived.Test.YtljaegmmfjllkaaGreatDoorVz
import Derived.Test.YtljaegmmfjllkaaGreatDoorVd
import Derived.Deep.RegionLaw
namespace Go.Proofs.YtljaegmmfjllkaaGreatDoor
open Go.ChangeShapes Go.WideShapes Go.ChangeAt Go.RowKit
set_option linter.unusedVariables false

set_option maxRecDepth 100000 in
set_option maxHeartbeats 8000000 in
theorem split_any (b : Nat) (keep : Int) (cv kv qv vv : Value) (c : Claim) (ks : List Claim) (vs : List Int) (w : World) (hc : Ckr w b keep cv kv qv vv c ks vs) (hr : RuleOk c ks vs) :
    Calls Tryz.prog 55 #[.pointer (some ⟨b, 0, none⟩)] w (BoolPost w (splitM c ks)) := by
  obtain ⟨hsc, hsk, hrv, hvl, hkl⟩ := hr
  have hlt := hc.lt
  obtain ⟨⟨c0, c1, _, c3, _, c5, c6, c7⟩, hcl, hks, hvs, hil, hic, hik⟩ := hc
  obtain ⟨R, hR⟩ : ∃ R, splitM c ks = R := ⟨_, rfl⟩
  have hR2 := hR
  unfold splitM at hR2
  rw [hR]
  obtain ⟨ca, cn, cc, rfl, HCN, hcn⟩ := hcl.form'
  obtain ⟨qa, qn, qc, rfl, HQN, hqn⟩ := hks.form
  clear hR hvs hrv hvl vv c7
  by_cases h0 : c.lit = 0
  case neg =>
    rw [if_pos (.inl h0)] at hR2
    subst hR2
    have e0 : (c.lit != 0) = true := by simp; exact h0
    clear hcl hks hsc hsk
    go_enter Tryz.func55, Tryz.ntmps55
    go_wp2_with fail
    go_ret
    exact ⟨rfl, Below.refl _ _⟩
  have e0 : (c.lit != 0) = false := by simp; exact h0
  by_cases h1 : ks.length < 2
  · rw [if_pos (.inr h1)] at hR2
    subst hR2
    have e1 : decide ((qn : Int) < 2) = true := decide_eq_true (by have := HQN.out; omega)
    have e1' : decide (qn < 2) = true := decide_eq_true (by have := HQN.out; omega)
    clear hcl hks hsc hsk h1
    go_enter Tryz.func55, Tryz.ntmps55
    go_wp2_with fail
    go_ret
    exact ⟨rfl, Below.refl _ _⟩
  rw [if_neg (by rintro (h | h); exact h h0; exact h1 h)] at hR2
  have e1 : decide ((qn : Int) < 2) = false := decide_eq_false (by have := HQN.out; omega)
  have e1' : decide (qn < 2) = false := decide_eq_false (by have := HQN.out; omega)
  obtain ⟨dj, hdj⟩ : ∃ d, disjGo ks [] = d := ⟨_, rfl⟩
  rw [hdj] at hR2
  have HR2 := Lib.hid hR2
  have HDJ : Hid (disjGo (ks.drop 0) [] = dj) := Lib.hid hdj
  have HCL := Lib.hid (clss_lt hcl)
  have HKS := Lib.hid hks
  have HSK := Lib.hid hsk
  have HSC := Lib.hid hsc
  have hmm := @run_makeMap Tryz.prog
  obtain ⟨mb, hmb⟩ : ∃ mb, w.heap.size = mb := ⟨_, rfl⟩
  have HMB := Lib.hid hmb
  have hq5 : qn ≤ 100000 := by rw [HQN.out]; exact hkl
  obtain ⟨W1, hW1⟩ : ∃ W, w.alloc (.map #[] 0) = W := ⟨_, rfl⟩
  have HB0 : Hid (Below mb w W1) := Lib.hid (by rw [← hmb, ← hW1]; exact (Below.refl _ _).alloc (Nat.le_refl _) _)
  have HS0 : Hid (OwnM W1 mb 0 [] []) := Lib.hid (by rw [← hmb, ← hW1]; exact ⟨_, 0, World.ownsMap_made _ _ _ _, by simp, Maps.isMap_empty, fun x hx => ⟨by simp [Maps.has], fun h => by simp at h, fun h => by simp at h⟩⟩)
  have HZ0 : mb + 1 ≤ W1.heap.size := by rw [← hW1]; simp; omega
  have HA0 : Hid (AllO w W1 mb (.slice none 0 0) (allM (ks.take 0))) := Lib.hid ⟨[], World.ownsRow_nil _ _ _ _, rfl, by simp⟩
  have HW1 := Lib.hid hW1
  have HIS := Lib.hid (show (Tryz.prog.info? 43).map (fun i => (i.zero, i.size, i.bytes)) = some (some (.slice none 0 0), 1, 24) by kernel_rfl)
  clear hcl hks hsk hsc hR2 hdj hmb hW1 h1 hkl
  have hbmb : b < mb := by rw [← HMB.out]; exact hlt
  go_enter Tryz.func55, Tryz.ntmps55
  go_wp2_with fail
  rw [HW1.out, HMB.out]
  clear hmm
  go_loopg [4, 5, 35] qn (fun gg u4 u5 u35 wx => ∃ (k : Nat) (av : Value) (seen : List Int), k + gg = qn ∧ u35 = .int .i64 k ∧ u4 = av ∧ u5 = .bool ((ks.take k).any fun x => decide (x.count = 0)) ∧ Hid (Below mb w wx) ∧ mb + 1 ≤ wx.heap.size ∧ Hid (OwnM wx mb k seen []) ∧ Hid (AllO w wx mb av (allM (ks.take k))) ∧ Hid (disjGo (ks.drop k) seen = dj) ∧ seen.length ≤ 20000 * k ∧ (allM (ks.take k)).length ≤ 4000 * k)
  case atStart => exact ⟨0, _, [], by omega, rfl, rfl, by simp, HB0, HZ0, HS0, HA0, HDJ, by simp, by simp [allM]⟩
  case round =>
  clear HB0 HS0 HA0 HZ0 HDJ
  obtain ⟨k, av, seen, hkg, rfl, rfl, rfl, HB, hZ, HS, HA, HD, hsl, hal⟩ := hrel
  by_cases hk : k < qn
  case neg =>
    obtain rfl : k = qn := by omega
    have hdk : decide ((k : Int) < k) = false := by simp
    have hdk' : decide (k < k) = false := decide_eq_false (by omega)
    have hkk : ks.take k = ks := List.take_of_length_le (by rw [HQN.out]; exact Nat.le_refl _)
    have hd : true = dj := by
      have := HD.out
      rw [List.drop_eq_nil_of_le (by rw [HQN.out]; exact Nat.le_refl _)] at this
      exact this
    subst hd
    rw [hkk] at HA ⊢
    have hcl : (allM ks).length = (allM ks).length := rfl
    have hfa := allO_clss HA.out HB.out (by rw [hkk] at hal; omega)
    obtain ⟨aa, an, ac, rfl, HAN, han⟩ := hfa.form'
    have HFA := Lib.hid hfa
    have hR3 := HR2.out
    rw [if_neg (by simp)] at hR3
    have c1' := below_c HB.out hbmb c1
    have c5' := below_c HB.out hbmb c5
    have c6' := below_c HB.out hbmb c6
    have HBW : Hid (Below w.heap.size w wr) := Lib.hid (by rw [HMB.out]; exact HB.out)
    have hblt : b < wr.heap.size := by omega
    obtain ⟨A, hA⟩ : ∃ A, (ks.any fun x => decide (x.count = 0)) = A := ⟨_, rfl⟩
    have HAA := Lib.hid hA
    rw [hA] at hR3 ⊢
    by_cases hle : an = cn
    case neg =>
      rw [if_pos (.inl (by rw [← HAN.out, ← HCN.out]; exact hle))] at hR3
      subst hR3
      have e3 : ((an : Int) != cn) = true := by simp; omega
      clear hle hfa hcl hkk hA
      go_wp2_with fail
      go_quiet (fail)
      go_wp2_with fail
      go_ret
      exact ⟨rfl, below_drewN HBW.out _⟩
    have e3 : ((an : Int) != cn) = false := by simp; omega
    obtain ⟨E, hE⟩ : ∃ E, (canM (allM ks) == c.cls) = E := ⟨_, rfl⟩
    have hcs := HSC.out.1
    have hal2 : (allM ks).length ≤ 4000 := by rw [← HAN.out, hle, HCN.out]; exact hcs
    have hcan := canonical_any _ _ (allM ks) wr.drew (hfa.below (Below.refl _ _).drew) (by omega) (fun x hx => by
      obtain ⟨kk, hkk, hx⟩ := List.mem_flatMap.1 hx
      have := (HSK.out kk hkk).1.2.1 x hx
      omega)
    have hcls : Clss (fun b => b < w.heap.size) wr (.slice ca cn cc) c.cls := Rows1.move (fun _ _ _ _ _ h hm => h.move hm) HCL.out fun b hb _ => HBW.out.block b hb
    have HCLS := Lib.hid hcls
    have HCAN := Lib.hid hcan
    have HB4 : Hid (Below wr.heap.size wr wr.drew) := Lib.hid (Below.refl _ _).drew
    have hR4 : R = (if E = false then false else if A = true then c.count == 0 else prodGo c.count ks 1) := by
      rw [← hR3]
      by_cases he : E = false
      · rw [if_pos he, if_pos (.inr (by rw [hE]; exact he))]
      · rw [if_neg he, if_neg]
        rintro (h | h)
        · exact h (by rw [← HAN.out, ← HCN.out]; exact hle)
        · exact he (by rw [← hE]; exact h)
    have HR4 := Lib.hid hR4
    have HE := Lib.hid hE
    clear hcan hcls hR3 hR4 hle hfa hcl hkk hA hE hal2 hcs
    go_wp2_with fail
    go_region_held3 (fun w' => w'.cell? ⟨b, 1, none⟩ = some (.slice ca cn cc))
      (first | exact c1' | exact u1 | exact x1 | go_keep)
      (first | (go_at_call 51; refine HCAN.out.mono ?_; rintro e w5 ⟨rv, rfl, hrv, hb5⟩; have HRV := Lib.hid hrv; obtain ⟨ra, rn, rc, rfl, _, _⟩ := hrv.form'; have hbd : Below wr.heap.size wr w5 := ⟨hb5.os, hb5.tape, hb5.output, hb5.size, hb5.block⟩; have HBD := Lib.hid hbd; have u1 := below_c hbd hblt c1'; have HCL5 := Lib.hid (HCLS.out.below hbd); clear hrv hb5 hbd)
             | (go_at_call 33; refine (tequal_any _ _ _ _ w5 HRV.out HCL5.out).mono ?_; rintro e w6 ⟨rfl, nd, rfl⟩; have HB6 : Hid (Below wr.heap.size wr (w5.drewN nd)) := Lib.hid (below_drewN HBD.out nd); have x1 := below_c HB6.out hblt c1'))
    rw [HE.out]
    obtain ⟨w6, hw6⟩ : ∃ W, w5.drewN nd = W := ⟨_, rfl⟩
    rw [hw6] at HB6 ⊢
    have d5 := below_c HB6.out hblt c5'
    have d6 := below_c HB6.out hblt c6'
    have HB7 : Hid (Below w.heap.size w w6) := Lib.hid (HBW.out.trans (HB6.out.mono HBW.out.size))
    clear hw6 x1 u1 HCL5 HBD HRV HCAN HE
    rcases bool2 E with rfl | rfl
    case inr =>
      have hF := HR4.out
      rw [if_pos rfl] at hF
      subst hF
      go_wp2_with fail
      go_ret
      exact ⟨rfl, HB7.out⟩
    rcases bool2 A with rfl | rfl
    · have hF := HR4.out
      rw [if_neg (by simp), if_pos rfl] at hF
      have HF := Lib.hid hF
      clear hF
      go_wp2_with fail
      go_ret
      exact ⟨by rw [HF.out]; rfl, HB7.out⟩
    have hF := HR4.out
    rw [if_neg (by simp), if_neg (by simp)] at hF
    have HF : Hid (prodGo c.count (ks.drop 0) 1 = R) := Lib.hid hF.symm
    clear hF
    go_wp2_with fail
    go_loopg [12, 107] k (fun gg u12 u107 wx => ∃ (j : Nat) (p : Int), j + gg = k ∧ u107 = .int .i64 j ∧ u12 = .int .i64 p ∧ 0 ≤ p ∧ p ≤ 1099511627776 ∧ Hid (Below w.heap.size w wx) ∧ Hid (prodGo c.count (ks.drop j) p = R))
    case atStart => exact ⟨0, 1, by omega, rfl, rfl, by omega, by omega, HB7, HF⟩
    case round =>
    obtain ⟨j, p, hjg, rfl, rfl, hp0, hp1, HBJ, HP⟩ := hrel
    by_cases hj : j < k
    case neg =>
      obtain rfl : j = k := by omega
      have hP := HP.out
      rw [List.drop_eq_nil_of_le (by rw [HQN.out]; exact Nat.le_refl _), prodGo] at hP
      have HPF := Lib.hid hP
      have s5 := below_c HBJ.out hlt c5
      clear hP HP
      go_wp2_with fail
      go_ret
      exact ⟨by rw [← HPF.out]; rfl, HBJ.out⟩
    obtain ⟨kid, hkid, ek⟩ := drop_at (xs := ks) (k := j) (by have := HQN.out; omega)
    have hkm := HSK.out kid (List.mem_of_getElem? hkid)
    have hkne : kid.count ≠ 0 := fun e => by
      have := HAA.out
      rw [List.any_eq_false] at this
      exact this kid (List.mem_of_getElem? hkid) (by simp [e])
    obtain ⟨_, hk0, hk1⟩ := hkm
    have hks2 := HKS.out
    obtain ⟨kb, ko, kcv, kkv, rfl, _, hkb, k0, k1, k2, k3, k4, ⟨⟨hkcl, _, _, hkki, _⟩, _⟩⟩ := hks2.at hkid
    obtain ⟨ka, kn, kc, rfl, _, _⟩ := hkcl.form'
    obtain ⟨kka, kkn, kkc, rfl, _, _⟩ := hkki.form'
    have y0 := below_c HBJ.out hkb k0
    have y1 := below_c HBJ.out hkb k1
    have y2 := below_c HBJ.out hkb k2
    have y3 := below_c HBJ.out hkb k3
    have y4 := below_c HBJ.out hkb k4
    have hdj : decide ((j : Int) < k) = true := by simp; omega
    have hdj' : decide (j < k) = true := decide_eq_true hj
    have hk1' : 1 ≤ kid.count := by omega
    have hP := HP.out
    rw [ek, prodGo] at hP
    have hbA := fun o => HBJ.out.alloc HBJ.out.size o
    have HBA := Lib.hid hbA
    clear hkne hks2 hkid ek hkcl hkki k0 k1 k2 k3 k4 HP hbA
    by_cases hdv : 1099511627776 / kid.count < p
    · rw [if_pos hdv] at hP
      subst hP
      have hdd : decide (1099511627776 / kid.count < p) = true := decide_eq_true hdv
      go_wp2_with fail
      go_ret
      exact ⟨rfl, HBA.out _⟩
    · rw [if_neg hdv] at hP
      have HPN := Lib.hid hP
      have hdd : decide (1099511627776 / kid.count < p) = false := decide_eq_false hdv
      have hpm : p * kid.count ≤ 1099511627776 := by
        have h1 : p ≤ 1099511627776 / kid.count := by omega
        have h2 := Int.mul_le_mul_of_nonneg_right h1 hk0
        have h3 := Int.ediv_mul_le 1099511627776 (show kid.count ≠ 0 by omega)
        omega
      have hpz : 0 ≤ p * kid.count := Int.mul_nonneg hp0 hk0
      clear hP hdv
      go_wp2_with fail
      go_roundg (gk - 1)
      case measure => omega
      case rel => exact ⟨j + 1, p * kid.count, by omega, by go_num, rfl, hpz, hpm, Lib.hid (HBA.out _), HPN⟩
  obtain ⟨kid, hkid, ek⟩ := drop_at (xs := ks) (k := k) (by have := HQN.out; omega)
  have hkm := HSK.out kid (List.mem_of_getElem? hkid)
  have hks2 := HKS.out
  obtain ⟨kb, ko, kcv, kkv, rfl, _, hkb, k0, k1, k2, k3, k4, ⟨⟨hkcl, _, _, hkki, _⟩, _⟩⟩ := hks2.at hkid
  obtain ⟨ka, kn, kc, rfl, HKN, _⟩ := hkcl.form'
  obtain ⟨kka, kkn, kkc, rfl, _, _⟩ := hkki.form'
  have hkbm : kb < mb := by rw [← HMB.out]; exact hkb
  have y0 := below_c HB.out hkbm k0
  have y1 := below_c HB.out hkbm k1
  have y2 := below_c HB.out hkbm k2
  have y3 := below_c HB.out hkbm k3
  have y4 := below_c HB.out hkbm k4
  have HKC := Lib.hid (clss_lt hkcl)
  have hdk : decide ((k : Int) < qn) = true := by simp; omega
  have hdk' : decide (k < qn) = true := decide_eq_true hk
  obtain ⟨W2, hW2⟩ : ∃ W, wr.alloc (.cells #[.slice ka kn kc, .int .i64 kid.rule, .int .i64 kid.lit, .slice kka kkn kkc, .int .i64 kid.count] 45) = W := ⟨_, rfl⟩
  have hb2 : Below wr.heap.size wr W2 := by rw [← hW2]; exact (Below.refl _ _).alloc (Nat.le_refl _) _
  have hs2 : W2.heap.size = wr.heap.size + 1 := by rw [← hW2]; simp
  obtain ⟨g1, hg1⟩ : ∃ g, wr.heap.size = g := ⟨_, rfl⟩
  have hkx : ∀ o v, #[Value.slice ka kn kc, .int .i64 kid.rule, .int .i64 kid.lit, .slice kka kkn kkc, .int .i64 kid.count][o]? = some v → W2.cell? ⟨g1, o, none⟩ = some v := fun o v h => by rw [← hg1, ← hW2, cell_of_row _ _ _ _ _ _ (new_at _ _)]; exact h
  have x0 := hkx 0 _ rfl
  have x4 := hkx 4 _ rfl
  have hcl2 : Clss (fun b => b < mb) W2 (.slice ka kn kc) kid.cls := Rows1.move (fun _ _ _ _ _ h hm => h.move hm) (Rows1.mono (fun _ _ _ _ _ h hg => h.mono hg) HKC.out (fun b hb => by rw [← HMB.out]; exact hb)) fun b hb _ => (hb2.block b (by have := HB.out.size; omega)).trans (HB.out.block b hb)
  have hoc := occur_any _ _ kid.cls W2 hcl2 hkm.1.1 hkm.1.2.1
  have HOC := Lib.hid hoc
  have HCL2 := Lib.hid hcl2
  have HB2 := Lib.hid (HB.out.trans (hb2.mono (by omega)))
  have HS2 := Lib.hid (HS.out.below hb2)
  have HA2 : Hid (AllO w W2 mb u4 (allM (ks.take k))) := Lib.hid (by obtain ⟨ps, p1, p2, p3⟩ := HA.out; exact ⟨ps, own_below p1 hb2, p2, p3⟩)
  have HW2 := Lib.hid hW2
  have HG1 := Lib.hid hg1
  have hkc4 : kid.cls.length ≤ 4000 := hkm.1.1
  have hcn0 : 0 ≤ kid.count := hkm.2.1
  have HKN2 := HKN
  rw [hg1] at hs2 hZ
  have HAB : Hid (∀ e, u4.ownBlock = some e → e < g1) := Lib.hid fun e he => by obtain ⟨ps, p1, _⟩ := HA.out; have := (p1.lt e he).2; omega
  have HTK : Hid (ks.take (k + 1) = ks.take k ++ [kid]) := Lib.hid (by rw [List.take_add_one, hkid]; rfl)
  have HDK : Hid ((if (occM kid.cls).any (fun v => seen.contains v) = true then false else disjGo (ks.drop (k + 1)) (seen ++ occM kid.cls)) = dj) := Lib.hid (by have := HD.out; rw [ek, disjGo] at this; exact this)
  obtain ⟨N, hN⟩ : ∃ N, ((ks.take k).any fun x => decide (x.count = 0)) = N := ⟨_, rfl⟩
  have HN := Lib.hid hN
  obtain ⟨GK, hGK⟩ : ∃ G, G = gk := ⟨_, rfl⟩
  subst hGK
  rw [hN]
  clear hks2 hkid ek hkm hkcl hkki hkx hcl2 hoc hb2 hW2 hg1 HS HA HD HB hN k0 k1 k2 k3 k4
  go_wp2_with fail
  rw [HW2.out, HG1.out]
  refine HOC.out.mono ?_
  rintro e w3 ⟨ov, os, rfl, hos, hb3, hst, hmem⟩
  obtain rfl := occ_eq hst hmem
  obtain ⟨oa, on, oc, rfl, HON, hon⟩ := hos.form'
  have hoi : ∀ x ∈ occM kid.cls, 1 ≤ x ∧ x ≤ 20000 := fun x hx => occM_range hx
  have hol : (occM kid.cls).length ≤ 20000 := by
    have hnd := occM_nodup kid.cls
    have := nodup_bound hnd hoi
    omega
  have HOI := Lib.hid hoi
  have HND := Lib.hid (occM_nodup kid.cls)
  have HOS := Lib.hid hos
  have z0 := below_c hb3 (by omega) x0
  have z4 := below_c hb3 (by omega) x4
  have HB3 := Lib.hid (HB2.out.trans (hb3.mono (by omega)))
  have HS3 := Lib.hid (HS2.out.below hb3)
  have HA3 : Hid (AllO w w3 mb u4 (allM (ks.take k))) := Lib.hid (by obtain ⟨ps, p1, p2, p3⟩ := HA2.out; exact ⟨ps, own_below p1 hb3, p2, p3⟩)
  have hs3 : g1 + 1 ≤ w3.heap.size := by have := hb3.size; omega
  have hon2 : on ≤ 20000 := by rw [HON.out]; exact hol
  obtain ⟨O, hO⟩ : ∃ O, occM kid.cls = O := ⟨_, rfl⟩
  rw [hO] at HON HOI HND HOS HDK
  obtain ⟨T, hT⟩ : ∃ T, (O.any fun v => seen.contains v) = T := ⟨_, rfl⟩
  rw [hT] at HDK
  have HT0 : Hid (((O.drop 0).any fun v => seen.contains v) = T) := Lib.hid hT
  have HG3 : Hid (w3.grownBy w3 (some mb)) := Lib.hid (World.grownBy.refl w3 _)
  have HOW3 : Hid (OwnM w3 mb k seen (O.take 0)) := Lib.hid HS3.out
  have HSZ3 := Lib.hid hs3
  have hmbg : mb < g1 := by omega
  clear hos hb3 hst hmem hoi hol hO hT x0 x4 HS2 HA2 HOC HW2
  go_wp2_with fail
  go_loopg [44] on (fun gg u44 wx => ∃ (j : Nat), j + gg = on ∧ u44 = .int .i64 j ∧ Hid (w3.grownBy wx (some mb)) ∧ Hid (OwnM wx mb k seen (O.take j)) ∧ Hid (((O.drop j).any fun v => seen.contains v) = T))
  case atStart => exact ⟨0, by omega, rfl, HG3, HOW3, HT0⟩
  case round =>
  clear HG3 HOW3 HT0
  obtain ⟨j, hjg, rfl, HG, HO, HT⟩ := hrel
  by_cases hj : j < on
  · obtain ⟨x, hxj, ex⟩ := drop_at (xs := O) (k := j) (by have := HON.out; omega)
    have hxr := HOI.out x (List.mem_of_getElem? hxj)
    obtain ⟨xb, xo, rfl, hxb0, hxb, hcx0, hxi⟩ := HOS.out.at hxj
    have hcx := grown_c2 HG.out (fun e => by injection e with e; omega) hcx0
    have hxn : x ∉ O.take j := fun hm => by
      have hnd := HND.out
      rw [← List.take_append_drop j O, ex] at hnd
      exact (List.nodup_append.1 hnd).2.2 x hm x (List.mem_cons_self ..) rfl
    have hdj' : decide ((j : Int) < on) = true := by simp; omega
    have hdj2 : decide (j < on) = true := decide_eq_true hj
    obtain ⟨oc', hrun, hne⟩ := HO.out.ok hxi hxn
    have HTX : Hid ((seen.contains x || (O.drop (j + 1)).any fun v => seen.contains v) = T) := Lib.hid (by have := HT.out; rw [ex, List.any_cons] at this; exact this)
    by_cases hin : x ∈ seen
    · have hd1 : decide (x ∈ seen) = true := decide_eq_true hin
      have hct : seen.contains x = true := by simpa using hin
      have hR : R = false := by
        have h1 := HTX.out
        rw [hct, Bool.true_or] at h1
        have h2 := HDK.out
        rw [← h1, if_pos rfl] at h2
        have h3 := HR2.out
        rw [← h2, if_pos rfl] at h3
        exact h3.symm
      subst hR
      have hnk : (oc' != (k : Int)) = true := by simp; exact hne hin
      rw [hd1] at hrun
      have HBF : Hid (Below w.heap.size w wr) := Lib.hid (by
        rw [HMB.out]
        exact HB3.out.trans ⟨HG.out.os, HG.out.tape, HG.out.output, HG.out.size, fun i hi => HG.out.block i (by have := HSZ3.out; omega) (fun e => by injection e with e; omega)⟩)
      clear hne hin hd1 hct HTX hxn hxr hxj ex hcx0 hxi
      go_wp2_with fail
      go_ret
      exact ⟨rfl, HBF.out⟩
    have hd1 : decide (x ∈ seen) = false := decide_eq_false hin
    have hct : seen.contains x = false := by simpa using hin
    rw [hd1] at hrun
    have HTF : Hid (((O.drop (j + 1)).any fun v => seen.contains v) = T) := Lib.hid (by have := HTX.out; rw [hct, Bool.false_or] at this; exact this)
    obtain ⟨D, n, hown, hnl, hD2, hD3⟩ := HO.out
    have HD2 := Lib.hid hD2
    have HD3 := Lib.hid hD3
    have HNL := Lib.hid hnl
    have HIN := Lib.hid hin
    have HXI := Lib.hid hxi
    have HTJ : Hid (O.take (j + 1) = O.take j ++ [x]) := Lib.hid (by rw [List.take_add_one, hxj]; rfl)
    have hnb : n + 1 ≤ 9000000000 := by rw [List.length_take] at hnl; omega
    clear hne hin hd1 hct HTX hxn hxr hxj ex hcx0 hxi hD2 hD3 hnl
    go_wp2_with (at_mapUpdate; refine wpList_mapUpdate_own _ rfl _ _ _ 111 rfl 3 3 law_int Tryz.underlying111 (plainElem Tryz.prog 3) mb n D rfl hown (by unfold maxLen; omega) _ _ (.int .i64 x) rfl rfl (keyOf_i HXI.out) (.lit (.int .i64 k)) [] (plainElem_int Tryz.underlying3 (I64_wf ⟨by omega, by omega⟩)) ?_; intro w5 hown5 hgrow5; have HS5 : Hid (OwnM w5 mb k seen (O.take j ++ [x])) := Lib.hid (own_put HXI.out HIN.out hown5 HNL.out HD2.out HD3.out); have HG5 := Lib.hid (HG.out.trans hgrow5); clear hown5 hgrow5 hown)
    go_roundg (gk - 1)
    case measure => omega
    case rel => exact ⟨j + 1, by omega, by go_num, HG5, Lib.hid (by rw [HTJ.out]; exact HS5.out), HTF⟩
  obtain rfl : j = on := by omega
  have hdj' : decide ((j : Int) < j) = false := by simp
  have hdj2 : decide (j < j) = false := decide_eq_false (by omega)
  have hTf : T = false := by
    have := HT.out
    rw [List.drop_eq_nil_of_le (by rw [HON.out]; exact Nat.le_refl _), List.any_nil] at this
    exact this.symm
  subst hTf
  have HDN : Hid (disjGo (ks.drop (k + 1)) (seen ++ O) = dj) := Lib.hid (by have := HDK.out; rw [if_neg (by simp)] at this; exact this)
  have hOn : OwnM wr mb (k + 1) (seen ++ O) [] := by
    have := HO.out
    rw [List.take_of_length_le (by rw [HON.out]; exact Nat.le_refl _)] at this
    exact this.next
  have HON1 := Lib.hid hOn
  have hbw : Below mb w wr := HB3.out.trans ⟨HG.out.os, HG.out.tape, HG.out.output, HG.out.size, fun i hi => HG.out.block i (by have := HSZ3.out; omega) (fun e => by injection e with e; omega)⟩
  have HBW := Lib.hid hbw
  obtain ⟨ps, p1, p2, p3⟩ := HA3.out
  obtain ⟨us, u1, u2, u3⟩ := HKC.out
  have hown := p1.kept HG.out (.inr fun e => by have := (p1.lt _ e).1; omega)
  obtain ⟨aa, ac, hav⟩ := own_form hown
  obtain ⟨an, han⟩ : ∃ m, ps.length = m := ⟨_, rfl⟩
  rw [han] at hown hav
  subst hav
  have hanl : an ≤ 4000 * k := by rw [← han]; have h := hal; rw [← p2, List.length_map] at h; exact h
  have hsr : Sl1 (fun b => b < w.heap.size) wr (.slice ka kn kc) us := u1.move fun b hb _ => hbw.block b (by rw [← HMB.out]; exact hb)
  have hone : ∀ u ∈ us, u.oneCell' = true := fun u hu => by
    obtain ⟨i, hi, he⟩ := List.mem_iff_getElem.1 hu
    obtain ⟨_, _, h1, _⟩ := (u3 i u (kid.cls.getD i []) (by rw [List.getElem?_eq_getElem hi, he]) (by rw [List.getD_eq_getElem?_getD, List.getElem?_eq_getElem (by rw [← u2]; exact hi)]; rfl)).form
    rw [h1]; rfl
  have HSR := Lib.hid hsr
  have HONE := Lib.hid hone
  have HPS := Lib.hid (And.intro han (And.intro p2 p3))
  have HUS := Lib.hid (And.intro u2 u3)
  have q0 := grown_c2 HG.out (fun e => by injection e with e; omega) z0
  have q4 := grown_c2 HG.out (fun e => by injection e with e; omega) z4
  have hkn4 : kn ≤ 4000 := by rw [HKN2.out]; exact hkc4
  have hszw : mb + 1 ≤ wr.heap.size := by have := HG.out.size; have := HSZ3.out; omega
  have HALL : Hid (∀ v' w', w'.ownsRow (mb + 1) 43 1 v' (an + kn) (ps.map Prod.fst ++ us) → AllO w w' mb v' (allM (ks.take (k + 1)))) := Lib.hid fun v' w' ho => by
    have hz1 : us.length = kid.cls.length := u2
    refine ⟨ps ++ us.zip kid.cls, ?_, ?_, fun p hp => ?_⟩
    · rw [List.map_append, List.map_fst_zip (by omega), List.length_append, List.length_zip, han]
      have : min us.length kid.cls.length = kn := by rw [hz1, Nat.min_self]; exact HKN2.out.symm
      rw [this]
      exact ho
    · rw [List.map_append, List.map_snd_zip (by omega), p2, HTK.out]
      simp [allM]
    · rcases List.mem_append.1 hp with h | h
      · exact p3 p h
      · obtain ⟨i, hi, he⟩ := List.mem_iff_getElem.1 h
        rw [List.length_zip] at hi
        rw [List.getElem_zip] at he
        have := u3 i us[i] kid.cls[i] (List.getElem?_eq_getElem (by omega)) (List.getElem?_eq_getElem (by omega))
        rw [← he]
        exact this.mono fun b hb => by rw [← HMB.out]; exact hb
  have hsln : (seen ++ O).length ≤ 20000 * (k + 1) := by rw [List.length_append, ← HON.out]; omega
  have hall2 : (allM (ks.take (k + 1))).length ≤ 4000 * (k + 1) := by rw [HTK.out]; simp only [allM, List.flatMap_append, List.length_append, List.flatMap_cons, List.flatMap_nil, List.append_nil] at hal ⊢; omega
  have HAN : Hid (((ks.take (k + 1)).any fun x => decide (x.count = 0)) = (N || decide (kid.count = 0))) := Lib.hid (by rw [HTK.out, List.any_append, HN.out]; simp)
  have HL2 := Lib.hid (And.intro hsln hall2)
  clear hOn hbw p1 p2 p3 u1 u2 u3 hsr hone HT HO z0 z4 han HOS HND HOI HA3 HS3 hsln hall2 hal hsl HSC HB2 HCL2
  rcases bool2 N with rfl | rfl
  · go_wp2_with (at_builtin; go_loud (refine wpList_pushAll rfl _ _ 35 rfl 43 (.slice none 0 0) 24 Tryz.underlying35 HIS.out rfl (mb + 1) (.slice aa an ac) an _ wr _ ka kn kc us rfl rfl hown HSR.out HONE.out (by omega) (by omega) (by omega) ?_); intro v' w7 hown7 hg7 hat; have HA7 := Lib.hid (HALL.out v' w7 hown7); have HB7 := Lib.hid (HBW.out.grown hg7 (by omega) (fun k hk => by have := (hown.lt k hk).1; omega)); have HO7 := Lib.hid (HON1.out.grown hg7 (fun e => by have := (hown.lt _ e.symm).1; omega)); have hs7 := hg7.size; have q4' := grown_c2 hg7 (fun e => by have h1 := HAB.out _ e.symm; omega) q4; clear hown7 hg7 hat hown)
    go_roundg (GK - 1)
    case measure => omega
    case rel => exact ⟨k + 1, _, _, by omega, by go_num, rfl, by rw [HAN.out]; rfl, HB7, by omega, HO7, HA7, HDN, HL2.out.1, HL2.out.2⟩
  · by_cases hz : kid.count = 0
    · have hz1 : (kid.count == 0) = true := by simp; exact hz
      have HAN2 : Hid (((ks.take (k + 1)).any fun x => decide (x.count = 0)) = true) := Lib.hid (by rw [HAN.out, decide_eq_true hz]; rfl)
      clear hz HAN
      go_wp2_with (at_builtin; go_loud (refine wpList_pushAll rfl _ _ 35 rfl 43 (.slice none 0 0) 24 Tryz.underlying35 HIS.out rfl (mb + 1) (.slice aa an ac) an _ wr _ ka kn kc us rfl rfl hown HSR.out HONE.out (by omega) (by omega) (by omega) ?_); intro v' w7 hown7 hg7 hat; have HA7 := Lib.hid (HALL.out v' w7 hown7); have HB7 := Lib.hid (HBW.out.grown hg7 (by omega) (fun k hk => by have := (hown.lt k hk).1; omega)); have HO7 := Lib.hid (HON1.out.grown hg7 (fun e => by have := (hown.lt _ e.symm).1; omega)); have hs7 := hg7.size; have q4' := grown_c2 hg7 (fun e => by have h1 := HAB.out _ e.symm; omega) q4; clear hown7 hg7 hat hown)
      go_roundg (GK - 1)
      case measure => omega
      case rel => exact ⟨k + 1, _, _, by omega, by go_num, rfl, by rw [HAN2.out], HB7, by omega, HO7, HA7, HDN, HL2.out.1, HL2.out.2⟩
    · have hz1 : (kid.count == 0) = false := by simp; exact hz
      have HAN2 : Hid (((ks.take (k + 1)).any fun x => decide (x.count = 0)) = false) := Lib.hid (by rw [HAN.out, decide_eq_false hz]; rfl)
      clear hz HAN
      go_wp2_with (at_builtin; go_loud (refine wpList_pushAll rfl _ _ 35 rfl 43 (.slice none 0 0) 24 Tryz.underlying35 HIS.out rfl (mb + 1) (.slice aa an ac) an _ wr _ ka kn kc us rfl rfl hown HSR.out HONE.out (by omega) (by omega) (by omega) ?_); intro v' w7 hown7 hg7 hat; have HA7 := Lib.hid (HALL.out v' w7 hown7); have HB7 := Lib.hid (HBW.out.grown hg7 (by omega) (fun k hk => by have := (hown.lt k hk).1; omega)); have HO7 := Lib.hid (HON1.out.grown hg7 (fun e => by have := (hown.lt _ e.symm).1; omega)); have hs7 := hg7.size; have q4' := grown_c2 hg7 (fun e => by have h1 := HAB.out _ e.symm; omega) q4; clear hown7 hg7 hat hown)
      go_roundg (GK - 1)
      case measure => omega
      case rel => exact ⟨k + 1, _, _, by omega, by go_num, rfl, by rw [HAN2.out], HB7, by omega, HO7, HA7, HDN, HL2.out.1, HL2.out.2⟩

/- (Trace seat) Walk: follows of the checker. No condition but the sizes and ranges. -/
open Go.ChangeShapes Go.WideShapes Go.ChangeAt Go.RowKit
set_option linter.unusedVariables false

set_option maxRecDepth 100000 in
set_option maxHeartbeats 8000000 in
theorem follows_any (b : Nat) (keep : Int) (cv kv qv vv : Value) (c : Claim) (ks : List Claim) (vs : List Int) (w : World) (hc : Ckr w b keep cv kv qv vv c ks vs) (hir : I64 c.rule)
    (hsc : SzC c) (hsk : ∀ k ∈ ks, SzC k) (hrv : ∀ v ∈ vs, 1 ≤ v ∧ v ≤ 20000) (hvl : vs.length ≤ 100000) (hkl : ks.length ≤ 100000) :
    Calls Tryz.prog 36 #[.pointer (some ⟨b, 0, none⟩)] w (BoolPost w (folM keep c ks vs)) := by
  have hlt := hc.lt
  obtain ⟨⟨c0, c1, c2, c3, _, c5, c6, c7⟩, hcl, hks, hvs, hil, hic, hik⟩ := id hc
  obtain ⟨R, hR⟩ : ∃ R, folM keep c ks vs = R := ⟨_, rfl⟩
  have hR2 := hR
  unfold folM at hR2
  rw [hR]
  obtain ⟨ca, cn, cc, rfl, HCN, hcn⟩ := hcl.form'
  obtain ⟨qa, qn, qc, rfl, HQN, hqn⟩ := hks.form
  obtain ⟨T, hT⟩ : ∃ T, (if c.rule = 0 then (c.lit == 0) && (decide (ks.length = 0) && (decide (c.cls.length = 0) && (c.count == 1)))
    else if c.rule = 1 then (c.lit == 0) && (decide (ks.length = 0) && ((c.cls.any fun x => decide (x.length = 0)) && (c.count == 0)))
    else if c.rule = 2 then unitM keep c ks vs
    else if c.rule = 3 then decM keep c ks vs
    else if c.rule = 4 then splitM c ks
    else if c.rule = 5 then tryM keep c ks vs
    else if c.rule = 6 then bothM c ks vs
    else false) = T := ⟨_, rfl⟩
  rw [hT] at hR2
  have HR0 : Hid ((if ((ks.drop 0).any fun k => decide (k.count < 0) || decide (1099511627776 < k.count)) = true then false else T) = R) := Lib.hid hR2
  have HG0 : Hid (∀ k ∈ ks.take 0, 0 ≤ k.count ∧ k.count ≤ 1099511627776) := Lib.hid (by simp)
  have HT := Lib.hid hT
  have HC := Lib.hid hc
  have HSC := Lib.hid hsc
  have HSK := Lib.hid hsk
  have HRV := Lib.hid hrv
  have HKS := Lib.hid hks
  have HCL := Lib.hid hcl
  have HKL := Lib.hid hkl
  have HB0 : Hid (Below w.heap.size w w) := Lib.hid (Below.refl _ _)
  have hq5 : qn ≤ 100000 := by rw [HQN.out]; exact hkl
  clear hR hR2 hT hc hsc hsk hrv hks hcl hvs hkl
  go_enter Tryz.func36, Tryz.ntmps36
  go_wp2_with fail
  go_loopg [11] qn (fun gg u11 wx => ∃ (k : Nat), k + gg = qn ∧ u11 = .int .i64 k ∧ Hid (Below w.heap.size w wx) ∧ Hid (∀ x ∈ ks.take k, 0 ≤ x.count ∧ x.count ≤ 1099511627776) ∧ Hid ((if ((ks.drop k).any fun k => decide (k.count < 0) || decide (1099511627776 < k.count)) = true then false else T) = R))
  case atStart => exact ⟨0, by omega, rfl, HB0, HG0, HR0⟩
  case round =>
  clear HB0 HG0 HR0
  obtain ⟨k, hkg, rfl, HB, HGD, HRK⟩ := hrel
  by_cases hk : k < qn
  · obtain ⟨kid, hkid, ek⟩ := drop_at (xs := ks) (k := k) (by have := HQN.out; omega)
    have hks2 := HKS.out
    obtain ⟨kb, ko, kcv, kkv, rfl, _, hkb, k0, k1, k2, k3, k4, ⟨⟨hkcl, _, _, hkki, _⟩, _⟩⟩ := hks2.at hkid
    obtain ⟨ka, kn, kc, rfl, _, _⟩ := hkcl.form'
    obtain ⟨kka, kkn, kkc, rfl, _, _⟩ := hkki.form'
    have y0 := below_c HB.out hkb k0
    have y1 := below_c HB.out hkb k1
    have y2 := below_c HB.out hkb k2
    have y3 := below_c HB.out hkb k3
    have y4 := below_c HB.out hkb k4
    have hdk : decide ((k : Int) < qn) = true := by simp; omega
    have hdk' : decide (k < qn) = true := decide_eq_true hk
    have hr := HRK.out
    rw [ek, List.any_cons] at hr
    have HTK : Hid (ks.take (k + 1) = ks.take k ++ [kid]) := Lib.hid (by rw [List.take_add_one, hkid]; rfl)
    have hbA := fun o => HB.out.alloc HB.out.size o
    have HBA := Lib.hid hbA
    clear hks2 hkid ek hkcl hkki k0 k1 k2 k3 k4 hbA HRK
    by_cases h1 : kid.count < 0
    · have d1 : decide (kid.count < 0) = true := decide_eq_true h1
      rw [d1, Bool.true_or, Bool.true_or, if_pos rfl] at hr
      subst hr
      go_wp2_with fail
      go_ret
      exact ⟨rfl, HBA.out _⟩
    have d1 : decide (kid.count < 0) = false := decide_eq_false h1
    by_cases h2 : 1099511627776 < kid.count
    · have d2 : decide (1099511627776 < kid.count) = true := decide_eq_true h2
      rw [d1, d2, Bool.false_or, Bool.true_or, if_pos rfl] at hr
      subst hr
      go_wp2_with fail
      go_ret
      exact ⟨rfl, HBA.out _⟩
    have d2 : decide (1099511627776 < kid.count) = false := decide_eq_false h2
    rw [d1, d2, Bool.false_or, Bool.false_or] at hr
    have HR := Lib.hid hr
    have HG2 : Hid (∀ x ∈ ks.take (k + 1), 0 ≤ x.count ∧ x.count ≤ 1099511627776) := Lib.hid (by
      rw [HTK.out]
      intro x hx
      rcases List.mem_append.1 hx with h | h
      · exact HGD.out x h
      · simp at h; subst h; omega)
    clear hr h1 h2
    go_wp2_with fail
    go_roundg (gk - 1)
    case measure => omega
    case rel => exact ⟨k + 1, by omega, by go_num, Lib.hid (HBA.out _), HG2, HR⟩
  obtain rfl : k = qn := by omega
  have hdk : decide ((k : Int) < k) = false := by simp
  have hdk' : decide (k < k) = false := decide_eq_false (by omega)
  have hTR : T = R := by
    have := HRK.out
    rw [List.drop_eq_nil_of_le (by rw [HQN.out]; exact Nat.le_refl _), List.any_nil, if_neg (by simp)] at this
    exact this
  subst hTR
  have hgd := HGD.out
  rw [List.take_of_length_le (by rw [HQN.out]; exact Nat.le_refl _)] at hgd
  have hrok : RuleOk c ks vs := ⟨HSC.out, fun x hx => ⟨HSK.out x hx, hgd x hx⟩, HRV.out, hvl, HKL.out⟩
  have hblt : b < wr.heap.size := Nat.lt_of_lt_of_le hlt HB.out.size
  have HROK := Lib.hid hrok
  have HCK := Lib.hid (HC.out.below HB.out)
  have s1 := below_c HB.out hlt c1
  have s2 := below_c HB.out hlt c2
  have s3 := below_c HB.out hlt c3
  have s5 := below_c HB.out hlt c5
  have s6 := below_c HB.out hlt c6
  have hT2 := HT.out
  have HCLr := Lib.hid (HCL.out.below HB.out)
  clear hgd hrok HRK HGD c0 c1 c2 c3 c5 c6 c7 HC
  by_cases r0 : c.rule = 0
  · rw [if_pos r0] at hT2
    have t0 : (c.rule == 0) = true := by simp; exact r0
    by_cases l0 : c.lit = 0
    case neg =>
      have tl : (c.lit == 0) = false := by simp; exact l0
      rw [tl, Bool.false_and] at hT2
      subst hT2
      clear r0 l0
      go_wp2_with fail
      go_ret
      exact ⟨rfl, HB.out⟩
    have tl : (c.lit == 0) = true := by simp; exact l0
    by_cases l1 : k = 0
    case neg =>
      have tk : decide (ks.length = 0) = false := decide_eq_false (by rw [← HQN.out]; exact l1)
      have tq : ((k : Int) == 0) = false := by simp; exact l1
      rw [tl, tk, Bool.true_and, Bool.false_and] at hT2
      subst hT2
      clear r0 l0 l1
      go_wp2_with fail
      go_ret
      exact ⟨rfl, HB.out⟩
    have tk : decide (ks.length = 0) = true := decide_eq_true (by rw [← HQN.out]; exact l1)
    have tq : ((k : Int) == 0) = true := by simp; exact l1
    by_cases l2 : cn = 0
    case neg =>
      have tc : decide (c.cls.length = 0) = false := decide_eq_false (by rw [← HCN.out]; exact l2)
      have tn : ((cn : Int) == 0) = false := by simp; exact l2
      rw [tl, tk, tc, Bool.true_and, Bool.true_and, Bool.false_and] at hT2
      subst hT2
      clear r0 l0 l1 l2
      go_wp2_with fail
      go_ret
      exact ⟨rfl, HB.out⟩
    have tc : decide (c.cls.length = 0) = true := decide_eq_true (by rw [← HCN.out]; exact l2)
    have tn : ((cn : Int) == 0) = true := by simp; exact l2
    rw [tl, tk, tc, Bool.true_and, Bool.true_and, Bool.true_and] at hT2
    have HF := Lib.hid hT2
    clear r0 l0 l1 l2 hT2
    go_wp2_with fail
    go_ret
    exact ⟨by rw [← HF.out]; rfl, HB.out⟩
  rw [if_neg r0] at hT2
  have t0 : (c.rule == 0) = false := by simp; exact r0
  by_cases r1 : c.rule = 1
  · rw [if_pos r1] at hT2
    have t1 : (c.rule == 1) = true := by simp; exact r1
    have hcf := containsfE_any _ (fun x => decide (x.length = 0)) _ c.cls wr HCLr.out (fun nq u y _ hy => fol1_any _ u y _ hy)
    obtain ⟨E, hE⟩ : ∃ E, (c.cls.any fun x => decide (x.length = 0)) = E := ⟨_, rfl⟩
    rw [hE] at hcf hT2
    have HCF := Lib.hid hcf
    clear hcf hE
    have finish : True := trivial
    by_cases l0 : c.lit = 0
    case neg =>
      have tl : (c.lit == 0) = false := by simp; exact l0
      rw [tl, Bool.false_and] at hT2
      subst hT2
      clear r0 l0 r1
      go_wp2_with fail
      refine HCF.out.mono ?_
      rintro e w3 ⟨rfl, nd, rfl⟩
      have HB3 := Lib.hid (below_drewN HB.out nd)
      go_wp2_with fail
      go_ret
      exact ⟨rfl, HB3.out⟩
    have tl : (c.lit == 0) = true := by simp; exact l0
    by_cases l1 : k = 0
    case neg =>
      have tk : decide (ks.length = 0) = false := decide_eq_false (by rw [← HQN.out]; exact l1)
      have tq : ((k : Int) == 0) = false := by simp; exact l1
      rw [tl, tk, Bool.true_and, Bool.false_and] at hT2
      subst hT2
      clear r0 l0 l1 r1
      go_wp2_with fail
      refine HCF.out.mono ?_
      rintro e w3 ⟨rfl, nd, rfl⟩
      have HB3 := Lib.hid (below_drewN HB.out nd)
      go_wp2_with fail
      go_ret
      exact ⟨rfl, HB3.out⟩
    have tk : decide (ks.length = 0) = true := decide_eq_true (by rw [← HQN.out]; exact l1)
    have tq : ((k : Int) == 0) = true := by simp; exact l1
    rw [tl, tk, Bool.true_and, Bool.true_and] at hT2
    rcases bool2 E with rfl | rfl
    case inr =>
      rw [Bool.false_and] at hT2
      subst hT2
      clear r0 l0 l1 r1
      go_wp2_with fail
      refine HCF.out.mono ?_
      rintro e w3 ⟨rfl, nd, rfl⟩
      have HB3 := Lib.hid (below_drewN HB.out nd)
      go_wp2_with fail
      go_ret
      exact ⟨rfl, HB3.out⟩
    rw [Bool.true_and] at hT2
    have HF := Lib.hid hT2
    clear r0 l0 l1 r1 hT2
    go_wp2_with fail
    refine HCF.out.mono ?_
    rintro e w3 ⟨rfl, nd, rfl⟩
    have HB3 := Lib.hid (below_drewN HB.out nd)
    go_wp2_with fail
    go_ret
    exact ⟨by rw [← HF.out]; rfl, HB3.out⟩
  rw [if_neg r1] at hT2
  have t1 : (c.rule == 1) = false := by simp; exact r1
  by_cases r2 : c.rule = 2
  · rw [if_pos r2] at hT2
    have t2 : (c.rule == 2) = true := by simp; exact r2
    have hcall := unit_any b keep _ _ _ _ c ks vs wr HCK.out HROK.out
    rw [hT2] at hcall
    have HCALL := Lib.hid hcall
    clear hcall hT2 r0 r1 r2
    go_wp2_with fail
    refine HCALL.out.mono ?_
    rintro e w3 ⟨rfl, hb3⟩
    have HB3 := Lib.hid (HB.out.trans (hb3.mono HB.out.size))
    clear hb3
    go_wp2_with fail
    go_ret
    exact ⟨rfl, HB3.out⟩
  rw [if_neg r2] at hT2
  have t2 : (c.rule == 2) = false := by simp; exact r2
  by_cases r3 : c.rule = 3
  · rw [if_pos r3] at hT2
    have t3 : (c.rule == 3) = true := by simp; exact r3
    have hcall := decide_any b keep _ _ _ _ c ks vs wr HCK.out HROK.out
    rw [hT2] at hcall
    have HCALL := Lib.hid hcall
    clear hcall hT2 r0 r1 r2 r3
    go_wp2_with fail
    refine HCALL.out.mono ?_
    rintro e w3 ⟨rfl, hb3⟩
    have HB3 := Lib.hid (HB.out.trans (hb3.mono HB.out.size))
    clear hb3
    go_wp2_with fail
    go_ret
    exact ⟨rfl, HB3.out⟩
  rw [if_neg r3] at hT2
  have t3 : (c.rule == 3) = false := by simp; exact r3
  by_cases r4 : c.rule = 4
  · rw [if_pos r4] at hT2
    have t4 : (c.rule == 4) = true := by simp; exact r4
    have hcall := split_any b keep _ _ _ _ c ks vs wr HCK.out HROK.out
    rw [hT2] at hcall
    have HCALL := Lib.hid hcall
    clear hcall hT2 r0 r1 r2 r3 r4
    go_wp2_with fail
    refine HCALL.out.mono ?_
    rintro e w3 ⟨rfl, hb3⟩
    have HB3 := Lib.hid (HB.out.trans (hb3.mono HB.out.size))
    clear hb3
    go_wp2_with fail
    go_ret
    exact ⟨rfl, HB3.out⟩
  rw [if_neg r4] at hT2
  have t4 : (c.rule == 4) = false := by simp; exact r4
  by_cases r5 : c.rule = 5
  · rw [if_pos r5] at hT2
    have t5 : (c.rule == 5) = true := by simp; exact r5
    have hcall := try_any b keep _ _ _ _ c ks vs wr HCK.out HROK.out
    rw [hT2] at hcall
    have HCALL := Lib.hid hcall
    clear hcall hT2 r0 r1 r2 r3 r4 r5
    go_wp2_with fail
    refine HCALL.out.mono ?_
    rintro e w3 ⟨rfl, hb3⟩
    have HB3 := Lib.hid (HB.out.trans (hb3.mono HB.out.size))
    clear hb3
    go_wp2_with fail
    go_ret
    exact ⟨rfl, HB3.out⟩
  rw [if_neg r5] at hT2
  have t5 : (c.rule == 5) = false := by simp; exact r5
  by_cases r6 : c.rule = 6
  · rw [if_pos r6] at hT2
    have t6 : (c.rule == 6) = true := by simp; exact r6
    have hcall := both_any b keep _ _ _ _ c ks vs wr HCK.out HROK.out
    rw [hT2] at hcall
    have HCALL := Lib.hid hcall
    clear hcall hT2 r0 r1 r2 r3 r4 r5 r6
    go_wp2_with fail
    refine HCALL.out.mono ?_
    rintro e w3 ⟨rfl, hb3⟩
    have HB3 := Lib.hid (HB.out.trans (hb3.mono HB.out.size))
    clear hb3
    go_wp2_with fail
    go_ret
    exact ⟨rfl, HB3.out⟩
  rw [if_neg r6] at hT2
  have t6 : (c.rule == 6) = false := by simp; exact r6
  subst hT2
  clear r0 r1 r2 r3 r4 r5 r6
  go_wp2_with fail
  go_ret
  exact ⟨rfl, HB.out⟩

/- (Trace seat) The checker's own slice of kids: laws. No condition but the sizes. -/
open Go.ChangeShapes Go.WideShapes Go.ChangeAt Go.RowKit
set_option linter.unusedVariables false
end Go.Proofs.YtljaegmmfjllkaaGreatDoor
