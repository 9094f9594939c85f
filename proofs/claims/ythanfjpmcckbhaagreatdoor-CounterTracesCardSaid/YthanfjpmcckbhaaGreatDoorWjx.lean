/- (Trace seat Z) Walk: follows of the statement's definitions, all rules. No condition but the sizes and the ranges. -/
import Derived.Test.YthanfjpmcckbhaaGreatDoorWj2
import Derived.Test.YthanfjpmcckbhaaGreatDoorWj5
import Derived.Test.YthanfjpmcckbhaaGreatDoorVz
import Derived.Test.YthanfjpmcckbhaaGreatDoorQk
namespace Go.Proofs.YthanfjpmcckbhaaGreatDoor
open Go.ChangeShapes Go.WideShapes Go.ChangeAt Go.RowKit

theorem lfollows_any (keep : Int) (r0 r1 r2 r3 r4 kv : Value) (c : Claim) (ks : List Claim) (w : World) (hc : ClaimV (fun _ => True) w (r0, r1, r2, r3, r4) c) (hks : Claims (fun _ => True) w kv ks)
    (hik : I64 keep) (hsc : SzC c) (hsk : ∀ k ∈ ks, SzC k) (hkl : ks.length ≤ 4000) :
    Calls Tryz.prog 117 #[.int .i64 keep, .agg #[r0, r1, r2, r3, r4], kv] w (BoolPost w (folS keep c ks)) := by
  by_cases h2 : c.rule = 2
  · exact lfol2_any keep r0 r1 r2 r3 r4 kv c ks w hc hks hik hsc hsk hkl (Lib.hid h2)
  by_cases h3 : c.rule = 3
  · exact lfol3_any keep r0 r1 r2 r3 r4 kv c ks w hc hks hik hsc hsk hkl (Lib.hid h3)
  by_cases h5 : c.rule = 5
  · exact lfol5_any keep r0 r1 r2 r3 r4 kv c ks w hc hks hik hsc hsk hkl (Lib.hid h5)
  exact lfol0_any keep r0 r1 r2 r3 r4 kv c ks w hc hks hik hsc hsk hkl (Lib.hid ⟨h2, h3, h5⟩)

/- (Trace seat Z) Walk: claim of the statement's definitions: CheckClaim's code. No condition but the sizes. -/
open Go.ChangeShapes Go.WideShapes Go.ChangeAt Go.RowKit
set_option linter.unusedVariables false

section push5
variable {P : Program} {ops : Array Oper} {rest : List Oper} {o : Oper} {a : Act} {Q : Exit → Act → World → Prop}
/-- append of one element of five cells, which has just been laid in a block of its own -/
theorem wpList_push5 (hgd : o.guard = none) (s x : Operand) (t : TypeId)
    (ho : o.op = .call { callee := .builtin .append, args := #[s, x], argTypes := #[t, t] })
    (E : TypeId) (z : Value) (bytes : Nat) (ht : P.underlying t = some (.slice E)) (hinfo : (P.info? E).map (fun i => (i.zero, i.size, i.bytes)) = some (some z, 5, bytes)) (hz1 : z.cells.size = 5)
    (base : Nat) (v : Value) (n : Nat) (xs : List Value) (w0 : World) (u0 u1 u2 u3 u4 : Value)
    (hs : a.eval s = v) (hx : a.eval x = .slice (some ⟨w0.heap.size, 0, none⟩) 1 1) (hown : w0.ownsRow base E 5 v n xs) (hu0 : u0.oneCell' = true) (hu1 : u1.oneCell' = true) (hu2 : u2.oneCell' = true) (hu3 : u3.oneCell' = true) (hu4 : u4.oneCell' = true)
    (hn : (n + 1) * bytes ≤ 140737488355328) (hby : 1 ≤ bytes) (hbase : base ≤ w0.heap.size)
    (h : ∀ (g cap' : Nat) w', w'.ownsRow base E 5 (.slice (some ⟨g, 0, none⟩) (n + 1) cap') (n + 1) (xs ++ [u0, u1, u2, u3, u4]) → w0.grownBy w' v.ownBlock → w0.heap.size < w'.heap.size → base ≤ g → g < w'.heap.size → (v.ownBlock = some g ∨ w0.heap.size ≤ g) → wpList P ops Q rest (a.put o.dst (.slice (some ⟨g, 0, none⟩) (n + 1) cap')) w') :
    wpList P ops Q (o :: rest) a (w0.alloc (.cells #[u0, u1, u2, u3, u4] E)) := by
  obtain ⟨i, hi, hz, h1, h2⟩ := info_parts hinfo
  have hle : n + 1 ≤ (n + 1) * bytes := Nat.le_mul_of_pos_right _ hby
  have hrow : (w0.alloc (.cells #[u0, u1, u2, u3, u4] E)).heap[w0.heap.size]? = some (.cells #[u0, u1, u2, u3, u4] E) := new_at _ _
  refine wpList_append_own_at _ hgd s x t ho base E i z 5 bytes ht hi hz h1 h2 hz1 (by decide) v n xs hs (hown.alloc _) ⟨w0.heap.size, 0, none⟩ 1 1 [u0, u1, u2, u3, u4] hx rfl ?_ ?_ ?_ hn ?_ ?_
  · intro j y hj
    have hlt : j < 5 := by
      rcases Nat.lt_or_ge j 5 with h | h
      · exact h
      · rw [List.getElem?_eq_none (by simpa using h)] at hj; cases hj
    rw [add_at, Nat.zero_add, cell_of_row _ _ _ _ _ _ hrow]
    simpa using hj
  · intro y hy; simp at hy; rcases hy with rfl | rfl | rfl | rfl | rfl <;> assumption
  · unfold maxLen; omega
  · simp; omega
  · intro v' w' hown' hg _ hat
    rcases hown'.2 with ⟨_, h0⟩ | ⟨g, cap', cur, rfl, hb, hh, _⟩
    · omega
    refine h g cap' w' hown' ⟨hg.os, hg.tape, hg.output, ?_, ?_⟩ ?_ hb (Array.getElem?_eq_some_iff.1 hh).1 ?_
    · have := hg.size; simp at this; omega
    · intro k hk hne
      rw [hg.block k (by simp; omega) hne]
      exact Below.heap_alloc w0 _ k hk
    · have := hg.size; simp at this; omega
    · rcases hat with h | h
      · exact .inl h.symm
      · right; simp [Value.ownBlock] at h; omega
end push5
theorem dblS_pow : ∀ (t : Nat) (n : Int), 0 ≤ n → n * 2 ^ t ≤ 1099511627776 → dblS t n = (n * 2 ^ t, true)
  | 0, n, _, _ => by simp [dblS]
  | t + 1, n, h0, h => by
    have e : n * 2 ^ (t + 1) = n * 2 * 2 ^ t := by rw [Int.pow_succ, Int.mul_assoc, Int.mul_comm (2 ^ t) 2]
    have hp : (1 : Int) ≤ 2 ^ t := Int.pow_pos (by omega)
    have h1 : n * 2 * 1 ≤ n * 2 * 2 ^ t := Int.mul_le_mul_of_nonneg_left hp (by omega)
    rw [dblS, if_neg (by rw [e] at h; omega), dblS_pow t (n * 2) (by omega) (by rw [← e]; exact h), e]
theorem dblS_one {L : Nat} (h : L ≤ 40) : dblS L 1 = (((2 ^ L : Nat) : Int), true) ∧ (2 ^ L : Nat) ≤ 1099511627776 := by
  have h1 : (2 ^ L : Nat) ≤ 2 ^ 40 := Nat.pow_le_pow_right (by omega) h
  have h2 : (2 ^ L : Nat) ≤ 1099511627776 := h1
  have h3 : ((2 : Int) ^ L) = ((2 ^ L : Nat) : Int) := by simp
  refine ⟨?_, h2⟩
  rw [dblS_pow L 1 (by omega) (by rw [Int.one_mul, h3]; omega), Int.one_mul, h3]

set_option maxRecDepth 100000 in
set_option maxHeartbeats 8000000 in
theorem lclaim_any (keep i : Int) (tv : Value) (ts : List Claim) (w : World) (hx : Claims (fun _ => True) w tv ts) (hik : I64 keep) (hii : I64 i) (hsz : ∀ c ∈ ts, SzC c) (hl : ts.length ≤ 4000) :
    Calls Tryz.prog 76 #[.int .i64 keep, .agg #[tv], .int .i64 i] w (CodePost w (ccM keep ts i)) := by
  obtain ⟨ta, tn, tc, rfl, HTN, htn⟩ := hx.form
  obtain ⟨tb, htb⟩ : ∃ b, w.heap.size = b := ⟨_, rfl⟩
  obtain ⟨W1, hW1⟩ : ∃ W, w.alloc (.cells #[.slice ta tn tc] 47) = W := ⟨_, rfl⟩
  have hb1 : Below w.heap.size w W1 := by rw [← hW1]; exact (Below.refl _ _).alloc (Nat.le_refl _) _
  have hs1 : W1.heap.size = tb + 1 := by rw [← hW1]; simp; omega
  have t0 : W1.cell? ⟨tb, 0, none⟩ = some (.slice ta tn tc) := by rw [← htb, ← hW1, cell_of_row _ _ _ _ _ _ (new_at _ _)]; rfl
  obtain ⟨R, hR⟩ : ∃ R, ccM keep ts i = R := ⟨_, rfl⟩
  have hR2 := hR
  unfold ccM at hR2
  rw [hR]
  have HB1 := Lib.hid hb1
  have HW1 := Lib.hid hW1
  have HTB := Lib.hid htb
  have HX := Lib.hid hx
  have HSZ := Lib.hid hsz
  have HIK := Lib.hid hik
  have hn4 : tn ≤ 4000 := by rw [HTN.out]; exact hl
  clear hR hx hsz hW1 hb1 htb hik hl
  by_cases h1 : keep < 0
  · rw [if_pos (.inl h1)] at hR2
    subst hR2
    have d1 : decide (keep < 0) = true := decide_eq_true h1
    go_enter Tryz.func76, Tryz.ntmps76
    go_wp2_with fail
    rw [HW1.out]
    go_ret
    exact ⟨rfl, HB1.out⟩
  have d1 : decide (keep < 0) = false := decide_eq_false h1
  by_cases h2 : 40 < keep
  · rw [if_pos (.inr (.inl h2))] at hR2
    subst hR2
    have d2 : decide (40 < keep) = true := decide_eq_true h2
    go_enter Tryz.func76, Tryz.ntmps76
    go_wp2_with fail
    rw [HW1.out]
    go_ret
    exact ⟨rfl, HB1.out⟩
  have d2 : decide (40 < keep) = false := decide_eq_false h2
  by_cases h3 : i < 0
  · rw [if_pos (.inr (.inr (.inl h3)))] at hR2
    subst hR2
    have d3 : decide (i < 0) = true := decide_eq_true h3
    go_enter Tryz.func76, Tryz.ntmps76
    go_wp2_with fail
    rw [HW1.out]
    go_ret
    exact ⟨rfl, HB1.out⟩
  have d3 : decide (i < 0) = false := decide_eq_false h3
  by_cases h4 : (tn : Int) ≤ i
  · rw [if_pos (.inr (.inr (.inr (by rw [← HTN.out]; exact h4))))] at hR2
    subst hR2
    have d4 : decide ((tn : Int) ≤ i) = true := decide_eq_true h4
    go_enter Tryz.func76, Tryz.ntmps76
    go_wp2_with fail
    rw [HW1.out]
    go_ret
    exact ⟨rfl, HB1.out⟩
  have d4 : decide ((tn : Int) ≤ i) = false := decide_eq_false h4
  rw [if_neg (by rintro (h | h | h | h); exact h1 h; exact h2 h; exact h3 h; exact h4 (by rw [HTN.out]; exact h))] at hR2
  obtain ⟨m, rfl⟩ : ∃ m : Nat, i = m := ⟨i.toNat, by omega⟩
  have hm : m < tn := by omega
  obtain ⟨c, hc⟩ : ∃ c, ts[m]? = some c := ⟨_, List.getElem?_eq_getElem (by rw [← HTN.out]; exact hm)⟩
  have hcg : ts.getD m clNil = c := by rw [List.getD_eq_getElem?_getD, hc]; rfl
  rw [show ((m : Nat) : Int).toNat = m by omega, hcg] at hR2
  have hscz := HSZ.out c (List.mem_of_getElem? hc)
  obtain ⟨hsc1, hsc2, hsc3⟩ := id hscz
  obtain ⟨xb, xo, cv, kv, rfl, _, hxb0, j0, j1, j2, j3, j4, hcv0⟩ := HX.out.at hc
  have k0 := below_c HB1.out hxb0 j0
  have k1 := below_c HB1.out hxb0 j1
  have k2 := below_c HB1.out hxb0 j2
  have k3 := below_c HB1.out hxb0 j3
  have k4 := below_c HB1.out hxb0 j4
  have HCV0 := Lib.hid hcv0.lt
  have hxb := Nat.lt_of_lt_of_le hxb0 HB1.out.size
  have hcv := hcv0.below HB1.out
  obtain ⟨⟨hcl, _, _, hki, _⟩, hir, hil, hic⟩ := id hcv
  obtain ⟨ca, cn, cc, rfl, _, _⟩ := hcl.form'
  obtain ⟨ka, kn, kc, rfl, HKN, hkn⟩ := hki.form'
  obtain ⟨W2, hW2⟩ : ∃ W, W1.alloc (.cells #[.slice ca cn cc, .int .i64 c.rule, .int .i64 c.lit, .slice ka kn kc, .int .i64 c.count] 52) = W := ⟨_, rfl⟩
  have hb2 : Below W1.heap.size W1 W2 := by rw [← hW2]; exact (Below.refl _ _).alloc (Nat.le_refl _) _
  have hs2 : W2.heap.size = tb + 1 + 1 := by rw [← hW2]; simp; omega
  have hrow : W2.heap[tb + 1]? = some (.cells #[.slice ca cn cc, .int .i64 c.rule, .int .i64 c.lit, .slice ka kn kc, .int .i64 c.count] 52) := by rw [← hW2]; exact new_at' _ _ hs1.symm
  have hcell : ∀ o v, #[Value.slice ca cn cc, .int .i64 c.rule, .int .i64 c.lit, .slice ka kn kc, .int .i64 c.count][o]? = some v → W2.cell? ⟨tb + 1, o, none⟩ = some v := fun o v h => by rw [cell_of_row _ _ _ _ _ _ hrow]; exact h
  have g0 := hcell 0 _ rfl
  have g1 := hcell 1 _ rfl
  have g2 := hcell 2 _ rfl
  have g3 := hcell 3 _ rfl
  have g4 := hcell 4 _ rfl
  have t02 := below_c hb2 (by omega) t0
  have HCA := Lib.hid (lcan_any _ _ c.cls W2 (Clss.below hcl hb2) hsc1 hsc2)
  have HW2 := Lib.hid hW2
  have HB2 : Hid (Below w.heap.size w W2) := Lib.hid (HB1.out.trans (hb2.mono HB1.out.size))
  have hkn4 : kn ≤ 4000 := by rw [HKN.out]; exact hsc3
  obtain ⟨C, hC⟩ : ∃ C, canB c.cls = C := ⟨_, rfl⟩
  have HCB := Lib.hid hC
  rw [hC] at hR2 HCA
  have hm0 : (0 : Int) ≤ m := by omega
  have hmi : (m : Int) < tn := by omega
  have HS1 := Lib.hid hs1
  have HSC := Lib.hid hscz
  clear hcv0 j0 j1 j2 j3 j4 hC hW2 hb2 hcl hki hcv hcell hrow hcg hc hs1 hir hil hic hscz hsc1 hsc2 hsc3 hkn
  rcases bool2 C with rfl | rfl
  case inr =>
    rw [if_pos rfl] at hR2
    subst hR2
    go_enter Tryz.func76, Tryz.ntmps76
    go_upto_region 3 with fail
    rw [HW1.out, HTB.out]
    go_wp2_with fail
    rw [HW2.out, HS1.out]
    refine HCA.out.mono ?_
    rintro e w3 ⟨rfl, hb3⟩
    have HB3 := Lib.hid (HB2.out.trans (hb3.mono HB2.out.size))
    clear hb3
    go_wp2_with fail
    go_ret
    exact ⟨rfl, HB3.out⟩
  rw [if_neg (by simp)] at hR2
  obtain ⟨L, hL⟩ : ∃ L, (keptM keep (occM c.cls)).length = L := ⟨_, rfl⟩
  have hL40 : L ≤ 40 := by rw [← hL]; exact kept_le40 (by omega)
  obtain ⟨hdb, hP40⟩ := dblS_one hL40
  obtain ⟨P, hP⟩ : ∃ P, 2 ^ L = P := ⟨_, rfl⟩
  rw [hP] at hdb hP40
  rw [hL] at hR2
  have hPI : ((2 : Int) ^ L) = (P : Int) := by rw [← hP]; simp
  rw [hPI] at hR2
  have HR2 := Lib.hid hR2
  have HL := Lib.hid hL
  have HDB := Lib.hid hdb
  clear hR2 hL hP hPI hdb
  go_enter Tryz.func76, Tryz.ntmps76
  go_upto_region 3 with fail
  rw [HW1.out, HTB.out]
  go_wp2_with fail
  rw [HW2.out, HS1.out]
  refine HCA.out.mono ?_
  rintro e w3 ⟨rfl, hb3⟩
  have a0 := below_c hb3 (by omega) g0
  have a1 := below_c hb3 (by omega) g1
  have a2 := below_c hb3 (by omega) g2
  have a3 := below_c hb3 (by omega) g3
  have a4 := below_c hb3 (by omega) g4
  have t03 := below_c hb3 (by omega) t02
  have HB3 := Lib.hid (HB2.out.trans (hb3.mono HB2.out.size))
  have hs3 := hb3.size
  have hcv3 := (HCV0.out.below HB3.out).mono (G := fun _ => True) fun _ _ => trivial
  have HKE := Lib.hid (lkept_any _ keep _ c.cls w3 hcv3.1.1 HIK.out HSC.out.1 HSC.out.2.1)
  clear hb3 g0 g1 g2 g3 g4 t02 HCA hcv3
  go_wp2_with fail
  refine HKE.out.mono ?_
  rintro e w4 ⟨v4, rfl, hb4, ho4⟩
  rw [HL.out] at ho4
  obtain ⟨pa, pc, rfl⟩ := own_form ho4
  have c0 := below_c hb4 (by omega) a0
  have c1 := below_c hb4 (by omega) a1
  have c2 := below_c hb4 (by omega) a2
  have c3 := below_c hb4 (by omega) a3
  have c4 := below_c hb4 (by omega) a4
  have t04 := below_c hb4 (by omega) t03
  have HB4 := Lib.hid (HB3.out.trans (hb4.mono HB3.out.size))
  have hs4 := hb4.size
  have HDD := Lib.hid (ldoubled_any 1 L w4 ⟨by omega, by omega⟩ (by omega))
  rw [HDB.out] at HDD
  clear hb4 ho4 HKE a0 a1 a2 a3 a4 t03
  go_wp2_with fail
  refine HDD.out.mono ?_
  rintro e w5 ⟨rfl, hw5⟩
  subst hw5
  by_cases q1 : c.count < 0
  · have hR := HR2.out
    rw [if_pos (.inl q1)] at hR
    subst hR
    have q1' : decide (c.count < 0) = true := decide_eq_true q1
    go_wp2_with fail
    go_ret
    exact ⟨rfl, HB4.out⟩
  have q1' : decide (c.count < 0) = false := decide_eq_false q1
  by_cases q2 : (P : Int) < c.count
  · have hR := HR2.out
    rw [if_pos (.inr q2)] at hR
    subst hR
    have q2' : decide ((P : Int) < c.count) = true := decide_eq_true q2
    go_wp2_with fail
    go_ret
    exact ⟨rfl, HB4.out⟩
  have q2' : decide ((P : Int) < c.count) = false := decide_eq_false q2
  have hR3 := HR2.out
  rw [if_neg (by rintro (h | h); exact q1 h; exact q2 h)] at hR3
  have HFE : Hid (∀ ks, folS keep c ks = folM keep c ks (occM c.cls)) := Lib.hid fun ks => fol_eq (canB_cn HCB.out) (by omega) (by omega)
  obtain ⟨W6, hW6⟩ : ∃ W, w5.alloc (.cells #[] 52) = W := ⟨_, rfl⟩
  obtain ⟨gb, hgb⟩ : ∃ b, w5.heap.size = b := ⟨_, rfl⟩
  have hb6 : Below w5.heap.size w5 W6 := by rw [← hW6]; exact (Below.refl _ _).alloc (Nat.le_refl _) _
  have HO0 : Hid (KidsO w W6 gb tb (.slice (some ⟨gb, 0, none⟩) 0 0) ((c.kids.take 0).map fun k => ts.getD k.toNat clNil)) := Lib.hid ⟨[], by
    rw [← hW6, ← hgb]
    refine ⟨by simp [cells5], .inr ⟨w5.heap.size, 0, #[], rfl, Nat.le_refl _, new_at _ _, by simp, by unfold maxLen; omega, by simp, by simp [cells5]⟩⟩, rfl, by simp⟩
  have HB60 : Hid (Below gb w5 W6) := Lib.hid (by rw [← hgb]; exact hb6)
  have hs6 : W6.heap.size = gb + 1 := by rw [← hW6]; simp; omega
  obtain ⟨KM, hKM⟩ : ∃ K, (c.kids.any fun k => decide (k < 0) || decide ((m : Int) ≤ k)) = K := ⟨_, rfl⟩
  rw [hKM] at hR3
  have HR3 := Lib.hid hR3
  have HK0 : Hid (((c.kids.drop 0).any fun k => decide (k < 0) || decide ((m : Int) ≤ k)) = KM) := Lib.hid hKM
  have HXL : Hid (Claims (fun b => b < tb) w (.slice (some ⟨xb, xo, none⟩) tn tc) ts) := Lib.hid (by
    obtain ⟨us, ⟨a, cap, l1, l2, l3⟩, h2, h3⟩ := HX.out
    refine ⟨us, ⟨a, cap, l1, l2, fun j u hu => ?_⟩, h2, fun j u c hu hc => by rw [← HTB.out]; exact (h3 j u c hu hc).lt⟩
    obtain ⟨b, off, f1, f2, f3⟩ := l3 j u hu
    exact ⟨b, off, f1, by rw [← HTB.out]; exact block_lt f3.1, f3⟩)
  have HKIL : Hid (Ints (fun b => b < tb) w (.slice ka kn kc) c.kids) := Lib.hid (by rw [← HTB.out]; exact HCV0.out.1.2.2.2.1)
  have HI5 := Lib.hid (show (Tryz.prog.info? 52).map (fun i => (i.zero, i.size, i.bytes)) = some (some (.agg #[.slice none 0 0, .int .i64 0, .int .i64 0, .slice none 0 0, .int .i64 0]), 5, 72) by kernel_rfl)
  have HW6 := Lib.hid hW6
  have HGB := Lib.hid hgb
  have hgb1 : tb + 2 ≤ gb := by omega
  have hbtw : ∀ b, b < tb → w5.heap[b]? = w.heap[b]? := fun b hb => HB4.out.block b (by have := HTB.out; omega)
  have HBTW := Lib.hid hbtw
  have d3 := below_c hb6 (by omega) c3
  clear hKM hR3 HR2 HX hb6 hbtw q1 q2
  go_wp2_with fail
  try rw [hW6]
  try rw [hgb]
  clear hW6 hgb
  go_loopg [10, 61] kn (fun gg u10 u61 wx => ∃ (k : Nat) (qv : Value), k + gg = kn ∧ u61 = .int .i64 k ∧ u10 = qv ∧ Hid (Below gb w5 wx) ∧ gb + 1 ≤ wx.heap.size ∧
    Hid (KidsO w wx gb tb qv ((c.kids.take k).map fun k => ts.getD k.toNat clNil)) ∧ Hid (((c.kids.drop k).any fun k => decide (k < 0) || decide ((m : Int) ≤ k)) = KM))
  case atStart => exact ⟨0, _, by omega, rfl, rfl, HB60, by omega, HO0, HK0⟩
  case round =>
  clear HB60 HO0 HK0
  obtain ⟨k, qv, hkg, rfl, rfl, HB, hsz, HO, HK⟩ := hrel
  have HLOW : Hid (∀ b, b < tb → wr.heap[b]? = w.heap[b]?) := Lib.hid fun b hb => (HB.out.block b (by omega)).trans (HBTW.out b hb)
  have HBW : Hid (Below w.heap.size w wr) := Lib.hid (HB4.out.trans (HB.out.mono (by have := HTB.out; omega)))
  have z0 := (World.cell?_of_block (a := ⟨tb + 1, 0, none⟩) (HB.out.block (tb + 1) (by omega))).trans c0
  have z1 := (World.cell?_of_block (a := ⟨tb + 1, 1, none⟩) (HB.out.block (tb + 1) (by omega))).trans c1
  have z2 := (World.cell?_of_block (a := ⟨tb + 1, 2, none⟩) (HB.out.block (tb + 1) (by omega))).trans c2
  have z3 := (World.cell?_of_block (a := ⟨tb + 1, 3, none⟩) (HB.out.block (tb + 1) (by omega))).trans c3
  have z4 := (World.cell?_of_block (a := ⟨tb + 1, 4, none⟩) (HB.out.block (tb + 1) (by omega))).trans c4
  have yt := (World.cell?_of_block (a := ⟨tb, 0, none⟩) (HB.out.block tb (by omega))).trans t04
  by_cases hk : k < kn
  · obtain ⟨x, hxk, ex⟩ := drop_at (xs := c.kids) (k := k) (by rw [← HKN.out]; exact hk)
    have hki := HKIL.out.move (w' := wr) fun b hb _ => HLOW.out b hb
    obtain ⟨yb, yo, rfl, _, hyb, hcy, hyi⟩ := hki.at hxk
    have hdk : decide ((k : Int) < kn) = true := by simp; omega
    have hdk' : decide (k < kn) = true := decide_eq_true hk
    have hKx := HK.out
    rw [ex, List.any_cons] at hKx
    have HTK := Lib.hid (kidsM_take ts c.kids k x hxk)
    clear hki ex HK hxk
    by_cases q1 : x < 0
    · have q1' : decide (x < 0) = true := decide_eq_true q1
      rw [q1', Bool.true_or, Bool.true_or] at hKx
      subst hKx
      have hR := HR3.out
      rw [if_pos rfl] at hR
      subst hR
      go_wp2_with fail
      go_ret
      exact ⟨rfl, HBW.out⟩
    have q1' : decide (x < 0) = false := decide_eq_false q1
    by_cases q2 : (m : Int) ≤ x
    · have q2' : decide ((m : Int) ≤ x) = true := decide_eq_true q2
      rw [q2', Bool.or_true, Bool.true_or] at hKx
      subst hKx
      have hR := HR3.out
      rw [if_pos rfl] at hR
      subst hR
      go_wp2_with fail
      go_ret
      exact ⟨rfl, HBW.out⟩
    have q2' : decide ((m : Int) ≤ x) = false := decide_eq_false q2
    rw [q1', q2', Bool.or_false, Bool.false_or] at hKx
    have HKX := Lib.hid hKx
    obtain ⟨p, rfl⟩ : ∃ p : Nat, x = p := ⟨x.toNat, by omega⟩
    have hpm : p < m := by omega
    obtain ⟨kid, hkid⟩ : ∃ kk, ts[p]? = some kk := ⟨_, List.getElem?_eq_getElem (by rw [← HTN.out]; omega)⟩
    have hkg2 : ts.getD ((p : Nat) : Int).toNat clNil = kid := by rw [show ((p : Nat) : Int).toNat = p by omega, List.getD_eq_getElem?_getD, hkid]; rfl
    obtain ⟨xb', xo', kcv, kkv, he, hkbl, _, j0, j1, j2, j3, j4, hkv⟩ := HXL.out.at hkid
    injection he with he
    injection he with he1 he2
    subst he1 he2
    obtain ⟨ra, rn, rc, rfl, _, _⟩ := hkv.1.1.form'
    obtain ⟨sa, sn, sc, rfl, _, _⟩ := hkv.1.2.2.2.1.form'
    have l0 := (World.cell?_of_block (a := ⟨xb, xo + p * 5, none⟩) (HLOW.out xb hkbl)).trans j0
    have l1 := (World.cell?_of_block (a := ⟨xb, xo + p * 5 + 1, none⟩) (HLOW.out xb hkbl)).trans j1
    have l2 := (World.cell?_of_block (a := ⟨xb, xo + p * 5 + 2, none⟩) (HLOW.out xb hkbl)).trans j2
    have l3 := (World.cell?_of_block (a := ⟨xb, xo + p * 5 + 3, none⟩) (HLOW.out xb hkbl)).trans j3
    have l4 := (World.cell?_of_block (a := ⟨xb, xo + p * 5 + 4, none⟩) (HLOW.out xb hkbl)).trans j4
    obtain ⟨us, hown, hul, hel⟩ := HO.out
    obtain ⟨qa, qc, hqv⟩ := own_form hown
    have hlen : ((c.kids.take k).map fun k => ts.getD k.toNat clNil).length = k := by rw [List.length_map, List.length_take]; have := HKN.out; omega
    rw [hlen] at hown hqv
    have HEL := Lib.hid hel
    have HUL := Lib.hid hul
    have HLEN := Lib.hid hlen
    have HKV := Lib.hid hkv
    have HKG := Lib.hid hkg2
    subst hqv
    have hpn : (p : Int) < tn := by omega
    have hp0 : (0 : Int) ≤ p := by omega
    have hpn' : p < tn := by omega
    clear hel hul hlen hkv hkg2 hkid j0 j1 j2 j3 j4 hKx q1 q2 HO
    go_wp2_with (at_builtin; go_loud (refine wpList_push5 rfl _ _ 45 rfl 52 (.agg #[.slice none 0 0, .int .i64 0, .int .i64 0, .slice none 0 0, .int .i64 0]) 72 Tryz.underlying45 HI5.out rfl gb (.slice qa k qc) k (cells5 us) wr (.slice ra rn rc) (.int .i64 kid.rule) (.int .i64 kid.lit) (.slice sa sn sc) (.int .i64 kid.count) rfl rfl hown rfl rfl rfl rfl rfl (by omega) (by omega) (by omega) ?_); intro g7 cap7 w7 hown7 hg7 hs7 hgb7 hgl hat; have HG7 := Lib.hid (HB.out.grown hg7 (by omega) (fun k hk => (hown.lt k hk).1)); have HO7 := Lib.hid hown7; clear hown7 hg7 hat hgb7 hgl hown)
    go_roundg (gk - 1)
    case measure => omega
    case rel =>
      have hps := KidsO.push HUL.out HEL.out HKV.out (by rw [HLEN.out]; exact HO7.out)
      rw [HLEN.out, ← HKG.out, ← HTK.out] at hps
      exact ⟨k + 1, _, by omega, by go_num, rfl, HG7, by omega, Lib.hid hps, HKX⟩
  · obtain rfl : k = kn := by omega
    have hdk : decide ((k : Int) < k) = false := by simp
    have hdk' : decide (k < k) = false := decide_eq_false (by omega)
    have hKF : KM = false := by
      have := HK.out
      rw [List.drop_eq_nil_of_le (by rw [HKN.out]; exact Nat.le_refl _), List.any_nil] at this
      exact this.symm
    subst hKF
    have hR5 := HR3.out
    rw [if_neg (by simp)] at hR5
    have hko := HO.out
    have htk : (c.kids.take k).map (fun k => ts.getD k.toNat clNil) = kidsM ts c := by rw [List.take_of_length_le (by rw [HKN.out]; exact Nat.le_refl _)]; rfl
    rw [htk] at hko
    have hkl : (kidsM ts c).length ≤ 4000 := by unfold kidsM; rw [List.length_map]; exact HSC.out.2.2
    have hkc := hko.claims HLOW.out (by omega)
    have hcvr := (HCV0.out.move (w' := wr) fun b hb _ => HLOW.out b (by rw [← HTB.out]; exact hb)).mono (G := fun _ => True) fun _ _ => trivial
    have hkz : ∀ x ∈ kidsM ts c, SzC x := fun x hx => by
      unfold kidsM at hx
      obtain ⟨y, hy, rfl⟩ := List.mem_map.1 hx
      have : ts.getD y.toNat clNil ∈ ts ∨ ts.getD y.toNat clNil = clNil := by
        rw [List.getD_eq_getElem?_getD]
        rcases h : ts[y.toNat]? with _ | z
        · exact .inr rfl
        · exact .inl (List.mem_of_getElem? h)
      rcases this with h | h
      · exact HSZ.out _ h
      · rw [h]; exact ⟨by simp [clNil], by simp [clNil], by simp [clNil]⟩
    have hfo := lfollows_any keep _ _ _ _ _ _ c (kidsM ts c) wr hcvr hkc HIK.out HSC.out hkz hkl
    rw [HFE.out] at hfo
    obtain ⟨qa, qn, qc, rfl, _, _⟩ := hkc.form
    obtain ⟨FF, hFF⟩ : ∃ F, folM keep c (kidsM ts c) (occM c.cls) = F := ⟨_, rfl⟩
    rw [hFF] at hR5 hfo
    have HFO := Lib.hid hfo
    clear hko htk hkl hkc hcvr hkz hfo hFF HO
    go_wp2_with fail
    refine HFO.out.mono ?_
    rintro e w9 ⟨rfl, hb9⟩
    have HB9 := Lib.hid (HBW.out.trans (hb9.mono HBW.out.size))
    clear hb9
    rcases bool2 FF with rfl | rfl
    · rw [if_neg (by simp)] at hR5
      subst hR5
      go_wp2_with fail
      go_ret
      exact ⟨rfl, HB9.out⟩
    · rw [if_pos rfl] at hR5
      subst hR5
      go_wp2_with fail
      go_ret
      exact ⟨rfl, HB9.out⟩

/- (Trace seat Z) Walk: check of the statement's definitions: the checker's code. No condition but the sizes. -/
open Go.ChangeShapes Go.WideShapes Go.ChangeAt Go.RowKit
set_option linter.unusedVariables false

set_option maxRecDepth 100000 in
set_option maxHeartbeats 8000000 in
theorem lchk_any (F : Nat → Prop) (vars keep : Int) (cv tv : Value) (cs : List (List Int)) (ts : List Claim) (w : World) (hc : Clss F w cv cs) (hx : Claims (fun _ => True) w tv ts) (hiv : I64 vars) (hik : I64 keep) (hsz : ∀ c ∈ ts, SzC c) (hl : ts.length ≤ 4000) (hcl : cs.length ≤ 100000) (hcll : ∀ c ∈ cs, c.length ≤ 100000) :
    Calls Tryz.prog 53 #[.agg #[.int .i64 vars, .int .i64 keep, cv], .agg #[tv]] w (CodePost w (tckM vars keep cs ts)) := by
  obtain ⟨ta, tn, tc, rfl, HTN, htn⟩ := hx.form
  obtain ⟨ca, cn, cc, rfl, HCN, hcn⟩ := hc.form'
  obtain ⟨bb, hbb⟩ : ∃ b, w.heap.size = b := ⟨_, rfl⟩
  obtain ⟨W1, hW1⟩ : ∃ W, (w.alloc (.cells #[.int .i64 vars, .int .i64 keep, .slice ca cn cc] 24)).alloc (.cells #[.slice ta tn tc] 47) = W := ⟨_, rfl⟩
  have hb1 : Below w.heap.size w W1 := by rw [← hW1]; exact ((Below.refl _ _).alloc (Nat.le_refl _) _).alloc (by simp) _
  have hs1 : W1.heap.size = bb + 1 + 1 := by rw [← hW1]; simp; omega
  have hr0 : W1.heap[bb]? = some (.cells #[.int .i64 vars, .int .i64 keep, .slice ca cn cc] 24) := by rw [← hW1]; exact old_at _ _ _ (new_at' _ _ hbb.symm)
  have hr1 : W1.heap[bb + 1]? = some (.cells #[.slice ta tn tc] 47) := by rw [← hW1]; exact new_at' _ _ (by simp; omega)
  have c0 : W1.cell? ⟨bb, 0, none⟩ = some (.int .i64 vars) := by rw [cell_of_row _ _ _ _ _ _ hr0]; rfl
  have c1 : W1.cell? ⟨bb, 1, none⟩ = some (.int .i64 keep) := by rw [cell_of_row _ _ _ _ _ _ hr0]; rfl
  have c2 : W1.cell? ⟨bb, 2, none⟩ = some (.slice ca cn cc) := by rw [cell_of_row _ _ _ _ _ _ hr0]; rfl
  have t0 : W1.cell? ⟨bb + 1, 0, none⟩ = some (.slice ta tn tc) := by rw [cell_of_row _ _ _ _ _ _ hr1]; rfl
  obtain ⟨R, hR⟩ : ∃ R, tckM vars keep cs ts = R := ⟨_, rfl⟩
  have hR2 := hR
  unfold tckM at hR2
  rw [hR]
  obtain ⟨C, hC⟩ : ∃ C, checkM vars keep cs = C := ⟨_, rfl⟩
  rw [hC] at hR2
  have hck := lcheck_any F vars keep _ cs W1 (hc.below hb1) hiv hik (by omega) (fun c hc => by have := hcll c hc; omega)
  rw [hC] at hck
  have HCK := Lib.hid hck
  have HC := Lib.hid (hc.below hb1)
  have HX := Lib.hid (hx.below hb1)
  have HB1 := Lib.hid hb1
  have HW1 := Lib.hid hW1
  have HBB := Lib.hid hbb
  have HSZ := Lib.hid hsz
  have HIK := Lib.hid hik
  have hn4 : tn ≤ 4000 := by rw [HTN.out]; exact hl
  clear hR hC hck hc hx hb1 hW1 hbb hr0 hr1 hsz hik hiv hl
  by_cases h0 : C = 0
  case neg =>
    rw [if_pos h0] at hR2
    subst hR2
    have e0 : (C != 0) = true := by simp; exact h0
    clear h0
    go_enter Tryz.func53, Tryz.ntmps53
    go_wp2_with fail
    rw [HW1.out]
    refine HCK.out.mono ?_
    rintro e w2 ⟨rfl, hb2⟩
    have HB2 := Lib.hid (HB1.out.trans (hb2.mono HB1.out.size))
    clear hb2
    go_wp2_with fail
    go_ret
    exact ⟨rfl, HB2.out⟩
  subst h0
  rw [if_neg (by simp)] at hR2
  have HR2 := Lib.hid hR2
  clear hR2
  go_enter Tryz.func53, Tryz.ntmps53
  go_wp2_with fail
  rw [HW1.out]
  refine HCK.out.mono ?_
  rintro e w2 ⟨rfl, hb2⟩
  rw [HBB.out]
  have d0 := below_c hb2 (by omega) c0
  have d1 := below_c hb2 (by omega) c1
  have d2 := below_c hb2 (by omega) c2
  have u0 := below_c hb2 (by omega) t0
  have HC2 := Lib.hid (HC.out.below hb2)
  have HX2 := Lib.hid (HX.out.below hb2)
  have HB2 := Lib.hid (HB1.out.trans (hb2.mono HB1.out.size))
  have hs2 := hb2.size
  clear hb2 c0 c1 c2 t0 HC HX HCK HW1
  by_cases h1 : 40 < keep
  · have hR := HR2.out
    rw [if_pos (.inl h1)] at hR
    subst hR
    have e1 : decide (40 < keep) = true := decide_eq_true h1
    go_wp2_with fail
    go_ret
    exact ⟨rfl, HB2.out⟩
  have e1 : decide (40 < keep) = false := decide_eq_false h1
  have e2 : decide (65536 < (tn : Int)) = false := decide_eq_false (by omega)
  have e2' : decide (65536 < tn) = false := decide_eq_false (by omega)
  have hR3 := HR2.out
  rw [if_neg (by rintro (h | h); exact h1 h; rw [← HTN.out] at h; omega)] at hR3
  by_cases h3 : tn = 0
  · rw [if_pos (by rw [← HTN.out]; exact h3)] at hR3
    subst hR3
    have e3 : ((tn : Int) == 0) = true := by simp; exact h3
    clear h3
    go_wp2_with fail
    go_ret
    exact ⟨rfl, HB2.out⟩
  have e3 : ((tn : Int) == 0) = false := by simp; exact h3
  rw [if_neg (by rw [← HTN.out]; exact h3)] at hR3
  have HR3 : Hid ((if ccGo keep ts (tn - 0) 0 ≠ 0 then ccGo keep ts (tn - 0) 0 else if ((ts.getD (ts.length - 1) clNil).cls == cs) = false then 2 else 0) = R) := Lib.hid (by rw [Nat.sub_zero, HTN.out]; exact hR3)
  have HBL : Hid (Below w2.heap.size w2 w2) := Lib.hid (Below.refl _ _)
  clear hR3 HR2 h1
  go_wp2_with fail
  go_loopg [29] tn (fun gg u29 wx => ∃ (k : Nat), k + gg = tn ∧ u29 = .int .i64 k ∧ Hid (Below w2.heap.size w2 wx) ∧ Hid ((if ccGo keep ts (tn - k) k ≠ 0 then ccGo keep ts (tn - k) k else if ((ts.getD (ts.length - 1) clNil).cls == cs) = false then 2 else 0) = R))
  case atStart => exact ⟨0, by omega, rfl, HBL, HR3⟩
  case round =>
  clear HBL HR3
  obtain ⟨k, hkg, rfl, HBX, HRK⟩ := hrel
  have hsx := HBX.out.size
  have f0 := below_c HBX.out (by omega) d0
  have f1 := below_c HBX.out (by omega) d1
  have f2 := below_c HBX.out (by omega) d2
  have g0 := below_c HBX.out (by omega) u0
  have HBF : Hid (Below w.heap.size w wr) := Lib.hid (HB2.out.trans (HBX.out.mono HB2.out.size))
  by_cases hk : k < tn
  · have hdk : decide ((k : Int) < tn) = true := by simp; omega
    have hdk' : decide (k < tn) = true := decide_eq_true hk
    have hcc := lclaim_any keep (k : Int) _ ts wr (HX2.out.below HBX.out) HIK.out ⟨by omega, by omega⟩ HSZ.out (by rw [← HTN.out]; exact hn4)
    obtain ⟨D, hD⟩ : ∃ D, ccM keep ts k = D := ⟨_, rfl⟩
    rw [hD] at hcc
    have HCC := Lib.hid hcc
    have hr := HRK.out
    obtain ⟨j, hj⟩ : ∃ j, tn - k = j + 1 := ⟨tn - k - 1, by omega⟩
    rw [hj, ccGo, hD] at hr
    by_cases hz : D = 0
    · subst hz
      rw [if_neg (show ¬ ((0 : Int) ≠ 0) by simp), show j = tn - (k + 1) by omega] at hr
      have HR := Lib.hid hr
      clear hr hj hD hcc HRK
      go_wp2_with fail
      refine HCC.out.mono ?_
      rintro e w3 ⟨rfl, hb3⟩
      have HB3 := Lib.hid (HBX.out.trans (hb3.mono HBX.out.size))
      clear hb3
      go_wp2_with fail
      go_roundg (gk - 1)
      case measure => omega
      case rel => exact ⟨k + 1, by omega, by go_num, HB3, HR⟩
    · have hr2 : D = R := by rw [← hr]; simp [hz]
      subst hr2
      have ez : (D != 0) = true := by simp; exact hz
      clear hr hj hD hcc hz HRK
      go_wp2_with fail
      refine HCC.out.mono ?_
      rintro e w3 ⟨rfl, hb3⟩
      have HB3 := Lib.hid (HBF.out.trans (hb3.mono HBF.out.size))
      clear hb3
      go_wp2_with fail
      go_ret
      exact ⟨rfl, HB3.out⟩
  obtain rfl : k = tn := by omega
  have hdk : decide ((k : Int) < k) = false := by simp
  have hdk' : decide (k < k) = false := decide_eq_false (by omega)
  have hr := HRK.out
  rw [Nat.sub_self, ccGo, if_neg (by simp)] at hr
  obtain ⟨c, hc⟩ : ∃ c, ts[k - 1]? = some c := ⟨_, List.getElem?_eq_getElem (by rw [← HTN.out]; omega)⟩
  have hcg : ts.getD (ts.length - 1) clNil = c := by rw [← HTN.out, List.getD_eq_getElem?_getD, hc]; rfl
  rw [hcg] at hr
  obtain ⟨xb, xo, xcv, xkv, rfl, _, hxb, j0, _, _, _, _, ⟨⟨hxc, _⟩, _⟩⟩ := (HX2.out.below HBX.out).at hc
  obtain ⟨xa, xn, xc, rfl, _, _⟩ := hxc.form'
  obtain ⟨E, hE⟩ : ∃ E, (c.cls == cs) = E := ⟨_, rfl⟩
  rw [hE] at hr
  have hxc : Clss (fun _ => True) wr (.slice xa xn xc) c.cls := hxc
  have hbl := fun n => below_drewN (Below.refl wr.heap.size wr) n
  have heq := fun n => lequal_any _ _ _ _ (wr.drewN n) (hxc.below (hbl n)) ((HC2.out.below HBX.out).below (hbl n))
  rw [hE] at heq
  have HEQ := Lib.hid heq
  have HR := Lib.hid hr
  obtain ⟨m, hm⟩ : ∃ m, k = m + 1 := ⟨k - 1, by omega⟩
  have hw1 : IntKind.i64.wrap ((k : Int) - 1) = (m : Int) := by rw [IntWalk.i64_in _ ⟨by omega, by omega⟩]; omega
  have hmk : (m : Int) < k := by omega
  have hm0 : (0 : Int) ≤ m := by omega
  have hmk' : m < k := by omega
  rw [show k - 1 = m by omega] at j0
  have hkl : bb + 1 < wr.heap.size := by omega
  clear hr hE heq hcg hc hxc HRK hbl hm hkg
  go_upto_region 15 with fail
  go_quiet ((go_at_call 57; first | exact Calls.quiet_of (HEQ.out _) | exact quiet_add (HEQ.out _)))
  rcases bool2 E with rfl | rfl
  · have hr := HR.out
    rw [if_neg (by simp)] at hr
    subst hr
    go_wp2_with fail
    go_ret
    exact ⟨rfl, below_drewN HBF.out _⟩
  · have hr := HR.out
    rw [if_pos rfl] at hr
    subst hr
    go_wp2_with fail
    go_ret
    exact ⟨rfl, below_drewN HBF.out _⟩

end Go.Proofs.YthanfjpmcckbhaaGreatDoor
