/- (Text seat) Walk: cnf.Parse. Condition: the tables and strconv.ErrSyntax lie as laid. -/
import Derived.Test.YthkpobipndifoaaGreatDoorMu
import Derived.Test.YthkpobipndifoaaGreatDoorMw
import Derived.Test.YthkpobipndifoaaGreatDoorKz
namespace Go.Proofs.YthkpobipndifoaaGreatDoor
open Go.ChangeShapes Go.WideShapes Go.ChangeAt Go.RowKit Go.Lib
set_option linter.unusedVariables false
set_option linter.unusedSimpArgs false

theorem PaS.setK {w : World} {R C : Nat} {vars keep k' : Int} {v : Value} {cs : List (List Int)} (h : PaS w R C vars keep v cs) : PaS (w.setCell ⟨C, 1, none⟩ (.int .i64 k')) R C vars k' v cs := by
  obtain ⟨us, h1, h2, h3⟩ := h.rows
  exact ⟨set_ne (by omega) h.c0, set_eq h.c1, set_ne (by omega) h.c2, fun o => by rw [World.frozen?_setCell]; exact h.fz o,
    ⟨us, own_same h1 fun b e => Below.heap_setCell _ _ _ _ (by have := (h1.lt b e).1; show b ≠ C; omega), h2, fun j u x hu hx => (h3 j u x hu hx).move fun b hb _ => Below.heap_setCell _ _ _ _ (by have := hb.1; show b ≠ C; omega)⟩, h.lt⟩
theorem kpr_setHi {R C o : Nat} {v : Value} {w w' : World} (h : KpR R w w') (hC : w.heap.size ≤ C) : KpR R w (w'.setCell ⟨C, o, none⟩ v) :=
  ⟨h.os, h.tape, h.output, by simpa using h.size, fun k hk hne => (Below.heap_setCell _ _ _ _ (show k ≠ C by omega)).trans (h.block k hk hne)⟩
theorem kpr_grown {R : Nat} {w w1 w2 : World} {row : Option Nat} (h : KpR R w w1) (h2 : w1.grownBy w2 row) (hr : ∀ b, row = some b → w.heap.size ≤ b) : KpR R w w2 :=
  ⟨h2.os.trans h.os, h2.tape.trans h.tape, h2.output.trans h.output, Nat.le_trans h.size h2.size, fun k hk hne => (h2.block k (Nat.lt_of_lt_of_le hk h.size) (fun e => by have := hr k e.symm; omega)).trans (h.block k hk hne)⟩
def resV : Option (Int × Int × List (List Int)) → Int × Int × List (List Int) × Int
  | some (v, k, cs) => if checkM v k cs = 0 then (v, k, cs, 0) else (0, 0, [], 6)
  | none => (0, 0, [], 6)
def ParPost (W : World) (t : Bts) (e : Ending) (w' : World) : Prop :=
  ∃ v, e = .returned (.tuple #[.agg #[.int .i64 (resV (parseM t)).1, .int .i64 (resV (parseM t)).2.1, v], .int .i64 (resV (parseM t)).2.2.2]) ∧ Clss (fun _ => True) w' v (resV (parseM t)).2.2.1 ∧ Below W.heap.size W w'
set_option maxRecDepth 100000 in
set_option maxHeartbeats 32000000 in
theorem parse_any (B0 : Nat) (T : ByteArray) (t : Bts) (w : World) (hT : T = BA t) (htl : t.length ≤ 4194304) (ht : TabT B0 w) (hy : SynT B0 w) (hB : B0 ≤ w.heap.size) :
    Calls Tryz.prog 6 #[.string T] w (ParPost w t) := by
  obtain ⟨q, hq⟩ : ∃ b, w.heap.size = b := ⟨_, rfl⟩
  obtain ⟨R, hR⟩ : ∃ R, q + 1 = R := ⟨_, rfl⟩
  obtain ⟨W2, hW2⟩ : ∃ W, (w.alloc (.cells #[.int .i64 0, .int .i64 0, .slice none 0 0] 25)).alloc (.cells #[.string T, .int .i64 0, .bool false] 48) = W := ⟨_, rfl⟩
  have hb2 : Below w.heap.size w W2 := by rw [← hW2]; exact ((Below.refl _ _).alloc (Nat.le_refl _) _).alloc (by simp) _
  have hs2 : W2.heap.size = R + 1 := by rw [← hW2]; simp; omega
  have hrq : W2.heap[q]? = some (.cells #[.int .i64 0, .int .i64 0, .slice none 0 0] 25) := by rw [← hW2]; exact old_at _ _ _ (new_at' _ _ hq.symm)
  have hrR : W2.heap[R]? = some (.cells #[.string T, .int .i64 0, .bool false] 48) := by rw [← hW2]; exact new_at' _ _ (by simp; omega)
  have q0 : W2.cell? ⟨q, 0, none⟩ = some (.int .i64 0) := by rw [cell_of_row _ _ _ _ _ _ hrq]; rfl
  have q1 : W2.cell? ⟨q, 1, none⟩ = some (.int .i64 0) := by rw [cell_of_row _ _ _ _ _ _ hrq]; rfl
  have q2 : W2.cell? ⟨q, 2, none⟩ = some (.slice none 0 0) := by rw [cell_of_row _ _ _ _ _ _ hrq]; rfl
  have HQF : Hid (∀ o, W2.frozen? ⟨q, o, none⟩ = false) := Lib.hid fun o => by simp only [World.frozen?, hrq]; simp
  have HR0 : Hid (RdS W2 R T 0 false) := Lib.hid ⟨by rw [cell_of_row _ _ _ _ _ _ hrR]; rfl, by rw [cell_of_row _ _ _ _ _ _ hrR]; rfl, by rw [cell_of_row _ _ _ _ _ _ hrR]; rfl, fun o => by simp only [World.frozen?, hrR]; simp⟩
  have hsz : T.size = t.length := by rw [hT, ba_size]
  have hd0 : decide (4194304 < (T.size : Int)) = false := decide_eq_false (by omega)
  have hd0' : decide (4194304 < T.size) = false := decide_eq_false (by omega)
  have HT2 := Lib.hid (ht.below hb2 hB)
  have HY2 := Lib.hid (hy.below hb2 hB)
  have hBR : B0 ≤ R := by omega
  have HWD : Hid (∀ wi a b s wd, KpR R W2 wi → RdS wi R T a b → a ≤ t.length → s = BA wd → wd.length ≤ 100 → Calls Tryz.prog 15 #[.pointer (some ⟨R, 0, none⟩), .string s] wi (WrdPost wi R T t a b wd)) := Lib.hid fun wi a b s wd hk hr ha hs hl => word_any R T t a b s wd wi hr hT ha (by omega) hs hl
  have HNM : Hid (∀ wi a b, KpR R W2 wi → RdS wi R T a b → a ≤ t.length → Calls Tryz.prog 16 #[.pointer (some ⟨R, 0, none⟩)] wi (NumPost wi R T t a b)) := Lib.hid fun wi a b hk hr ha => rnumber_any B0 R T t a b wi hr hT ha (by omega) (HT2.out.on (kpr_b hk hBR (by omega))) (HY2.out.on (kpr_b hk hBR (by omega))) hBR
  have HK0 : Hid (KpR R W2 W2) := Lib.hid (kpr_below (Below.refl _ _))
  have HB2 := Lib.hid hb2
  have HW2 := Lib.hid hW2
  have HQ := Lib.hid hq
  have HRE := Lib.hid hR
  have HS2 := Lib.hid hs2
  have HSZ := Lib.hid hsz
  have HTL := Lib.hid htl
  clear hb2 hrq hrR hsz ht hy hB hT hW2 hq hR hs2 htl
  go_enter Tryz.func6, Tryz.ntmps6
  go_upto_region 4 with fail
  try rw [HW2.out, HQ.out, HRE.out]
  clear HW2
  have ha0 : 0 ≤ t.length := Nat.zero_le _
  go_wp2_with fail
  refine (HWD.out _ _ _ _ wPcnf HK0.out HR0.out ha0 rfl (by decide)).mono ?_
  rintro e w1 ⟨a1, rfl, hr, ha1, hd, hk⟩
  have HD1 := Lib.hid hd
  have HR1 := Lib.hid hr
  have HK1 := Lib.hid (kpr_trans HK0.out hk)
  clear hr hd hk
  go_wp2_with fail
  refine (HNM.out _ _ _ HK1.out HR1.out ha1).mono ?_
  rintro e w2 ⟨a2, rfl, hr, ha2, hd, hk⟩
  have HD2 := Lib.hid hd
  have HR2 := Lib.hid hr
  have HK2 := Lib.hid (kpr_trans HK1.out hk)
  clear hr hd hk
  obtain ⟨C, hC⟩ : ∃ C, w2.heap.size = C := ⟨_, rfl⟩
  obtain ⟨V, hV⟩ : ∃ V, numV (t.drop a1) = V := ⟨_, rfl⟩
  have hRC : R < C := by have := HK2.out.size; have := HS2.out; omega
  obtain ⟨W5, hW5⟩ : ∃ W, w2.alloc (.cells #[.int .i64 V, .int .i64 0, .slice none 0 0] 25) = W := ⟨_, rfl⟩
  have hb5 : Below w2.heap.size w2 W5 := by rw [← hW5]; exact (Below.refl _ _).alloc (Nat.le_refl _) _
  have hr5 : W5.heap[C]? = some (.cells #[.int .i64 V, .int .i64 0, .slice none 0 0] 25) := by rw [← hW5]; exact new_at' _ _ hC.symm
  have HP2 : Hid (PaS W5 R C V 0 (.slice none 0 0) []) := Lib.hid ⟨by rw [cell_of_row _ _ _ _ _ _ hr5]; rfl, by rw [cell_of_row _ _ _ _ _ _ hr5]; rfl, by rw [cell_of_row _ _ _ _ _ _ hr5]; rfl, fun o => by simp only [World.frozen?, hr5]; simp, ⟨[], World.ownsRow_nil _ _ _ _, rfl, by simp⟩, hRC⟩
  have HRb := Lib.hid (HR2.out.below hb5)
  have HKb := Lib.hid (kpr_trans HK2.out (kpr_below hb5))
  have HW5 := Lib.hid hW5
  have HCC := Lib.hid hC
  have HVV := Lib.hid hV
  have HV64 : Hid (I64 V) := Lib.hid (by rw [← hV]; exact val_i64 (tok_len _))
  clear hb5 hr5 hW5 hC
  rw [hV]
  clear hV
  go_upto_region 6 with fail
  try rw [HW5.out, HCC.out]
  clear HW5
  go_wp2_with fail
  refine (HWD.out _ _ _ _ wSp HKb.out HRb.out ha2 rfl (by decide)).mono ?_
  rintro e w3 ⟨a3, rfl, hr, ha3, hd, hk⟩
  have HD3 := Lib.hid hd
  have HR3 := Lib.hid hr
  have HK3 := Lib.hid (kpr_trans HKb.out hk)
  have HP3 := Lib.hid (HP2.out.kp hk)
  clear hr hd hk
  go_wp2_with fail
  refine (HNM.out _ _ _ HK3.out HR3.out ha3).mono ?_
  rintro e w4 ⟨a4, rfl, hr, ha4, hd, hk⟩
  have HD4 := Lib.hid hd
  have HR4 := Lib.hid hr
  have HK4 := Lib.hid (kpr_trans HK3.out hk)
  have HP4 := Lib.hid (HP3.out.kp hk)
  clear hr hd hk
  obtain ⟨NC, hNC⟩ : ∃ V, numV (t.drop a3) = V := ⟨_, rfl⟩
  have HNC := Lib.hid hNC
  have HN64 : Hid (I64 NC) := Lib.hid (by rw [← hNC]; exact val_i64 (tok_len _))
  rw [hNC]
  clear hNC
  go_wp2_with fail
  refine (HWD.out _ _ _ _ wKeep HK4.out HR4.out ha4 rfl (by decide)).mono ?_
  rintro e w5 ⟨a5, rfl, hr, ha5, hd, hk⟩
  have HD5 := Lib.hid hd
  have HR5 := Lib.hid hr
  have HK5 := Lib.hid (kpr_trans HK4.out hk)
  have HP5 := Lib.hid (HP4.out.kp hk)
  clear hr hd hk
  go_wp2_with fail
  refine (HNM.out _ _ _ HK5.out HR5.out ha5).mono ?_
  rintro e w6 ⟨a6, rfl, hr, ha6, hd, hk⟩
  have HD6 := Lib.hid hd
  have HR6 := Lib.hid hr
  have HK6 := Lib.hid (kpr_trans HK5.out hk)
  have HP6 := Lib.hid (HP5.out.kp hk)
  clear hr hd hk
  obtain ⟨KE, hKE⟩ : ∃ V, numV (t.drop a5) = V := ⟨_, rfl⟩
  have HKE := Lib.hid hKE
  have HKE64 : Hid (I64 KE) := Lib.hid (by rw [← hKE]; exact val_i64 (tok_len _))
  rw [hKE]
  clear hKE
  have y1 := HP6.out.c1
  have yf1 := HP6.out.fz 1
  obtain ⟨W9, hW9⟩ : ∃ W, w6.setCell ⟨C, 1, none⟩ (.int .i64 KE) = W := ⟨_, rfl⟩
  have HPc : Hid (PaS W9 R C V KE (.slice none 0 0) []) := Lib.hid (by rw [← hW9]; exact HP6.out.setK)
  have HRc : Hid (RdS W9 R T a6 _) := Lib.hid (by rw [← hW9]; exact HR6.out.same (Below.heap_setCell _ _ _ _ (show R ≠ C by omega)))
  have HKc : Hid (KpR R W2 W9) := Lib.hid (by rw [← hW9]; exact kpr_setHi HK6.out (by have := HS2.out; omega))
  have HW9 := Lib.hid hW9
  clear hW9
  go_upto_region 10 with fail
  try rw [HW9.out]
  clear HW9 y1 yf1
  go_wp2_with fail
  refine (HWD.out _ _ _ _ wNl HKc.out HRc.out ha6 rfl (by decide)).mono ?_
  rintro e w7 ⟨a7, rfl, hr, ha7, hd, hk⟩
  have HD7 := Lib.hid hd
  have HR7 := Lib.hid hr
  have HK7 := Lib.hid (kpr_trans HKc.out hk)
  have HP7 := Lib.hid (HPc.out.kp hk)
  clear hr hd hk
  obtain ⟨bb, hbb⟩ : ∃ b, (hdM t).bad = b := ⟨_, rfl⟩
  have HHD : Hid (hdM t = ⟨V, NC, KE, t.drop a7, bb⟩) := Lib.hid (by
    rw [← hbb]
    have e1 := HD1.out; have e2 := HD2.out; have e3 := HD3.out; have e4 := HD4.out; have e5 := HD5.out; have e6 := HD6.out; have e7 := HD7.out
    rw [List.drop_zero] at e1
    unfold hdM
    simp only
    rw [← e1, ← e2, ← e3, ← e4, ← e5, ← e6, ← e7, HVV.out, HNC.out, HKE.out])
  have HRd : Hid (RdS w7 R T a7 bb) := Lib.hid (by
    have h := HR7.out
    have e1 := HD1.out; have e2 := HD2.out; have e3 := HD3.out; have e4 := HD4.out; have e5 := HD5.out; have e6 := HD6.out
    rw [List.drop_zero] at e1 h
    rw [e6, e5, e4, e3, e2, e1] at h
    rw [← hbb]
    unfold hdM
    simp only
    simpa using h)
  obtain ⟨RES, hRES⟩ : ∃ X, outM ((t.drop a7).length + 1) (t.drop a7) bb [] = X := ⟨_, rfl⟩
  have HPM : Hid (parseM t = if RES.2.2 = true ∨ NC ≠ RES.1.length then none else some (V, KE, RES.1)) := Lib.hid (by unfold parseM; rw [HHD.out]; simp only; rw [hRES])
  have HO0 := Lib.hid hRES
  have HF0 : Hid (bb = false → (t.drop a7).length + 1 ≤ (t.drop a7).length + 1) := Lib.hid fun _ => Nat.le_refl _
  clear hRES hbb HR1 HR2 HR3 HR4 HR5 HR6 HR7 HK1 HK2 HK3 HK4 HK5 HK6 HD1 HD2 HD3 HD4 HD5 HD6 HD7 HP2 HP3 HP4 HP5 HP6 HRb HKb HRc HKc HPc HVV HNC HKE HR0 HK0 HHD
  go_wp2_with fail
  go_loopg [7] ((t.drop a7).length + 1) (fun gg u7 wx => ∃ (a : Nat) (b : Bool) (oa : Option Addr) (on oc : Nat) (cs : List (List Int)), Hid (RdS wx R T a b) ∧ a ≤ t.length ∧ Hid (KpR R W2 wx) ∧ Hid (on = cs.length) ∧ Hid (PaS wx R C V KE (.slice oa on oc) cs) ∧ Hid (outM gg (t.drop a) b cs = RES) ∧ Hid (b = false → (t.drop a).length + 1 ≤ gg) ∧ Hid (on ≤ t.length) ∧ Hid (b = false → on + (t.drop a).length ≤ t.length) ∧ Hid (∀ c ∈ cs, c.length ≤ t.length))
  case atStart => exact ⟨a7, bb, none, 0, 0, [], HRd, ha7, HK7, Lib.hid rfl, HP7, HO0, HF0, Lib.hid (Nat.zero_le _), Lib.hid (fun _ => by simp), Lib.hid (by simp)⟩
  case round =>
  clear HRd HK7 HP7 HO0 HF0
  obtain ⟨a, b, oa, on, oc, cs, HRA, haa, HKA, HON, HPA, HOA, HFA, HLO, HLA, HCL⟩ := hrel
  rcases bool2 b with rfl | rfl
  · -- a fault was met
    have HN : Hid (resV (parseM t) = (0, 0, [], 6)) := Lib.hid (by rw [HPM.out, ← HOA.out, out_stop _ _ _ _ (.inl rfl), if_pos (.inl rfl)]; rfl)

    have hqW : q < W2.heap.size := by have := HS2.out; have := HRE.out; omega
    have hqR : q ≠ R := by have := HRE.out; omega
    have hqb := HKA.out.block q hqW (fun e => hqR (by injection e))
    have z0 := (World.cell?_of_block hqb).trans q0
    have z1 := (World.cell?_of_block hqb).trans q1
    have z2 := (World.cell?_of_block hqb).trans q2
    have zf : ∀ o, wr.frozen? ⟨q, o, none⟩ = false := fun o => (World.frozen?_of_block (a := ⟨q, o, none⟩) hqb).trans (HQF.out o)
    have zf0 := zf 0
    have zf1 := zf 1
    have zf2 := zf 2
    have HBE : Hid (Below w.heap.size w wr) := Lib.hid (HB2.out.trans (kpr_b HKA.out (by rw [HQ.out]; have := HRE.out; omega) (by rw [HQ.out]; omega)))
    have rc0 := HRA.out.c0
    have rc1 := HRA.out.c1
    have rc2 := HRA.out.c2
    have pc2 := HPA.out.c2

    clear zf hqb HOA HPM HRA HPA HKA
    go_wp2_with fail

    obtain ⟨v0, v1, v2⟩ := set3_at (x := .int .i64 0) (y := .int .i64 0) (z := .slice none 0 0) z0 z1 z2
    refine bodyPost_ret (v := .tuple #[.agg #[.int .i64 0, .int .i64 0, .slice none 0 0], .int .i64 6]) (by simp [results, Tryz.results6, go_sem, v0, v1, v2]) rfl ?_
    refine ⟨.slice none 0 0, by rw [HN.out], by rw [HN.out]; exact Rows1.nil _ _, set3_below _ _ _ HBE.out (by rw [HQ.out]; exact Nat.le_refl _)⟩
  by_cases hst : t.drop a = []
  case pos =>
    have HST := Lib.hid hst
    have hal : t.length ≤ a := drop_nil hst
    have hlt : decide ((a : Int) < T.size) = false := decide_eq_false (by have := HSZ.out; omega)
    have hlt' : decide (a < T.size) = false := decide_eq_false (by have := HSZ.out; omega)
    clear hst
    have HRS : Hid (RES = (cs, t.drop a, false)) := Lib.hid (by rw [← HOA.out, out_stop _ _ _ _ (.inr HST.out)])

    have hqW : q < W2.heap.size := by have := HS2.out; have := HRE.out; omega
    have hqR : q ≠ R := by have := HRE.out; omega
    have hqb := HKA.out.block q hqW (fun e => hqR (by injection e))
    have z0 := (World.cell?_of_block hqb).trans q0
    have z1 := (World.cell?_of_block hqb).trans q1
    have z2 := (World.cell?_of_block hqb).trans q2
    have zf : ∀ o, wr.frozen? ⟨q, o, none⟩ = false := fun o => (World.frozen?_of_block (a := ⟨q, o, none⟩) hqb).trans (HQF.out o)
    have zf0 := zf 0
    have zf1 := zf 1
    have zf2 := zf 2
    have HBE : Hid (Below w.heap.size w wr) := Lib.hid (HB2.out.trans (kpr_b HKA.out (by rw [HQ.out]; have := HRE.out; omega) (by rw [HQ.out]; omega)))
    have rc0 := HRA.out.c0
    have rc1 := HRA.out.c1
    have rc2 := HRA.out.c2
    have pc2 := HPA.out.c2

    have pc0 := HPA.out.c0
    have pc1 := HPA.out.c1
    by_cases hcnt : NC = (on : Int)
    case neg =>
      have HN : Hid (resV (parseM t) = (0, 0, [], 6)) := Lib.hid (by rw [HPM.out, HRS.out, if_pos (.inr (by show NC ≠ (cs.length : Int); rw [← HON.out]; exact hcnt))]; rfl)
      have hne : (NC != (on : Int)) = true := by simp; exact hcnt
      clear zf hqb HOA HPM HRA HPA HKA hcnt
      go_wp2_with fail
      obtain ⟨v0, v1, v2⟩ := set3_at (x := .int .i64 0) (y := .int .i64 0) (z := .slice none 0 0) z0 z1 z2
      refine bodyPost_ret (v := .tuple #[.agg #[.int .i64 0, .int .i64 0, .slice none 0 0], .int .i64 6]) (by simp [results, Tryz.results6, go_sem, v0, v1, v2]) rfl ?_
      refine ⟨.slice none 0 0, by rw [HN.out], by rw [HN.out]; exact Rows1.nil _ _, set3_below _ _ _ HBE.out (by rw [HQ.out]; exact Nat.le_refl _)⟩
    have hne : (NC != (on : Int)) = false := by simp; exact hcnt
    obtain ⟨E, hE⟩ : ∃ E, checkM V KE cs = E := ⟨_, rfl⟩
    have HN : Hid (resV (parseM t) = if E = 0 then (V, KE, cs, 0) else (0, 0, [], 6)) := Lib.hid (by
      rw [HPM.out, HRS.out, if_neg (by
        rintro (h | h)
        · cases h
        · exact h (by show NC = (cs.length : Int); rw [← HON.out]; exact hcnt)), ← hE]
      rfl)
    have HCK := Lib.hid (check_any _ V KE _ cs wr (HPA.out.clss (by have := HLO.out; have := HON.out; have := HTL.out; omega)) HV64.out HKE64.out)
    rw [hE] at HCK
    have HCLS : Hid (Clss (fun b => C + 1 ≤ b) wr (.slice oa on oc) cs) := Lib.hid (HPA.out.clss (by have := HLO.out; have := HON.out; have := HTL.out; omega))
    clear hE hcnt HOA HPM zf hqb HRA HPA HKA
    go_wp2_with fail
    refine HCK.out.mono ?_
    rintro e we ⟨rfl, hbe⟩
    have hqw : q < wr.heap.size := block_lt z0
    have hCw : C < wr.heap.size := block_lt pc0
    have z0 := below_c hbe hqw z0
    have z1 := below_c hbe hqw z1
    have z2 := below_c hbe hqw z2
    have zf0 := below_z hbe hqw zf0
    have zf1 := below_z hbe hqw zf1
    have zf2 := below_z hbe hqw zf2
    have pc0 := below_c hbe hCw pc0
    have pc1 := below_c hbe hCw pc1
    have pc2 := below_c hbe hCw pc2
    have HBE := Lib.hid (HBE.out.trans (hbe.mono HBE.out.size))
    have HCLS := Lib.hid (Clss.below HCLS.out hbe)
    clear hbe HCK
    by_cases hE0 : E = 0
    case neg =>
      rw [if_neg hE0] at HN
      have hEn : (E != 0) = true := by simp; exact hE0
      clear hE0 HCLS
      go_wp2_with fail
      obtain ⟨v0, v1, v2⟩ := set3_at (x := .int .i64 0) (y := .int .i64 0) (z := .slice none 0 0) z0 z1 z2
      refine bodyPost_ret (v := .tuple #[.agg #[.int .i64 0, .int .i64 0, .slice none 0 0], .int .i64 6]) (by simp [results, Tryz.results6, go_sem, v0, v1, v2]) rfl ?_
      refine ⟨.slice none 0 0, by rw [HN.out], by rw [HN.out]; exact Rows1.nil _ _, set3_below _ _ _ HBE.out (by rw [HQ.out]; exact Nat.le_refl _)⟩
    rw [if_pos hE0] at HN
    subst hE0
    go_wp2_with fail
    obtain ⟨v0, v1, v2⟩ := set3_at (x := .int .i64 V) (y := .int .i64 KE) (z := .slice oa on oc) z0 z1 z2
    refine bodyPost_ret (v := .tuple #[.agg #[.int .i64 V, .int .i64 KE, .slice oa on oc], .int .i64 0]) (by simp [results, Tryz.results6, go_sem, v0, v1, v2]) rfl ?_
    refine ⟨.slice oa on oc, by rw [HN.out], ?_, set3_below _ _ _ HBE.out (by rw [HQ.out]; exact Nat.le_refl _)⟩
    rw [HN.out]
    have hqC : q < C := by have := HRE.out; omega
    exact Rows1.mono (fun _ _ _ _ _ h hg => h.mono hg) (Rows1.move (fun _ _ _ _ _ h hm => h.move hm) HCLS.out fun b hb _ => set3_block _ _ _ (by have : C + 1 ≤ b := hb; omega)) fun _ _ => trivial
  have HNE := Lib.hid hst
  have hal : a < t.length := by
    rcases Nat.lt_or_ge a t.length with h | h
    · exact h
    · exact absurd (List.drop_eq_nil_of_le h) hst
  have hlt : decide ((a : Int) < T.size) = true := decide_eq_true (by have := HSZ.out; omega)
  have hlt' : decide (a < T.size) = true := decide_eq_true (by have := HSZ.out; omega)
  have HFB : Hid ((t.drop a).length + 1 ≤ gk) := Lib.hid (HFA.out rfl)
  have HLB2 : Hid (on + (t.drop a).length ≤ t.length) := Lib.hid (HLA.out rfl)
  have HDA : Hid ((t.drop a).length ≤ t.length) := Lib.hid (by simp)
  clear HFA HLA
  have HGP : Hid (2 ≤ gk) := Lib.hid (by have := HFB.out; have := List.length_pos_iff.2 hst; omega)
  obtain ⟨GK, hGK⟩ : ∃ G, G = gk := ⟨_, rfl⟩
  subst hGK
  obtain ⟨LB, hLBe⟩ : ∃ g, wr.heap.size = g := ⟨_, rfl⟩
  obtain ⟨WO, hWO⟩ : ∃ W, W = wr := ⟨_, rfl⟩
  subst hWO
  have HLB := Lib.hid hLBe
  have hCL : C < LB := by rw [← hLBe]; exact block_lt HPA.out.c0
  have rc0 := HRA.out.c0
  have rc1 := HRA.out.c1
  have rc2 := HRA.out.c2
  have HINN := Lib.hid (show (Tryz.prog.info? 38).map (fun i => (i.zero, i.size, i.bytes)) = some (some (.slice none 0 0), 1, 24) by kernel_rfl)
  have HINI := Lib.hid (show (Tryz.prog.info? 3).map (fun i => (i.zero, i.size, i.bytes)) = some (some (.int .i64 0), 1, 8) by kernel_rfl)
  clear hst hLBe
  go_wp2_with fail
  refine (HNM.out _ _ _ HKA.out HRA.out haa).mono ?_
  rintro e w8 ⟨a0, rfl, hr0, ha0', hd0, hk0⟩
  have HXE0 : Hid (inH ((t.drop a).length + 1) (t.drop a0) (false || numB (t.drop a)) (numV (t.drop a)) [] = inM ((t.drop a).length + 2) (t.drop a) false []) := Lib.hid (by rw [in_head, hd0])
  have HBF0 : Hid ((false || numB (t.drop a)) = false → ([] : List Int).length + 1 + (t.drop a0).length ≤ (t.drop a).length) := Lib.hid fun h => by
    have := num_lt (or_false' h).2
    rw [hd0]
    show 0 + 1 + _ ≤ _
    omega
  have HLL0 : Hid (([] : List Int).length + (t.drop a0).length ≤ (t.drop a).length) := Lib.hid (by rw [hd0]; have := num_le (t.drop a); show 0 + _ ≤ _; omega)
  have HFF0 : Hid ((false || numB (t.drop a)) = false → (t.drop a0).length + 1 ≤ (t.drop a).length + 1) := Lib.hid fun h => by have := num_lt (or_false' h).2; rw [hd0]; omega
  have HRI0 := Lib.hid hr0
  have HKI0 := Lib.hid hk0
  have HN64 : Hid (I64 (numV (t.drop a))) := Lib.hid (val_i64 (tok_len _))
  have HLR0 : Hid (w8.ownsRow LB 3 1 (.slice none 0 0) 0 (([] : List Int).map (.int .i64))) := Lib.hid (World.ownsRow_nil _ _ _ _)
  clear hr0 hd0 hk0 rc0 rc1 rc2
  go_wp2_with fail
  go_loopg [7, 8] ((t.drop a).length + 1) (fun gg u7 u8 wx => ∃ (a1 : Nat) (b1 : Bool) (n : Int) (la : Option Addr) (ln lc : Nat) (l : List Int), u7 = .slice la ln lc ∧ u8 = .int .i64 n ∧ Hid (RdS wx R T a1 b1) ∧ a1 ≤ t.length ∧ Hid (KpR R WO wx) ∧ Hid (ln = l.length) ∧ Hid (wx.ownsRow LB 3 1 (.slice la ln lc) ln (l.map (.int .i64))) ∧ Hid (inH gg (t.drop a1) b1 n l = inM ((t.drop a).length + 2) (t.drop a) false []) ∧ Hid (b1 = false → (t.drop a1).length + 1 ≤ gg) ∧ Hid (b1 = false → l.length + 1 + (t.drop a1).length ≤ (t.drop a).length) ∧ Hid (l.length + (t.drop a1).length ≤ (t.drop a).length) ∧ Hid (∀ x ∈ l, I64 x) ∧ Hid (I64 n))
  case atStart => exact ⟨a0, _, _, none, 0, 0, [], rfl, rfl, HRI0, ha0', HKI0, Lib.hid rfl, HLR0, HXE0, HFF0, HBF0, HLL0, Lib.hid (by simp), HN64⟩
  case round =>
  clear HRI0 HKI0 HXE0 HFF0 HBF0 HLL0 HN64 HLR0
  obtain ⟨a1, b1, n, la, ln, lc, l, rfl, rfl, HRI, ha1, HKI, HLN, HLR, HXE, HFF, HBF, HLL1, HL64, HI64⟩ := hrel
  have rc0 := HRI.out.c0
  have rc1 := HRI.out.c1
  have rc2 := HRI.out.c2
  by_cases hn0 : n = 0
  case pos =>
    subst hn0
    have HSTP : Hid ((0 : Int) = 0 ∨ b1 = true) := Lib.hid (.inl rfl)
    have HXV : Hid (inM ((t.drop a).length + 2) (t.drop a) false [] = (l, t.drop a1, b1)) := Lib.hid (by
      rw [← HXE.out]
      unfold inH
      rw [if_pos HSTP.out])
    have hkr := kpr_trans HKA.out HKI.out
    go_wp2_with fail
    refine (HWD.out _ _ _ _ wNl hkr HRI.out ha1 rfl (by decide)).mono ?_
    rintro e wn ⟨a3, rfl, hr3, ha3, hd3, hk3⟩
    have HR3 := Lib.hid hr3
    have HD3 := Lib.hid hd3
    have hkw := kpr_trans HKI.out hk3
    have HP3 := Lib.hid (HPA.out.kp hkw)
    have HK3 := Lib.hid (kpr_trans HKA.out hkw)
    have hLB : LB ≤ wn.heap.size := by rw [← HLB.out]; exact hkw.size
    obtain ⟨us, ho1, ho2, ho3⟩ := HP3.out.rows
    rw [← HON.out] at ho1
    have hlown : wn.ownsRow LB 3 1 (.slice la ln lc) ln (l.map (.int .i64)) := own_same HLR.out fun g e => hk3.block g (HLR.out.lt g e).2 (fun e2 => by injection e2 with e2; have := (HLR.out.lt g e).1; omega)
    have hv0 : ∀ g, (Value.slice oa on oc).ownBlock = some g → g < LB := fun g e => by
      obtain ⟨us', q1, _⟩ := HPA.out.rows
      have := (q1.lt g e).2
      rw [HLB.out] at this
      exact this
    have hrv : Ints (fun g => C + 1 ≤ g ∧ (Value.slice oa on oc).ownBlock ≠ some g) wn (.slice la ln lc) l := ⟨(by
      have h := ownsRow_sl1 hlown (by have := HLL1.out; have := HLN.out; have := HTL.out; have := HDA.out; omega)
      exact h.mono fun g hg => ⟨by have := hg.1; omega, fun e => by have := hv0 g e; have := hg.1; omega⟩), HL64.out⟩
    have HRV := Lib.hid hrv
    have HO3 := Lib.hid ho3
    have HO2 := Lib.hid ho2
    have HO1 := Lib.hid ho1
    have pc2 := HP3.out.c2
    have pf2 := HP3.out.fz 2
    have hCs : C + 1 ≤ wn.heap.size := by have := block_lt HP3.out.c0; omega
    have HNC2 : Hid (some C ≠ (Value.slice oa on oc).ownBlock) := Lib.hid fun e => by have := (ho1.lt C e.symm).1; omega
    have hon2 : on + 1 ≤ 4194305 := by have := HLO.out; have := HTL.out; omega
    clear hr3 hd3 hk3 hkw hlown hv0 hrv ho2 ho3 hkr HLR
    go_upto_region 19 with fail
    go_wp2_with (at_builtin; go_loud (refine wpList_push1 rfl _ _ 23 rfl 38 (.slice none 0 0) 24 Tryz.underlying23 HINN.out rfl (C + 1) (.slice oa on oc) on us wn (.slice la ln lc) rfl rfl ho1 rfl (by omega) (by omega) hCs ?_); intro g7 cap7 w7 hown7 hg7 hs7 hgb hgl7 hat; have ef : w7.frozen? ⟨C, 2, none⟩ = false := (World.frozen?_of_block (a := ⟨C, 2, none⟩) (hg7.block C (by omega) HNC2.out)).trans pf2; have e2 := PaS.push.grown_c2' hg7 HNC2.out pc2; have HP7 : Hid (PaS (w7.setCell ⟨C, 2, none⟩ (.slice (some ⟨g7, 0, none⟩) (on + 1) cap7)) R C V KE (.slice (some ⟨g7, 0, none⟩) (on + 1) cap7) (cs ++ [l])) := Lib.hid (HP3.out.push HON.out HO1.out HO2.out HO3.out HRV.out hown7 hg7 hat); have HK7 : Hid (KpR R W2 (w7.setCell ⟨C, 2, none⟩ (.slice (some ⟨g7, 0, none⟩) (on + 1) cap7))) := Lib.hid (kpr_setHi (kpr_grown HK3.out hg7 (fun g e => by have := (HO1.out.lt g e).1; have := HS2.out; omega)) (by have := HS2.out; omega)); have HR7 : Hid (RdS (w7.setCell ⟨C, 2, none⟩ (.slice (some ⟨g7, 0, none⟩) (on + 1) cap7)) R T a3 (b1 || wordB wNl (t.drop a1))) := Lib.hid (HR3.out.same ((Below.heap_setCell _ _ _ _ (show R ≠ C by omega)).trans (hg7.block R (by omega) (fun e => by have := (HO1.out.lt R e.symm).1; omega)))); clear hown7 hg7 hat ho1 hgb hgl7 hs7)
    have HOU : Hid (outM (GK - 1) (t.drop a3) (b1 || wordB wNl (t.drop a1)) (cs ++ [l]) = RES) := Lib.hid (by
      have h := HOA.out
      rw [show GK = (GK - 1) + 1 by have := HGP.out; omega, outM, if_neg (by rintro (h | h); cases h; exact HNE.out h)] at h
      simp only [HXV.out] at h
      rw [HD3.out]
      exact h)
    have HFU : Hid ((b1 || wordB wNl (t.drop a1)) = false → (t.drop a3).length + 1 ≤ GK - 1) := Lib.hid fun h => by
      have h1 := HBF.out (or_false' h).1
      have h2 := HFB.out
      have h3 := word_len wNl (t.drop a1)
      rw [← HD3.out] at h3
      omega
    have HLU : Hid ((b1 || wordB wNl (t.drop a1)) = false → on + 1 + (t.drop a3).length ≤ t.length) := Lib.hid fun h => by
      have h1 := HBF.out (or_false' h).1
      have h2 := HLB2.out
      have h3 := word_len wNl (t.drop a1)
      rw [← HD3.out] at h3
      omega
    have HCU : Hid (∀ c ∈ cs ++ [l], c.length ≤ t.length) := Lib.hid fun c hc => by
      rcases List.mem_append.1 hc with h | h
      · exact HCL.out c h
      · have := List.mem_singleton.1 h
        subst this
        have := HLL1.out
        have := HDA.out
        omega
    go_roundg (GK - 1)
    case measure => have := HGP.out; omega
    case rel => exact ⟨a3, _, _, _, _, _, HR7, ha3, HK7, Lib.hid (by rw [HON.out]; simp), HP7, HOU, HFU, Lib.hid (by have := HLB2.out; have := List.length_pos_iff.2 HNE.out; omega), HLU, HCU⟩
  have hnz : (n != 0) = true := by simp; exact hn0
  rcases bool2 b1 with rfl | rfl
  · have HSTP : Hid (n = 0 ∨ true = true) := Lib.hid (.inr rfl)
    have HXV : Hid (inM ((t.drop a).length + 2) (t.drop a) false [] = (l, t.drop a1, true)) := Lib.hid (by
      rw [← HXE.out]
      unfold inH
      rw [if_pos HSTP.out])
    have hkr := kpr_trans HKA.out HKI.out
    go_wp2_with fail
    refine (HWD.out _ _ _ _ wNl hkr HRI.out ha1 rfl (by decide)).mono ?_
    rintro e wn ⟨a3, rfl, hr3, ha3, hd3, hk3⟩
    have HR3 := Lib.hid hr3
    have HD3 := Lib.hid hd3
    have hkw := kpr_trans HKI.out hk3
    have HP3 := Lib.hid (HPA.out.kp hkw)
    have HK3 := Lib.hid (kpr_trans HKA.out hkw)
    have hLB : LB ≤ wn.heap.size := by rw [← HLB.out]; exact hkw.size
    obtain ⟨us, ho1, ho2, ho3⟩ := HP3.out.rows
    rw [← HON.out] at ho1
    have hlown : wn.ownsRow LB 3 1 (.slice la ln lc) ln (l.map (.int .i64)) := own_same HLR.out fun g e => hk3.block g (HLR.out.lt g e).2 (fun e2 => by injection e2 with e2; have := (HLR.out.lt g e).1; omega)
    have hv0 : ∀ g, (Value.slice oa on oc).ownBlock = some g → g < LB := fun g e => by
      obtain ⟨us', q1, _⟩ := HPA.out.rows
      have := (q1.lt g e).2
      rw [HLB.out] at this
      exact this
    have hrv : Ints (fun g => C + 1 ≤ g ∧ (Value.slice oa on oc).ownBlock ≠ some g) wn (.slice la ln lc) l := ⟨(by
      have h := ownsRow_sl1 hlown (by have := HLL1.out; have := HLN.out; have := HTL.out; have := HDA.out; omega)
      exact h.mono fun g hg => ⟨by have := hg.1; omega, fun e => by have := hv0 g e; have := hg.1; omega⟩), HL64.out⟩
    have HRV := Lib.hid hrv
    have HO3 := Lib.hid ho3
    have HO2 := Lib.hid ho2
    have HO1 := Lib.hid ho1
    have pc2 := HP3.out.c2
    have pf2 := HP3.out.fz 2
    have hCs : C + 1 ≤ wn.heap.size := by have := block_lt HP3.out.c0; omega
    have HNC2 : Hid (some C ≠ (Value.slice oa on oc).ownBlock) := Lib.hid fun e => by have := (ho1.lt C e.symm).1; omega
    have hon2 : on + 1 ≤ 4194305 := by have := HLO.out; have := HTL.out; omega
    clear hr3 hd3 hk3 hkw hlown hv0 hrv ho2 ho3 hkr HLR
    go_upto_region 19 with fail
    go_wp2_with (at_builtin; go_loud (refine wpList_push1 rfl _ _ 23 rfl 38 (.slice none 0 0) 24 Tryz.underlying23 HINN.out rfl (C + 1) (.slice oa on oc) on us wn (.slice la ln lc) rfl rfl ho1 rfl (by omega) (by omega) hCs ?_); intro g7 cap7 w7 hown7 hg7 hs7 hgb hgl7 hat; have ef : w7.frozen? ⟨C, 2, none⟩ = false := (World.frozen?_of_block (a := ⟨C, 2, none⟩) (hg7.block C (by omega) HNC2.out)).trans pf2; have e2 := PaS.push.grown_c2' hg7 HNC2.out pc2; have HP7 : Hid (PaS (w7.setCell ⟨C, 2, none⟩ (.slice (some ⟨g7, 0, none⟩) (on + 1) cap7)) R C V KE (.slice (some ⟨g7, 0, none⟩) (on + 1) cap7) (cs ++ [l])) := Lib.hid (HP3.out.push HON.out HO1.out HO2.out HO3.out HRV.out hown7 hg7 hat); have HK7 : Hid (KpR R W2 (w7.setCell ⟨C, 2, none⟩ (.slice (some ⟨g7, 0, none⟩) (on + 1) cap7))) := Lib.hid (kpr_setHi (kpr_grown HK3.out hg7 (fun g e => by have := (HO1.out.lt g e).1; have := HS2.out; omega)) (by have := HS2.out; omega)); have HR7 : Hid (RdS (w7.setCell ⟨C, 2, none⟩ (.slice (some ⟨g7, 0, none⟩) (on + 1) cap7)) R T a3 (true || wordB wNl (t.drop a1))) := Lib.hid (HR3.out.same ((Below.heap_setCell _ _ _ _ (show R ≠ C by omega)).trans (hg7.block R (by omega) (fun e => by have := (HO1.out.lt R e.symm).1; omega)))); clear hown7 hg7 hat ho1 hgb hgl7 hs7)
    have HOU : Hid (outM (GK - 1) (t.drop a3) (true || wordB wNl (t.drop a1)) (cs ++ [l]) = RES) := Lib.hid (by
      have h := HOA.out
      rw [show GK = (GK - 1) + 1 by have := HGP.out; omega, outM, if_neg (by rintro (h | h); cases h; exact HNE.out h)] at h
      simp only [HXV.out] at h
      rw [HD3.out]
      exact h)
    have HFU : Hid ((true || wordB wNl (t.drop a1)) = false → (t.drop a3).length + 1 ≤ GK - 1) := Lib.hid fun h => by
      have h1 := HBF.out (or_false' h).1
      have h2 := HFB.out
      have h3 := word_len wNl (t.drop a1)
      rw [← HD3.out] at h3
      omega
    have HLU : Hid ((true || wordB wNl (t.drop a1)) = false → on + 1 + (t.drop a3).length ≤ t.length) := Lib.hid fun h => by
      have h1 := HBF.out (or_false' h).1
      have h2 := HLB2.out
      have h3 := word_len wNl (t.drop a1)
      rw [← HD3.out] at h3
      omega
    have HCU : Hid (∀ c ∈ cs ++ [l], c.length ≤ t.length) := Lib.hid fun c hc => by
      rcases List.mem_append.1 hc with h | h
      · exact HCL.out c h
      · have := List.mem_singleton.1 h
        subst this
        have := HLL1.out
        have := HDA.out
        omega
    go_roundg (GK - 1)
    case measure => have := HGP.out; omega
    case rel => exact ⟨a3, _, _, _, _, _, HR7, ha3, HK7, Lib.hid (by rw [HON.out]; simp), HP7, HOU, HFU, Lib.hid (by have := HLB2.out; have := List.length_pos_iff.2 HNE.out; omega), HLU, HCU⟩
  have HFG : Hid ((t.drop a1).length + 1 ≤ gk) := Lib.hid (HFF.out rfl)
  have HBG : Hid (l.length + 1 + (t.drop a1).length ≤ (t.drop a).length) := Lib.hid (HBF.out rfl)
  have HGI : Hid (1 ≤ gk) := Lib.hid (by have := HFG.out; omega)
  clear HFF HBF
  have hln : ln ≤ 4194304 := by have := HLL1.out; have := HLN.out; have := HTL.out; have := HDA.out; omega
  have hown := HLR.out
  have hsz : LB ≤ wr.heap.size := by rw [← HLB.out]; exact HKI.out.size
  have hRsz : R < wr.heap.size := block_lt rc0
  have HXB : Hid (inM gk (wordR wSp (t.drop a1)) (wordB wSp (t.drop a1)) (l ++ [n]) = inM ((t.drop a).length + 2) (t.drop a) false []) := Lib.hid (by
    have h := HXE.out
    unfold inH at h
    rw [if_neg (by rintro (h | h); exact hn0 h; cases h)] at h
    exact h)
  clear HXE hn0
  go_wp2_with (at_builtin; go_loud (refine wpList_push1 rfl _ _ 38 rfl 3 (.int .i64 0) 8 Tryz.underlying38 HINI.out rfl LB (.slice la ln lc) ln (l.map (.int .i64)) wr (.int .i64 n) rfl rfl hown rfl (by omega) (by omega) hsz ?_); intro g7 cap7 w7 hown7 hg7 hs7 hgb hgl7 hat; have HK7 : Hid (KpR R WO w7) := Lib.hid (kpr_grown HKI.out hg7 (fun g e => by have := (HLR.out.lt g e).1; rw [HLB.out]; exact this)); have HR7 : Hid (RdS w7 R T a1 false) := Lib.hid (HRI.out.same (hg7.block R hRsz (fun e => by have := (HLR.out.lt R e.symm).1; omega))); have HW7 := Lib.hid hown7; clear hown7 hg7 hat hown hgb hgl7 hs7; refine Hid.out ?_)
  refine Lib.hid ?_
  have hk17 := kpr_trans HKA.out HK7.out
  clear HLR rc0 rc1 rc2 hsz
  go_wp2_with fail
  refine (HWD.out _ _ _ _ wSp hk17 HR7.out ha1 rfl (by decide)).mono ?_
  rintro e w9 ⟨a2, rfl, hr2, ha2', hd2, hk2⟩
  have HR9 := Lib.hid hr2
  have HD9 := Lib.hid hd2
  have HK9 := Lib.hid (kpr_trans HK7.out hk2)
  have HLR9 : Hid (w9.ownsRow LB 3 1 (.slice (some ⟨g7, 0, none⟩) (ln + 1) cap7) (ln + 1) ((l ++ [n]).map (.int .i64))) := Lib.hid (by
    rw [List.map_append]
    exact own_same HW7.out fun g e => hk2.block g (HW7.out.lt g e).2 (fun e2 => by injection e2 with e2; have := (HW7.out.lt g e).1; omega))
  have hk19 := kpr_trans HKA.out HK9.out
  clear hr2 hd2 hk2 hk17 HR7 HK7 HW7
  go_wp2_with fail
  refine (HNM.out _ _ _ hk19 HR9.out ha2').mono ?_
  rintro e w10 ⟨a3, rfl, hr3, ha3, hd3, hk3⟩
  have HR10 := Lib.hid hr3
  have HD10 := Lib.hid hd3
  have HK10 := Lib.hid (kpr_trans HK9.out hk3)
  have HLR10 : Hid (w10.ownsRow LB 3 1 (.slice (some ⟨g7, 0, none⟩) (ln + 1) cap7) (ln + 1) ((l ++ [n]).map (.int .i64))) := Lib.hid (own_same HLR9.out fun g e => hk3.block g (HLR9.out.lt g e).2 (fun e2 => by injection e2 with e2; have := (HLR9.out.lt g e).1; omega))
  have HXE2 : Hid (inH (gk - 1) (t.drop a3) ((false || wordB wSp (t.drop a1)) || numB (t.drop a2)) (numV (t.drop a2)) (l ++ [n]) = inM ((t.drop a).length + 2) (t.drop a) false []) := Lib.hid (by
    have h := HXB.out
    rw [show gk = (gk - 1) + 1 by have := HGI.out; omega, in_head, ← HD9.out, ← HD10.out] at h
    exact h)
  have HA2 : Hid ((t.drop a2).length ≤ (t.drop a1).length) := Lib.hid (by rw [HD9.out]; exact word_len _ _)
  have HA3 : Hid ((t.drop a3).length ≤ (t.drop a2).length) := Lib.hid (by rw [HD10.out]; exact num_le _)
  have HA4 : Hid (((false || wordB wSp (t.drop a1)) || numB (t.drop a2)) = false → (t.drop a3).length < (t.drop a2).length) := Lib.hid fun h => by rw [HD10.out]; exact num_lt (or_false' h).2
  have HFF2 : Hid (((false || wordB wSp (t.drop a1)) || numB (t.drop a2)) = false → (t.drop a3).length + 1 ≤ gk - 1) := Lib.hid fun h => by have h1 := HA4.out h; have h2 := HA2.out; have h3 := HFG.out; omega
  have HBF2 : Hid (((false || wordB wSp (t.drop a1)) || numB (t.drop a2)) = false → (l ++ [n]).length + 1 + (t.drop a3).length ≤ (t.drop a).length) := Lib.hid fun h => by have h1 := HA4.out h; have h2 := HA2.out; have h3 := HBG.out; rw [List.length_append]; show l.length + 1 + 1 + _ ≤ _; omega
  have HLL2 : Hid ((l ++ [n]).length + (t.drop a3).length ≤ (t.drop a).length) := Lib.hid (by have h1 := HA3.out; have h2 := HA2.out; have h3 := HBG.out; rw [List.length_append]; show l.length + 1 + _ ≤ _; omega)
  have HL62 : Hid (∀ x ∈ l ++ [n], I64 x) := Lib.hid fun x hx => by
    rcases List.mem_append.1 hx with h | h
    · exact HL64.out x h
    · rw [List.mem_singleton.1 h]; exact HI64.out
  have HI62 : Hid (I64 (numV (t.drop a2))) := Lib.hid (val_i64 (tok_len _))
  have HLN2 : Hid (ln + 1 = (l ++ [n]).length) := Lib.hid (by rw [HLN.out]; simp)
  clear hr3 hd3 hk3 hk19
  go_wp2_with fail
  go_roundg (gk - 1)
  case measure => have := HGI.out; omega
  case rel => exact ⟨a3, _, _, _, _, _, l ++ [n], rfl, rfl, HR10, ha3, HK10, HLN2, HLR10, HXE2, HFF2, HBF2, HLL2, HL62, HI62⟩
end Go.Proofs.YthkpobipndifoaaGreatDoor
