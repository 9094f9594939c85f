/- (Trace text seat) Walk: text, of the statements. No condition but the size. -/
import Derived.Test.YtljaegmmfjllkaaGreatDoorN1
import Derived.Test.YtljaegmmfjllkaaGreatDoorN3
import Derived.Test.YtljaegmmfjllkaaGreatDoorNz
namespace Go.Proofs.YtljaegmmfjllkaaGreatDoor
open Go.ChangeShapes Go.WideShapes Go.ChangeAt Go.RowKit Go.Lib
set_option linter.unusedVariables false
set_option linter.unusedSimpArgs false

theorem below_grown {B : Nat} {w w1 w2 : World} {row : Option Nat} (h : Below B w w1) (h2 : w1.grownBy w2 row) (hB : B ≤ w.heap.size) (hr : ∀ g, row = some g → B ≤ g) : Below B w w2 :=
  ⟨h2.os.trans h.os, h2.tape.trans h.tape, h2.output.trans h.output, Nat.le_trans h.size h2.size, fun k hk => (h2.block k (Nat.lt_of_lt_of_le hk (Nat.le_trans hB h.size)) (fun e => by have := hr k e.symm; omega)).trans (h.block k hk)⟩
theorem tail_take (l : List Int) (j : Nat) : (tailT (l.take j)).length ≤ (tailT l).length := by
  have h := congrArg List.length (tail_app (l.take j) (l.drop j))
  rw [List.take_append_drop, List.length_append] at h
  omega
theorem line_take (l : List Int) (j : Nat) : (lineT (l.take j)).length ≤ (lineT l).length := by
  cases l with
  | nil => simp
  | cons n r =>
    cases j with
    | zero => simp [lineT]
    | succ j =>
      have := tail_take r j
      rw [List.take_succ_cons, lineT, lineT, List.length_append, List.length_append]
      omega
theorem line_snoc {l : List Int} {j : Nat} {x : Int} (h : l[j]? = some x) : lineT (l.take (j + 1)) = lineT (l.take j) ++ ((if j = 0 then [] else [32]) ++ itoa x) := by
  have e : l.take (j + 1) = l.take j ++ [x] := by rw [List.take_add_one, h]; rfl
  cases l with
  | nil => simp at h
  | cons n r =>
    cases j with
    | zero =>
      simp at h
      subst h
      simp [lineT, tailT]
    | succ j =>
      rw [e, List.take_succ_cons, List.cons_append, lineT, lineT, tail_app]
      simp [tailT]
def preT (ts : List Claim) (k : Nat) : Bts := wTrc ++ (itoa ts.length ++ 10 :: clmsT (ts.take k))
theorem pre_len {ts : List Claim} {k : Nat} {c : Claim} (h : ts[k]? = some c) : (preT ts k).length + (lineT (lineM c)).length + 1 ≤ (trcT ts).length := by
  have hk := (List.getElem?_eq_some_iff.1 h).1
  have e := clms_app (ts.take (k + 1)) (ts.drop (k + 1))
  rw [List.take_append_drop, show ts.take (k + 1) = ts.take k ++ [c] by rw [List.take_add_one, h]; rfl, clms_app] at e
  have e1 := congrArg List.length e
  unfold preT trcT
  simp only [List.length_append, List.length_cons, clmsT, clmT, List.length_nil] at e1 ⊢
  omega
theorem pre_snoc {ts : List Claim} {k : Nat} {c : Claim} (h : ts[k]? = some c) : preT ts (k + 1) = preT ts k ++ (lineT (lineM c) ++ [10]) := by
  unfold preT
  rw [show ts.take (k + 1) = ts.take k ++ [c] by rw [List.take_add_one, h]; rfl, clms_app]
  simp [clmsT, clmT]
theorem flat_snoc {cs : List (List Int)} {i : Nat} {x : List Int} (h : cs[i]? = some x) : flatM (cs.take (i + 1)) = flatM (cs.take i) ++ (x ++ [0]) := by
  rw [show cs.take (i + 1) = cs.take i ++ [x] by rw [List.take_add_one, h]; rfl, flat_app]
  rfl
theorem flat_le {cs : List (List Int)} {i : Nat} {x : List Int} (h : cs[i]? = some x) : (flatM (cs.take i)).length + x.length + 1 ≤ (flatM cs).length := by
  have e := flat_app (cs.take (i + 1)) (cs.drop (i + 1))
  rw [List.take_append_drop, flat_snoc h] at e
  have e1 := congrArg List.length e
  simp only [List.length_append, List.length_cons, List.length_nil] at e1
  omega
def TxPost (W : World) (l : Bts) (e : Ending) (w' : World) : Prop := ∃ S : ByteArray, e = .returned (.string S) ∧ Hid (S = BA l) ∧ Below W.heap.size W w'
theorem ba_app (a b : Bts) : BA a ++ BA b = BA (a ++ b) := by apply ByteArray.ext; simp [BA]
theorem oneC {xs : List Int} : ∀ u ∈ xs.map (Value.int .i64), u.oneCell' = true := by
  intro u hu
  obtain ⟨x, _, rfl⟩ := List.mem_map.1 hu
  rfl
set_option maxRecDepth 100000 in
set_option maxHeartbeats 16000000 in
theorem ltext_any (tv : Value) (ts : List Claim) (w : World) (hx : Claims (fun _ => True) w tv ts) (hl : (trcT ts).length ≤ 80000) (hls : ∀ c ∈ ts, (lineM c).length ≤ 10000) (h64 : ∀ c ∈ ts, NumC c) :
    Calls Tryz.prog 10 #[.agg #[tv]] w (TxPost w (trcT ts)) := by
  obtain ⟨ta, tn, tc, rfl, HTN, htn⟩ := hx.form
  obtain ⟨W1, hW1⟩ : ∃ W, w.alloc (.cells #[.slice ta tn tc] 24) = W := ⟨_, rfl⟩
  obtain ⟨LB, hLB⟩ : ∃ b, w.heap.size = b := ⟨_, rfl⟩
  have hb1 : Below w.heap.size w W1 := by rw [← hW1]; exact (Below.refl _ _).alloc (Nat.le_refl _) _
  have k0 : W1.cell? ⟨LB, 0, none⟩ = some (.slice ta tn tc) := by rw [← hW1, ← hLB]; simp
  have hs1 : W1.heap.size = LB + 1 := by rw [← hW1]; simp; omega
  have HX := Lib.hid hx
  have HB1 : Hid (Below w.heap.size w W1) := Lib.hid hb1
  have HINI := Lib.hid (show (Tryz.prog.info? 3).map (fun i => (i.zero, i.size, i.bytes)) = some (some (.int .i64 0), 1, 8) by kernel_rfl)
  have HTL := Lib.hid hl
  have HLS := Lib.hid hls
  have H64 := Lib.hid h64
  have htn2 : tn ≤ 80000 := by
    have h1 : ∀ l : List Claim, l.length ≤ (clmsT l).length := by
      intro l
      induction l with
      | nil => simp
      | cons c r ih => rw [clmsT, clmT, List.length_append, List.length_append, List.length_cons, List.length_cons, List.length_nil]; omega
    have h2 := h1 ts
    have h3 := hl
    unfold trcT at h3
    rw [List.length_append, List.length_append, List.length_cons] at h3
    rw [HTN.out]; omega
  have HNUM := Lib.hid (lnumber_any (tn : Int) (by unfold I64; omega))
  obtain ⟨S1, hS1⟩ : ∃ S : ByteArray, ⟨(itoa (tn : Int)).toArray⟩ = S := ⟨_, rfl⟩
  have hz1 : S1.size ≤ 20 := by rw [← hS1]; show (BA _).size ≤ 20; rw [ba_size]; exact itoa_all20 (by omega) (by omega)
  rw [hS1] at HNUM
  have HS1 : Hid (S1 = BA (itoa (tn : Int))) := Lib.hid hS1.symm
  have g10 : ¬ 9223372036854775807 < 6 + S1.size := by omega
  have g11 : ¬ 9223372036854775807 < 6 + S1.size + 1 := by omega
  have HW1 := Lib.hid hW1
  have HLB := Lib.hid hLB
  clear hx hb1 hW1 hLB hl hls hS1 h64
  go_enter Tryz.func10, Tryz.ntmps10
  go_upto_region 1 with fail
  try rw [HW1.out, HLB.out]
  go_wp2_with fail
  refine (HNUM.out _).mono ?_
  rintro e w2 ⟨rfl, rfl⟩
  go_wp2_with fail
  have HS0 : Hid ((⟨#[116, 114, 97, 99, 101, 32]⟩ : ByteArray) ++ S1 ++ ⟨#[10]⟩ = BA (preT ts 0)) := Lib.hid (by
    rw [HS1.out, HTN.out]
    show BA wTrc ++ BA _ ++ BA [10] = _
    rw [ba_app, ba_app]
    simp [preT, clmsT])
  go_loopg [3, 20] tn (fun gg u3 u20 wx => ∃ (k : Nat) (S : ByteArray), k + gg = tn ∧ u20 = .int .i64 k ∧ u3 = .string S ∧ Hid (S = BA (preT ts k)) ∧ Hid (Below w.heap.size w wx))
  case atStart => exact ⟨0, _, by omega, rfl, rfl, HS0, HB1⟩
  case round =>
  obtain ⟨k, S, hkg, rfl, rfl, HS, HB⟩ := hrel
  by_cases hk : k < tn
  case neg =>
    obtain rfl : k = tn := by omega
    have hdk : decide ((k : Int) < k) = false := by simp
    have hdk' : decide (k < k) = false := decide_eq_false (by omega)
    have HF : Hid (TxPost w (trcT ts) (.returned (.string S)) wr) := Lib.hid ⟨S, rfl, Lib.hid (by rw [HS.out, preT, List.take_of_length_le (by rw [HTN.out]; exact Nat.le_refl _)]; rfl), HB.out⟩
    clear HS HB HS0
    go_wp2_with fail
    go_ret
    exact HF.out
  obtain ⟨c, hc⟩ : ∃ c, ts[k]? = some c := ⟨_, List.getElem?_eq_getElem (by rw [← HTN.out]; exact hk)⟩
  have hmem := List.mem_of_getElem? hc
  obtain ⟨xb, xo, xcv, xkv, rfl, _, hxb, j0, j1, j2, j3, j4, ⟨⟨hxc, _, _, hxk, _⟩, hr64, hl64, hc64⟩⟩ := (HX.out.below HB.out).at hc
  have hxc : Clss (fun _ => True) wr xcv c.cls := hxc
  have hxk : Ints (fun _ => True) wr xkv c.kids := hxk
  obtain ⟨xa, xn, xc, rfl, HXN, hxn⟩ := hxc.form'
  obtain ⟨ya, yn, yc, rfl, HYN, hyn⟩ := hxk.form'
  have hdk : decide ((k : Int) < tn) = true := by simp; omega
  have hdk' : decide (k < tn) = true := decide_eq_true hk
  have HPL := Lib.hid (pre_len hc)
  have HPS := Lib.hid (pre_snoc hc)
  have HLN := Lib.hid (HLS.out c hmem)
  have HI64 : Hid (∀ n ∈ lineM c, I64 n) := Lib.hid (H64.out c hmem)
  obtain ⟨g1, hg1⟩ : ∃ g, wr.heap.size = g := ⟨_, rfl⟩
  obtain ⟨W2, hW2⟩ : ∃ W, wr.alloc (.cells #[.slice xa xn xc, .int .i64 c.rule, .int .i64 c.lit, .slice ya yn yc, .int .i64 c.count] 45) = W := ⟨_, rfl⟩
  have hb2 : Below wr.heap.size wr W2 := by rw [← hW2]; exact (Below.refl _ _).alloc (Nat.le_refl _) _
  have hr2 : W2.heap[g1]? = some (.cells #[.slice xa xn xc, .int .i64 c.rule, .int .i64 c.lit, .slice ya yn yc, .int .i64 c.count] 45) := by rw [← hW2]; exact new_at' _ _ hg1.symm
  have hs2 : W2.heap.size = g1 + 1 := by rw [← hW2]; simp; omega
  have q0 : W2.cell? ⟨g1, 0, none⟩ = some (.slice xa xn xc) := by rw [cell_of_row _ _ _ _ _ _ hr2]; rfl
  have q1 : W2.cell? ⟨g1, 1, none⟩ = some (.int .i64 c.rule) := by rw [cell_of_row _ _ _ _ _ _ hr2]; rfl
  have q2 : W2.cell? ⟨g1, 2, none⟩ = some (.int .i64 c.lit) := by rw [cell_of_row _ _ _ _ _ _ hr2]; rfl
  have q3 : W2.cell? ⟨g1, 3, none⟩ = some (.slice ya yn yc) := by rw [cell_of_row _ _ _ _ _ _ hr2]; rfl
  have q4 : W2.cell? ⟨g1, 4, none⟩ = some (.int .i64 c.count) := by rw [cell_of_row _ _ _ _ _ _ hr2]; rfl
  obtain ⟨W3, hW3⟩ : ∃ W, W2.alloc (.cells #[.int .i64 c.rule, .int .i64 c.lit, .int .i64 c.count, .int .i64 yn] 3) = W := ⟨_, rfl⟩
  have hb3 : Below W2.heap.size W2 W3 := by rw [← hW3]; exact (Below.refl _ _).alloc (Nat.le_refl _) _
  have hown3 : W3.ownsRow (g1 + 1) 3 1 (.slice (some ⟨g1 + 1, 0, none⟩) 4 4) 4 [.int .i64 c.rule, .int .i64 c.lit, .int .i64 c.count, .int .i64 yn] := by
    rw [← hW3, ← hs2]
    exact own_new #[.int .i64 c.rule, .int .i64 c.lit, .int .i64 c.count, .int .i64 yn] 3 (by omega) (show 4 ≤ 9223372036854775807 by decide)
  have p0 := below_c hb3 (block_lt q0) q0
  have p3 := below_c hb3 (block_lt q3) q3
  have HXC := Lib.hid (hxc.below hb2)
  have HXK := Lib.hid ((hxk.below hb2).below hb3)
  have HB3 := Lib.hid (HB.out.trans ((hb2.trans (hb3.mono (by omega))).mono HB.out.size))
  have HO3 := Lib.hid hown3
  have HBQ : Hid (Below (g1 + 1) W2 W3) := Lib.hid (by rw [← hs2]; exact hb3)
  have hs3 : g1 + 1 ≤ W3.heap.size := by rw [← hs2]; exact hb3.size
  have HBO : Hid (Below w.heap.size w W2) := Lib.hid (HB.out.trans (hb2.mono HB.out.size))
  have hLg : LB ≤ g1 := by rw [← hg1, ← HLB.out]; exact HB.out.size
  have HW2 := Lib.hid hW2
  have HW3 := Lib.hid hW3
  have HG1 := Lib.hid hg1
  have HS2 := Lib.hid hs2
  clear hc hmem hxc hxk hb2 hb3 hr2 hW2 hW3 hg1 hs2 HB hown3 HS0
  go_upto_region 5 with fail
  try rw [HW2.out, HG1.out]
  go_upto_region 6 with fail
  try rw [HS2.out, HW3.out]
  have hown4 := HO3.out
  have hs2' : g1 + 1 ≤ W2.heap.size := by rw [HS2.out]; exact Nat.le_refl _
  have hkn : yn ≤ 10000 := by have h1 := HLN.out; have h2 := HYN.out; unfold lineM at h1; simp at h1; omega
  have hsk : Sl1 (fun _ => True) W3 (.slice ya yn yc) (c.kids.map (.int .i64)) := HXK.out.1
  go_wp2_with (at_builtin; go_loud (refine wpList_pushAll rfl _ _ 43 rfl 3 (.int .i64 0) 8 Tryz.underlying43 HINI.out rfl (g1 + 1) (.slice (some ⟨g1 + 1, 0, none⟩) 4 4) 4 _ W3 (fun _ => True) ya yn yc (c.kids.map (.int .i64)) rfl rfl hown4 hsk oneC (by omega) (by omega) hs3 ?_); intro v5 w5 hown5 hg5 hat5; go_loud (have HB5 : Hid (Below (g1 + 1) W2 w5) := Lib.hid (below_grown HBQ.out hg5 hs2' (fun g e => (HO3.out.lt g e).1))); go_loud (have p0 : w5.cell? ⟨g1, 0, none⟩ = some (.slice xa xn xc) := (World.cell?_of_block (HB5.out.block g1 (by omega))).trans q0); go_loud (have hs5 : g1 + 1 ≤ w5.heap.size := Nat.le_trans hs2' HB5.out.size); have HO5 := Lib.hid hown5; clear hown5 hg5 hat5; refine Hid.out ?_)
  refine Lib.hid ?_
  have hown6 := HO5.out
  have HPD : Hid (∀ (g7 cap7 : Nat) (w7 : World), w5.grownBy w7 v5.ownBlock → Below (g1 + 1) W2 w7) := Lib.hid fun g7 cap7 w7 hg7 => below_grown HB5.out hg7 hs2' (fun g e => by have := (HO5.out.lt g e).1; exact this)
  go_wp2_with (at_builtin; go_loud (refine wpList_push1 rfl _ _ 43 rfl 3 (.int .i64 0) 8 Tryz.underlying43 HINI.out rfl (g1 + 1) v5 (4 + yn) _ w5 (.int .i64 xn) rfl rfl hown6 rfl (by omega) (by omega) hs5 ?_); intro g7 cap7 w7 hown7 hg7 hs7 hgb hgl7 hat; have HB7 := Lib.hid (HPD.out g7 cap7 w7 hg7); have HO7 := Lib.hid hown7; clear hown7 hg7 hat hgb hgl7 hs7; refine Hid.out ?_)
  refine Lib.hid ?_
  have HM0 : Hid (w7.ownsRow (g1 + 1) 3 1 (.slice (some ⟨g7, 0, none⟩) (4 + yn + 1) cap7) (4 + yn + 1) ((c.rule :: c.lit :: c.count :: (c.kids.length : Int) :: (c.kids ++ (c.cls.length : Int) :: flatM (c.cls.take 0))).map (.int .i64))) := Lib.hid (by
    have h := HO7.out
    rw [← HXN.out, ← HYN.out]
    simpa [flatM] using h)
  have HN0 : Hid (4 + yn + 1 = 5 + yn + (flatM (c.cls.take 0)).length) := Lib.hid (by simp [flatM]; omega)
  obtain ⟨GK, hGK⟩ : ∃ G, G = gk := ⟨_, rfl⟩
  subst hGK
  clear HO7 HO5 HO3 hown6 hown4 hsk HPD HBQ
  have p0 : w7.cell? ⟨g1, 0, none⟩ = some (.slice xa xn xc) := (World.cell?_of_block (HB7.out.block g1 (by omega))).trans q0
  go_wp2_with fail
  go_loopg [6, 47] xn (fun gg u6 u47 wx => ∃ (i : Nat) (la : Option Addr) (ln lc : Nat), i + gg = xn ∧ u47 = .int .i64 i ∧ u6 = .slice la ln lc ∧ Hid (ln = 5 + yn + (flatM (c.cls.take i)).length) ∧ Hid (Below (g1 + 1) W2 wx) ∧ Hid (wx.ownsRow (g1 + 1) 3 1 (.slice la ln lc) ln ((c.rule :: c.lit :: c.count :: (c.kids.length : Int) :: (c.kids ++ (c.cls.length : Int) :: flatM (c.cls.take i))).map (.int .i64))))
  case atStart => exact ⟨0, _, _, cap7, by omega, rfl, rfl, HN0, HB7, HM0⟩
  case round =>
  obtain ⟨i, la, ln, lc, hig, rfl, rfl, HLNN, HBM, HM⟩ := hrel
  have hlc : (lineM c).length = 5 + yn + (flatM c.cls).length := by have h2 := HYN.out; unfold lineM; simp; omega
  have hlc2 := HLN.out
  by_cases hi : i < xn
  case pos =>
    obtain ⟨x, hxi⟩ : ∃ x, c.cls[i]? = some x := ⟨_, List.getElem?_eq_getElem (by rw [← HXN.out]; exact hi)⟩
    obtain ⟨zb, zo, uv, rfl, _, hzb, hcz, hzi⟩ := (Clss.below HXC.out (by rw [HS2.out]; exact HBM.out)).at hxi
    obtain ⟨ua, un, uc, rfl, HUN, hun⟩ := hzi.form'
    have hdi : decide ((i : Int) < xn) = true := by simp; omega
    have hdi' : decide (i < xn) = true := decide_eq_true hi
    have hfl := flat_le hxi
    have hln : ln + un + 1 ≤ 10000 := by have h1 := HLNN.out; have h2 := HUN.out; omega
    have HFS := Lib.hid (flat_snoc hxi)
    have hrow := HM.out
    have hsx := hzi.1
    have hsw : g1 + 1 ≤ wr.heap.size := by have h1 := HBM.out.size; omega
    clear hxi hzi hfl
    go_wp2_with (at_builtin; go_loud (refine wpList_pushAll rfl _ _ 43 rfl 3 (.int .i64 0) 8 Tryz.underlying43 HINI.out rfl (g1 + 1) (.slice la ln lc) ln _ wr (fun _ => True) ua un uc (x.map (.int .i64)) rfl rfl hrow hsx oneC (by omega) (by omega) hsw ?_); intro v5 w5 hown5 hg5 hat5; go_loud (have HB5 : Hid (Below (g1 + 1) W2 w5) := Lib.hid (below_grown HBM.out hg5 hs2' (fun g e => (HM.out.lt g e).1))); go_loud (have hs5 : g1 + 1 ≤ w5.heap.size := Nat.le_trans hs2' HB5.out.size); have HO5 := Lib.hid hown5; clear hown5 hg5 hat5; refine Hid.out ?_)
    refine Lib.hid ?_
    have hown6 := HO5.out
    have HPD : Hid (∀ (w7 : World), w5.grownBy w7 v5.ownBlock → Below (g1 + 1) W2 w7) := Lib.hid fun w7 hg7 => below_grown HB5.out hg7 hs2' (fun g e => (HO5.out.lt g e).1)
    go_wp2_with (at_builtin; go_loud (refine wpList_push1 rfl _ _ 43 rfl 3 (.int .i64 0) 8 Tryz.underlying43 HINI.out rfl (g1 + 1) v5 (ln + un) _ w5 (.int .i64 0) rfl rfl hown6 rfl (by omega) (by omega) hs5 ?_); intro g7 cap7 w7 hown7 hg7 hs7 hgb hgl7 hat; have HB7 := Lib.hid (HPD.out w7 hg7); have HO7 := Lib.hid hown7; clear hown7 hg7 hat hgb hgl7 hs7; refine Hid.out ?_)
    refine Lib.hid ?_
    have HMN : Hid (w7.ownsRow (g1 + 1) 3 1 (.slice (some ⟨g7, 0, none⟩) (ln + un + 1) cap7) (ln + un + 1) ((c.rule :: c.lit :: c.count :: (c.kids.length : Int) :: (c.kids ++ (c.cls.length : Int) :: flatM (c.cls.take (i + 1)))).map (.int .i64))) := Lib.hid (by
      have h := HO7.out
      rw [HFS.out]
      simpa using h)
    have HNN : Hid (ln + un + 1 = 5 + yn + (flatM (c.cls.take (i + 1))).length) := Lib.hid (by have h1 := HLNN.out; have h2 := HUN.out; rw [HFS.out, List.length_append, List.length_append]; simp only [List.length_cons, List.length_nil]; omega)
    clear HO7 HO5 HM hown6 hrow hsx HPD
    go_wp2_with fail
    go_roundg (gk - 1)
    case measure => omega
    case rel => exact ⟨i + 1, _, _, cap7, by omega, by go_num, rfl, HNN, HB7, HMN⟩
  have hdi : decide ((i : Int) < xn) = false := by simp; omega
  have hdi' : decide (i < xn) = false := decide_eq_false hi
  have hrow : wr.ownsRow (g1 + 1) 3 1 (.slice la ln lc) ln ((lineM c).map (.int .i64)) := by
    have h := HM.out
    rw [List.take_of_length_le (by rw [← HXN.out]; omega)] at h
    exact h
  have hll : ln = (lineM c).length := by
    have h := HLNN.out
    rw [List.take_of_length_le (by rw [← HXN.out]; omega)] at h
    omega
  have HSL := Lib.hid (ownsRow_sl1 hrow (by omega))
  have HLL := Lib.hid hll
  have hln4 : ln ≤ 10000 := by omega
  have HBW := Lib.hid (HB3.out)
  have HPP : Hid ((preT ts k).length + (lineT (lineM c)).length + 1 ≤ 80000) := Lib.hid (Nat.le_trans HPL.out HTL.out)
  have HS5 : Hid (S = BA (preT ts k ++ lineT ((lineM c).take 0))) := Lib.hid (by rw [HS.out]; simp [lineT])
  obtain ⟨WM, hWM⟩ : ∃ W, W = wr := ⟨_, rfl⟩
  subst hWM
  clear hrow hll HM HLNN hlc hlc2
  go_wp2_with fail
  go_loopg [3, 59] ln (fun gg u3 u59 wx => ∃ (j : Nat) (S5 : ByteArray), j + gg = ln ∧ u59 = .int .i64 j ∧ u3 = .string S5 ∧ wx = WM ∧ Hid (S5 = BA (preT ts k ++ lineT ((lineM c).take j))))
  case atStart => exact ⟨0, S, by omega, rfl, rfl, rfl, HS5⟩
  case round =>
  obtain ⟨j, S5, hjg, rfl, rfl, hww, HSJ⟩ := hrel
  subst hww
  have hsz5 : S5.size + 1 ≤ 80000 := by
    have h1 := line_take (lineM c) j
    have h2 := HPP.out
    rw [HSJ.out, ba_size, List.length_append]
    omega
  have e1 : ¬ 9223372036854775807 < S5.size + 1 := by omega
  by_cases hj : j < ln
  case neg =>
    have hdj : decide ((j : Int) < ln) = false := by simp; omega
    have hdj' : decide (j < ln) = false := decide_eq_false hj
    have HSN : Hid (S5 ++ (⟨#[10]⟩ : ByteArray) = BA (preT ts (k + 1))) := Lib.hid (by
      rw [HSJ.out, HPS.out, List.take_of_length_le (by rw [← HLL.out]; omega)]
      show BA _ ++ BA [10] = _
      rw [ba_app]
      simp)
    have HBN : Hid (Below w.heap.size w wr) := Lib.hid (HBO.out.trans (HBM.out.mono (by rw [HLB.out]; omega)))
    clear HSJ HS5
    go_wp2_with fail
    go_roundg (GK - 1)
    case measure => omega
    case rel => exact ⟨k + 1, _, by omega, by go_num, rfl, HSN, HBN⟩
  obtain ⟨x, hxj⟩ : ∃ x, (lineM c)[j]? = some x := ⟨_, List.getElem?_eq_getElem (by rw [← HLL.out]; exact hj)⟩
  obtain ⟨lb, lo, rfl, _, hlb, hlcell⟩ := HSL.out.at (k := j) (u := .int .i64 x) (by simp [hxj])
  have hx64 : I64 x := HI64.out x (List.mem_of_getElem? hxj)
  have hdj : decide ((j : Int) < ln) = true := by simp; omega
  have hdj' : decide (j < ln) = true := decide_eq_true hj
  have HLS2 := Lib.hid (line_snoc hxj)
  obtain ⟨X, hX⟩ : ∃ S : ByteArray, ⟨(itoa x).toArray⟩ = S := ⟨_, rfl⟩
  have hXz : X.size ≤ 20 := by rw [← hX]; show (BA _).size ≤ 20; rw [ba_size]; exact itoa_all20 hx64.1 hx64.2
  have HNX := Lib.hid (lnumber_any x hx64)
  rw [hX] at HNX
  have HXX : Hid (X = BA (itoa x)) := Lib.hid hX.symm
  have e2 : ¬ 9223372036854775807 < S5.size + 1 + X.size := by omega
  have e3 : ¬ 9223372036854775807 < S5.size + X.size := by omega
  clear hxj hX hx64 HS5
  by_cases hj0 : j = 0
  · subst hj0
    have hd0 : decide ((0 : Int) < ((0 : Nat) : Int)) = false := by simp
    have hlcell2 := hlcell
    simp only [Nat.add_zero] at hlcell2
    have HSN : Hid (S5 ++ X = BA (preT ts k ++ lineT ((lineM c).take (0 + 1)))) := Lib.hid (by
      rw [HSJ.out, HXX.out, HLS2.out, ba_app]
      simp)
    clear HSJ
    go_wp2_with fail
    refine (HNX.out _).mono ?_
    rintro e w9 ⟨rfl, rfl⟩
    go_wp2_with fail
    go_roundg (gk - 1)
    case measure => omega
    case rel => exact ⟨0 + 1, _, by omega, by go_num, rfl, rfl, HSN⟩
  · have hd0 : decide ((0 : Int) < (j : Int)) = true := decide_eq_true (by omega)
    have hd0' : decide (0 < j) = true := decide_eq_true (by omega)
    have HSN : Hid (S5 ++ (⟨#[32]⟩ : ByteArray) ++ X = BA (preT ts k ++ lineT ((lineM c).take (j + 1)))) := Lib.hid (by
      rw [HSJ.out, HXX.out, HLS2.out, if_neg hj0]
      show BA _ ++ BA [32] ++ BA _ = _
      rw [ba_app, ba_app]
      simp)
    clear HSJ
    go_wp2_with fail
    refine (HNX.out _).mono ?_
    rintro e w9 ⟨rfl, rfl⟩
    go_wp2_with fail
    go_roundg (gk - 1)
    case measure => omega
    case rel => exact ⟨j + 1, _, by omega, by go_num, rfl, rfl, HSN⟩
end Go.Proofs.YtljaegmmfjllkaaGreatDoor
