/- (Counter seat) Walk: search. No condition but the sizes, and that smaller lists are proved. -/
import Derived.Test.YthanfjpmcckbhaaGreatDoorYl
import Derived.Test.YthanfjpmcckbhaaGreatDoorYp
namespace Go.Proofs.YthanfjpmcckbhaaGreatDoor
open Go.ChangeShapes Go.WideShapes Go.ChangeAt Go.RowKit
set_option linter.unusedVariables false
set_option linter.unusedSimpArgs false

/-- the kids made so far, in order -/
def KidP (ts : List Claim) (P : Nat → Claim → Prop) (ks : List Int) : Prop := ∀ (i : Nat) (k : Int), ks[i]? = some k → 0 ≤ k ∧ k < (ts.length : Int) ∧ P i (ts.getD k.toNat clNil)
theorem KidP.nil (ts : List Claim) (P : Nat → Claim → Prop) : KidP ts P [] := fun i k h => by simp at h
theorem KidP.more {ts us : List Claim} {P : Nat → Claim → Prop} {ks : List Int} (h : KidP ts P ks) : KidP (ts ++ us) P ks := fun i k hk => by
  obtain ⟨h1, h2, h3⟩ := h i k hk
  exact ⟨h1, by rw [List.length_append]; omega, by rw [getD_keep (by omega)]; exact h3⟩
theorem KidP.snoc {ts : List Claim} {P : Nat → Claim → Prop} {ks : List Int} {k : Nat} (h : KidP ts P ks) (hk : k < ts.length) (hp : P ks.length (ts.getD k clNil)) : KidP ts P (ks ++ [(k : Int)]) := fun i x hx => by
  rcases Nat.lt_or_ge i ks.length with h1 | h1
  · rw [List.getElem?_append_left h1] at hx
    exact h i x hx
  · rw [List.getElem?_append_right h1] at hx
    rcases hq : i - ks.length with _ | q
    · rw [hq] at hx
      simp at hx
      subst hx
      have : i = ks.length := by omega
      subst this
      exact ⟨by omega, by omega, by simpa using hp⟩
    · rw [hq] at hx
      simp at hx
/-- the state between two kids -/
structure KidS (Ex : Nat → Prop) (B : Nat) (w0 w : World) (pb mb : Nat) (keep : Int) (cv0 cv kv : Value) (ts us : List Claim) (n : Nat) (P : Nat → Claim → Prop) (ks : List Int) : Prop where
  st : PrS (fun b => Ex b ∨ kv.ownBlock = some b) B w pb mb keep cv (ts ++ us) n
  grw : Grw pb mb cv0 w0 cv w
  own : w.ownsRow w0.heap.size 3 1 kv ks.length (ks.map (.int .i64))
  apart : ∀ b, kv.ownBlock = some b → Apart pb mb cv b
  kids : KidP (ts ++ us) P ks
  n_le : n ≤ (ts ++ us).length
theorem KidS.start {Ex : Nat → Prop} {B : Nat} {w0 w : World} {pb mb : Nat} {keep : Int} {cv : Value} {ts : List Claim} {n : Nat} (h : PrS Ex B w0 pb mb keep cv ts n) (hn : n ≤ ts.length) (hb : Below w0.heap.size w0 w) (P : Nat → Claim → Prop) :
    KidS Ex B w0 w pb mb keep cv cv (.slice none 0 0) ts [] n P [] :=
  ⟨(by rw [List.append_nil]; exact (h.below hb).sub fun b hb => hb.elim id (fun h1 => by cases h1)), Grw.of_below hb, World.ownsRow_nil _ _ _ _, fun b hb => (by cases hb), KidP.nil _ _, by rw [List.append_nil]; exact hn⟩
/-- from kid to kid: a claim was proved -/
theorem KidS.proved {Ex : Nat → Prop} {B : Nat} {w0 w w' : World} {pb mb : Nat} {keep : Int} {cv0 cv cv' kv : Value} {ts us vs : List Claim} {n n' : Nat} {P : Nat → Claim → Prop} {ks : List Int}
    (h : KidS Ex B w0 w pb mb keep cv0 cv kv ts us n P ks) (hP : PrS (fun b => Ex b ∨ kv.ownBlock = some b) B w' pb mb keep cv' (ts ++ us ++ vs) n') (hG : Grw pb mb cv w cv' w') (hn : n' ≤ (ts ++ us ++ vs).length) :
    KidS Ex B w0 w' pb mb keep cv0 cv' kv ts (us ++ vs) n' P ks := by
  refine ⟨by rw [← List.append_assoc]; exact hP, h.grw.trans hG, own_same h.own fun b hb => hG.block b (h.own.lt b hb).2 (h.apart b hb), fun b hb => hG.keepA (h.own.lt b hb).2 (h.apart b hb), ?_, by rw [← List.append_assoc]; exact hn⟩
  rw [← List.append_assoc]
  exact h.kids.more
/-- the world below the state goes on -/
theorem KidS.below {Ex : Nat → Prop} {B : Nat} {w0 w w' : World} {pb mb : Nat} {keep : Int} {cv0 cv kv : Value} {ts us : List Claim} {n : Nat} {P : Nat → Claim → Prop} {ks : List Int}
    (h : KidS Ex B w0 w pb mb keep cv0 cv kv ts us n P ks) (hb : Below w.heap.size w w') : KidS Ex B w0 w' pb mb keep cv0 cv kv ts us n P ks :=
  ⟨h.st.below hb, h.grw.trans (Grw.of_below hb), own_below h.own hb, h.apart, h.kids, h.n_le⟩
/-- a kid is appended -/
theorem KidS.push {Ex : Nat → Prop} {B : Nat} {w0 w w' : World} {pb mb g cap : Nat} {keep : Int} {cv0 cv kv : Value} {ts us : List Claim} {n k : Nat} {P : Nat → Claim → Prop} {ks : List Int}
    (h : KidS Ex B w0 w pb mb keep cv0 cv kv ts us n P ks) (hk : k < (ts ++ us).length) (hp : P ks.length ((ts ++ us).getD k clNil))
    (hown : w'.ownsRow w0.heap.size 3 1 (.slice (some ⟨g, 0, none⟩) (ks.length + 1) cap) (ks.length + 1) (ks.map (.int .i64) ++ [.int .i64 (k : Int)])) (hg : w.grownBy w' kv.ownBlock) (hgl : g < w'.heap.size) (hat : kv.ownBlock = some g ∨ w.heap.size ≤ g) :
    KidS Ex B w0 w' pb mb keep cv0 cv (.slice (some ⟨g, 0, none⟩) (ks.length + 1) cap) ts us n P (ks ++ [(k : Int)]) := by
  have hkv : ∀ b, kv.ownBlock = some b → w0.heap.size ≤ b := fun b hb => (h.own.lt b hb).1
  have hapg : Apart pb mb cv g := by
    rcases hat with h1 | h1
    · exact h.apart g h1
    · exact (h.st.apart h1).1
  refine ⟨h.st.turn hg (fun b hb => ⟨.inr hb, h.apart b hb⟩) fun b hb => ?_, ⟨hg.os.trans h.grw.os, hg.tape.trans h.grw.tape, hg.output.trans h.grw.output, Nat.le_trans h.grw.size hg.size, fun b hb ha => (hg.block b (Nat.lt_of_lt_of_le hb h.grw.size) fun e => by have := hkv b e.symm; omega).trans (h.grw.block b hb ha), h.grw.own⟩, by simpa using hown, fun b hb => ?_, h.kids.snoc hk hp, h.n_le⟩
  · rcases hb with h1 | h1
    · exact .inl (.inl h1)
    · have : g = b := by simpa [Value.ownBlock] using h1
      subst this
      rcases hat with h2 | h2
      · exact .inl (.inr h2)
      · exact .inr ⟨h2, hgl⟩
  · have : g = b := by simpa [Value.ownBlock] using hb
    subst this
    exact hapg
theorem KidS.grown_low {Ex : Nat → Prop} {B : Nat} {w0 w w' : World} {pb mb : Nat} {keep : Int} {cv0 cv kv : Value} {ts us : List Claim} {n : Nat} {P : Nat → Claim → Prop} {ks : List Int}
    (h : KidS Ex B w0 w pb mb keep cv0 cv kv ts us n P ks) (hB : B ≤ w0.heap.size) (hg : w.grownBy w' kv.ownBlock) : Below B w w' :=
  ⟨hg.os, hg.tape, hg.output, hg.size, fun b hb => hg.block b (by have := h.st.low.2.2; omega) fun e => by have := (h.own.lt b e.symm).1; omega⟩
/-- a kid of the search: it has no model -/
def SeaP (l : List (List Int)) (v : Int) (i : Nat) (c : Claim) : Prop := c.cls = resM l ([-v, v].getD i 0) ∧ c.count = 0
theorem ks_two {ks : List Int} (h : ks.length = 2) : ∃ a b, ks = [a, b] := by
  match ks, h with
  | [a, b], _ => exact ⟨a, b, rfl⟩
set_option maxRecDepth 100000 in
set_option maxHeartbeats 8000000 in
theorem psearch_any (Ex : Nat → Prop) (B pb mb : Nat) (keep : Int) (cv lv : Value) (ts : List Claim) (n : Nat) (l : List (List Int)) (v : Int) (w : World) (hp : Pre Ex B w pb mb keep cv lv ts n l) (hc : Cn' l) (hs : SzL l) (hv : v ∈ occM l) (hk0 : (keptM keep (occM l)).length = 0) (IH : Smaller l) :
    Calls Tryz.prog 91 #[.pointer (some ⟨pb, 0, none⟩), lv, .int .i64 v] w (FreshPost Ex B w pb mb keep cv ts l) := by
  obtain ⟨hP, hT, hL, hlen, hn⟩ := hp
  have hvr := occM_range hv
  have hvs := varM_self hvr.1
  have hlp : 1 ≤ (occM l).length := List.length_pos_of_mem hv
  obtain ⟨la, ln, lc, rfl, _, _⟩ := hL.form'
  have hwn : IntKind.i64.wrap (-v) = -v := IntWalk.i64_in _ ⟨by omega, by omega⟩
  obtain ⟨M, hM⟩ : ∃ M, capT ((occM l).length - 1) = M := ⟨_, rfl⟩
  have hcap : 1 + (M + M) ≤ capT (occM l).length := by rw [← hM]; exact capT_two (by omega) (by omega)
  have hres : ∀ x, (x = -v ∨ x = v) → (occM (resM l x)).length < (occM l).length ∧ capT (occM (resM l x)).length ≤ M := fun x hx => by
    have h1 := res_smaller hc (x := x) (by rcases hx with h | h <;> constructor <;> omega) (by
      rcases hx with h | h
      · rw [h, hvs.2]; exact hv
      · rw [h, hvs.1]; exact hv)
    exact ⟨h1, by rw [← hM]; exact capT_le (by omega)⟩
  obtain ⟨xb, hxb⟩ : ∃ b, w.heap.size = b := ⟨_, rfl⟩
  obtain ⟨W1, hW1⟩ : ∃ W, w.alloc (.cells #[.int .i64 (-v), .int .i64 v] 3) = W := ⟨_, rfl⟩
  have hb1 : Below w.heap.size w W1 := by rw [← hW1]; exact (Below.refl _ _).alloc (Nat.le_refl _) _
  have hrow : W1.heap[xb]? = some (.cells #[.int .i64 (-v), .int .i64 v] 3) := by rw [← hW1]; exact new_at' _ _ hxb.symm
  have hx0 : W1.cell? ⟨xb, 0, none⟩ = some (.int .i64 (-v)) := by rw [cell_of_row _ _ _ _ _ _ hrow]; rfl
  have hx1 : W1.cell? ⟨xb, 1, none⟩ = some (.int .i64 v) := by rw [cell_of_row _ _ _ _ _ _ hrow]; rfl
  have hs1 : xb < W1.heap.size := block_lt hx0
  have HXA : Hid (Apart pb mb cv xb) := Lib.hid (hP.apart (by omega)).1
  have HXC : Hid (∀ j : Nat, j < 2 → W1.cell? ⟨xb, j, none⟩ = some (.int .i64 ([-v, v].getD j 0)) ∧ ([-v, v].getD j 0 = -v ∨ [-v, v].getD j 0 = v)) := Lib.hid fun j hj => by
    rcases (show j = 0 ∨ j = 1 by omega) with rfl | rfl
    · exact ⟨hx0, .inl rfl⟩
    · exact ⟨hx1, .inr rfl⟩
  have HKS : Hid (KidS Ex B W1 W1 pb mb keep cv cv (.slice none 0 0) ts [] n (SeaP l v) []) := Lib.hid (KidS.start (hP.below hb1) hn (Below.refl _ _) _)
  have HT1 : Hid (TabB B W1) := Lib.hid (hT.below (hb1.mono hP.low.2.2) (Nat.le_refl B))
  have HL1 := Lib.hid (clss_below hb1 hL)
  have HG1 : Hid (Grw pb mb cv w cv W1) := Lib.hid (Grw.of_below hb1)
  have HEX : Hid (∀ b, Ex b → b < w.heap.size) := Lib.hid hP.ex
  have HBW : Hid (B ≤ W1.heap.size ∧ w.heap.size ≤ W1.heap.size) := Lib.hid ⟨Nat.le_trans hP.low.2.2 hb1.size, hb1.size⟩
  have HC := Lib.hid hc
  have HS := Lib.hid hs
  have HV := Lib.hid hv
  have HK0 := Lib.hid hk0
  have HIH := Lib.hid IH
  have HRES := Lib.hid hres
  have HVS := Lib.hid hvs
  have HIN := Lib.hid (show (Tryz.prog.info? 3).map (fun i => (i.zero, i.size, i.bytes)) = some (some (.int .i64 0), 1, 8) by kernel_rfl)
  have HW1 := Lib.hid hW1
  have HXB := Lib.hid hxb
  clear hP hT hL hc hs hv hk0 IH hres hvs hb1 hrow hx0 hx1 hxb hW1 hM
  go_enter Tryz.func91, Tryz.ntmps91
  go_wp2_with fail
  try rw [HW1.out]
  try rw [HXB.out]
  go_loopg [7, 16] 2 (fun gg u7 u16 wx => ∃ (j : Nat) (cvj : Value) (us : List Claim) (nj : Nat) (ks : List Int), j + gg = 2 ∧ u16 = .int .i64 j ∧ Hid (KidS Ex B W1 wx pb mb keep cv cvj u7 ts us nj (SeaP l v) ks) ∧ Hid (ks.length = j) ∧ us.length ≤ j * M ∧ Hid (TabB B wx))
  case atStart => exact ⟨0, cv, [], n, [], by omega, rfl, HKS, Lib.hid rfl, by simp, HT1⟩
  case round =>
  clear HKS HT1
  obtain ⟨j, cvj, us, nj, ks, hjg, rfl, HK, HKL, hul, HTJ⟩ := hrel
  obtain ⟨ka, kc, rfl⟩ : ∃ a c, u7 = .slice a ks.length c := own_form HK.out.own
  obtain ⟨kn, hkn⟩ : ∃ n, ks.length = n := ⟨_, rfl⟩
  have HKN := Lib.hid hkn
  rw [hkn] at HK ⊢
  by_cases hj : j < 2
  case neg =>
    obtain rfl : j = 2 := by omega
    have hdj : decide ((2 : Int) < 2) = false := by decide
    have hkv : Ints (AX Ex pb mb cvj) wr (.slice ka kn kc) ks := by
      refine ⟨(ownsRow_sl1 (by have := HK.out.own; rw [HKN.out] at this; exact this) (by have := HKL.out; have := HKN.out; omega)).mono fun b hb => ⟨HK.out.apart b hb.2, fun e => ?_⟩, fun x hx => ?_⟩
      · have := HEX.out b e
        have := HBW.out.2
        omega
      · obtain ⟨i, hi⟩ := List.getElem?_of_mem hx
        obtain ⟨h1, h2, _⟩ := HK.out.kids i x hi
        rw [List.length_append] at h2
        unfold I64
        omega
    obtain ⟨k0, k1, hks⟩ := ks_two HKL.out
    have hk0 := HK.out.kids 0 k0 (by rw [hks]; rfl)
    have hk1 := HK.out.kids 1 k1 (by rw [hks]; rfl)
    have hacc := HK.out.st.acc
    have hkp := HK.out.st.keep0
    have hcl := claim_any Ex B pb mb keep cvj (.slice la ln lc) (.int .i64 6) (.int .i64 v) (.slice ka kn kc) (.int .i64 0) (ts ++ us) nj ⟨l, 6, v, ks, 0⟩ wr (HK.out.st.sub fun b hb => .inl hb)
      ⟨⟨HK.out.grw.clss HL1.out, rfl, rfl, hkv, rfl⟩, by unfold I64; show (-9223372036854775808 : Int) ≤ 6 ∧ (6 : Int) ≤ _; omega, by unfold I64; show (-9223372036854775808 : Int) ≤ v ∧ v ≤ _; omega, by unfold I64; show (-9223372036854775808 : Int) ≤ 0 ∧ (0 : Int) ≤ _; omega⟩
      (fun k hk => by
        obtain ⟨i, hi⟩ := List.getElem?_of_mem hk
        obtain ⟨h1, h2, _⟩ := HK.out.kids i k hi
        exact ⟨h1, h2⟩)
      (by
        have e : kidsM (ts ++ us) ⟨l, 6, v, ks, 0⟩ = [(ts ++ us).getD k0.toNat clNil, (ts ++ us).getD k1.toNat clNil] := by
          unfold kidsM
          rw [hks]
          rfl
        rw [e, hks]
        exact fits_both hkp.2 HC.out HV.out (acc_kid hacc ⟨hk0.1, hk0.2.1⟩) (acc_kid hacc ⟨hk1.1, hk1.2.1⟩) hk0.2.2.1 hk1.2.2.1 hk0.2.2.2 hk1.2.2.2 k0 k1)
      (by rw [List.length_append]; omega) ⟨HS.out.1, HS.out.2, by have := HKL.out; show ks.length ≤ 4000; omega⟩
    have HCL := Lib.hid hcl
    have HNL : Hid (nj ≤ (ts ++ us).length) := Lib.hid HK.out.n_le
    have HGR : Hid (Grw pb mb cv W1 cvj wr) := Lib.hid HK.out.grw
    clear hcl hkv hk0 hk1 hacc hkp hks HK hkn
    go_wp2_with fail
    refine HCL.out.mono ?_
    rintro e w8 ⟨cv8, he, hP8, hG8⟩
    obtain ⟨tl, htl⟩ : ∃ n, (ts ++ us).length = n := ⟨_, rfl⟩
    rw [htl] at he
    subst he
    have HF : Hid (FreshPost Ex B w pb mb keep cv ts l (.returned (.int .i64 (tl : Int))) w8) := Lib.hid (by
      rw [← htl]
      refine ⟨cv8, us ++ [⟨l, 6, v, ks, 0⟩], nj, (ts ++ us).length, rfl, ?_, (HG1.out.trans HGR.out).trans hG8, ?_, ?_, ?_, ?_⟩
      · rw [← List.append_assoc]; exact hP8
      · simp only [List.length_append, List.length_cons, List.length_nil]; omega
      · rw [← List.append_assoc, List.getD_eq_getElem?_getD, List.getElem?_append_right (Nat.le_refl _)]; simp
      · rw [List.length_append]; simp only [List.length_cons, List.length_nil]; omega
      · rw [← List.append_assoc, List.length_append]; have := HNL.out; simp only [List.length_cons, List.length_nil]; omega)
    clear hP8 hG8 HCL
    try clear htl
    go_wp2_with fail
    go_ret
    exact HF.out
  obtain ⟨hxc, hxv⟩ := HXC.out j hj
  obtain ⟨x, hx⟩ : ∃ x, [-v, v].getD j 0 = x := ⟨_, rfl⟩
  have HX := Lib.hid hx
  rw [hx] at hxc hxv
  have hxr : -20000 ≤ x ∧ x ≤ 20000 := by rcases hxv with h | h <;> omega
  have hxo : varM x = v := by
    rcases hxv with h | h
    · rw [h]; exact HVS.out.2
    · rw [h]; exact HVS.out.1
  have hx0 : x ≠ 0 := by rcases hxv with h | h <;> omega
  obtain ⟨hrs, hrc⟩ := HRES.out x hxv
  have hxw : wr.cell? ⟨xb, j, none⟩ = some (.int .i64 x) := (World.cell?_of_block (HK.out.grw.block xb hs1 HXA.out)).trans hxc
  have hLr := HK.out.grw.clss HL1.out
  have HRA := Lib.hid (residual_any _ _ l x wr hLr (by unfold I64; omega) (by have := HS.out.1; omega) (fun c h => by have := HS.out.2 c h; omega))
  have HLR := Lib.hid hLr
  have hdj : decide ((j : Int) < 2) = true := by simp; omega
  have hj2 : (j : Int) < 2 := by omega
  have hjm : us.length ≤ M := Nat.le_trans hul (by rcases (show j = 0 ∨ j = 1 by omega) with rfl | rfl <;> simp)
  have HXV := Lib.hid hxv
  have HXO := Lib.hid hxo
  have HRS := Lib.hid hrs
  have HUL := Lib.hid hul
  clear hxc hx hxv hLr hkn hxo hrs hul
  go_wp2_with fail
  refine HRA.out.mono ?_
  rintro e w2 ⟨av, rfl, ha2, hb2⟩
  obtain ⟨aa, an, ac, rfl, _, _⟩ := ha2.form'
  have hK2 := HK.out.below hb2
  have hA2 : Clss (AX (fun b => Ex b ∨ (Value.slice ka kn kc).ownBlock = some b) pb mb cvj) w2 (.slice aa an ac) (resM l x) := Rows1.mono (fun _ _ _ _ _ h hg => h.mono hg) ha2 fun b hb => HK.out.st.apart hb
  have hT2 := HTJ.out.below (hb2.mono HK.out.st.low.2.2) (Nat.le_refl B)
  have HPA := Lib.hid (HIH.out (resM l x) (HC.out.res hxr) (res_sz HS.out) HRS.out (fun b => Ex b ∨ (Value.slice ka kn kc).ownBlock = some b) B pb mb keep cvj _ (ts ++ us) nj w2 ⟨hK2.st, hT2, hA2, by rw [List.length_append]; omega, hK2.n_le⟩)
  have HK2 := Lib.hid hK2
  have HT2 := Lib.hid hT2
  have HL2 := Lib.hid (clss_below hb2 HLR.out)
  clear ha2 hb2 hK2 hA2 hT2 HRA HLR HK HTJ hxw
  go_wp2_with fail
  refine HPA.out.mono ?_
  rintro e w3 ⟨cv3, vs, n3, i, rfl, hP3, hG3, hi3, hic, hvl, hn3, _⟩
  have hK3 := HK2.out.proved hP3 hG3 hn3
  have hL3 := hG3.clss HL2.out
  have hT3 := HK2.out.st.tab HT2.out hG3
  rw [List.append_assoc] at hi3 hic
  obtain ⟨U, hU⟩ : ∃ U, us ++ vs = U := ⟨_, rfl⟩
  have hUl : U.length = us.length + vs.length := by rw [← hU, List.length_append]
  rw [hU] at hK3 hi3 hic
  obtain ⟨cb, cc4, hcv4, hcb, hcp, hci⟩ := hK3.st.count hi3
  have hp2 := hK3.st.c2
  have hka := acc_kid hK3.st.acc (k := (i : Int)) ⟨by omega, by omega⟩
  rw [show ((i : Nat) : Int).toNat = i by omega] at hka
  obtain ⟨a, ha⟩ : ∃ a, (ts ++ U).getD i clNil = a := ⟨_, rfl⟩
  rw [ha] at hci hka hic
  have hbit := kid_bit hka HK0.out (fun y hy => (kid_occ HC.out hxr hic y hy).1)
  obtain ⟨tn, htn⟩ : ∃ m, (ts ++ U).length = m := ⟨_, rfl⟩
  have hlt : tn ≤ 60000 := by rw [← htn, List.length_append]; omega
  have hit : (i : Int) < tn := by rw [← htn]; omega
  have hitn : i < tn := by rw [← htn]; exact hi3
  rw [htn] at hcv4
  rw [hcv4] at hp2
  have HTN := Lib.hid htn
  have HCV := Lib.hid hcv4
  have HA := Lib.hid ha
  have HKA := Lib.hid hka
  have HIC := Lib.hid hic
  have HK3 := Lib.hid hK3
  have HL3 := Lib.hid hL3
  have HT3 := Lib.hid hT3
  have HUL3 := Lib.hid hUl
  have HVL := Lib.hid hvl
  clear hP3 hG3 hi3 hic hn3 hK3 hL3 hT3 hU hUl hka ha htn hcv4 hvl HPA HK2 HT2 HL2
  rcases hbit with hbit | hbit
  · -- no model below this literal
    rw [hbit] at hci
    have hown := HK3.out.own
    have HAB := Lib.hid hbit
    rw [HKN.out] at hown
    have hkn2 : kn ≤ 2 := by have := HKL.out; have := HKN.out; omega
    have hwl : W1.heap.size ≤ w3.heap.size := HK3.out.grw.size
    clear hbit
    go_wp2_with (at_builtin; go_loud (refine wpList_push1 rfl _ _ 32 rfl 3 (.int .i64 0) 8 Tryz.underlying32 HIN.out rfl W1.heap.size (.slice ka kn kc) kn (ks.map (.int .i64)) w3 (.int .i64 (i : Int)) rfl rfl hown rfl (by omega) (by omega) (by omega) ?_); intro g7 cap7 w7 hown7 hg7 hs7 hgb hgl hat; have HK7 : Hid (KidS Ex B W1 w7 pb mb keep cv cv3 (.slice (some ⟨g7, 0, none⟩) (kn + 1) cap7) ts U n3 (SeaP l v) (ks ++ [(i : Int)])) := Lib.hid (by { have h := HK3.out.push (k := i) (by rw [HTN.out]; exact hitn) ⟨by rw [HA.out, HKN.out, show kn = j by have := HKL.out; have := HKN.out; omega, HX.out]; exact HIC.out, by rw [HA.out]; exact HAB.out⟩ (by rw [HKN.out]; exact hown7) hg7 hgl hat; rw [HKN.out] at h; exact h }); have HT7 : Hid (TabB B w7) := Lib.hid (HT3.out.on (HK3.out.grown_low HBW.out.1 hg7)); clear hown7 hg7 hat hown)
    go_roundg (gk - 1)
    case measure => omega
    case rel => exact ⟨j + 1, cv3, U, n3, ks ++ [(i : Int)], by omega, by go_num, HK7, Lib.hid (by rw [List.length_append, HKL.out]; rfl), by have := HUL.out; have := HVL.out; have := HUL3.out; rw [Nat.add_mul]; omega, HT7⟩
  · -- a model
    rw [hbit] at hci
    have HAB := Lib.hid hbit
    obtain ⟨kb, hkb⟩ : ∃ b, w3.heap.size = b := ⟨_, rfl⟩
    obtain ⟨W7, hW7⟩ : ∃ W, w3.alloc (.cells #[.int .i64 i] 3) = W := ⟨_, rfl⟩
    have hb7 : Below w3.heap.size w3 W7 := by rw [← hW7]; exact (Below.refl _ _).alloc (Nat.le_refl _) _
    have hP3 : PrS Ex B w3 pb mb keep cv3 (ts ++ U) n3 := HK3.out.st.sub fun b hb => .inl hb
    have hki : Ints (AX Ex pb mb cv3) W7 (.slice (some ⟨kb, 0, none⟩) 1 1) [(i : Int)] := by
      have h1 : W7.ownsRow w3.heap.size 3 1 (.slice (some ⟨w3.heap.size, 0, none⟩) 1 1) 1 ([(i : Int)].map (.int .i64)) := by rw [← hW7]; simpa using own_new (base := w3.heap.size) (w := w3) #[.int .i64 i] 3 (Nat.le_refl _) (by simp)
      rw [hkb] at h1
      refine ⟨(ownsRow_sl1 h1 (by simp)).mono fun b hb => hP3.apart (by omega), fun x hx => ?_⟩
      simp at hx
      subst hx
      unfold I64
      omega
    have hkp := hP3.keep0
    have hcl := claim_any Ex B pb mb keep cv3 (.slice la ln lc) (.int .i64 5) (.int .i64 x) (.slice (some ⟨kb, 0, none⟩) 1 1) (.int .i64 1) (ts ++ U) n3 ⟨l, 5, x, [(i : Int)], 1⟩ W7 (hP3.below hb7)
      ⟨⟨clss_below hb7 HL3.out, rfl, rfl, hki, rfl⟩, by unfold I64; show (-9223372036854775808 : Int) ≤ 5 ∧ (5 : Int) ≤ _; omega, by unfold I64; show (-9223372036854775808 : Int) ≤ x ∧ x ≤ _; omega, by unfold I64; show (-9223372036854775808 : Int) ≤ 1 ∧ (1 : Int) ≤ _; omega⟩
      (fun k hk => by
        have := HTN.out
        simp at hk
        subst hk
        omega)
      (by
        have : kidsM (ts ++ U) ⟨l, 5, x, [(i : Int)], 1⟩ = [a] := by
          unfold kidsM
          simp only [List.map_cons, List.map_nil, Int.toNat_natCast]
          rw [HA.out]
        rw [this]
        exact fits_try hkp.2 HC.out HK0.out hx0 hxr (by rw [HXO.out]; exact HV.out) HKA.out HIC.out HAB.out i)
      (by rw [HTN.out]; omega) ⟨HS.out.1, HS.out.2, by simp⟩
    have HCL := Lib.hid hcl
    have HGR : Hid (Grw pb mb cv W1 cv3 W7) := Lib.hid (HK3.out.grw.trans (Grw.of_below hb7))
    have HNL : Hid (n3 ≤ (ts ++ U).length) := Lib.hid HK3.out.n_le
    have HW7 := Lib.hid hW7
    have HKB := Lib.hid hkb
    clear hcl hki hb7 hW7 hkb hbit hP3 hkp
    go_wp2_with fail
    try rw [HW7.out]
    try rw [HKB.out]
    refine HCL.out.mono ?_
    rintro e w8 ⟨cv8, he, hP8, hG8⟩
    rw [HTN.out] at he
    subst he
    have HF : Hid (FreshPost Ex B w pb mb keep cv ts l (.returned (.int .i64 (tn : Int))) w8) := Lib.hid (by
      rw [← HTN.out]
      refine ⟨cv8, U ++ [⟨l, 5, x, [(i : Int)], 1⟩], n3, (ts ++ U).length, rfl, ?_, (HG1.out.trans HGR.out).trans hG8, ?_, ?_, ?_, ?_⟩
      · rw [← List.append_assoc]; exact hP8
      · simp only [List.length_append, List.length_cons, List.length_nil]; omega
      · rw [← List.append_assoc, List.getD_eq_getElem?_getD, List.getElem?_append_right (Nat.le_refl _)]; simp
      · have := HUL3.out; have := HVL.out; rw [List.length_append]; simp only [List.length_cons, List.length_nil]; omega
      · rw [← List.append_assoc, List.length_append]; have := HNL.out; simp only [List.length_cons, List.length_nil]; omega)
    clear hP8 hG8 HCL
    try clear htl
    go_wp2_with fail
    try rw [Exit.noGoto_ret]
    go_ret
    exact HF.out

/- (Counter seat) Walk: split. No condition but the sizes, and that smaller lists are proved. -/
open Go.ChangeShapes Go.WideShapes Go.ChangeAt Go.RowKit
set_option linter.unusedVariables false
set_option linter.unusedSimpArgs false

/-- a slice of clauses that the call owns; its rows lie below and apart -/
def PickO (w : World) (base : Nat) (F : Nat → Prop) (v : Value) (cs : List (List Int)) : Prop :=
  ∃ us, w.ownsRow base 32 1 v cs.length us ∧ us.length = cs.length ∧ ∀ (j : Nat) u c, us[j]? = some u → cs[j]? = some c → Ints (fun b => b < base ∧ F b) w u c
theorem PickO.nil (w : World) (base : Nat) (F : Nat → Prop) : PickO w base F (.slice none 0 0) [] := ⟨[], World.ownsRow_nil _ _ _ _, rfl, by simp⟩
theorem PickO.clss {w : World} {base : Nat} {F : Nat → Prop} {v : Value} {cs : List (List Int)} (h : PickO w base F v cs) (hn : cs.length ≤ 9223372036854775807) (hF : ∀ b, base ≤ b → b < w.heap.size → F b) : Clss F w v cs := by
  obtain ⟨us, h1, h2, h3⟩ := h
  exact ⟨us, ((ownsRow_sl1 h1 hn).lt).mono fun b hb => hF b hb.1.1 hb.2, h2, fun j u c hu hc => (h3 j u c hu hc).mono fun b hb => hb.2⟩
theorem PickO.push {w w' : World} {base g cap : Nat} {F : Nat → Prop} {v rv : Value} {ls : List (List Int)} {c : List Int} {us : List Value}
    (h1 : w.ownsRow base 32 1 v ls.length us) (h2 : us.length = ls.length) (h3 : ∀ (j : Nat) u c, us[j]? = some u → ls[j]? = some c → Ints (fun b => b < base ∧ F b) w u c) (hr : Ints (fun b => b < base ∧ F b) w rv c)
    (hown : w'.ownsRow base 32 1 (.slice (some ⟨g, 0, none⟩) (ls.length + 1) cap) (ls.length + 1) (us ++ [rv])) (hg : w.grownBy w' v.ownBlock) :
    PickO w' base F (.slice (some ⟨g, 0, none⟩) (ls.length + 1) cap) (ls ++ [c]) := by
  have mv : ∀ u m, Ints (fun b => b < base ∧ F b) w u m → Ints (fun b => b < base ∧ F b) w' u m := fun u m hu =>
    hu.move (w' := w') fun b hb hlt => hg.block b hlt fun e => by have := (h1.lt b e.symm).1; omega
  refine ⟨_, by rw [List.length_append]; exact hown, by simp [h2], fun j u x hu hx => ?_⟩
  rcases Nat.lt_or_ge j us.length with hj | hj
  · rw [List.getElem?_append_left hj] at hu
    rw [List.getElem?_append_left (by omega)] at hx
    exact mv u x (h3 j u x hu hx)
  · rw [List.getElem?_append_right hj] at hu
    rw [List.getElem?_append_right (by omega)] at hx
    rw [h2] at hu
    rcases hk : j - ls.length with _ | k
    · rw [hk] at hu hx
      simp at hu hx
      subst hu hx
      exact mv rv c hr
    · rw [hk] at hu
      simp at hu
/-- a block of the walk's own that no claim reads is written -/
theorem KidS.set {Ex : Nat → Prop} {B : Nat} {w0 w : World} {pb mb b o : Nat} {keep : Int} {cv0 cv kv : Value} {ts us : List Claim} {n : Nat} {P : Nat → Claim → Prop} {ks : List Int}
    (h : KidS Ex B w0 w pb mb keep cv0 cv kv ts us n P ks) (v : Value) (hx : Ex b) (ha : Apart pb mb cv b) (hb : w0.heap.size ≤ b) (hk : kv.ownBlock ≠ some b) : KidS Ex B w0 (w.setCell ⟨b, o, none⟩ v) pb mb keep cv0 cv kv ts us n P ks := by
  have hg := set_grown w b o v
  refine ⟨h.st.turn hg (fun c hc => by injection hc with hc; subst hc; exact ⟨.inl hx, ha⟩) fun c hc => .inl hc, ⟨hg.os.trans h.grw.os, hg.tape.trans h.grw.tape, hg.output.trans h.grw.output, Nat.le_trans h.grw.size hg.size, fun c hc hac => (set_heap (by omega)).trans (h.grw.block c hc hac), h.grw.own⟩, own_same h.own fun c hc => set_heap fun e => hk (by rw [← e]; exact hc), h.apart, h.kids, h.n_le⟩
/-- the kid of a part -/
def SplP (l : List (List Int)) (gs : List (List Nat)) (i : Nat) (c : Claim) : Prop := ∃ is, gs[i]? = some is ∧ c.cls = pick l is
/-- the product of the counts of the kids so far -/
def prodK (ts : List Claim) (ks : List Int) : Int := prodC (ks.map fun k => ts.getD k.toNat clNil)
theorem prodC_snoc : ∀ (ks : List Claim) (k : Claim), prodC (ks ++ [k]) = prodC ks * k.count
  | [], k => by show k.count * 1 = 1 * k.count; omega
  | a :: r, k => by
    show a.count * prodC (r ++ [k]) = a.count * prodC r * k.count
    rw [prodC_snoc r k, Int.mul_assoc]
theorem prodK_more {ts us : List Claim} {ks : List Int} {P : Nat → Claim → Prop} (h : KidP ts P ks) : prodK (ts ++ us) ks = prodK ts ks := by
  unfold prodK
  congr 1
  refine List.map_congr_left fun k hk => ?_
  obtain ⟨i, hi⟩ := List.getElem?_of_mem hk
  obtain ⟨h1, h2, _⟩ := h i k hi
  exact getD_keep (by omega)
theorem prodK_snoc (ts : List Claim) (ks : List Int) (k : Nat) : prodK ts (ks ++ [(k : Int)]) = prodK ts ks * (ts.getD k clNil).count := by
  unfold prodK
  rw [List.map_append, List.map_cons, List.map_nil, prodC_snoc]
  simp
/-- the kids' claims as parts -/
theorem kids_cls {ts : List Claim} {l : List (List Int)} {gs : List (List Nat)} {ks : List Int} (h : KidP ts (SplP l gs) ks) : ∀ i is, gs[i]? = some is → i < ks.length → ∃ c, (ks.map fun k => ts.getD k.toNat clNil)[i]? = some c ∧ c.cls = pick l is := fun i is hi hl => by
  obtain ⟨_, _, js, h1, h2⟩ := h i ks[i] (List.getElem?_eq_getElem hl)
  rw [hi] at h1
  injection h1 with h1
  subst h1
  exact ⟨_, by rw [List.getElem?_map, List.getElem?_eq_getElem hl]; rfl, h2⟩
theorem kids_map {ts : List Claim} {l : List (List Int)} {gs : List (List Nat)} {ks : List Int} (h : KidP ts (SplP l gs) ks) (hl : ks.length ≤ gs.length) : (ks.map fun k => (ts.getD k.toNat clNil).cls) = (gs.take ks.length).map (pick l) := by
  apply List.ext_getElem?
  intro i
  rw [List.getElem?_map, List.getElem?_map, List.getElem?_take]
  by_cases hi : i < ks.length
  · rw [if_pos hi]
    obtain ⟨_, _, js, h1, h2⟩ := h i ks[i] (List.getElem?_eq_getElem hi)
    rw [List.getElem?_eq_getElem hi, h1]
    simp only [Option.map_some]
    rw [h2]
  · rw [if_neg hi, List.getElem?_eq_none (by omega)]
    rfl
/-- the kids have no variable in common, and are fine -/
theorem kids_dj {keep : Int} {ts : List Claim} {l : List (List Int)} {gs : List (List Nat)} {ks : List Int} (h : KidP ts (SplP l gs) ks) (hp : PartsP l gs) (hl : ks.length ≤ gs.length) : (ks.map fun k => ts.getD k.toNat clNil).Pairwise Dj := by
  have h1 : (ks.map fun k => (ts.getD k.toNat clNil).cls).Pairwise fun a b => ∀ v ∈ occM a, v ∉ occM b := by
    rw [kids_map h hl, List.pairwise_map]
    exact List.Pairwise.sublist (List.take_sublist _ _) hp.disj
  rw [List.pairwise_map] at h1 ⊢
  exact h1.imp fun {a b} hab v ha hb => hab v ha hb
theorem kids_ok {keep : Int} {ts : List Claim} {P : Nat → Claim → Prop} {ks : List Int} (h : KidP ts P ks) (ha : AccS keep ts) : ∀ k ∈ ks.map (fun k => ts.getD k.toNat clNil), KidOk keep k := fun c hc => by
  obtain ⟨k, hk, rfl⟩ := List.mem_map.1 hc
  obtain ⟨i, hi⟩ := List.getElem?_of_mem hk
  obtain ⟨h1, h2, _⟩ := h i k hi
  exact acc_kid ha ⟨h1, h2⟩
theorem kids_occ {ts : List Claim} {l : List (List Int)} {gs : List (List Nat)} {ks : List Int} (h : KidP ts (SplP l gs) ks) (hp : PartsP l gs) : ∀ k ∈ ks.map (fun k => ts.getD k.toNat clNil), ∀ x ∈ occM k.cls, x ∈ occM l := fun c hc x hx => by
  obtain ⟨k, hk, rfl⟩ := List.mem_map.1 hc
  obtain ⟨i, hi⟩ := List.getElem?_of_mem hk
  obtain ⟨_, _, js, h1, h2⟩ := h i k hi
  rw [h2] at hx
  exact hp.occ js (List.mem_of_getElem? h1) x hx
/-- the product stays small -/
theorem prodK_le {keep : Int} {ts : List Claim} {l : List (List Int)} {gs : List (List Nat)} {ks : List Int} (h40 : keep ≤ 40) (h : KidP ts (SplP l gs) ks) (hp : PartsP l gs) (hl : ks.length ≤ gs.length) (ha : AccS keep ts) : 0 ≤ prodK ts ks ∧ prodK ts ks ≤ 1099511627776 := by
  obtain ⟨h3, h4⟩ := prodC_le (kids_ok h ha)
  have hk : (keptK keep (ks.map fun k => ts.getD k.toNat clNil)).length ≤ (keptM keep (occM l)).length := nodup_len_le (keptK_nodup (kids_dj (keep := keep) h hp hl)) fun x hx => by
    obtain ⟨⟨k, hk, hx⟩, hx2⟩ := keptK_mem.1 hx
    exact kept_mem.2 ⟨kids_occ h hp k hk x hx, hx2⟩
  exact ⟨h3, Int.le_trans (Int.le_trans h4 (pow_mono hk)) (pow_le40 (kept_le40 h40))⟩
/-- all kids made: the claim fits -/
theorem split_fits {keep : Int} {ts : List Claim} {l : List (List Int)} {gs : List (List Nat)} {ks : List Int} (h40 : keep ≤ 40) (hc : Cn' l) (h : KidP ts (SplP l gs) ks) (hp : PartsP l gs) (h2 : 2 ≤ gs.length) (hl : ks.length = gs.length) (ha : AccS keep ts) :
    Fits keep ⟨l, 4, 0, ks, prodK ts ks⟩ (kidsM ts ⟨l, 4, 0, ks, prodK ts ks⟩) := by
  have e : kidsM ts ⟨l, 4, 0, ks, prodK ts ks⟩ = ks.map fun k => ts.getD k.toNat clNil := rfl
  rw [e]
  refine fits_split h40 hc (by rw [List.length_map, hl]; exact h2) (kids_ok h ha) (kids_dj (keep := keep) h hp (by omega)) ?_ (kids_occ h hp) ks
  have e2 : allM (ks.map fun k => ts.getD k.toNat clNil) = gs.flatMap (pick l) := by
    have h5 := kids_map h (by omega)
    rw [hl, List.take_length] at h5
    unfold allM
    rw [List.flatMap_def, List.flatMap_def, ← h5, List.map_map]
    rfl
  rw [e2]
  exact hp.perm
theorem sum_take_le {xs : List Nat} {k : Nat} : ((xs.take k).sum) ≤ xs.sum := by
  conv => rhs; rw [← List.take_append_drop k xs]
  rw [List.sum_append]
  omega
/-- the state between two parts -/
structure SplS (Ex : Nat → Prop) (B : Nat) (w0 w : World) (pb mb xb : Nat) (keep : Int) (cv0 cv lv kv : Value) (ts us : List Claim) (n : Nat) (l : List (List Int)) (gs : List (List Nat)) (ks : List Int) : Prop where
  K : KidS (fun b => Ex b ∨ b = xb) B w0 w pb mb keep cv0 cv kv ts us n (SplP l gs) ks
  c0 : w.cell? ⟨xb, 0, none⟩ = some lv
  c1 : w.cell? ⟨xb, 1, none⟩ = some (.int .i64 4)
  c2 : w.cell? ⟨xb, 2, none⟩ = some (.int .i64 0)
  c3 : w.cell? ⟨xb, 3, none⟩ = some kv
  c4 : w.cell? ⟨xb, 4, none⟩ = some (.int .i64 (prodK (ts ++ us) ks))
  fz : ∀ o, w.frozen? ⟨xb, o, none⟩ = false
  kx : kv.ownBlock ≠ some xb
  ax : Apart pb mb cv xb
  low : w0.heap.size ≤ xb
  tab : TabB B w
  cap : us.length ≤ ((gs.take ks.length).map fun is => capT (occM (pick l is)).length).sum
theorem SplS.below {Ex : Nat → Prop} {B : Nat} {w0 w w' : World} {pb mb xb : Nat} {keep : Int} {cv0 cv lv kv : Value} {ts us : List Claim} {n : Nat} {l : List (List Int)} {gs : List (List Nat)} {ks : List Int}
    (h : SplS Ex B w0 w pb mb xb keep cv0 cv lv kv ts us n l gs ks) (hb : Below w.heap.size w w') : SplS Ex B w0 w' pb mb xb keep cv0 cv lv kv ts us n l gs ks :=
  have hx := block_lt h.c0
  ⟨h.K.below hb, below_c hb hx h.c0, below_c hb hx h.c1, below_c hb hx h.c2, below_c hb hx h.c3, below_c hb hx h.c4, fun o => below_z hb hx (h.fz o), h.kx, h.ax, h.low, h.tab.below (hb.mono h.K.st.low.2.2) (Nat.le_refl _), h.cap⟩
/-- a part's claim was proved: its kid is still to be listed -/
theorem SplS.proved {Ex : Nat → Prop} {B : Nat} {w0 w w' : World} {pb mb xb : Nat} {keep : Int} {cv0 cv cv' lv kv : Value} {ts us vs : List Claim} {n n' : Nat} {l : List (List Int)} {gs : List (List Nat)} {ks : List Int} {is : List Nat}
    (h : SplS Ex B w0 w pb mb xb keep cv0 cv lv kv ts us n l gs ks) (hP : PrS (fun b => (Ex b ∨ b = xb) ∨ kv.ownBlock = some b) B w' pb mb keep cv' (ts ++ us ++ vs) n') (hG : Grw pb mb cv w cv' w') (hn : n' ≤ (ts ++ us ++ vs).length) :
    KidS (fun b => Ex b ∨ b = xb) B w0 w' pb mb keep cv0 cv' kv ts (us ++ vs) n' (SplP l gs) ks ∧ w'.cell? ⟨xb, 0, none⟩ = some lv ∧ w'.cell? ⟨xb, 1, none⟩ = some (.int .i64 4) ∧ w'.cell? ⟨xb, 2, none⟩ = some (.int .i64 0) ∧ w'.cell? ⟨xb, 3, none⟩ = some kv ∧ w'.cell? ⟨xb, 4, none⟩ = some (.int .i64 (prodK (ts ++ (us ++ vs)) ks)) ∧ (∀ o, w'.frozen? ⟨xb, o, none⟩ = false) ∧ Apart pb mb cv' xb ∧ TabB B w' := by
  have hx : xb < w.heap.size := block_lt h.c0
  have hbk := hG.block xb hx h.ax
  have hc : ∀ {o : Nat} {v : Value}, w.cell? ⟨xb, o, none⟩ = some v → w'.cell? ⟨xb, o, none⟩ = some v := fun {o v} hv => (World.cell?_of_block (a := ⟨xb, o, none⟩) hbk).trans hv
  refine ⟨h.K.proved hP hG hn, hc h.c0, hc h.c1, hc h.c2, hc h.c3, ?_, fun o => (World.frozen?_of_block (a := ⟨xb, o, none⟩) hbk).trans (h.fz o), hG.keepA hx h.ax, h.K.st.tab h.tab hG⟩
  rw [← List.append_assoc, prodK_more h.K.kids]
  exact hc h.c4
/-- the kid is listed and its count multiplied -/
theorem SplS.next {Ex : Nat → Prop} {B : Nat} {w0 w w1 w2 : World} {pb mb xb g cap k : Nat} {keep : Int} {cv0 cv lv kv : Value} {ts us : List Claim} {n : Nat} {l : List (List Int)} {gs : List (List Nat)} {ks : List Int}
    (hK : KidS (fun b => Ex b ∨ b = xb) B w0 w pb mb keep cv0 cv kv ts us n (SplP l gs) ks) (hk : k < (ts ++ us).length) (hp : SplP l gs ks.length ((ts ++ us).getD k clNil))
    (h0 : w.cell? ⟨xb, 0, none⟩ = some lv) (h1 : w.cell? ⟨xb, 1, none⟩ = some (.int .i64 4)) (h2 : w.cell? ⟨xb, 2, none⟩ = some (.int .i64 0)) (h3 : w.cell? ⟨xb, 3, none⟩ = some kv) (h4 : w.cell? ⟨xb, 4, none⟩ = some (.int .i64 (prodK (ts ++ us) ks))) (hf : ∀ o, w.frozen? ⟨xb, o, none⟩ = false) (hkx : kv.ownBlock ≠ some xb) (hax : Apart pb mb cv xb) (hlow : w0.heap.size ≤ xb) (htab : TabB B w) (hB0 : B ≤ w0.heap.size)
    (hcap : us.length ≤ ((gs.take (ks.length + 1)).map fun is => capT (occM (pick l is)).length).sum)
    (hown : w1.ownsRow w0.heap.size 3 1 (.slice (some ⟨g, 0, none⟩) (ks.length + 1) cap) (ks.length + 1) (ks.map (.int .i64) ++ [.int .i64 (k : Int)])) (hg : w.grownBy w1 kv.ownBlock) (hgl : g < w1.heap.size) (hat : kv.ownBlock = some g ∨ w.heap.size ≤ g)
    (hw2 : w2 = (w1.setCell ⟨xb, 3, none⟩ (.slice (some ⟨g, 0, none⟩) (ks.length + 1) cap)).setCell ⟨xb, 4, none⟩ (.int .i64 (prodK (ts ++ us) (ks ++ [(k : Int)])))) :
    SplS Ex B w0 w2 pb mb xb keep cv0 cv lv (.slice (some ⟨g, 0, none⟩) (ks.length + 1) cap) ts us n l gs (ks ++ [(k : Int)]) := by
  have hx : xb < w.heap.size := block_lt h0
  have hne : some xb ≠ kv.ownBlock := fun e => hkx e.symm
  have hK1 := hK.push hk hp hown hg hgl hat
  have hgx : g ≠ xb := by
    rcases hat with h | h
    · exact fun e => hkx (by rw [h, e])
    · omega
  have hkx2 : (Value.slice (some ⟨g, 0, none⟩) (ks.length + 1) cap).ownBlock ≠ some xb := fun e => hgx (by simpa [Value.ownBlock] using e)
  have hK2 := (hK1.set (o := 3) (.slice (some ⟨g, 0, none⟩) (ks.length + 1) cap) (.inr rfl) hax hlow hkx2).set (o := 4) (.int .i64 (prodK (ts ++ us) (ks ++ [(k : Int)]))) (.inr rfl) hax hlow hkx2
  rw [← hw2] at hK2
  have d0 := grown_c2 hg hne h0
  have d1 := grown_c2 hg hne h1
  have d2 := grown_c2 hg hne h2
  have d3 := grown_c2 hg hne h3
  have d4 := grown_c2 hg hne h4
  refine ⟨hK2, ?_, ?_, ?_, ?_, ?_, fun o => ?_, hkx2, hax, hlow, ?_, by rw [List.length_append]; exact hcap⟩
  · rw [hw2]; exact set_ne (.inr (by omega)) (set_ne (.inr (by omega)) d0)
  · rw [hw2]; exact set_ne (.inr (by omega)) (set_ne (.inr (by omega)) d1)
  · rw [hw2]; exact set_ne (.inr (by omega)) (set_ne (.inr (by omega)) d2)
  · rw [hw2]; exact set_ne (.inr (by omega)) (set_eq d3)
  · rw [hw2]; exact set_eq (set_ne (.inr (by omega)) d4)
  · rw [hw2, World.frozen?_setCell, World.frozen?_setCell]
    exact (World.frozen?_of_block (a := ⟨xb, o, none⟩) (hg.block xb hx hne)).trans (hf o)
  · have h5 : Below B w w1 := hK.grown_low hB0 hg
    rw [hw2]
    exact htab.on ((h5.setCell (by show B ≤ xb; omega) _).setCell (by show B ≤ xb; omega) _)

/- (Counter seat) Walk: split. No condition but the sizes, and that smaller lists are proved. -/
open Go.ChangeShapes Go.WideShapes Go.ChangeAt Go.RowKit
set_option linter.unusedVariables false
set_option linter.unusedSimpArgs false

theorem pick_take {l : List (List Int)} {is : List Nat} {j i : Nat} (h : is[j]? = some i) : pick l (is.take (j + 1)) = pick l (is.take j) ++ [l.getD i []] := by
  rw [List.take_add_one, h]
  unfold pick
  simp
theorem pick_len (l : List (List Int)) (is : List Nat) : (pick l is).length = is.length := by unfold pick; simp
set_option maxRecDepth 100000 in
set_option maxHeartbeats 16000000 in
theorem psplit_any (Ex : Nat → Prop) (B pb mb : Nat) (keep : Int) (cv lv pv : Value) (ts : List Claim) (n : Nat) (l : List (List Int)) (gs : List (List Nat)) (w : World) (hp : Pre Ex B w pb mb keep cv lv ts n l) (hc : Cn' l) (hs : SzL l) (hps : PartsP l gs) (h2 : 2 ≤ gs.length)
    (hpv : Clss (AX Ex pb mb cv) w pv (gs.map fun g => g.map Int.ofNat)) (hgz : gs.length ≤ 4000 ∧ ∀ g ∈ gs, g.length ≤ 4000) (IH : Smaller l) :
    Calls Tryz.prog 88 #[.pointer (some ⟨pb, 0, none⟩), lv, pv] w (FreshPost Ex B w pb mb keep cv ts l) := by
  obtain ⟨hP, hT, hL, hlen, hn⟩ := hp
  obtain ⟨la, ln, lc, rfl, HLN, _⟩ := hL.form'
  obtain ⟨ga, gn, gc, rfl, HGN, _⟩ := hpv.form'
  have HGNL : Hid (gn = gs.length) := Lib.hid (by have := HGN.out; simpa using this)
  obtain ⟨xb, hxb⟩ : ∃ b, w.heap.size = b := ⟨_, rfl⟩
  obtain ⟨W1, hW1⟩ : ∃ W, w.alloc (.cells #[.slice la ln lc, .int .i64 4, .int .i64 0, .slice none 0 0, .int .i64 1] 52) = W := ⟨_, rfl⟩
  have hb1 : Below w.heap.size w W1 := by rw [← hW1]; exact (Below.refl _ _).alloc (Nat.le_refl _) _
  have hrow : W1.heap[xb]? = some (.cells #[.slice la ln lc, .int .i64 4, .int .i64 0, .slice none 0 0, .int .i64 1] 52) := by rw [← hW1]; exact new_at' _ _ hxb.symm
  have hs1 : W1.heap.size = xb + 1 := by rw [← hW1]; simp; omega
  have HSP : Hid (SplS Ex B w W1 pb mb xb keep cv cv (.slice la ln lc) (.slice none 0 0) ts [] n l gs []) := Lib.hid (by
    have hg : w.grownBy W1 none := by rw [← hW1]; exact World.grownBy_alloc _ _ _
    refine ⟨⟨?_, Grw.of_below hb1, World.ownsRow_nil _ _ _ _, fun b hb => (by cases hb), KidP.nil _ _, by rw [List.append_nil]; exact hn⟩, ?_, ?_, ?_, ?_, ?_, fun o => ?_, fun e => (by cases e), (hP.apart (by omega)).1, by omega, hT.below (hb1.mono hP.low.2.2) (Nat.le_refl _), by simp⟩
    · rw [List.append_nil]
      refine hP.turn hg (fun b hb => (by cases hb)) fun b hb => ?_
      rcases hb with (h | h) | h
      · exact .inl h
      · exact .inr ⟨by omega, by omega⟩
      · cases h
    · rw [cell_of_row _ _ _ _ _ _ hrow]; rfl
    · rw [cell_of_row _ _ _ _ _ _ hrow]; rfl
    · rw [cell_of_row _ _ _ _ _ _ hrow]; rfl
    · rw [cell_of_row _ _ _ _ _ _ hrow]; rfl
    · rw [cell_of_row _ _ _ _ _ _ hrow]; rfl
    · simp only [World.frozen?, hrow]; simp)
  have HL1 := Lib.hid hL
  have HPV := Lib.hid hpv
  have HPS := Lib.hid hps
  have HC := Lib.hid hc
  have HS := Lib.hid hs
  have HIH := Lib.hid IH
  have HGZ := Lib.hid hgz
  have HBL : Hid (B ≤ w.heap.size) := Lib.hid hP.low.2.2
  have HEX : Hid (∀ b, Ex b → b < w.heap.size) := Lib.hid hP.ex
  have hcapT := hps.cap h2
  have HCT := Lib.hid hcapT
  have HIN := Lib.hid (show (Tryz.prog.info? 3).map (fun i => (i.zero, i.size, i.bytes)) = some (some (.int .i64 0), 1, 8) by kernel_rfl)
  have HIS := Lib.hid (show (Tryz.prog.info? 32).map (fun i => (i.zero, i.size, i.bytes)) = some (some (.slice none 0 0), 1, 24) by kernel_rfl)
  have HW1 := Lib.hid hW1
  have HXB := Lib.hid hxb
  have HN := Lib.hid hn
  have HG2 := Lib.hid h2
  clear hP hT hL hc hs hps hpv IH hgz hb1 hrow hxb hW1 hcapT hn h2
  go_enter Tryz.func88, Tryz.ntmps88
  go_wp2_with fail
  try rw [HW1.out]
  try rw [HXB.out]
  go_loopg [18] gn (fun gg u18 wx => ∃ (k : Nat) (cvj kv : Value) (us : List Claim) (nj : Nat) (ks : List Int), k + gg = gn ∧ u18 = .int .i64 k ∧ Hid (SplS Ex B w wx pb mb xb keep cv cvj (.slice la ln lc) kv ts us nj l gs ks) ∧ Hid (ks.length = k))
  case atStart => exact ⟨0, cv, .slice none 0 0, [], n, [], by omega, rfl, HSP, Lib.hid rfl⟩
  case round =>
  clear HSP
  obtain ⟨k, cvj, kv, us, nj, ks, hkg, rfl, HSP, HKL⟩ := hrel
  obtain ⟨ka, kc, rfl⟩ : ∃ a c, kv = .slice a ks.length c := own_form HSP.out.K.own
  by_cases hk : k < gn
  case neg =>
    obtain rfl : gn = k := by omega
    have hdk : decide ((gn : Int) < gn) = false := by simp
    have hdk' : decide (gn < gn) = false := decide_eq_false (by omega)
    have c0 := HSP.out.c0
    have c1 := HSP.out.c1
    have c2 := HSP.out.c2
    have c3 := HSP.out.c3
    have c4 := HSP.out.c4
    have hkl : ks.length = gs.length := by rw [HKL.out, HGNL.out]
    have hkv : Ints (AX Ex pb mb cvj) wr (.slice ka ks.length kc) ks := by
      refine ⟨(ownsRow_sl1 HSP.out.K.own (by have := HKL.out; omega)).mono fun b hb => ⟨HSP.out.K.apart b hb.2, fun e => ?_⟩, fun x hx => ?_⟩
      · have := HEX.out b e
        have := hb.1
        omega
      · obtain ⟨i, hi⟩ := List.getElem?_of_mem hx
        obtain ⟨h1, h2, _⟩ := HSP.out.K.kids i x hi
        have hcap := HSP.out.cap
        have hct := HCT.out
        have htl := sum_take_le (xs := gs.map fun is => capT (occM (pick l is)).length) (k := ks.length)
        rw [← List.map_take] at htl
        rw [List.length_append] at h2
        unfold I64
        omega
    have hle := prodK_le HSP.out.K.st.keep0.2 HSP.out.K.kids HPS.out (by omega) HSP.out.K.st.acc
    have hus : us.length + 1 ≤ capT (occM l).length := by
      have hcap := HSP.out.cap
      have hct := HCT.out
      have htl := sum_take_le (xs := gs.map fun is => capT (occM (pick l is)).length) (k := ks.length)
      rw [← List.map_take] at htl
      omega
    obtain ⟨X, hX⟩ : ∃ X, prodK (ts ++ us) ks = X := ⟨_, rfl⟩
    have hcl := claim_any Ex B pb mb keep cvj (.slice la ln lc) (.int .i64 4) (.int .i64 0) (.slice ka ks.length kc) (.int .i64 X) (ts ++ us) nj ⟨l, 4, 0, ks, X⟩ wr (HSP.out.K.st.sub fun b hb => .inl (.inl hb))
      ⟨⟨HSP.out.K.grw.clss HL1.out, rfl, rfl, hkv, rfl⟩, by unfold I64; show (-9223372036854775808 : Int) ≤ 4 ∧ (4 : Int) ≤ _; omega, by unfold I64; show (-9223372036854775808 : Int) ≤ 0 ∧ (0 : Int) ≤ _; omega, by unfold I64; show (-9223372036854775808 : Int) ≤ X ∧ X ≤ _; rw [← hX]; omega⟩
      (fun k hk => by
        obtain ⟨i, hi⟩ := List.getElem?_of_mem hk
        obtain ⟨h1, h2, _⟩ := HSP.out.K.kids i k hi
        exact ⟨h1, h2⟩)
      (by
        rw [← hX]
        exact split_fits HSP.out.K.st.keep0.2 HC.out HSP.out.K.kids HPS.out HG2.out hkl HSP.out.K.st.acc)
      (by rw [List.length_append]; omega) ⟨HS.out.1, HS.out.2, by show ks.length ≤ 4000; have := HGZ.out.1; omega⟩
    rw [hX] at c4
    have HCL := Lib.hid hcl
    have HNL : Hid (nj ≤ (ts ++ us).length) := Lib.hid HSP.out.K.n_le
    have HGR : Hid (Grw pb mb cv w cvj wr) := Lib.hid HSP.out.K.grw
    obtain ⟨kn, hkn⟩ : ∃ m, ks.length = m := ⟨_, rfl⟩
    rw [hkn] at c3 HCL
    clear hcl hkv HSP hkl hle hX hkn
    go_wp2_with fail
    refine HCL.out.mono ?_
    rintro e w8 ⟨cv8, he, hP8, hG8⟩
    obtain ⟨tl, htl⟩ : ∃ n, (ts ++ us).length = n := ⟨_, rfl⟩
    rw [htl] at he
    subst he
    have HF : Hid (FreshPost Ex B w pb mb keep cv ts l (.returned (.int .i64 (tl : Int))) w8) := Lib.hid (by
      rw [← htl]
      refine ⟨cv8, us ++ [⟨l, 4, 0, ks, X⟩], nj, (ts ++ us).length, rfl, ?_, HGR.out.trans hG8, ?_, ?_, ?_, ?_⟩
      · rw [← List.append_assoc]; exact hP8
      · simp only [List.length_append, List.length_cons, List.length_nil]; omega
      · rw [← List.append_assoc, List.getD_eq_getElem?_getD, List.getElem?_append_right (Nat.le_refl _)]; simp
      · rw [List.length_append]; simp only [List.length_cons, List.length_nil]; omega
      · rw [← List.append_assoc, List.length_append]; have := HNL.out; simp only [List.length_cons, List.length_nil]; omega)
    clear hP8 hG8 HCL htl
    go_wp2_with fail
    go_ret
    exact HF.out
  have hdk : decide ((k : Int) < gn) = true := by simp; omega
  have hdk' : decide (k < gn) = true := decide_eq_true hk
  obtain ⟨is, his⟩ : ∃ is, gs[k]? = some is := ⟨_, List.getElem?_eq_getElem (by have := HGNL.out; omega)⟩
  have him := List.mem_of_getElem? his
  have hisl := HGZ.out.2 is him
  have hgw := HSP.out.K.grw.clss HPV.out
  obtain ⟨zb, zo, zv, rfl, _, _, hcz, hzi⟩ := hgw.at (k := k) (x := is.map Int.ofNat) (by rw [List.getElem?_map, his]; rfl)
  obtain ⟨pa, pn, pc, rfl, HPN, _⟩ := hzi.form'
  have hpn : pn = is.length := by have := HPN.out; simpa using this
  have hpn4 : pn ≤ 4000 := by omega
  have HGO0 : Hid (PickO wr wr.heap.size (AX (fun b => (Ex b ∨ b = xb) ∨ (Value.slice ka ks.length kc).ownBlock = some b) pb mb cvj) (.slice none 0 0) (pick l (is.take 0))) := Lib.hid (PickO.nil _ _ _)
  have HBW0 : Hid (Below wr.heap.size wr wr) := Lib.hid (Below.refl _ _)
  have HZI := Lib.hid hzi.lt
  have HPL := Lib.hid hpn
  have HISK := Lib.hid his
  have HLT : Hid (∀ i ∈ is, i < l.length) := Lib.hid (HPS.out.lt is him)
  have HIM := Lib.hid him
  obtain ⟨GK, hGK⟩ : ∃ G, G = gk := ⟨_, rfl⟩
  subst hGK
  obtain ⟨wo, hwo⟩ : ∃ W, W = wr := ⟨_, rfl⟩
  subst hwo
  have HLW : Hid (Clss (fun b => b < wo.heap.size ∧ AX (fun b => (Ex b ∨ b = xb) ∨ (Value.slice ka ks.length kc).ownBlock = some b) pb mb cvj b) wo (.slice la ln lc) l) := Lib.hid (by
    have h := clss_and (clss_and HL1.out)
    have h2 := Rows1.move (fun _ _ _ _ _ h hm => h.move hm) h fun b hb _ => HSP.out.K.grw.block b hb.1 hb.2.2.1
    refine Rows1.mono (fun _ _ _ _ _ h hg => h.mono hg) h2 fun b hb => ⟨Nat.lt_of_lt_of_le hb.1 HSP.out.K.grw.size, HSP.out.K.grw.keepA hb.1 hb.2.2.1, fun e => ?_⟩
    rcases e with (e | e) | e
    · exact hb.2.2.2 e
    · have := HXB.out; have := hb.1; omega
    · have := (HSP.out.K.own.lt b e).1; have := hb.1; omega)
  clear hgw his him hzi hpn
  go_wp2_with fail
  go_loopg [10, 24] pn (fun gg u10 u24 wx => ∃ j : Nat, j + gg = pn ∧ u24 = .int .i64 j ∧ Hid (PickO wx wo.heap.size (AX (fun b => (Ex b ∨ b = xb) ∨ (Value.slice ka ks.length kc).ownBlock = some b) pb mb cvj) u10 (pick l (is.take j))) ∧ Hid (Below wo.heap.size wo wx))
  case atStart => exact ⟨0, by omega, rfl, HGO0, HBW0⟩
  case round =>
  clear HGO0 HBW0 hcz
  obtain ⟨j, hjg, rfl, HGO, HBW⟩ := hrel
  by_cases hj : j < pn
  · obtain ⟨i, hi⟩ : ∃ i, is[j]? = some i := ⟨_, List.getElem?_eq_getElem (by have := HPL.out; omega)⟩
    have hil := HLT.out i (List.mem_of_getElem? hi)
    obtain ⟨yb, yo, rfl, _, _, hcy, _⟩ := (HZI.out.move (w' := wr) fun b hb hlt => HBW.out.block b hb.2).at (k := j) (x := (i : Int)) (by rw [List.getElem?_map, hi]; rfl)
    obtain ⟨vb, vo, uv, rfl, hvF, _, hcv, huv⟩ := (Rows1.move (fun _ _ _ _ _ h hm => h.move hm) HLW.out fun b hb _ => HBW.out.block b hb.1).at (k := i) (x := l.getD i []) (by rw [List.getD_eq_getElem?_getD, List.getElem?_eq_getElem hil]; rfl)
    obtain ⟨ua, un, uc, rfl, _, _⟩ := huv.form'
    obtain ⟨vs, ho1, ho2, ho3⟩ := HGO.out
    obtain ⟨oa, oc, rfl⟩ := own_form ho1
    have hpk : (pick l (is.take j)).length = j := by rw [pick_len, List.length_take]; have := HPL.out; omega
    have HO1 := Lib.hid ho1
    have HO23 := Lib.hid (And.intro ho2 ho3)
    have HPK := Lib.hid hpk
    have HPT := Lib.hid (pick_take (l := l) hi)
    have HUV := Lib.hid huv
    have hdj : decide ((j : Int) < pn) = true := by simp; omega
    have hdj' : decide (j < pn) = true := decide_eq_true hj
    have hi0 : (0 : Int) ≤ i := by omega
    have hin : (i : Int) < ln := by have := HLN.out; omega
    have hwz := HBW.out.size
    have hj4 : j ≤ 4000 := by omega
    rw [hpk] at ho1 ⊢
    clear ho2 ho3 hpk hi hil huv
    go_wp2_with (at_builtin; go_loud (refine wpList_push1 rfl _ _ 22 rfl 32 (.slice none 0 0) 24 Tryz.underlying22 HIS.out rfl wo.heap.size (.slice oa j oc) j vs wr (.slice ua un uc) rfl rfl ho1 rfl (by omega) (by omega) (by omega) ?_); intro g7 cap7 w7 hown7 hg7 hs7 hgb hgl hat; have HGO7 : Hid (PickO w7 wo.heap.size (AX (fun b => (Ex b ∨ b = xb) ∨ (Value.slice ka ks.length kc).ownBlock = some b) pb mb cvj) (.slice (some ⟨g7, 0, none⟩) (j + 1) cap7) (pick l (is.take (j + 1)))) := Lib.hid (by { rw [HPT.out]; have h := PickO.push (F := AX (fun b => (Ex b ∨ b = xb) ∨ (Value.slice ka ks.length kc).ownBlock = some b) pb mb cvj) HO1.out HO23.out.1 HO23.out.2 HUV.out (by rw [HPK.out]; exact hown7) (by rw [HPK.out]; exact hg7); rw [HPK.out] at h; exact h }); have HB7 : Hid (Below wo.heap.size wo w7) := Lib.hid (HBW.out.grown hg7 (by omega) (fun b hb => by have := (ho1.lt b hb).1; omega)); clear hown7 hg7 hat ho1)
    go_roundg (gk - 1)
    case measure => omega
    case rel => exact ⟨j + 1, by omega, by go_num, HGO7, HB7⟩
  obtain rfl : pn = j := by omega
  have hdj : decide ((pn : Int) < pn) = false := by simp
  have hdj' : decide (pn < pn) = false := decide_eq_false (by omega)
  have htk : is.take pn = is := List.take_of_length_le (by rw [HPL.out]; exact Nat.le_refl _)
  rw [htk] at HGO
  have hgcl := HGO.out.clss (by rw [pick_len]; omega) fun b hb _ => HSP.out.K.st.apart hb
  obtain ⟨ua, un, uc, rfl, _, _⟩ := hgcl.form'
  have hS2 := HSP.out.below HBW.out
  have hsub := HPS.out.sub is HIM.out
  have hcapk : us.length + capT (occM (pick l is)).length ≤ ((gs.take (ks.length + 1)).map fun is => capT (occM (pick l is)).length).sum := by
    have h1 := HSP.out.cap
    rw [HKL.out] at h1 ⊢
    rw [List.take_add_one, HISK.out]
    simp only [Option.toList_some, List.map_append, List.map_cons, List.map_nil, List.sum_append, List.sum_cons, List.sum_nil]
    omega
  have htl := sum_take_le (xs := gs.map fun is => capT (occM (pick l is)).length) (k := ks.length + 1)
  rw [← List.map_take] at htl
  have hct := HCT.out
  have HPA := Lib.hid (HIH.out (pick l is) (cn_sub HC.out hsub) ⟨by rw [pick_len]; exact hisl, fun c hc => HS.out.2 c (hsub.subset hc)⟩ (HPS.out.less HG2.out HIM.out) (fun b => (Ex b ∨ b = xb) ∨ (Value.slice ka ks.length kc).ownBlock = some b) B pb mb keep cvj _ (ts ++ us) nj wr ⟨hS2.K.st, hS2.tab, hgcl, by rw [List.length_append]; omega, hS2.K.n_le⟩)
  have HS2 := Lib.hid hS2
  have HCK := Lib.hid (And.intro hcapk (And.intro htl hct))
  clear htk HGO hgcl hS2 hsub hcapk htl hct HSP HZI HLW HBW
  go_wp2_with fail
  refine HPA.out.mono ?_
  rintro e w3 ⟨cv3, vs, n3, i, rfl, hP3, hG3, hi3, hic, hvl, hn3, _⟩
  obtain ⟨hK3, d0, d1, d2, d3, d4, df, hax3, hT3⟩ := HS2.out.proved (is := is) hP3 hG3 hn3
  have hkx := HS2.out.kx
  have hlow := HS2.out.low
  rw [List.append_assoc] at hi3 hic
  obtain ⟨U, hU⟩ : ∃ U, us ++ vs = U := ⟨_, rfl⟩
  have hUl : U.length = us.length + vs.length := by rw [← hU, List.length_append]
  rw [hU] at hK3 hi3 hic d4
  obtain ⟨cb, cc4, hcv4, hcb, hcp, hci⟩ := hK3.st.count hi3
  have hp2 := hK3.st.c2
  have hplt : pb < w3.heap.size := block_lt hp2
  have hkid : SplP l gs ks.length ((ts ++ U).getD i clNil) := ⟨is, by rw [HKL.out]; exact HISK.out, hic⟩
  have hkp2 : KidP (ts ++ U) (SplP l gs) (ks ++ [(i : Int)]) := hK3.kids.snoc hi3 hkid
  have hle := prodK_le hK3.st.keep0.2 hkp2 HPS.out (by rw [List.length_append, HKL.out]; have := HGNL.out; simp; omega) hK3.st.acc
  rw [prodK_snoc] at hle
  obtain ⟨a, ha⟩ : ∃ a, (ts ++ U).getD i clNil = a := ⟨_, rfl⟩
  rw [ha] at hci hle
  obtain ⟨pr, hpr⟩ : ∃ p, prodK (ts ++ U) ks = p := ⟨_, rfl⟩
  rw [hpr] at d4 hle
  have hps2 : prodK (ts ++ U) (ks ++ [(i : Int)]) = pr * a.count := by rw [prodK_snoc, hpr, ha]
  obtain ⟨tn, htn⟩ : ∃ m, (ts ++ U).length = m := ⟨_, rfl⟩
  have hcapU : U.length ≤ ((gs.take (ks.length + 1)).map fun is => capT (occM (pick l is)).length).sum := by have := HCK.out.1; omega
  have hlt : tn ≤ 60000 := by rw [← htn, List.length_append]; have := HCK.out.2.1; have := HCK.out.2.2; omega
  have hit : (i : Int) < tn := by rw [← htn]; omega
  have hi0 : (0 : Int) ≤ i := by omega
  have hitn : i < tn := by rw [← htn]; exact hi3
  have hcvo : cv3.ownBlock = some cb := by rw [hcv4]; rfl
  rw [htn] at hcv4
  have hp2' := hp2
  rw [hcv4] at hp2
  have hown := hK3.own
  obtain ⟨kn, hkn⟩ : ∃ m, ks.length = m := ⟨_, rfl⟩
  have hknk : kn = k := by rw [← hkn, HKL.out]
  have HAPR : Hid (∀ b, (Value.slice ka kn kc).ownBlock = some b → Apart pb mb cv3 b ∧ w.heap.size ≤ b) := Lib.hid (by rw [← hkn]; exact fun b hb => ⟨hK3.apart b hb, (hK3.own.lt b hb).1⟩)
  have HD0 := Lib.hid (And.intro d0 (And.intro d1 d2))
  have HDF := Lib.hid df
  have HK3 := Lib.hid hK3
  have HKID := Lib.hid hkid
  have HKN := Lib.hid hkn
  have HTN := Lib.hid htn
  have HLE := Lib.hid hle
  have HPS2 := Lib.hid hps2
  have HPR := Lib.hid hpr
  have HT3 := Lib.hid hT3
  have HAX3 := Lib.hid hax3
  have HKX := Lib.hid hkx
  have HCAPU := Lib.hid hcapU
  have HCVO := Lib.hid hcvo
  have HD3 := Lib.hid d3
  have HD4 := Lib.hid d4
  rw [hkn] at d3 hown
  have hxlt : xb < w3.heap.size := block_lt d4
  have hwl : w.heap.size ≤ w3.heap.size := hK3.grw.size
  have hkn4 : kn ≤ 4000 := by have := HGZ.out.1; have := HGNL.out; omega
  have hnx : some xb ≠ (Value.slice ka kn kc).ownBlock := fun e => HKX.out (by rw [HKN.out]; exact e.symm)
  clear hP3 hG3 hi3 hic hn3 hK3 hU hUl ha htn hcv4 hvl HPA HS2 d0 d1 d2 df hax3 hT3 hkx hkid hkp2 hle hpr hps2 hcapU hp2' hcvo hkn hknk
  go_upto_region 13 with (at_builtin; go_loud (refine wpList_push1 rfl _ _ 32 rfl 3 (.int .i64 0) 8 Tryz.underlying32 HIN.out rfl w.heap.size (.slice ka kn kc) kn (ks.map (.int .i64)) w3 (.int .i64 (i : Int)) rfl rfl hown rfl (by omega) (by omega) (by omega) ?_); intro g7 cap7 w7 hown7 hg7 hs7 hgb hgl hat; have e3 := grown_c2 hg7 hnx d3; have e4 := grown_c2 hg7 hnx d4; have ep := grown_c2 hg7 (fun e => (HAPR.out pb e.symm).1.1 rfl) hp2; have ec := grown_c2 hg7 (fun e => (HAPR.out cb e.symm).1.2.2 HCVO.out) hci; have ef : ∀ o, w7.frozen? ⟨xb, o, none⟩ = false := (fun o => (World.frozen?_of_block (a := ⟨xb, o, none⟩) (hg7.block xb hxlt hnx)).trans (HDF.out o)); have ef3 := ef 3; have HEF := Lib.hid ef; have HOW7 := Lib.hid hown7; have HG7 := Lib.hid hg7; have HAT7 := Lib.hid hat; clear hown7 hg7 hat hown d3 d4 hp2 hci ef)
  obtain ⟨W8, hW8⟩ : ∃ W, w7.setCell ⟨xb, 3, none⟩ (.slice (some ⟨g7, 0, none⟩) (kn + 1) cap7) = W := ⟨_, rfl⟩
  have x4 : W8.cell? ⟨xb, 4, none⟩ = some (.int .i64 pr) := by rw [← hW8]; exact set_ne (.inr (by omega)) e4
  have xp : W8.cell? ⟨pb, 2, none⟩ = some (.slice (some ⟨cb, 0, none⟩) tn cc4) := by rw [← hW8]; exact set_ne (.inl (fun e => HAX3.out.1 e)) ep
  have xc : W8.cell? ⟨cb, i * 5 + 4, none⟩ = some (.int .i64 a.count) := by rw [← hW8]; exact set_ne (.inl (fun e => HAX3.out.2.2 (by rw [HCVO.out, e]))) ec
  have xf : W8.frozen? ⟨xb, 4, none⟩ = false := by rw [← hW8, World.frozen?_setCell]; exact HEF.out 4
  have hwm : IntKind.i64.wrap (pr * a.count) = pr * a.count := IntWalk.i64_in _ ⟨by have := HLE.out.1; omega, by have := HLE.out.2; omega⟩
  rw [hW8]
  have HW8 := Lib.hid hW8
  obtain ⟨X, hX⟩ : ∃ X, a.count = X := ⟨_, rfl⟩
  have HX := Lib.hid hX
  rw [hX] at xc hwm
  clear hW8 e3 e4 ep ec ef3 hX
  go_region
  have HSN : Hid (SplS Ex B w ((W8.setCell ⟨xb, 4, none⟩ (.int .i64 (pr * X))).drew) pb mb xb keep cv cv3 (.slice la ln lc) (.slice (some ⟨g7, 0, none⟩) (kn + 1) cap7) ts U n3 l gs (ks ++ [(i : Int)])) := Lib.hid (by
    have h := SplS.next (w2 := W8.setCell ⟨xb, 4, none⟩ (.int .i64 (pr * X))) HK3.out (by rw [HTN.out]; exact hitn) HKID.out HD0.out.1 HD0.out.2.1 HD0.out.2.2 HD3.out (by rw [HPR.out]; exact HD4.out) HDF.out HKX.out HAX3.out hlow HT3.out HBL.out HCAPU.out (by rw [HKN.out]; exact HOW7.out) (by rw [HKN.out]; exact HG7.out) hgl (by rw [HKN.out]; exact HAT7.out) (by rw [HKN.out, HPS2.out, HW8.out, HX.out])
    rw [HKN.out] at h
    exact h.below (Below.refl _ _).drew)
  have HKL2 : Hid ((ks ++ [(i : Int)]).length = k + 1) := Lib.hid (by rw [List.length_append, HKL.out]; rfl)
  clear HK3 HKID HD0 HD3 HPR HD4 HDF HKX HAX3 HT3 HCAPU HOW7 HG7 HAT7 HPS2 HW8 HX HEF HAPR HLE xp xc xf x4
  go_wp2_with fail
  go_roundg (GK - 1)
  case measure => omega
  case rel => exact ⟨k + 1, cv3, _, U, n3, ks ++ [(i : Int)], by omega, by go_num, HSN, HKL2⟩
end Go.Proofs.YthanfjpmcckbhaaGreatDoor
