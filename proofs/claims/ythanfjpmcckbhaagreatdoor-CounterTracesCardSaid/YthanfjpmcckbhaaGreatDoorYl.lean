/- (Counter seat) What prove is to hand back; walk: decide. No condition but the sizes. -/
import Derived.Test.YthanfjpmcckbhaaGreatDoorYk
import Derived.Test.YthanfjpmcckbhaaGreatDoorNf
import Derived.Deep.RegionHeld3
namespace Go.Proofs.YthanfjpmcckbhaaGreatDoor
open Go.ChangeShapes Go.WideShapes Go.ChangeAt Go.RowKit
set_option linter.unusedVariables false
set_option linter.unusedSimpArgs false

/-- what fresh hands back: the last of the claims made is of the list itself -/
def FreshPost (Ex : Nat → Prop) (B : Nat) (W : World) (pb mb : Nat) (keep : Int) (cv : Value) (ts : List Claim) (l : List (List Int)) (e : Ending) (w' : World) : Prop :=
  ∃ (cv' : Value) (us : List Claim) (n' i : Nat), e = .returned (.int .i64 i) ∧ PrS Ex B w' pb mb keep cv' (ts ++ us) n' ∧ Grw pb mb cv W cv' w' ∧ i + 1 = (ts ++ us).length ∧ ((ts ++ us).getD i clNil).cls = l ∧ us.length ≤ capT (occM l).length ∧ n' + 1 ≤ (ts ++ us).length
/-- what prove hands back -/
def ProvePost (Ex : Nat → Prop) (B : Nat) (W : World) (pb mb : Nat) (keep : Int) (cv : Value) (ts : List Claim) (l : List (List Int)) (e : Ending) (w' : World) : Prop :=
  ∃ (cv' : Value) (us : List Claim) (n' i : Nat), e = .returned (.int .i64 i) ∧ PrS Ex B w' pb mb keep cv' (ts ++ us) n' ∧ Grw pb mb cv W cv' w' ∧ i < (ts ++ us).length ∧ ((ts ++ us).getD i clNil).cls = l ∧ us.length ≤ capT (occM l).length ∧ n' ≤ (ts ++ us).length ∧ (ts = [] → i + 1 = (ts ++ us).length)
/-- sizes of a list of clauses -/
def SzL (l : List (List Int)) : Prop := l.length ≤ 4000 ∧ ∀ c ∈ l, c.length ≤ 4000
/-- what is asked ahead of a call -/
def Pre (Ex : Nat → Prop) (B : Nat) (w : World) (pb mb : Nat) (keep : Int) (cv lv : Value) (ts : List Claim) (n : Nat) (l : List (List Int)) : Prop :=
  PrS Ex B w pb mb keep cv ts n ∧ TabB B w ∧ Clss (AX Ex pb mb cv) w lv l ∧ ts.length + capT (occM l).length ≤ 60000 ∧ n ≤ ts.length
def ProveOk (l : List (List Int)) : Prop := ∀ (Ex : Nat → Prop) (B pb mb : Nat) (keep : Int) (cv lv : Value) (ts : List Claim) (n : Nat) (w : World), Pre Ex B w pb mb keep cv lv ts n l →
  Calls Tryz.prog 39 #[.pointer (some ⟨pb, 0, none⟩), lv] w (ProvePost Ex B w pb mb keep cv ts l)
/-- all smaller lists are proved -/
def Smaller (l : List (List Int)) : Prop := ∀ m, Cn' m → SzL m → (occM m).length < (occM l).length → ProveOk m
theorem res_smaller {l : List (List Int)} (hc : Cn' l) {x : Int} (hx : -20000 ≤ x ∧ x ≤ 20000) (ho : varM x ∈ occM l) : (occM (resM l x)).length < (occM l).length := by
  have h1 : (varM x :: occM (resM l x)).Nodup := List.nodup_cons.2 ⟨fun h => (hc.res_occ hx h).2 rfl, occM_nodup _⟩
  have h2 := nodup_len_le h1 (m := occM l) fun y hy => by
    rcases List.mem_cons.1 hy with rfl | hy
    · exact ho
    · exact (hc.res_occ hx hy).1
  rw [List.length_cons] at h2
  omega
theorem res_sz {l : List (List Int)} {x : Int} (h : SzL l) : SzL (resM l x) := ⟨Nat.le_trans (resM_ln l x) h.1, fun d hd => resM_ea h.2 hd⟩
theorem PrS.mb_lt {Ex : Nat → Prop} {B : Nat} {w : World} {pb mb : Nat} {keep : Int} {cv : Value} {ts : List Claim} {n : Nat} (h : PrS Ex B w pb mb keep cv ts n) : mb < w.heap.size := by
  obtain ⟨D, q, _⟩ := h.known
  exact q.lt
theorem PrS.own_lt {Ex : Nat → Prop} {B : Nat} {w : World} {pb mb : Nat} {keep : Int} {cv : Value} {ts : List Claim} {n : Nat} (h : PrS Ex B w pb mb keep cv ts n) {b : Nat} (hb : cv.ownBlock = some b) : B ≤ b ∧ b < w.heap.size := by
  obtain ⟨us, r1, _⟩ := h.rows
  exact ⟨(r1.lt b hb).1, (r1.lt b hb).2⟩
/-- blocks made since lie apart -/
theorem PrS.apart {Ex : Nat → Prop} {B : Nat} {w : World} {pb mb : Nat} {keep : Int} {cv : Value} {ts : List Claim} {n : Nat} (h : PrS Ex B w pb mb keep cv ts n) {b : Nat} (hb : w.heap.size ≤ b) : AX Ex pb mb cv b :=
  ⟨⟨by have := block_lt h.c0; show b ≠ pb; have : pb < w.heap.size := this; omega, by have := h.mb_lt; omega, fun e => by have := (h.own_lt e).2; omega⟩, fun e => by have := h.ex b e; omega⟩
/-- what lies apart stays, and stays apart -/
theorem Grw.keepA {pb mb : Nat} {cv cv' : Value} {w w' : World} (h : Grw pb mb cv w cv' w') {b : Nat} (hb : b < w.heap.size) (ha : Apart pb mb cv b) : Apart pb mb cv' b :=
  ⟨ha.1, ha.2.1, fun e => by
    rcases h.own b e with h1 | h1
    · exact ha.2.2 h1
    · omega⟩
theorem Grw.clss {Ex : Nat → Prop} {pb mb : Nat} {cv cv' : Value} {w w' : World} (h : Grw pb mb cv w cv' w') {v : Value} {l : List (List Int)} (hl : Clss (AX Ex pb mb cv) w v l) : Clss (AX Ex pb mb cv') w' v l :=
  Rows1.mono (fun _ _ _ _ _ h hg => h.mono hg) (Rows1.move (fun _ _ _ _ _ h hm => h.move hm) (clss_and hl) fun b hb _ => h.block b hb.1 hb.2.1) fun b hb => ⟨h.keepA hb.1 hb.2.1, hb.2.2⟩
theorem clss_below {Ex : Nat → Prop} {pb mb : Nat} {cv : Value} {w w' : World} (h : Below w.heap.size w w') {v : Value} {l : List (List Int)} (hl : Clss (AX Ex pb mb cv) w v l) : Clss (AX Ex pb mb cv) w' v l := Clss.below hl h
/-- fewer blocks left out -/
theorem PrS.sub {Ex Ex' : Nat → Prop} {B : Nat} {w : World} {pb mb : Nat} {keep : Int} {cv : Value} {ts : List Claim} {n : Nat} (h : PrS Ex B w pb mb keep cv ts n) (hs : ∀ b, Ex' b → Ex b) : PrS Ex' B w pb mb keep cv ts n := by
  obtain ⟨us, r1, r2, r3⟩ := h.rows
  exact ⟨h.c0, h.c1, h.c2, h.c3, h.c4, h.free, ⟨us, r1, r2, fun j u c hu hc => (r3 j u c hu hc).mono fun b hb => ⟨hb.1, hb.2.1, fun e => hb.2.2 (hs b e)⟩⟩, h.known, h.diff, h.low, h.acc, h.keep0, h.sz, fun b hb => h.ex b (hs b hb)⟩
/-- a row that no claim reads is turned -/
theorem PrS.turn {Ex : Nat → Prop} {B : Nat} {w w' : World} {pb mb : Nat} {keep : Int} {cv : Value} {ts : List Claim} {n : Nat} {row : Option Nat} (h : PrS Ex B w pb mb keep cv ts n) (hg : w.grownBy w' row) (hr : ∀ b, row = some b → Ex b ∧ Apart pb mb cv b)
    {Ex' : Nat → Prop} (hx : ∀ b, Ex' b → Ex b ∨ (w.heap.size ≤ b ∧ b < w'.heap.size)) : PrS Ex' B w' pb mb keep cv ts n := by
  obtain ⟨us, r1, r2, r3⟩ := h.rows
  have hpr : some pb ≠ row := fun e => (hr pb e.symm).2.1 rfl
  have hmr : some mb ≠ row := fun e => (hr mb e.symm).2.2.1 rfl
  refine ⟨grown_c2 hg hpr h.c0, grown_c2 hg hpr h.c1, grown_c2 hg hpr h.c2, grown_c2 hg hpr h.c3, grown_c2 hg hpr h.c4, fun o => (World.frozen?_of_block (a := ⟨pb, o, none⟩) (hg.block pb (block_lt h.c0) hpr)).trans (h.free o), ⟨us, r1.kept hg ?_, r2, fun j u c hu hc => ?_⟩,
    h.known.kept hg hmr, h.diff, ⟨h.low.1, h.low.2.1, Nat.le_trans h.low.2.2 hg.size⟩, h.acc, h.keep0, h.sz, fun b hb => ?_⟩
  · rcases hq : cv.ownBlock with _ | b
    · exact .inl rfl
    · exact .inr fun e => (hr b e.symm).2.2.2 hq
  · refine ((r3 j u c hu hc).move fun b hb _ => hg.block b hb.1 fun e => hb.2.2 (hr b e.symm).1).mono fun b hb => ⟨Nat.lt_of_lt_of_le hb.1 hg.size, hb.2.1, fun e => ?_⟩
    rcases hx b e with h1 | h1
    · exact hb.2.2 h1
    · omega
  · rcases hx b hb with h1 | h1
    · exact Nat.lt_of_lt_of_le (h.ex b h1) hg.size
    · exact h1.2
theorem PrS.tab {Ex : Nat → Prop} {B : Nat} {w w' : World} {pb mb : Nat} {keep : Int} {cv cv' : Value} {ts : List Claim} {n : Nat} (h : PrS Ex B w pb mb keep cv ts n) (ht : TabB B w) (hg : Grw pb mb cv w cv' w') : TabB B w' :=
  ht.on (hg.below h.low.1 h.low.2.1 (fun b hb => (h.own_lt hb).1) h.low.2.2)
/-- a claim's count in memory -/
theorem PrS.count {Ex : Nat → Prop} {B : Nat} {w : World} {pb mb : Nat} {keep : Int} {cv : Value} {ts : List Claim} {n : Nat} (h : PrS Ex B w pb mb keep cv ts n) {i : Nat} (hi : i < ts.length) :
    ∃ cb cc, cv = .slice (some ⟨cb, 0, none⟩) ts.length cc ∧ cb < w.heap.size ∧ cb ≠ pb ∧ w.cell? ⟨cb, i * 5 + 4, none⟩ = some (.int .i64 (ts.getD i clNil).count) := by
  obtain ⟨us, r1, r2, r3⟩ := h.rows
  rcases r1.2 with ⟨_, h0⟩ | ⟨g, cap, cur, e, _⟩
  · omega
  · have hown : cv.ownBlock = some g := by rw [e]; rfl
    obtain ⟨u, hu⟩ : ∃ u, us[i]? = some u := ⟨_, List.getElem?_eq_getElem (by omega)⟩
    obtain ⟨c, hc⟩ : ∃ c, ts[i]? = some c := ⟨_, List.getElem?_eq_getElem hi⟩
    have hv := (r3 i u c hu hc).1.2.2.2.2
    have h4 := (cells5_get us i u hu).2.2.2.2
    have h5 := r1.cells hown _ _ h4
    rw [add_at, Nat.zero_add, hv] at h5
    refine ⟨g, cap, e, (r1.lt g hown).2, fun e2 => h.diff.2.1 (by rw [hown, e2]), ?_⟩
    rw [List.getD_eq_getElem?_getD, hc]
    exact h5
/-- a kid that was made is as it was -/
theorem getD_keep {ts us : List Claim} {i : Nat} (h : i < ts.length) : (ts ++ us).getD i clNil = ts.getD i clNil := getD_app_left h

/- (Counter seat) Walk: decide. No condition but the sizes, and that smaller lists are proved. -/
open Go.ChangeShapes Go.WideShapes Go.ChangeAt Go.RowKit
set_option linter.unusedVariables false
set_option linter.unusedSimpArgs false

theorem shl_fits {keep : Int} {l : List (List Int)} {v : Int} {k : Claim} (h40 : keep ≤ 40) (hg : ∀ x ∈ occM k.cls, x ∈ occM l ∧ x ≠ v) (hk : KidOk keep k) :
    0 ≤ k.count * 2 ^ freeN keep l k.cls v ∧ k.count * 2 ^ freeN keep l k.cls v ≤ 1099511627776 := by
  obtain ⟨f1, f2, _⟩ := free_count h40 hg hk
  have h4 := pow_le40 (kept_le40 (cs := l) h40)
  refine ⟨f1, ?_⟩
  split at f2 <;> omega
theorem freeN_le {keep : Int} {l g : List (List Int)} {v : Int} (h40 : keep ≤ 40) : freeN keep l g v ≤ 40 := Nat.le_trans (lostM_le _ _ _) (kept_le40 h40)
theorem kid_occ {l : List (List Int)} (hc : Cn' l) {x : Int} (hx : -20000 ≤ x ∧ x ≤ 20000) {k : Claim} (he : k.cls = resM l x) : ∀ y ∈ occM k.cls, y ∈ occM l ∧ y ≠ varM x := fun y hy => by rw [he] at hy; exact hc.res_occ hx hy
set_option maxRecDepth 100000 in
set_option maxHeartbeats 8000000 in
theorem decide_any (Ex : Nat → Prop) (B pb mb : Nat) (keep : Int) (cv lv : Value) (ts : List Claim) (n : Nat) (l : List (List Int)) (v : Int) (w : World) (hp : Pre Ex B w pb mb keep cv lv ts n l) (hc : Cn' l) (hs : SzL l) (hv : v ∈ keptM keep (occM l)) (IH : Smaller l) :
    Calls Tryz.prog 89 #[.pointer (some ⟨pb, 0, none⟩), lv, .int .i64 v] w (FreshPost Ex B w pb mb keep cv ts l) := by
  obtain ⟨hP, hT, hL, hlen, hn⟩ := hp
  obtain ⟨ho, hvk⟩ := kept_mem.1 hv
  have hvr := occM_range ho
  have hvs := varM_self hvr.1
  obtain ⟨la, ln, lc, rfl, _, _⟩ := hL.form'
  have hwn : IntKind.i64.wrap (-v) = -v := IntWalk.i64_in _ ⟨by omega, by omega⟩
  have hsa := res_smaller hc (x := -v) ⟨by omega, by omega⟩ (by rw [hvs.2]; exact ho)
  have hsb := res_smaller hc (x := v) ⟨by omega, by omega⟩ (by rw [hvs.1]; exact ho)
  have hcap := capT_two hsa hsb
  have HRA := Lib.hid (residual_any _ _ l (-v) w hL (by unfold I64; omega) (by have := hs.1; omega) (fun c h => by have := hs.2 c h; omega))
  have HRB : Hid (∀ W, Below w.heap.size w W → Calls Tryz.prog 36 #[.slice la ln lc, .int .i64 v] W (ResPost W l v)) := Lib.hid fun W hW => residual_any _ _ l v W (clss_below hW hL) (by unfold I64; omega) (by have := hs.1; omega) (fun c h => by have := hs.2 c h; omega)
  have HP := Lib.hid hP
  have HT := Lib.hid hT
  have HL := Lib.hid hL
  have HC := Lib.hid hc
  have HS := Lib.hid hs
  have HV := Lib.hid hv
  have HIH := Lib.hid IH
  have HVS := Lib.hid hvs
  have HSA := Lib.hid hsa
  have HSB := Lib.hid hsb
  clear hP hT hL hc hs hv IH hvs hsa hsb ho
  go_enter Tryz.func89, Tryz.ntmps89
  go_wp2_with fail
  refine HRA.out.mono ?_
  rintro e w1 ⟨av, rfl, ha1, hb1⟩
  obtain ⟨aa, an, ac, rfl, _, _⟩ := ha1.form'
  have HA1 := Lib.hid ha1
  have HB1 := Lib.hid hb1
  clear ha1 hb1 HRA
  go_wp2_with fail
  refine (HRB.out _ HB1.out).mono ?_
  rintro e w2 ⟨bv, rfl, hb2, hbb2⟩
  obtain ⟨ba, bn, bc, rfl, _, _⟩ := hb2.form'
  have hB2 : Below w.heap.size w w2 := HB1.out.trans (hbb2.mono HB1.out.size)
  have HP2 := Lib.hid (HP.out.below hB2)
  have hA2 : Clss (AX Ex pb mb cv) w2 (.slice aa an ac) (resM l (-v)) := Rows1.mono (fun _ _ _ _ _ h hg => h.mono hg) (HA1.out.below hbb2) fun b hb => HP.out.apart hb
  have hBB2 : Clss (AX Ex pb mb cv) w2 (.slice ba bn bc) (resM l v) := Rows1.mono (fun _ _ _ _ _ h hg => h.mono hg) hb2 fun b hb => HP.out.apart (Nat.le_trans HB1.out.size hb)
  have HL2 := Lib.hid (clss_below hB2 HL.out)
  have HA2 := Lib.hid hA2
  have HBB2 := Lib.hid hBB2
  have HT2 := Lib.hid (HT.out.below (hB2.mono HP.out.low.2.2) (Nat.le_refl B))
  have HG2 : Hid (Grw pb mb cv w cv w2) := Lib.hid (Grw.of_below hB2)
  have HPA := Lib.hid (HIH.out (resM l (-v)) (HC.out.res ⟨by omega, by omega⟩) (res_sz HS.out) HSA.out Ex B pb mb keep cv _ ts n w2 ⟨HP2.out, HT2.out, hA2, by omega, hn⟩)
  clear hb2 hbb2 hB2 hA2 hBB2 HRB HB1 HA1 HP
  go_wp2_with fail
  refine HPA.out.mono ?_
  rintro e w3 ⟨cv3, us, n3, i, rfl, hP3, hG3, hi3, hic, hul, hn3, _⟩
  have HP3 := Lib.hid hP3
  have HA3 := Lib.hid (hG3.clss HA2.out)
  have HL3 := Lib.hid (hG3.clss HL2.out)
  have hbc := hG3.clss HBB2.out
  have HBB3 := Lib.hid hbc
  have HT3 := Lib.hid (HP2.out.tab HT2.out hG3)
  have HG3 := Lib.hid (HG2.out.trans hG3)
  have HIC := Lib.hid hic
  have HPB := Lib.hid (HIH.out (resM l v) (HC.out.res ⟨by omega, by omega⟩) (res_sz HS.out) HSB.out Ex B pb mb keep cv3 _ (ts ++ us) n3 w3 ⟨hP3, HT3.out, hbc, by rw [List.length_append]; omega, hn3⟩)
  clear hP3 hG3 hic hbc HPA HT2 HG2 HA2 HL2 HBB2
  go_wp2_with fail
  refine HPB.out.mono ?_
  rintro e w4 ⟨cv4, vs, n4, j, rfl, hP4, hG4, hj4, hjc, hvl, hn4, _⟩
  obtain ⟨t4, ht4⟩ : ∃ t, ts ++ us ++ vs = t := ⟨_, rfl⟩
  rw [ht4] at hP4 hj4 hjc hn4
  have hi4 : i < t4.length := by rw [← ht4, List.length_append]; omega
  have hic4 : (t4.getD i clNil).cls = resM l (-v) := by rw [← ht4, getD_keep hi3]; exact HIC.out
  have hl4 : t4.length = ts.length + us.length + vs.length := by rw [← ht4, List.length_append, List.length_append]
  obtain ⟨cb, cc4, hcv4, hcb, hcp, hci⟩ := hP4.count hi4
  obtain ⟨cb', cc', hcv', _, _, hcj⟩ := hP4.count hj4
  rw [hcv4] at hcv'
  injection hcv' with e1 e2 e3
  injection e1 with e1
  injection e1 with e1
  subst e1 e3
  have hp2 := hP4.c2
  have hka := acc_kid hP4.acc (k := (i : Int)) ⟨by omega, by omega⟩
  have hkb := acc_kid hP4.acc (k := (j : Int)) ⟨by omega, by omega⟩
  rw [show ((i : Nat) : Int).toNat = i by omega] at hka
  rw [show ((j : Nat) : Int).toNat = j by omega] at hkb
  obtain ⟨a, ha⟩ : ∃ a, t4.getD i clNil = a := ⟨_, rfl⟩
  obtain ⟨b, hb⟩ : ∃ b, t4.getD j clNil = b := ⟨_, rfl⟩
  rw [ha] at hci hka hic4
  rw [hb] at hcj hkb hjc
  have hkp := hP4.keep0
  have hfa := shl_fits hkp.2 (v := v) (l := l) (k := a) (fun y hy => by have := kid_occ HC.out (x := -v) ⟨by omega, by omega⟩ hic4 y hy; rw [HVS.out.2] at this; exact this) hka
  have hfb := shl_fits hkp.2 (v := v) (l := l) (k := b) (fun y hy => by have := kid_occ HC.out (x := v) ⟨by omega, by omega⟩ hjc y hy; rw [HVS.out.1] at this; exact this) hkb
  have hff := fits_decide hkp.2 HC.out HV.out hka hkb hic4 hjc i j
  have hfae : freeN keep l a.cls v = freeN keep l (resM l (-v)) v := by rw [hic4]
  have hfbe : freeN keep l b.cls v = freeN keep l (resM l v) v := by rw [hjc]
  have hf1 : freeN keep l (resM l (-v)) v ≤ 40 := freeN_le hkp.2
  have hf2 : freeN keep l (resM l v) v ≤ 40 := freeN_le hkp.2
  rw [hfae] at hfa hff
  rw [hfbe] at hfb hff
  have HL4 := Lib.hid (hG4.clss HL3.out)
  have hG4t := HG3.out.trans hG4
  have HFA : Hid (∀ W, Below w4.heap.size w4 W → Calls Tryz.prog 132 #[.pointer (some ⟨pb, 0, none⟩), .slice la ln lc, .slice aa an ac, .int .i64 v] W (IntPost W (freeN keep l (resM l (-v)) v))) := Lib.hid fun W hW => free_any _ _ pb keep v _ _ l (resM l (-v)) W (below_c hW (block_lt hP4.c0) hP4.c0) hkp (clss_below hW HL4.out) (clss_below hW (hG4.clss HA3.out)) (by unfold I64; omega) HS.out.1 HS.out.2 (res_sz HS.out).1 (res_sz HS.out).2
  have HFB : Hid (∀ W, Below w4.heap.size w4 W → Calls Tryz.prog 132 #[.pointer (some ⟨pb, 0, none⟩), .slice la ln lc, .slice ba bn bc, .int .i64 v] W (IntPost W (freeN keep l (resM l v) v))) := Lib.hid fun W hW => free_any _ _ pb keep v _ _ l (resM l v) W (below_c hW (block_lt hP4.c0) hP4.c0) hkp (clss_below hW HL4.out) (clss_below hW (hG4.clss HBB3.out)) (by unfold I64; omega) HS.out.1 HS.out.2 (res_sz HS.out).1 (res_sz HS.out).2
  obtain ⟨f1, hf1e⟩ : ∃ f, freeN keep l (resM l (-v)) v = f := ⟨_, rfl⟩
  obtain ⟨f2, hf2e⟩ : ∃ f, freeN keep l (resM l v) v = f := ⟨_, rfl⟩
  rw [hf1e] at hfa hff hf1 HFA
  rw [hf2e] at hfb hff hf2 HFB
  have HB0 : Hid (Below w4.heap.size w4 w4.drew) := Lib.hid (Below.refl _ _).drew
  have hplt : pb < w4.heap.size := block_lt hP4.c0
  have HP4 := Lib.hid hP4
  have HG4 := Lib.hid hG4t
  have HFF := Lib.hid hff
  have HFFA := Lib.hid hfa
  have HFFB := Lib.hid hfb
  have hit : (i : Int) < t4.length := by omega
  have hjt : (j : Int) < t4.length := by omega
  obtain ⟨tn, htn⟩ : ∃ m, t4.length = m := ⟨_, rfl⟩
  rw [htn] at hit hjt hi4 hj4 hcv4
  have HTN := Lib.hid htn
  have HA := Lib.hid ha
  have HB := Lib.hid hb
  have HHL := Lib.hid (And.intro hul (And.intro hvl (And.intro hl4 hn4)))
  have HT4 := Lib.hid ht4
  rw [hcv4] at hp2
  clear hP4 hG4 hic4 hjc ha hb hka hkb hfa hfb hff hfae hfbe hf1e hf2e hG4t HPB HG3 HT3 HL3 HA3 HBB3 HIC htn hul hvl hl4 hn4 ht4 hkp HP2 HP3
  go_upto_region 4 with fail
  go_region_held3 (fun w' => w'.cell? ⟨pb, 2, none⟩ = some (.slice (some ⟨cb, 0, none⟩) tn cc4) ∧ w'.cell? ⟨cb, i * 5 + 4, none⟩ = some (.int .i64 a.count) ∧ w'.cell? ⟨cb, j * 5 + 4, none⟩ = some (.int .i64 b.count))
    (first | exact ⟨hp2, hci, hcj⟩ | exact ⟨p0, p1, p2⟩ | exact ⟨q0, q1, q2⟩ | go_keep)
    (first
      | (go_at_call 132; (with_reducible refine (HFA.out _ HB0.out).mono ?_); rintro e w5 ⟨rfl, hb5⟩; have HB5 := Lib.hid (HB0.out.trans (hb5.mono HB0.out.size)); have p0 := below_c HB5.out hplt hp2; have p1 := below_c HB5.out hcb hci; have p2 := below_c HB5.out hcb hcj; clear hb5)
      | (go_at_call 132; (with_reducible refine (HFB.out _ HB5.out).mono ?_); rintro e w6 ⟨rfl, hb6⟩; have HB6 := Lib.hid (HB5.out.trans (hb6.mono HB5.out.size)); have q0 := below_c HB6.out hplt hp2; have q1 := below_c HB6.out hcb hci; have q2 := below_c HB6.out hcb hcj; clear hb6)
      | fail)
  obtain ⟨X1, hX1⟩ : ∃ X, a.count * 2 ^ f1 = X := ⟨_, rfl⟩
  obtain ⟨X2, hX2⟩ : ∃ X, b.count * 2 ^ f2 = X := ⟨_, rfl⟩
  have hx1 := HFFA.out
  have hx2 := HFFB.out
  have hff := HFF.out
  rw [hX1] at hx1 hff ⊢
  rw [hX2] at hx2 hff ⊢
  have hw1 : IntKind.i64.wrap X1 = X1 := IntWalk.i64_in _ ⟨by omega, by omega⟩
  have hw2 : IntKind.i64.wrap X2 = X2 := IntWalk.i64_in _ ⟨by omega, by omega⟩
  have hw3 : IntKind.i64.wrap (X1 + X2) = X1 + X2 := IntWalk.i64_in _ ⟨by omega, by omega⟩
  rw [hw1, hw2, hw3]
  obtain ⟨X, hX⟩ : ∃ X, X1 + X2 = X := ⟨_, rfl⟩
  rw [hX] at hff ⊢
  have hX64 : I64 X := by unfold I64; omega
  obtain ⟨W7, hW7⟩ : ∃ W, w6.alloc (.cells #[.int .i64 i, .int .i64 j] 3) = W := ⟨_, rfl⟩
  have hb7 : Below w6.heap.size w6 W7 := by rw [← hW7]; exact (Below.refl _ _).alloc (Nat.le_refl _) _
  have hb47 : Below w4.heap.size w4 W7 := HB6.out.trans (hb7.mono HB6.out.size)
  have hP6 := HP4.out.below HB6.out
  have hP7 := HP4.out.below hb47
  have hki : Ints (AX Ex pb mb cv4) W7 (.slice (some ⟨w6.heap.size, 0, none⟩) 2 2) [(i : Int), (j : Int)] := by
    have h1 : W7.ownsRow w6.heap.size 3 1 (.slice (some ⟨w6.heap.size, 0, none⟩) 2 2) 2 ([(i : Int), (j : Int)].map (.int .i64)) := by rw [← hW7]; simpa using own_new (base := w6.heap.size) (w := w6) #[.int .i64 i, .int .i64 j] 3 (Nat.le_refl _) (by simp)
    refine ⟨(ownsRow_sl1 h1 (by simp)).mono fun b hb => hP6.apart hb.1, fun x hx => ?_⟩
    have := HTN.out
    have := HHL.out.2.2.1
    have := HHL.out.1
    have := HHL.out.2.1
    simp at hx
    unfold I64
    rcases hx with rfl | rfl <;> omega
  have hl7 := clss_below hb47 HL4.out
  have hcl := claim_any Ex B pb mb keep cv4 (.slice la ln lc) (.int .i64 3) (.int .i64 v) (.slice (some ⟨w6.heap.size, 0, none⟩) 2 2) (.int .i64 X) t4 n4 ⟨l, 3, v, [(i : Int), (j : Int)], X⟩ W7 hP7
    ⟨⟨hl7, rfl, rfl, hki, rfl⟩, by unfold I64; show (-9223372036854775808 : Int) ≤ 3 ∧ (3 : Int) ≤ _; omega, by unfold I64; show (-9223372036854775808 : Int) ≤ v ∧ v ≤ _; omega, hX64⟩
    (fun k hk => by
      have := HTN.out
      simp at hk
      rcases hk with rfl | rfl <;> omega)
    (by
      have : kidsM t4 ⟨l, 3, v, [(i : Int), (j : Int)], X⟩ = [a, b] := by
        unfold kidsM
        simp only [List.map_cons, List.map_nil, Int.toNat_natCast]
        rw [HA.out, HB.out]
      rw [this]
      exact hff)
    (by have := HHL.out.2.2.1; have := HHL.out.1; have := HHL.out.2.1; omega) ⟨HS.out.1, HS.out.2, by simp⟩
  have HCL := Lib.hid hcl
  have HG7 := Lib.hid (HG4.out.trans (Grw.of_below hb47))
  clear hcl hl7 hki hP6 hP7 hb47 hb7 hff hX hX1 hX2 hx1 hx2 HFA HFB HB5 p0 p1 p2 q0 q1 q2 hp2 hci hcj hw1 hw2 hw3
  go_wp2_with fail
  try rw [hW7]
  clear hW7
  refine HCL.out.mono ?_
  rintro e w8 ⟨cv8, rfl, hP8, hG8⟩
  have HF : Hid (FreshPost Ex B w pb mb keep cv ts l (.returned (.int .i64 (t4.length : Int))) w8) := Lib.hid (by
    have ht := HT4.out
    have hh := HHL.out
    refine ⟨cv8, us ++ vs ++ [⟨l, 3, v, [(i : Int), (j : Int)], X⟩], n4, t4.length, rfl, ?_, HG7.out.trans hG8, ?_, ?_, ?_, ?_⟩
    · rw [← List.append_assoc, ← List.append_assoc, ht]; exact hP8
    · rw [← List.append_assoc, ← List.append_assoc, ht]; simp
    · rw [← List.append_assoc, ← List.append_assoc, ht, List.getD_eq_getElem?_getD, List.getElem?_append_right (Nat.le_refl _)]; simp
    · rw [List.length_append, List.length_append]; simp only [List.length_cons, List.length_nil]; omega
    · rw [← List.append_assoc, ← List.append_assoc, ht]; simp; omega)
  clear hP8 hG8 HCL HG7
  go_wp2_with fail
  go_ret
  exact HF.out

/- (Counter seat) Walk: prove, from fresh. No condition but the sizes. -/
open Go.ChangeShapes Go.WideShapes Go.ChangeAt Go.RowKit
set_option linter.unusedVariables false
set_option linter.unusedSimpArgs false

def FreshOk (l : List (List Int)) : Prop := ∀ (Ex : Nat → Prop) (B pb mb : Nat) (keep : Int) (cv lv : Value) (ts : List Claim) (n : Nat) (w : World), Pre Ex B w pb mb keep cv lv ts n l →
  Calls Tryz.prog 65 #[.pointer (some ⟨pb, 0, none⟩), lv] w (FreshPost Ex B w pb mb keep cv ts l)
theorem law_str : Maps.Keyed Tryz.prog 9 := Maps.string_keyed Tryz.underlying9
theorem keyB_len {l : List (List Int)} (hs : SzL l) (hi : ∀ c ∈ l, ∀ x ∈ c, I64 x) : (keyB l).length ≤ 400000000 := by
  have key : ∀ {m : List (List Int)}, (∀ c ∈ m, c.length ≤ 4000) → (∀ c ∈ m, ∀ x ∈ c, I64 x) → (keyB m).length ≤ 88001 * m.length := by
    intro m
    induction m with
    | nil => intro _ _; exact Nat.le_refl _
    | cons c r ih =>
      intro h1 h2
      have h3 := ih (fun x hx => h1 x (List.mem_cons_of_mem _ hx)) fun x hx => h2 x (List.mem_cons_of_mem _ hx)
      have h4 := keyC_len (h2 c (List.mem_cons_self ..))
      have h5 := h1 c (List.mem_cons_self ..)
      unfold keyB at h3 ⊢
      rw [List.flatMap_cons, List.length_append, List.length_append, List.length_cons]
      simp only [List.length_cons, List.length_nil]
      omega
  have h1 := key hs.2 hi
  have h2 := hs.1
  omega
theorem keyOf_s {l : List (List Int)} (h : (keyB l).length ≤ 400000000) : keyOf Tryz.prog 9 (.string ⟨(keyB l).toArray⟩) = some (.string (keyB l)) := by
  have := WideMaps.keyOf_string_mk (P := Tryz.prog) Tryz.underlying9 (s := ⟨(keyB l).toArray⟩) (by show (keyB l).toArray.size ≤ maxLen; unfold maxLen; simp; omega)
  simpa using this
theorem KnownM.look {w : World} {mb n : Nat} {ts : List Claim} {l : List (List Int)} (h : KnownM w mb n ts) (hl : (keyB l).length ≤ 400000000) (hn : ts.length ≤ 100000) :
    ∃ (c : Int) (E : Bool), (Instr.lookup 67 (.map (some mb)) (.string ⟨(keyB l).toArray⟩) true).run Tryz.prog w = .ok (.tuple #[.int .i64 c, .bool E]) w ∧ (E = true → ∃ j : Nat, c = j ∧ j < ts.length ∧ (ts.getD j clNil).cls = l) := by
  obtain ⟨D, h1, h2, h3⟩ := h
  obtain ⟨v, ps, hrun, hv⟩ := h1.look_ok law_str Tryz.underlying67 (z := .int .i64 0) (by kernel_rfl) (plainElem_int Tryz.underlying3 (by decide)) (keyOf_s hl)
  obtain ⟨c, rfl, hc, _⟩ := plainElem_int_inv Tryz.underlying3 hv
  refine ⟨c, _, hrun, fun hE => ?_⟩
  obtain ⟨j, hj, e1, e2⟩ := h3 l hE
  have h5 := congrArg Prod.fst hc
  simp only at h5
  rw [e2] at h5
  simp at h5
  exact ⟨j, by omega, hj, e1⟩
theorem known_put {w' : World} {mb n i : Nat} {ts : List Claim} {l : List (List Int)} {D : DataW Unit} (hi : i < ts.length) (hl : (ts.getD i clNil).cls = l)
    (h1 : w'.ownsMap Tryz.prog 9 (plainElem Tryz.prog 3) mb (n + 1) (D.put (.string (keyB l)) (.lit (.int .i64 i)))) (h2 : Maps.IsMap D)
    (h3 : ∀ l : List (List Int), Maps.has D (.string (keyB l)) = true → ∃ j : Nat, j < ts.length ∧ (ts.getD j clNil).cls = l ∧ D.atKey (.string (keyB l)) (.lit (.int .i64 0)) = .lit (.int .i64 j)) : KnownM w' mb (n + 1) ts := by
  refine ⟨_, h1, h2.put _ _, fun m hm => ?_⟩
  by_cases e : m = l
  · subst e
    exact ⟨i, hi, hl, Maps.atKey_put_same h2 (by trivial) _ _⟩
  · have hne : (Lit.string (keyB m)) ≠ Lit.string (keyB l) := fun q => e (keyB_inj (by injection q))
    rw [Maps.has_put_other hne] at hm
    rw [Maps.atKey_put_other hne]
    exact h3 m hm
set_option maxRecDepth 100000 in
set_option maxHeartbeats 8000000 in
theorem prove_of_fresh {l : List (List Int)} (hs : SzL l) (hi : ∀ c ∈ l, ∀ x ∈ c, I64 x) (hf : FreshOk l) : ProveOk l := by
  intro Ex B pb mb keep cv lv ts n w hp
  obtain ⟨hP, hT, hL, hlen, hn⟩ := hp
  obtain ⟨la, ln, lc, rfl, _, _⟩ := hL.form'
  have hkl := keyB_len hs hi
  have HKY := Lib.hid (key_any _ _ l w hL hs.1 hs.2 (hT.up hP.low.2.2))
  have HP := Lib.hid hP
  have HT := Lib.hid hT
  have HL := Lib.hid hL
  have HF := Lib.hid hf
  clear hP hT hL hf
  go_enter Tryz.func39, Tryz.ntmps39
  go_wp2_with fail
  refine HKY.out.mono ?_
  rintro e w1 ⟨rfl, hb1⟩
  have hP1 := HP.out.below hb1
  have hL1 := clss_below hb1 HL.out
  have hT1 := HT.out.below (hb1.mono HP.out.low.2.2) (Nat.le_refl B)
  have hG1 : Grw pb mb cv w cv w1 := Grw.of_below hb1
  obtain ⟨c, E, hrun, hE⟩ := hP1.known.look hkl (by omega)
  have c3 := hP1.c3
  have c4 := hP1.c4
  have HP1 := Lib.hid hP1
  have HG1 := Lib.hid hG1
  have HEE := Lib.hid hE
  have HFR := Lib.hid (HF.out Ex B pb mb keep cv _ ts n w1 ⟨hP1, hT1, hL1, hlen, hn⟩)
  clear hb1 hP1 hL1 hT1 hG1 hE HKY HP HT HL HF
  rcases bool2 E with rfl | rfl
  · obtain ⟨j, rfl, hj, hjl⟩ := HEE.out rfl
    have HFI : Hid (ProvePost Ex B w pb mb keep cv ts l (.returned (.int .i64 (j : Int))) w1) := Lib.hid ⟨cv, [], n, j, rfl, by rw [List.append_nil]; exact HP1.out, HG1.out, by rw [List.append_nil]; exact hj, by rw [List.append_nil]; exact hjl, by simp, by rw [List.append_nil]; exact hn, fun e => by rw [e] at hj; simp at hj⟩
    go_wp2_with fail
    go_ret
    exact HFI.out
  clear HEE
  go_wp2_with fail
  refine HFR.out.mono ?_
  rintro e w2 ⟨cv2, us, n2, i, rfl, hP2, hG2, hi2, hil, hul, hn2⟩
  have d3 := hP2.c3
  obtain ⟨D, hown, hD2, hD3⟩ := hP2.known
  have HD2 := Lib.hid hD2
  have HD3 := Lib.hid hD3
  have HP2 := Lib.hid hP2
  have HG2 := Lib.hid (HG1.out.trans hG2)
  have HIL := Lib.hid hil
  have hkk := keyOf_s hkl
  have hil2 : i < (ts ++ us).length := by omega
  have htl : (ts ++ us).length ≤ 60000 := by rw [List.length_append]; omega
  have hI : I64 (i : Int) := by unfold I64; omega
  have hnb : n2 + 1 ≤ 9000000000 := by omega
  clear hP2 hG2 hD2 hD3 HFR hrun hil
  go_wp2_with (at_mapUpdate; refine wpList_mapUpdate_own _ rfl _ _ _ 67 rfl 9 3 law_str Tryz.underlying67 (plainElem Tryz.prog 3) mb n2 D rfl hown (by unfold maxLen; omega) _ _ (.string (keyB l)) rfl rfl hkk (.lit (.int .i64 i)) [] (plainElem_int Tryz.underlying3 (I64_wf hI)) ?_; intro w5 hown5 hgrow5; have HK5 : Hid (KnownM w5 mb (n2 + 1) (ts ++ us)) := Lib.hid (known_put hil2 HIL.out hown5 HD2.out HD3.out); have HG5 := Lib.hid hgrow5; clear hown5 hgrow5 hown)
  have HFI : Hid (ProvePost Ex B w pb mb keep cv ts l (.returned (.int .i64 (i : Int))) w5) := Lib.hid (by
    have h := HP2.out
    have hg := HG5.out
    obtain ⟨us5, r1, r2, r3⟩ := h.rows
    have hpm : some pb ≠ some mb := fun e => h.diff.1 (by injection e)
    have hown := hg
    refine ⟨cv2, us, n2 + 1, i, rfl, ⟨grown_c2 hg hpm h.c0, grown_c2 hg hpm h.c1, grown_c2 hg hpm h.c2, grown_c2 hg hpm h.c3, grown_c2 hg hpm h.c4, fun o => (World.frozen?_of_block (a := ⟨pb, o, none⟩) (hg.block pb (block_lt h.c0) hpm)).trans (h.free o), ⟨us5, r1.kept hg (by
        rcases hq : cv2.ownBlock with _ | b
        · exact .inl rfl
        · exact .inr (fun e => h.diff.2.2 (by rw [hq, e]))), r2, fun j u c hu hc => ((r3 j u c hu hc).move fun b hb _ => hg.block b hb.1 (fun e => hb.2.1.2.1 (by injection e))).mono fun b hb => ⟨Nat.lt_of_lt_of_le hb.1 hg.size, hb.2⟩⟩, HK5.out, h.diff, ⟨h.low.1, h.low.2.1, Nat.le_trans h.low.2.2 hg.size⟩, h.acc, h.keep0, h.sz, fun b hx => Nat.lt_of_lt_of_le (h.ex b hx) hg.size⟩, HG2.out.trans ⟨hg.os, hg.tape, hg.output, hg.size, fun b hb ha => hg.block b hb (fun e => ha.2.1 (by injection e)), fun b hb => .inl hb⟩, hil2, HIL.out, hul, hn2, fun _ => hi2⟩)
  clear HP2 HG2 HK5 HG5 HD2 HD3
  go_wp2_with fail
  go_ret
  exact HFI.out
end Go.Proofs.YthanfjpmcckbhaaGreatDoor
