/- (Trace text seat) Walk: number, of the reader of the package trace, at any text. Condition: the two errors of strconv lie as laid. -/
import Derived.Test.YtljaegmmfjllkaaGreatDoorR1
import Derived.Test.YtljaegmmfjllkaaGreatDoorR2
import Derived.Shelf.Strconv.ErrVarAll
import Derived.Lib.AtoiAllCases
import Derived.Test.YtljaegmmfjllkaaGreatDoorN5
namespace Go.Proofs.YtljaegmmfjllkaaGreatDoor
open Go.ChangeShapes Go.WideShapes Go.ChangeAt Go.RowKit Go.Lib
set_option linter.unusedVariables false
set_option linter.unusedSimpArgs false

/-- the two sentinels lie below B -/
def ErrT (B : Nat) (w : World) : Prop :=
  (∃ tp p, ∀ w', Below B w w' → w'.var? Tryz.prog "strconv.ErrSyntax" = some #[.iface tp p]) ∧ (∃ tp p, ∀ w', Below B w w' → w'.var? Tryz.prog "strconv.ErrRange" = some #[.iface tp p])
theorem ErrT.on {B : Nat} {w w1 : World} (h : ErrT B w) (hb : Below B w w1) : ErrT B w1 := by
  obtain ⟨⟨tp, p, h1⟩, ⟨tq, q, h2⟩⟩ := h
  exact ⟨⟨tp, p, fun w' h' => h1 w' (hb.trans h')⟩, ⟨tq, q, fun w' h' => h2 w' (hb.trans h')⟩⟩
theorem ErrT.below {B B' : Nat} {w w' : World} (h : ErrT B w) (hb : Below B' w w') (hle : B ≤ B') : ErrT B w' := h.on (hb.mono hle)
def AtaPost (W : World) (e : Ending) (w' : World) : Prop :=
  ∃ (n : Int) (ev : Value), e = .returned (.tuple #[.int .i64 n, ev]) ∧ I64 n ∧ (ev = .nilIface ∨ ∃ T p, ev = .iface T p) ∧ Below W.heap.size W w'
theorem atoi_all (B : Nat) (s : ByteArray) (w : World) (hs : s.size ≤ 281474976710656) (hy : ErrT B w) : Calls Tryz.prog 43 #[.string s] w (AtaPost w) := by
  obtain ⟨⟨tp, p, h1⟩, ⟨tq, q, h2⟩⟩ := hy
  rcases ha : Lib.atoiAll s.data.toList with v | _ | _
  · refine (Any.strconv_Atoi_ok atoiC s (by omega) v ha w).mono ?_
    rintro e w' ⟨rfl, hw⟩
    obtain ⟨b0, b1⟩ := Lib.atoiAll_bounds ha
    refine ⟨v, _, rfl, ⟨by omega, by omega⟩, .inl rfl, ?_⟩
    rcases hw with rfl | ⟨u, rfl⟩
    · exact Below.refl _ _
    · exact Lib.bytesWorld_below _ _ _
  · refine (Any.strconv_Atoi_syntax_var atoiC s hs ha tp p w (h1 w (Below.refl _ _))).mono ?_
    rintro e w' ⟨N, rfl, _, _, hb⟩
    exact ⟨0, _, rfl, ⟨by decide, by decide⟩, .inr ⟨_, _, rfl⟩, hb⟩
  · refine (Any.strconv_Atoi_range_var atoiC s hs ha tq q w (h2 w (Below.refl _ _))).mono ?_
    rintro e w' ⟨N, rfl, _, _, hb⟩
    obtain ⟨b0, b1⟩ := Lib.atoiSat_bounds s.data.toList
    exact ⟨_, _, rfl, ⟨by omega, by omega⟩, .inr ⟨_, _, rfl⟩, hb⟩
/-- a reader in block R: what is left of its text, and its mark -/
structure RdB (w : World) (R : Nat) (t : Bts) (b : Bool) : Prop where
  c0 : w.cell? ⟨R, 0, none⟩ = some (.string (BA t))
  c1 : w.cell? ⟨R, 1, none⟩ = some (.bool b)
  fz : ∀ o, w.frozen? ⟨R, o, none⟩ = false
theorem RdB.same {w w' : World} {R : Nat} {t : Bts} {b : Bool} (h : RdB w R t b) (hm : w'.heap[R]? = w.heap[R]?) : RdB w' R t b :=
  ⟨(World.cell?_of_block hm).trans h.c0, (World.cell?_of_block hm).trans h.c1, fun o => (World.frozen?_of_block (a := ⟨R, o, none⟩) hm).trans (h.fz o)⟩
theorem RdB.below {w w' : World} {R : Nat} {t : Bts} {b : Bool} (h : RdB w R t b) (hb : Below w.heap.size w w') : RdB w' R t b := h.same (hb.block R (block_lt h.c0))
theorem RdB.setB {w : World} {R : Nat} {t : Bts} {b : Bool} (h : RdB w R t b) (b' : Bool) : RdB (w.setCell ⟨R, 1, none⟩ (.bool b')) R t b' :=
  ⟨set_ne (by omega) h.c0, set_eq h.c1, fun o => by rw [World.frozen?_setCell]; exact h.fz o⟩
theorem RdB.setT {w : World} {R : Nat} {t t' : Bts} {b : Bool} {T : ByteArray} (h : RdB w R t b) (e : T = BA t') : RdB (w.setCell ⟨R, 0, none⟩ (.string T)) R t' b := by
  subst e
  exact ⟨set_eq h.c0, set_ne (by omega) h.c1, fun o => by rw [World.frozen?_setCell]; exact h.fz o⟩
theorem ba_dropR (t : Bts) (k : Nat) : (BA t).extract k (BA t).size = BA (t.drop k) := by
  apply ByteArray.ext
  rw [ba_size]
  simp [BA, ByteArray.data_extract]
  exact List.take_of_length_le (by simp)
/-- what number does -/
def NrPost (W : World) (R : Nat) (t : Bts) (b : Bool) (e : Ending) (w' : World) : Prop :=
  ∃ (n : Int) (t' : Bts) (b' : Bool), e = .returned (.int .i64 n) ∧ Hid (StepR t b n t' b') ∧ RdB w' R t' b' ∧ KpR R W w'
def Exp (t : Bts) (b : Bool) : Prop := b = false ∧ ∃ (n0 : Int) (l : List Int) (m : Bts), I64 n0 ∧ GoodT (restT (n0 :: l) m) ∧ t = restT (n0 :: l) m
theorem step_exp {n0 : Int} {l : List Int} {m : Bts} (hn : I64 n0) : StepR (restT (n0 :: l) m) false n0 (restT l m) false := by
  obtain ⟨s, _, e⟩ := rest_step n0 l m
  have hlt : (restT l m).length < (restT (n0 :: l) m).length := by rw [e, List.length_append, List.length_cons]; omega
  refine ⟨hn, fun _ => hlt, Nat.le_of_lt hlt, id, fun _ n1 l1 m1 hn1 _ e1 => ?_⟩
  obtain ⟨q1, q2⟩ := rest_uniq hn hn1 e1
  exact ⟨q1, q2, rfl⟩
theorem step_bad {t : Bts} {b : Bool} (h : ¬ Exp t b) : StepR t b 0 t true :=
  ⟨⟨by decide, by decide⟩, fun h => h.elim (fun h => absurd rfl h) (fun h => Bool.noConfusion h), Nat.le_refl _, fun h => Bool.noConfusion h, fun hb n0 l m h0 hg e => absurd ⟨hb, n0, l, m, h0, hg, e⟩ h⟩
theorem step_on {t : Bts} {b : Bool} {n : Int} {k : Nat} (h : ¬ Exp t b) (hn : I64 n) (hk : k < t.length) : StepR t b n (t.drop (k + 1)) b :=
  ⟨hn, fun _ => by rw [List.length_drop]; omega, by rw [List.length_drop]; omega, id, fun hb n0 l m h0 hg e => absurd ⟨hb, n0, l, m, h0, hg, e⟩ h⟩
set_option maxRecDepth 100000 in
set_option maxHeartbeats 8000000 in
theorem rdnum_gen (B0 R : Nat) (t : Bts) (b : Bool) (w : World) (h : RdB w R t b) (hl : t.length ≤ 4194304) (he : ErrT B0 w) (hB : B0 ≤ w.heap.size) :
    Calls Tryz.prog 24 #[.pointer (some ⟨R, 0, none⟩)] w (NrPost w R t b) := by
  by_cases hx : Exp t b
  · obtain ⟨rfl, n0, l, m, hn, hg, rfl⟩ := hx
    refine (rdnum_line R n0 l m w ⟨h.c0, h.c1, h.fz⟩ hn hg).1.mono ?_
    rintro e w' ⟨rfl, hr, hk⟩
    exact ⟨n0, _, false, rfl, Lib.hid (step_exp hn), ⟨hr.c0, hr.c1, hr.fz⟩, hk⟩
  have HX := Lib.hid hx
  obtain ⟨T, hT⟩ : ∃ T, BA t = T := ⟨_, rfl⟩
  have HRD := Lib.hid h
  have c0 := h.c0
  have c1 := h.c1
  have f0 := h.fz 0
  have f1 := h.fz 1
  rw [hT] at c0
  have hsz : T.size = t.length := by rw [← hT, ba_size]
  have HTT := Lib.hid hT
  have HIA := Lib.hid (idxany_any T w (by omega))
  have HE := Lib.hid he
  have HSZ := Lib.hid hsz
  have hTl : T.size ≤ 4194304 := by omega
  clear h hx hT he hsz hl
  go_enter Tryz.func24, Tryz.ntmps24
  go_wp2_with fail
  refine HIA.out.mono ?_
  rintro e w1 ⟨i, rfl, hi0, hi1, hb1⟩
  have HR1 := Lib.hid (HRD.out.below hb1)
  have c0 := HR1.out.c0
  have c1 := HR1.out.c1
  have f0 := HR1.out.fz 0
  have f1 := HR1.out.fz 1
  rw [HTT.out] at c0
  have HB1 := Lib.hid hb1
  by_cases hneg : i < 0
  · have hd : decide (i < 0) = true := decide_eq_true hneg
    have HF : Hid (NrPost w R t b (.returned (.int .i64 0)) (w1.setCell ⟨R, 1, none⟩ (.bool true))) := Lib.hid ⟨0, t, true, rfl, Lib.hid (step_bad HX.out), HR1.out.setB true, kpr_trans (kpr_below HB1.out) (kpr_set _ _ _ _)⟩
    clear hb1 HIA HRD hneg
    go_wp2_with fail
    go_ret
    exact HF.out
  have hd : decide (i < 0) = false := decide_eq_false hneg
  obtain ⟨k, rfl⟩ : ∃ k : Nat, i = k := ⟨i.toNat, by omega⟩
  obtain ⟨U, hU⟩ : ∃ U, T.extract 0 k = U := ⟨_, rfl⟩
  obtain ⟨V, hV⟩ : ∃ V, T.extract (k + 1) T.size = V := ⟨_, rfl⟩
  have hUs : U.size ≤ 281474976710656 := by rw [← hU, ByteArray.size_extract]; omega
  have HV : Hid (V = BA (t.drop (k + 1))) := Lib.hid (by rw [← hV, ← HTT.out, ba_dropR])
  have HAT := Lib.hid (atoi_all B0 U w1 hUs (HE.out.below hb1 hB))
  have hw : wrap64 ((k : Int) + 1) = (k : Int) + 1 := IntWalk.wrap64_in _ ⟨by omega, by omega⟩
  have hw' : IntKind.i64.wrap ((k : Int) + 1) = (k : Int) + 1 := IntWalk.i64_in _ ⟨by omega, by omega⟩
  have g0 : (0 : Int) ≤ k := by omega
  have g1 : (k : Int) ≤ T.size := by omega
  have g2 : (k : Int) + 1 ≤ T.size := by omega
  have g3 : (0 : Int) ≤ (k : Int) + 1 := by omega
  have g4 : k ≤ T.size := by omega
  have g5 : k + 1 ≤ T.size := by omega
  have HK : Hid (k < t.length) := Lib.hid (by rw [← HSZ.out]; omega)
  clear hb1 HIA HRD hneg hUs
  go_wp2_with fail
  refine HAT.out.mono ?_
  rintro e w2 ⟨n, ev, rfl, hn, hev, hb2⟩
  have HR2 := Lib.hid (HR1.out.below hb2)
  have HB2 := Lib.hid (HB1.out.trans (hb2.mono HB1.out.size))
  have c0 := HR2.out.c0
  have c1 := HR2.out.c1
  have f0 := HR2.out.fz 0
  have f1 := HR2.out.fz 1
  rw [HTT.out] at c0
  have HN := Lib.hid hn
  clear hb2 HAT HR1 HB1 hn
  rcases hev with rfl | ⟨TE, PE, rfl⟩
  · have HF : Hid (NrPost w R t b (.returned (.int .i64 n)) (w2.setCell ⟨R, 0, none⟩ (.string V))) := Lib.hid ⟨n, _, b, rfl, Lib.hid (step_on HX.out HN.out HK.out), HR2.out.setT HV.out, kpr_trans (kpr_below HB2.out) (kpr_set _ _ _ _)⟩
    go_wp2_with fail
    go_ret
    exact HF.out
  · have HF : Hid (NrPost w R t b (.returned (.int .i64 0)) (w2.setCell ⟨R, 1, none⟩ (.bool true))) := Lib.hid ⟨0, t, true, rfl, Lib.hid (step_bad HX.out), HR2.out.setB true, kpr_trans (kpr_below HB2.out) (kpr_set _ _ _ _)⟩
    go_wp2_with fail
    go_ret
    exact HF.out

/- (Trace text seat) Walk: numbers, of the reader of the package trace, at any text. Condition: the two errors of strconv lie as laid. -/
open Go.ChangeShapes Go.WideShapes Go.ChangeAt Go.RowKit Go.Lib
set_option linter.unusedVariables false
set_option linter.unusedSimpArgs false

theorem kpr_b {R B : Nat} {w w' : World} (h : KpR R w w') (hB : B ≤ R) (hR : R < w.heap.size) : Below B w w' :=
  ⟨h.os, h.tape, h.output, h.size, fun k hk => h.block k (by omega) (fun e => by injection e with e; omega)⟩
def RnsG (W : World) (R : Nat) (n : Int) (t : Bts) (b : Bool) (e : Ending) (w' : World) : Prop :=
  ∃ (v : Value) (l : List Int) (t' : Bts) (b' : Bool), e = .returned v ∧ Ints (fun b => W.heap.size ≤ b) w' v l ∧ Hid (Steps t b l t' b') ∧ Hid (l.length ≤ n.toNat) ∧ Hid (b' = true ∨ l.length = n.toNat) ∧ Hid (l.length ≤ t.length + 1) ∧ RdB w' R t' b' ∧ KpR R W w'
set_option maxRecDepth 100000 in
set_option maxHeartbeats 8000000 in
theorem rdnums_gen (B0 R : Nat) (n : Int) (t : Bts) (b : Bool) (w : World) (h : RdB w R t b) (hn : I64 n) (hl : t.length ≤ 4194304) (he : ErrT B0 w) (hB : B0 ≤ R) :
    Calls Tryz.prog 44 #[.pointer (some ⟨R, 0, none⟩), .int .i64 n] w (RnsG w R n t b) := by
  obtain ⟨LB, hLB⟩ : ∃ b, w.heap.size = b := ⟨_, rfl⟩
  have hRL : R < LB := by rw [← hLB]; exact block_lt h.c0
  obtain ⟨N, hN⟩ : ∃ N, t.length = N := ⟨_, rfl⟩
  have hNb : N ≤ 4194304 := by omega
  have HINI := Lib.hid (show (Tryz.prog.info? 3).map (fun i => (i.zero, i.size, i.bytes)) = some (some (.int .i64 0), 1, 8) by kernel_rfl)
  have HNUM : Hid (∀ wi t1 b1, KpR R w wi → RdB wi R t1 b1 → t1.length ≤ N → Calls Tryz.prog 24 #[.pointer (some ⟨R, 0, none⟩)] wi (NrPost wi R t1 b1)) := Lib.hid fun wi t1 b1 hk hr hx =>
    rdnum_gen B0 R t1 b1 wi hr (by omega) (he.on (kpr_b hk hB (by omega))) (by have := hk.size; omega)
  have HR0 : Hid (RdB w R t b) := Lib.hid h
  have HK0 : Hid (KpR R w w) := Lib.hid (kpr_below (Below.refl _ _))
  have HL0 : Hid (w.ownsRow LB 3 1 (.slice none 0 0) 0 (([] : List Int).map (.int .i64))) := Lib.hid (World.ownsRow_nil _ _ _ _)
  have HS0 : Hid (Steps t b [] t b) := Lib.hid .nil
  have HLB := Lib.hid hLB
  have HNN := Lib.hid hN
  have HG0 : Hid (1 ≤ N + 2 ∧ (b = false → t.length + 2 ≤ N + 2 ∧ 0 + t.length ≤ N)) := Lib.hid ⟨by omega, fun _ => by omega⟩
  clear h hl he hN hLB
  go_enter Tryz.func44, Tryz.ntmps44
  go_wp2_with fail
  go_loopg [5, 6] (N + 2) (fun gg u5 u6 wx => ∃ (k : Nat) (la : Option Addr) (lc : Nat) (l : List Int) (t1 : Bts) (b1 : Bool), u6 = .int .i64 k ∧ u5 = .slice la k lc ∧ Hid (k = l.length) ∧ Hid (k ≤ n.toNat) ∧ k ≤ N + 1 ∧ Hid (RdB wx R t1 b1) ∧ Hid (Steps t b l t1 b1) ∧ Hid (KpR R w wx) ∧ Hid (wx.ownsRow LB 3 1 (.slice la k lc) k (l.map (.int .i64))) ∧ Hid (1 ≤ gg ∧ (b1 = false → t1.length + 2 ≤ gg ∧ k + t1.length ≤ N)))
  case atStart => exact ⟨0, none, 0, [], t, b, rfl, rfl, Lib.hid rfl, Lib.hid (Nat.zero_le _), by omega, HR0, HS0, HK0, HL0, HG0⟩
  case round =>
  clear HR0 HS0 HK0 HL0 HG0
  obtain ⟨k, la, lc, l, t1, b1, rfl, rfl, HKL, HKN, hkN, HR, HS, HK, HL, HG⟩ := hrel
  have HFIN : Hid (b1 = true ∨ ¬ ((k : Int) < n) → RnsG w R n t b (.returned (.slice la k lc)) wr) := Lib.hid fun hx => by
    have hI : Ints (fun b => w.heap.size ≤ b) wr (.slice la k lc) l := by
      have h1 := ownsRow_sl1 HL.out (by omega)
      exact ⟨h1.mono fun b hb => by rw [HLB.out]; exact hb.1, HS.out.i64⟩
    refine ⟨_, l, t1, b1, rfl, hI, HS, Lib.hid (by rw [← HKL.out]; exact HKN.out), Lib.hid ?_, Lib.hid (by rw [← HKL.out, HNN.out]; exact hkN), HR.out, HK.out⟩
    rcases hx with h | h
    · exact .inl h
    · right
      have := HKN.out
      rw [← HKL.out]
      omega
  have c1 := HR.out.c1
  by_cases hk : (k : Int) < n
  case neg =>
    have hdk : decide ((k : Int) < n) = false := decide_eq_false hk
    have HF := Lib.hid (HFIN.out (.inr hk))
    clear HFIN HR HS HK HL hk
    go_wp2_with fail
    go_ret
    exact HF.out
  have hdk : decide ((k : Int) < n) = true := decide_eq_true hk
  rcases bool2 b1 with rfl | rfl
  · have HF := Lib.hid (HFIN.out (.inl rfl))
    clear HFIN HR HS HK HL hk
    go_wp2_with fail
    go_ret
    exact HF.out
  have HKK : Hid (k + 1 ≤ n.toNat) := Lib.hid (by omega)
  have HGG := Lib.hid (HG.out.2 rfl)
  have HCL := Lib.hid (HNUM.out wr t1 false HK.out HR.out (by have := HGG.out.2; omega))
  clear HFIN HG hk
  go_wp2_with fail
  refine HCL.out.mono ?_
  rintro e w2 ⟨x, t2, b2, rfl, HST, hr2, hk2⟩
  have HR2 := Lib.hid hr2
  have hlt2 : ∀ g, (Value.slice la k lc).ownBlock = some g → LB ≤ g ∧ g < wr.heap.size := fun g e => HL.out.lt g e
  have hown : w2.ownsRow LB 3 1 (.slice la k lc) k (l.map (.int .i64)) := own_same HL.out fun g e => hk2.block g (hlt2 g e).2 (fun e2 => by injection e2 with e2; have := (hlt2 g e).1; omega)
  have HK2 := Lib.hid (kpr_trans HK.out hk2)
  have hsz : LB ≤ w2.heap.size := by rw [← HLB.out]; exact HK2.out.size
  have hRsz : R < w2.heap.size := by omega
  have HOW := Lib.hid hown
  have HS2 : Hid (Steps t b (l ++ [x]) t2 b2) := Lib.hid (.snoc HS.out HST.out)
  have HG2 : Hid (1 ≤ gk - 1 ∧ (b2 = false → t2.length + 2 ≤ gk - 1 ∧ k + 1 + t2.length ≤ N)) := Lib.hid (by
    have h1 := HGG.out
    refine ⟨by omega, fun hb => ?_⟩
    have h2 := HST.out.lt (.inr hb)
    omega)
  have hkN2 : k + 1 ≤ N + 1 := by have := HGG.out; omega
  have HGP : Hid (1 ≤ gk) := Lib.hid (by have := HGG.out; omega)
  clear hr2 hk2 HR HK HL HCL hlt2 HS HGG hkN
  go_wp2_with (at_builtin; go_loud (refine wpList_push1 rfl _ _ 43 rfl 3 (.int .i64 0) 8 Tryz.underlying43 HINI.out rfl LB (.slice la k lc) k (l.map (.int .i64)) w2 (.int .i64 x) rfl rfl hown rfl (by omega) (by omega) hsz ?_); intro g7 cap7 w7 hown7 hg7 hs7 hgb hgl7 hat; have HK7 : Hid (KpR R w w7) := Lib.hid (kpr_grown HK2.out hg7 (fun g e => by have := (HOW.out.lt g e).1; rw [HLB.out]; exact this)); have HR7 : Hid (RdB w7 R t2 b2) := Lib.hid (HR2.out.same (hg7.block R hRsz (fun e => by have := (HOW.out.lt R e.symm).1; omega))); have HW7 : Hid (w7.ownsRow LB 3 1 (.slice (some ⟨g7, 0, none⟩) (k + 1) cap7) (k + 1) ((l ++ [x]).map (.int .i64))) := Lib.hid (by rw [List.map_append]; exact hown7); clear hown7 hg7 hat hown hgb hgl7 hs7; refine Hid.out ?_)
  refine Lib.hid ?_
  go_wp2_with fail
  go_roundg (gk - 1)
  case measure => have := HGP.out; omega
  case rel => exact ⟨k + 1, _, cap7, l ++ [x], t2, b2, by go_num, rfl, Lib.hid (by rw [HKL.out]; simp), HKK, hkN2, HR7, HS2, HK7, HW7, HG2⟩

/- (Trace text seat) Walk: claim, of the reader of the package trace, at any text. Condition: the two errors of strconv lie as laid. -/
open Go.ChangeShapes Go.WideShapes Go.ChangeAt Go.RowKit Go.Lib
set_option linter.unusedVariables false
set_option linter.unusedSimpArgs false

theorem kp_row {R P : Nat} {w w' : World} {o : Obj} (h : KpR R w w') (hne : R < P) (hp : w.heap[P]? = some o) : w'.heap[P]? = some o :=
  (h.block P (Array.getElem?_eq_some_iff.1 hp).1 (fun e => by injection e with e; omega)).trans hp
theorem kpr_new {R C o : Nat} {w w1 : World} (v : Value) (h : KpR R w w1) (hC : w.heap.size ≤ C) : KpR R w (w1.setCell ⟨C, o, none⟩ v) :=
  ⟨h.os, h.tape, h.output, by simpa using h.size, fun k hk hne => (Below.heap_setCell _ _ _ _ (show k ≠ C by omega)).trans (h.block k hk hne)⟩
theorem row_set {P C o : Nat} {w : World} (v : Value) {ob : Obj} (hne : P ≠ C) (hp : w.heap[P]? = some ob) : (w.setCell ⟨C, o, none⟩ v).heap[P]? = some ob := (Below.heap_setCell _ _ _ _ hne).trans hp
theorem flat_one (cs : List (List Int)) (x : List Int) : flatM (cs ++ [x]) = flatM cs ++ (x ++ [0]) := by rw [flat_app]; rfl
def set5 (w : World) (b : Nat) (v0 v1 v2 v3 v4 : Value) : World := ((((w.setCell ⟨b, 0, none⟩ v0).setCell ⟨b, 1, none⟩ v1).setCell ⟨b, 2, none⟩ v2).setCell ⟨b, 3, none⟩ v3).setCell ⟨b, 4, none⟩ v4
theorem set5_at {w : World} {b : Nat} {x0 x1 x2 x3 x4 v0 v1 v2 v3 v4 : Value} (h0 : w.cell? ⟨b, 0, none⟩ = some x0) (h1 : w.cell? ⟨b, 1, none⟩ = some x1) (h2 : w.cell? ⟨b, 2, none⟩ = some x2) (h3 : w.cell? ⟨b, 3, none⟩ = some x3) (h4 : w.cell? ⟨b, 4, none⟩ = some x4) :
    (set5 w b v0 v1 v2 v3 v4).cell? ⟨b, 0, none⟩ = some v0 ∧ (set5 w b v0 v1 v2 v3 v4).cell? ⟨b, 1, none⟩ = some v1 ∧ (set5 w b v0 v1 v2 v3 v4).cell? ⟨b, 2, none⟩ = some v2 ∧ (set5 w b v0 v1 v2 v3 v4).cell? ⟨b, 3, none⟩ = some v3 ∧ (set5 w b v0 v1 v2 v3 v4).cell? ⟨b, 4, none⟩ = some v4 :=
  ⟨set_ne (by omega) (set_ne (by omega) (set_ne (by omega) (set_ne (by omega) (set_eq h0)))), set_ne (by omega) (set_ne (by omega) (set_ne (by omega) (set_eq (set_ne (by omega) h1)))), set_ne (by omega) (set_ne (by omega) (set_eq (set_ne (by omega) (set_ne (by omega) h2)))),
    set_ne (by omega) (set_eq (set_ne (by omega) (set_ne (by omega) (set_ne (by omega) h3)))), set_eq (set_ne (by omega) (set_ne (by omega) (set_ne (by omega) (set_ne (by omega) h4))))⟩
theorem set5_block {w : World} {b k : Nat} {v0 v1 v2 v3 v4 : Value} (h : k ≠ b) : (set5 w b v0 v1 v2 v3 v4).heap[k]? = w.heap[k]? := by
  unfold set5
  rw [Below.heap_setCell _ _ _ _ h, Below.heap_setCell _ _ _ _ h, Below.heap_setCell _ _ _ _ h, Below.heap_setCell _ _ _ _ h, Below.heap_setCell _ _ _ _ h]
theorem set5_below {B b : Nat} {w w' : World} {v0 v1 v2 v3 v4 : Value} (h : Below B w w') (hb : B ≤ b) : Below B w (set5 w' b v0 v1 v2 v3 v4) := ((((h.setCell hb _).setCell hb _).setCell hb _).setCell hb _).setCell hb _
def CgPost (W : World) (R : Nat) (t : Bts) (b : Bool) (e : Ending) (w' : World) : Prop :=
  ∃ (c : Claim) (t' : Bts) (b' : Bool) (cv kv : Value), e = .returned (.agg #[cv, .int .i64 c.rule, .int .i64 c.lit, kv, .int .i64 c.count]) ∧
    ClaimV (fun b => W.heap.size ≤ b) w' (cv, .int .i64 c.rule, .int .i64 c.lit, kv, .int .i64 c.count) c ∧ Hid (ClmR t b c t' b') ∧ RdB w' R t' b' ∧ KpR R W w'
set_option maxRecDepth 100000 in
set_option maxHeartbeats 32000000 in
theorem rdclaim_gen (B0 R : Nat) (t : Bts) (b : Bool) (w : World) (h : RdB w R t b) (hl : t.length ≤ 4194304) (he : ErrT B0 w) (hB : B0 ≤ R) :
    Calls Tryz.prog 25 #[.pointer (some ⟨R, 0, none⟩)] w (CgPost w R t b) := by
  obtain ⟨P, hP⟩ : ∃ b, w.heap.size = b := ⟨_, rfl⟩
  obtain ⟨N, hN⟩ : ∃ N, t.length = N := ⟨_, rfl⟩
  have hNb : N ≤ 4194304 := by omega
  obtain ⟨W1, hW1⟩ : ∃ W, w.alloc (.cells #[.slice none 0 0, .int .i64 0, .int .i64 0, .slice none 0 0, .int .i64 0] 45) = W := ⟨_, rfl⟩
  have hb1 : Below w.heap.size w W1 := by rw [← hW1]; exact (Below.refl _ _).alloc (Nat.le_refl _) _
  have hr1 : W1.heap[P]? = some (.cells #[.slice none 0 0, .int .i64 0, .int .i64 0, .slice none 0 0, .int .i64 0] 45) := by rw [← hW1]; exact new_at' _ _ hP.symm
  have hRP : R < P := by rw [← hP]; exact block_lt h.c0
  have HNUM : Hid (∀ wi t1 b1, KpR R w wi → RdB wi R t1 b1 → t1.length ≤ N → Calls Tryz.prog 24 #[.pointer (some ⟨R, 0, none⟩)] wi (NrPost wi R t1 b1)) := Lib.hid fun wi t1 b1 hk hr hx =>
    rdnum_gen B0 R t1 b1 wi hr (by omega) (he.on (kpr_b hk hB (by omega))) (by have := hk.size; omega)
  have HNMS : Hid (∀ wi n t1 b1, KpR R w wi → RdB wi R t1 b1 → t1.length ≤ N → I64 n → Calls Tryz.prog 44 #[.pointer (some ⟨R, 0, none⟩), .int .i64 n] wi (RnsG wi R n t1 b1)) := Lib.hid fun wi n t1 b1 hk hr hx hn =>
    rdnums_gen B0 R n t1 b1 wi hr hn (by omega) (he.on (kpr_b hk hB (by omega))) hB
  have HK1 : Hid (KpR R w W1) := Lib.hid (kpr_below hb1)
  have HRD1 : Hid (RdB W1 R t b) := Lib.hid (h.below hb1)
  have HR1 := Lib.hid hr1
  have HW1 := Lib.hid hW1
  have HPP := Lib.hid hP
  have HNN := Lib.hid hN
  have HC1 := Lib.hid (HNUM.out W1 t b HK1.out HRD1.out (by omega))
  have HS0 : Hid (Steps t b [] t b) := Lib.hid .nil
  clear h hl he hb1 hr1 hW1 hP hN
  go_enter Tryz.func25, Tryz.ntmps25
  go_upto_region 1 with fail
  try rw [HW1.out, HPP.out]
  go_wp2_with fail
  refine HC1.out.mono ?_
  rintro e w2 ⟨n1, t1, b1, rfl, HST, hrd, hk⟩
  have HS1 : Hid (Steps t b [n1] t1 b1) := Lib.hid (.snoc HS0.out HST.out)
  have HK2 : Hid (KpR R w w2) := Lib.hid (kpr_trans HK1.out hk)
  have HR2 := Lib.hid (kp_row hk hRP HR1.out)
  have HRD2 := Lib.hid hrd
  have HC2 := Lib.hid (HNUM.out w2 t1 b1 HK2.out HRD2.out (by have := HS1.out.le; have := HNN.out; omega))
  clear hrd hk HST HS0 HK1 HR1 HC1
  go_wp2_with fail
  refine HC2.out.mono ?_
  rintro e w3 ⟨n2, t2, b2, rfl, HST, hrd, hk⟩
  have HS2 : Hid (Steps t b [n1, n2] t2 b2) := Lib.hid (.snoc HS1.out HST.out)
  have HK3 : Hid (KpR R w w3) := Lib.hid (kpr_trans HK2.out hk)
  have HR3 := Lib.hid (kp_row hk hRP HR2.out)
  have HRD3 := Lib.hid hrd
  have HC3 := Lib.hid (HNUM.out w3 t2 b2 HK3.out HRD3.out (by have := HS2.out.le; have := HNN.out; omega))
  clear hrd hk HST HS1 HK2 HR2 HC2
  go_wp2_with fail
  refine HC3.out.mono ?_
  rintro e w4 ⟨n3, t3, b3, rfl, HST, hrd, hk⟩
  have HS3 : Hid (Steps t b [n1, n2, n3] t3 b3) := Lib.hid (.snoc HS2.out HST.out)
  have HK4 : Hid (KpR R w w4) := Lib.hid (kpr_trans HK3.out hk)
  have HR4 := Lib.hid (kp_row hk hRP HR3.out)
  have HRD4 := Lib.hid hrd
  clear hrd hk HST HS2 HK3 HR3 HC3
  obtain ⟨C, hC⟩ : ∃ b, w4.heap.size = b := ⟨_, rfl⟩
  have hPC : P < C := by rw [← hC]; exact (Array.getElem?_eq_some_iff.1 HR4.out).1
  obtain ⟨W5, hW5⟩ : ∃ W, w4.alloc (.cells #[.slice none 0 0, .int .i64 n1, .int .i64 n2, .slice none 0 0, .int .i64 n3] 45) = W := ⟨_, rfl⟩
  have hb5 : Below w4.heap.size w4 W5 := by rw [← hW5]; exact (Below.refl _ _).alloc (Nat.le_refl _) _
  have hr5 : W5.heap[C]? = some (.cells #[.slice none 0 0, .int .i64 n1, .int .i64 n2, .slice none 0 0, .int .i64 n3] 45) := by rw [← hW5]; exact new_at' _ _ hC.symm
  have HK5 := Lib.hid (kpr_trans HK4.out (kpr_below hb5))
  have HR5 := Lib.hid (kp_row (kpr_below (R := R) hb5) hRP HR4.out)
  have HCR5 := Lib.hid hr5
  have hRC : R < C := by omega
  have HRD5 := Lib.hid (HRD4.out.below hb5)
  have HC5 := Lib.hid (HNUM.out W5 t3 b3 HK5.out HRD5.out (by have := HS3.out.le; have := HNN.out; omega))
  have HW5 := Lib.hid hW5
  have HCC := Lib.hid hC
  clear hb5 hr5 hW5 hC HK4 HR4 HRD4
  go_upto_region 2 with fail
  try rw [HW5.out, HCC.out]
  go_wp2_with fail
  refine HC5.out.mono ?_
  rintro e w6 ⟨nk, t4, b4, rfl, HST, hr6, hk6⟩
  have HS4 : Hid (Steps t b [n1, n2, n3, nk] t4 b4) := Lib.hid (.snoc HS3.out HST.out)
  have HK6 := Lib.hid (kpr_trans HK5.out hk6)
  have HR6 := Lib.hid (kp_row hk6 hRP HR5.out)
  have HCR6 := Lib.hid (kp_row hk6 hRC HCR5.out)
  have HC6 := Lib.hid (HNMS.out w6 nk t4 b4 HK6.out hr6 (by have := HS4.out.le; have := HNN.out; omega) HST.out.i)
  clear hr6 hk6 HC5 HST HK5 HR5 HCR5 HRD5 HS3
  go_wp2_with fail
  refine HC6.out.mono ?_
  rintro e w7 ⟨kv, kids, t5, b5, rfl, hki, HSK, HKL, HKE, HKM, hr7, hk7⟩
  obtain ⟨ka, kn, kc, rfl, HKN, _⟩ := hki.form'
  have HS5 : Hid (Steps t b (n1 :: n2 :: n3 :: nk :: kids) t5 b5) := Lib.hid (HS4.out.app HSK.out)
  have hcr7 := kp_row hk7 hRC HCR6.out
  have x0 : w7.cell? ⟨C, 0, none⟩ = some (.slice none 0 0) := by rw [cell_of_row _ _ _ _ _ _ hcr7]; rfl
  have x1 : w7.cell? ⟨C, 1, none⟩ = some (.int .i64 n1) := by rw [cell_of_row _ _ _ _ _ _ hcr7]; rfl
  have x2 : w7.cell? ⟨C, 2, none⟩ = some (.int .i64 n2) := by rw [cell_of_row _ _ _ _ _ _ hcr7]; rfl
  have x3 : w7.cell? ⟨C, 3, none⟩ = some (.slice none 0 0) := by rw [cell_of_row _ _ _ _ _ _ hcr7]; rfl
  have x4 : w7.cell? ⟨C, 4, none⟩ = some (.int .i64 n3) := by rw [cell_of_row _ _ _ _ _ _ hcr7]; rfl
  have hfz : ∀ o, w7.frozen? ⟨C, o, none⟩ = false := fun o => by simp only [World.frozen?, hcr7]; simp
  have f3 := hfz 3
  have hwP : w.heap.size ≤ C := by rw [HPP.out]; omega
  have hCQ : C < w7.heap.size := block_lt x0
  obtain ⟨Q, hQ⟩ : ∃ b, w7.heap.size = b := ⟨_, rfl⟩
  rw [hQ] at hCQ
  have hC6 : C < w6.heap.size := (Array.getElem?_eq_some_iff.1 HCR6.out).1
  obtain ⟨W7, hW7⟩ : ∃ W, w7.setCell ⟨C, 3, none⟩ (.slice ka kn kc) = W := ⟨_, rfl⟩
  have hcs7 : ClS W7 R C Q n1 n2 n3 (.slice ka kn kc) kids (.slice none 0 0) [] := by
    rw [← hW7]
    exact ⟨set_ne (by omega) x0, set_ne (by omega) x1, set_ne (by omega) x2, set_eq x3, set_ne (by omega) x4, fun o => by rw [World.frozen?_setCell]; exact hfz o,
      (hki.lt.mono (G := fun b => C < b ∧ b < Q) fun b hb => ⟨by have := hb.1; omega, by rw [← hQ]; exact hb.2⟩).move fun b hb _ => Below.heap_setCell _ _ _ _ (show b ≠ C by omega),
      ⟨[], World.ownsRow_nil _ _ _ _, rfl, by simp⟩, hRC, hCQ⟩
  have hp7 := row_set (C := C) (o := 3) (.slice ka kn kc) (show P ≠ C by omega) (kp_row hk7 hRP HR6.out)
  have hkk7 := kpr_new (C := C) (o := 3) (.slice ka kn kc) (kpr_trans HK6.out hk7) hwP
  have hrd7 : RdB (w7.setCell ⟨C, 3, none⟩ (.slice ka kn kc)) R t5 b5 := hr7.same (Below.heap_setCell _ _ _ _ (show R ≠ C by omega))
  have hqs : (w7.setCell ⟨C, 3, none⟩ (.slice ka kn kc)).heap.size = Q := by simpa using hQ
  rw [hW7] at hp7 hkk7 hrd7 hqs
  have HR7 := Lib.hid hp7
  have HK7 := Lib.hid hkk7
  have HS7 := Lib.hid hcs7
  have HW7 := Lib.hid hW7
  have HQS := Lib.hid hqs
  have HC7 := Lib.hid (HNUM.out W7 t5 b5 HK7.out hrd7 (by have := HS5.out.le; have := HNN.out; omega))
  clear hr7 HC6 hp7 hkk7 hcs7 hW7 hQ hki hk7 hrd7 hqs HS4 HSK HK6 HR6 HCR6
  go_upto_region 3 with fail
  try rw [HW7.out]
  go_wp2_with fail
  refine HC7.out.mono ?_
  rintro e w8 ⟨nc, t6, b6, rfl, HST, hr8, hk8⟩
  have HS8 := Lib.hid (HS7.out.kp hk8)
  have HP8 := Lib.hid (kp_row hk8 hRP HR7.out)
  have HK8 := Lib.hid (kpr_trans HK7.out hk8)
  have HRD8 := Lib.hid hr8
  have HT8 : Hid (Steps t5 b5 (nc :: flatM []) t6 b6) := Lib.hid (.snoc .nil HST.out)
  have HI64 := Lib.hid HS5.out.i64
  have hQ8 : Q ≤ w8.heap.size := by have := hk8.size; have := HQS.out; omega
  have hT6 : t6.length ≤ N := by have h1 := HS5.out.le; have h2 := HST.out.le; have := HNN.out; omega
  have HG8 : Hid (1 ≤ N + 2 ∧ (b6 = false → t6.length + 2 ≤ N + 2 ∧ 0 + t6.length ≤ N)) := Lib.hid ⟨by omega, fun _ => by omega⟩
  clear hr8 hk8 x0 x1 x2 x3 x4 hfz f3 hcr7 HC7 HS7 HR7 HK7 HST hT6
  go_wp2_with fail
  go_loopg [5] (N + 2) (fun gg u5 wx => ∃ (k : Nat) (oa : Option Addr) (oc : Nat) (cs : List (List Int)) (t7 : Bts) (b7 : Bool), u5 = .int .i64 k ∧ Hid (k = cs.length) ∧ Hid (k ≤ nc.toNat) ∧ k ≤ N + 1 ∧ Hid (RdB wx R t7 b7) ∧ Hid (ClS wx R C Q n1 n2 n3 (.slice ka kn kc) kids (.slice oa k oc) cs) ∧ Hid (KpR R w wx) ∧ Hid (wx.heap[P]? = some (.cells #[.slice none 0 0, .int .i64 0, .int .i64 0, .slice none 0 0, .int .i64 0] 45)) ∧ Hid (Steps t5 b5 (nc :: flatM cs) t7 b7) ∧ Hid (∀ x ∈ cs, ∀ n ∈ x, n ≠ 0) ∧ Hid (t7.length ≤ N) ∧ Hid (w8.heap.size ≤ wx.heap.size) ∧ Hid (1 ≤ gg ∧ (b7 = false → t7.length + 2 ≤ gg ∧ k + t7.length ≤ N)))
  case atStart => exact ⟨0, none, 0, [], t6, b6, rfl, Lib.hid rfl, Lib.hid (Nat.zero_le _), by omega, HRD8, HS8, HK8, HP8, HT8, Lib.hid (by simp), Lib.hid (by have := HT8.out.le; have := HS5.out.le; have := HNN.out; omega), Lib.hid (Nat.le_refl _), HG8⟩
  case round =>
  clear HRD8 HS8 HK8 HP8 HT8 HG8
  obtain ⟨k, oa, oc, cs, t7, b7, rfl, HKC, HKT, hkN, HRD, HCS, HKW, HPR, HTT, HNZ, HTN, HSZ8, HGG⟩ := hrel
  have c1 := HRD.out.c1
  have hwP : w.heap.size ≤ P := by rw [HPP.out]; exact Nat.le_refl _
  have hCQ := HCS.out.lq
  have hPC2 := HCS.out.lt
  have HFIN : Hid (b7 = true ∨ k = nc.toNat → CgPost w R t b (.returned (.agg #[.slice oa k oc, .int .i64 n1, .int .i64 n2, .slice ka kn kc, .int .i64 n3])) (set5 wr P (.slice oa k oc) (.int .i64 n1) (.int .i64 n2) (.slice ka kn kc) (.int .i64 n3))) := Lib.hid fun hx => by
    obtain ⟨us, h1, h2, h3⟩ := HCS.out.rows
    rw [← HKC.out] at h1
    have hm : ∀ b, b ≠ P → (set5 wr P (.slice oa k oc) (.int .i64 n1) (.int .i64 n2) (.slice ka kn kc) (.int .i64 n3)).heap[b]? = wr.heap[b]? := fun b hb => set5_block hb
    have h64 := HI64.out
    refine ⟨⟨cs, n1, n2, kids, n3⟩, t7, b7, _, _, rfl, ⟨⟨?_, rfl, rfl, ?_, rfl⟩, h64 n1 (by simp), h64 n2 (by simp), h64 n3 (by simp)⟩, Lib.hid ?_, HRD.out.same (hm R (by omega)), ?_⟩
    · have hcl : Clss (fun b => Q ≤ b) wr (.slice oa k oc) cs := ⟨us, (by
        have := ownsRow_sl1 h1 (by omega)
        exact this.mono fun b hb => hb.1), h2, fun j u x hu hx => (h3 j u x hu hx).mono fun b hb => hb.1⟩
      exact (Rows1.move (fun _ _ _ _ _ h hm => h.move hm) hcl fun b hb _ => hm b (by omega)).mono (fun _ _ _ _ _ h hg => h.mono hg) fun b hb => by omega
    · exact (HCS.out.kd.move fun b hb _ => hm b (by omega)).mono fun b hb => by omega
    · exact ⟨nk, nc, t5, b5, HS5.out, HKL.out, HKE.out, HTT.out, by show cs.length ≤ _; rw [← HKC.out]; exact HKT.out, hx.imp id fun h => by show cs.length = _; rw [← HKC.out]; exact h, HNZ.out⟩
    · exact kpr_new _ (kpr_new _ (kpr_new _ (kpr_new _ (kpr_new _ HKW.out hwP) hwP) hwP) hwP) hwP
  have q0 := HCS.out.c0
  have q1 := HCS.out.c1
  have q2 := HCS.out.c2
  have q3 := HCS.out.c3
  have q4 := HCS.out.c4
  have j0 : wr.cell? ⟨P, 0, none⟩ = some (.slice none 0 0) := by rw [cell_of_row _ _ _ _ _ _ HPR.out]; rfl
  have j1 : wr.cell? ⟨P, 1, none⟩ = some (.int .i64 0) := by rw [cell_of_row _ _ _ _ _ _ HPR.out]; rfl
  have j2 : wr.cell? ⟨P, 2, none⟩ = some (.int .i64 0) := by rw [cell_of_row _ _ _ _ _ _ HPR.out]; rfl
  have j3 : wr.cell? ⟨P, 3, none⟩ = some (.slice none 0 0) := by rw [cell_of_row _ _ _ _ _ _ HPR.out]; rfl
  have j4 : wr.cell? ⟨P, 4, none⟩ = some (.int .i64 0) := by rw [cell_of_row _ _ _ _ _ _ HPR.out]; rfl
  have jf : ∀ o, wr.frozen? ⟨P, o, none⟩ = false := fun o => by simp only [World.frozen?, HPR.out]; simp
  have jf0 := jf 0
  have jf1 := jf 1
  have jf2 := jf 2
  have jf3 := jf 3
  have jf4 := jf 4
  clear jf
  by_cases hk : (k : Int) < nc
  case neg =>
    have hdk : decide ((k : Int) < nc) = false := decide_eq_false hk
    have HF := Lib.hid (HFIN.out (.inr (by have := HKT.out; omega)))
    clear HFIN HRD HCS HKW HPR HTT hk
    go_wp2_with fail
    have h5 := set5_at (v0 := .slice oa k oc) (v1 := .int .i64 n1) (v2 := .int .i64 n2) (v3 := .slice ka kn kc) (v4 := .int .i64 n3) j0 j1 j2 j3 j4
    unfold set5 at h5 HF
    obtain ⟨v0, v1, v2, v3, v4⟩ := h5
    refine bodyPost_ret (v := .agg #[.slice oa k oc, .int .i64 n1, .int .i64 n2, .slice ka kn kc, .int .i64 n3]) (by simp [results, Tryz.results25, go_sem, v0, v1, v2, v3, v4]) rfl ?_
    exact HF.out
  have hdk : decide ((k : Int) < nc) = true := decide_eq_true hk
  rcases bool2 b7 with rfl | rfl
  · have HF := Lib.hid (HFIN.out (.inl rfl))
    clear HFIN HRD HCS HKW HPR HTT hk
    go_wp2_with fail
    have h5 := set5_at (v0 := .slice oa k oc) (v1 := .int .i64 n1) (v2 := .int .i64 n2) (v3 := .slice ka kn kc) (v4 := .int .i64 n3) j0 j1 j2 j3 j4
    unfold set5 at h5 HF
    obtain ⟨v0, v1, v2, v3, v4⟩ := h5
    refine bodyPost_ret (v := .agg #[.slice oa k oc, .int .i64 n1, .int .i64 n2, .slice ka kn kc, .int .i64 n3]) (by simp [results, Tryz.results25, go_sem, v0, v1, v2, v3, v4]) rfl ?_
    exact HF.out
  have HKK : Hid (k + 1 ≤ nc.toNat) := Lib.hid (by omega)
  have HG7 := Lib.hid (HGG.out.2 rfl)
  clear HFIN HGG hk j0 j1 j2 j3 j4 jf0 jf1 jf2 jf3 jf4 q0 q1 q2 q3 q4
  go_upto_region 8 with fail
  obtain ⟨WO, hWO⟩ : ∃ W, W = wr := ⟨_, rfl⟩
  subst hWO
  obtain ⟨LB, hLB⟩ : ∃ b, WO.heap.size = b := ⟨_, rfl⟩
  obtain ⟨WA, hWA⟩ : ∃ W, WO.alloc (.cells #[] 3) = W := ⟨_, rfl⟩
  have hbA : Below WO.heap.size WO WA := by rw [← hWA]; exact (Below.refl _ _).alloc (Nat.le_refl _) _
  have hoA : WA.ownsRow LB 3 1 (.slice (some ⟨LB, 0, none⟩) 0 0) 0 (([] : List Int).map (.int .i64)) := by
    rw [← hWA, ← hLB]
    exact own_new #[] 3 (Nat.le_refl _) (show 0 ≤ 9223372036854775807 by decide)
  have HKA := Lib.hid (kpr_trans HKW.out (kpr_below hbA))
  have HRA := Lib.hid (HRD.out.below hbA)
  have HKOA : Hid (KpR R WO WA) := Lib.hid (kpr_below hbA)
  have HLO : Hid (WO.heap.size = LB) := Lib.hid hLB
  have HCLA := Lib.hid (HNUM.out WA t7 false HKA.out HRA.out HTN.out)
  have hRLB : R < LB := by rw [← hLB]; exact block_lt HRD.out.c0
  have hCLB : C < LB := by rw [← hLB]; exact block_lt HCS.out.c0
  have HOLT : Hid (∀ g, (Value.slice oa k oc).ownBlock = some g → g < LB) := Lib.hid fun g e => by
    obtain ⟨us', q1, _⟩ := HCS.out.rows
    have := (q1.lt g e).2
    rw [hLB] at this
    exact this
  have hQL : Q ≤ LB := by
    have h1 := HKW.out.size
    rw [← hLB]
    obtain ⟨z1, z2⟩ : Q ≤ w8.heap.size ∧ w8.heap.size ≤ WO.heap.size := ⟨hQ8, HSZ8.out⟩
    omega
  have hsA : WA.heap.size = LB + 1 := by rw [← hWA, ← hLB]; simp
  have HOA := Lib.hid hoA
  have HWA := Lib.hid hWA
  have HLB := Lib.hid hLB
  have HSA := Lib.hid hsA
  have HW8L : Hid (w8.heap.size ≤ LB) := Lib.hid (by rw [← hLB]; exact HSZ8.out)
  clear hbA hoA hWA hLB HRD c1 hsA HSZ8
  try rw [HWA.out, HLB.out]
  go_wp2_with fail
  refine HCLA.out.mono ?_
  rintro e w9 ⟨n, t8, b8, rfl, HST, hr9, hk9⟩
  have HR9 := Lib.hid hr9
  have HK9 : Hid (KpR R WO w9) := Lib.hid (kpr_trans HKOA.out hk9)
  have HS9 : Hid (Steps t5 b5 (nc :: (flatM cs ++ ([] ++ [n]))) t8 b8) := Lib.hid (by
    have h := Steps.snoc HTT.out HST.out
    simpa using h)
  have HO9 : Hid (w9.ownsRow LB 3 1 (.slice (some ⟨LB, 0, none⟩) 0 0) 0 (([] : List Int).map (.int .i64))) := Lib.hid (own_same HOA.out fun g e => hk9.block g (HOA.out.lt g e).2 (fun e2 => by injection e2 with e2; have := (HOA.out.lt g e).1; omega))
  have HM9 : Hid (1 ≤ N + 2 ∧ (n ≠ 0 → t8.length + 2 ≤ N + 2 ∧ 0 + 1 + t8.length ≤ N) ∧ 0 + t8.length ≤ N ∧ (b8 = false → t8.length < t7.length)) := Lib.hid (by
    have h1 := HTN.out
    have h2 := HST.out.le
    refine ⟨by omega, fun hn => ?_, by omega, fun hb => HST.out.lt (.inr hb)⟩
    have h3 := HST.out.lt (.inl hn)
    omega)
  obtain ⟨GK, hGK⟩ : ∃ G, G = gk := ⟨_, rfl⟩
  subst hGK
  clear hr9 hk9 HRA HCLA HOA HST HKA HKOA
  go_wp2_with fail
  go_loopg [6, 7] (N + 2) (fun gg u6 u7 wx => ∃ (n : Int) (la : Option Addr) (ln lc : Nat) (l : List Int) (t9 : Bts) (b9 : Bool), u6 = .slice la ln lc ∧ u7 = .int .i64 n ∧ Hid (RdB wx R t9 b9) ∧ Hid (KpR R WO wx) ∧ Hid (ln = l.length) ∧ Hid (wx.ownsRow LB 3 1 (.slice la ln lc) ln (l.map (.int .i64))) ∧ Hid (∀ x ∈ l, x ≠ 0) ∧ Hid (Steps t5 b5 (nc :: (flatM cs ++ (l ++ [n]))) t9 b9) ∧ Hid (1 ≤ gg ∧ (n ≠ 0 → t9.length + 2 ≤ gg ∧ ln + 1 + t9.length ≤ N) ∧ ln + t9.length ≤ N ∧ (b9 = false → t9.length < t7.length)))
  case atStart => exact ⟨n, _, 0, 0, [], t8, b8, rfl, rfl, HR9, HK9, Lib.hid rfl, HO9, Lib.hid (by simp), HS9, HM9⟩
  case round =>
  clear HR9 HK9 HO9 HS9 HM9
  obtain ⟨n, la, ln, lc, l, t9, b9, rfl, rfl, HR9, HK9, HLN, HO9, HLZ, HS9, HM9⟩ := hrel
  by_cases hn0 : n = 0
  case pos =>
    subst hn0
    have HC9 := Lib.hid (HCS.out.kp HK9.out)
    have HP9 := Lib.hid (kp_row HK9.out hRP HPR.out)
    have HK9W := Lib.hid (kpr_trans HKW.out HK9.out)
    have hLBw : LB ≤ wr.heap.size := by have h1 := HK9.out.size; have h2 := HLO.out; omega
    obtain ⟨us, ho1, ho2, ho3⟩ := HC9.out.rows
    rw [← HKC.out] at ho1
    have hln : ln ≤ N := by have := HM9.out.2.2.1; omega
    have hrv : Ints (fun g => Q ≤ g ∧ (Value.slice oa k oc).ownBlock ≠ some g) wr (.slice la ln lc) l := ⟨(by
      have h := ownsRow_sl1 HO9.out (by omega)
      exact h.mono fun g hg => ⟨by have := hg.1; omega, fun e => by have := HOLT.out g e; have := hg.1; omega⟩), fun x hx => HS9.out.i64 x (by simp [hx])⟩
    have HRV := Lib.hid hrv
    have HO3 := Lib.hid ho3
    have HO2 := Lib.hid ho2
    have HO1 := Lib.hid ho1
    have pc0 := HC9.out.c0
    have pf0 := HC9.out.fz 0
    have hQs : Q ≤ wr.heap.size := by omega
    have HNC2 : Hid (some C ≠ (Value.slice oa k oc).ownBlock) := Lib.hid fun e => by have := (ho1.lt C e.symm).1; omega
    have HINN := Lib.hid (show (Tryz.prog.info? 43).map (fun i => (i.zero, i.size, i.bytes)) = some (some (.slice none 0 0), 1, 24) by kernel_rfl)
    have HSN : Hid (Steps t5 b5 (nc :: flatM (cs ++ [l])) t9 b9) := Lib.hid (by rw [flat_one]; exact HS9.out)
    have HNZ2 : Hid (∀ x ∈ cs ++ [l], ∀ n ∈ x, n ≠ 0) := Lib.hid fun x hx => by
      rcases List.mem_append.1 hx with hx | hx
      · exact HNZ.out x hx
      · rw [List.mem_singleton.1 hx]; exact HLZ.out
    have HTN9 : Hid (t9.length ≤ N) := Lib.hid (by have := HM9.out.2.2.1; omega)
    have HGN : Hid (1 ≤ GK - 1 ∧ (b9 = false → t9.length + 2 ≤ GK - 1 ∧ k + 1 + t9.length ≤ N)) := Lib.hid (by
      have h1 := HG7.out
      refine ⟨by omega, fun hb => ?_⟩
      have h2 := HM9.out.2.2.2 hb
      omega)
    have hkN2 : k + 1 ≤ N + 1 := by have := HG7.out; omega
    have HGP : Hid (1 ≤ GK) := Lib.hid (by have := HG7.out; omega)
    have HW8S : Hid (w8.heap.size ≤ wr.heap.size) := Lib.hid (by have h1 := HK9.out.size; have h2 := HLO.out; have h3 := HW8L.out; omega)
    clear hrv ho2 ho3 HO9 HM9 HS9 HLZ HNZ HCS HPR HKW HG7 HK9
    go_upto_region 12 with fail
    go_wp2_with (at_builtin; go_loud (refine wpList_push1 rfl _ _ 35 rfl 43 (.slice none 0 0) 24 Tryz.underlying35 HINN.out rfl Q (.slice oa k oc) k us wr (.slice la ln lc) rfl rfl ho1 rfl (by omega) (by omega) hQs ?_); intro g7 cap7 w7 hown7 hg7 hs7 hgb hgl7 hat; have ef : w7.frozen? ⟨C, 0, none⟩ = false := (World.frozen?_of_block (a := ⟨C, 0, none⟩) (hg7.block C (by omega) HNC2.out)).trans pf0; have e2 : w7.cell? ⟨C, 0, none⟩ = some (.slice oa k oc) := (World.cell?_of_block (hg7.block C (by omega) HNC2.out)).trans pc0; have HC7 : Hid (ClS (w7.setCell ⟨C, 0, none⟩ (.slice (some ⟨g7, 0, none⟩) (k + 1) cap7)) R C Q n1 n2 n3 (.slice ka kn kc) kids (.slice (some ⟨g7, 0, none⟩) (k + 1) cap7) (cs ++ [l])) := Lib.hid (HC9.out.push HKC.out HO1.out HO2.out HO3.out HRV.out hown7 hg7 hat); have HK7 : Hid (KpR R w (w7.setCell ⟨C, 0, none⟩ (.slice (some ⟨g7, 0, none⟩) (k + 1) cap7))) := Lib.hid (kpr_new _ (kpr_grown HK9W.out hg7 (fun g e => by have := (HO1.out.lt g e).1; omega)) (by omega)); have HR7 : Hid (RdB (w7.setCell ⟨C, 0, none⟩ (.slice (some ⟨g7, 0, none⟩) (k + 1) cap7)) R t9 b9) := Lib.hid (HR9.out.same ((Below.heap_setCell _ _ _ _ (show R ≠ C by omega)).trans (hg7.block R (by omega) (fun e => by have := (HO1.out.lt R e.symm).1; omega)))); have HP7 : Hid ((w7.setCell ⟨C, 0, none⟩ (.slice (some ⟨g7, 0, none⟩) (k + 1) cap7)).heap[P]? = some (.cells #[.slice none 0 0, .int .i64 0, .int .i64 0, .slice none 0 0, .int .i64 0] 45)) := Lib.hid (row_set _ (by omega) ((hg7.block P (by omega) (fun e => by have := (HO1.out.lt P e.symm).1; omega)).trans HP9.out)); have HZ7 : Hid (w8.heap.size ≤ (w7.setCell ⟨C, 0, none⟩ (.slice (some ⟨g7, 0, none⟩) (k + 1) cap7)).heap.size) := Lib.hid (by have h1 := HW8S.out; have h2 := hg7.size; simp; omega); clear hown7 hg7 hat ho1 hgb hgl7 hs7)
    go_roundg (GK - 1)
    case measure => have := HGP.out; omega
    case rel => exact ⟨k + 1, _, cap7, cs ++ [l], t9, b9, by go_num, Lib.hid (by rw [HKC.out]; simp), HKK, hkN2, HR7, HC7, HK7, HP7, HSN, HNZ2, HTN9, HZ7, HGN⟩
  have hnz : (n != 0) = true := by simp; exact hn0
  have HMM := Lib.hid (HM9.out.2.1 hn0)
  have hln : ln + 1 ≤ N := by have := HMM.out; omega
  have hown := HO9.out
  have hsz : LB ≤ wr.heap.size := by have h1 := HK9.out.size; have h2 := HLO.out; omega
  have hRsz : R < wr.heap.size := by omega
  have HINI := Lib.hid (show (Tryz.prog.info? 3).map (fun i => (i.zero, i.size, i.bytes)) = some (some (.int .i64 0), 1, 8) by kernel_rfl)
  have HLZ2 : Hid (∀ x ∈ l ++ [n], x ≠ 0) := Lib.hid fun x hx => by
    rcases List.mem_append.1 hx with hx | hx
    · exact HLZ.out x hx
    · rw [List.mem_singleton.1 hx]; exact hn0
  have HT9 : Hid (t9.length ≤ N) := Lib.hid (by have := HMM.out; omega)
  clear hn0 HLZ
  go_wp2_with (at_builtin; go_loud (refine wpList_push1 rfl _ _ 43 rfl 3 (.int .i64 0) 8 Tryz.underlying43 HINI.out rfl LB (.slice la ln lc) ln (l.map (.int .i64)) wr (.int .i64 n) rfl rfl hown rfl (by omega) (by omega) hsz ?_); intro g7 cap7 w7 hown7 hg7 hs7 hgb hgl7 hat; have HK7 : Hid (KpR R WO w7) := Lib.hid (kpr_grown HK9.out hg7 (fun g e => by have := (HO9.out.lt g e).1; have := HLO.out; omega)); have HR7 : Hid (RdB w7 R t9 b9) := Lib.hid (HR9.out.same (hg7.block R hRsz (fun e => by have := (HO9.out.lt R e.symm).1; omega))); have HW7B : Hid (w7.ownsRow LB 3 1 (.slice (some ⟨g7, 0, none⟩) (ln + 1) cap7) (ln + 1) ((l ++ [n]).map (.int .i64))) := Lib.hid (by rw [List.map_append]; exact hown7); clear hown7 hg7 hat hown hgb hgl7 hs7; refine Hid.out ?_)
  refine Lib.hid ?_
  have HCLI := Lib.hid (HNUM.out w7 t9 b9 (kpr_trans HKW.out HK7.out) HR7.out HT9.out)
  go_wp2_with fail
  refine HCLI.out.mono ?_
  rintro e w10 ⟨n', t10, b10, rfl, HST, hr10, hk10⟩
  have HR10 := Lib.hid hr10
  have HK10 := Lib.hid (kpr_trans HK7.out hk10)
  have HO10 : Hid (w10.ownsRow LB 3 1 (.slice (some ⟨g7, 0, none⟩) (ln + 1) cap7) (ln + 1) ((l ++ [n]).map (.int .i64))) := Lib.hid (own_same HW7B.out fun g e => hk10.block g (HW7B.out.lt g e).2 (fun e2 => by injection e2 with e2; have := (HW7B.out.lt g e).1; omega))
  have HS10 : Hid (Steps t5 b5 (nc :: (flatM cs ++ ((l ++ [n]) ++ [n']))) t10 b10) := Lib.hid (by
    have h := Steps.snoc HS9.out HST.out
    simpa using h)
  have HM10 : Hid (1 ≤ gk - 1 ∧ (n' ≠ 0 → t10.length + 2 ≤ gk - 1 ∧ ln + 1 + 1 + t10.length ≤ N) ∧ ln + 1 + t10.length ≤ N ∧ (b10 = false → t10.length < t7.length)) := Lib.hid (by
    have h1 := HMM.out
    have h2 := HST.out.le
    refine ⟨by omega, fun hn => ?_, by omega, fun hb => ?_⟩
    · have h3 := HST.out.lt (.inl hn)
      omega
    · have h3 := HM9.out.2.2.2 (HST.out.mono hb)
      omega)
  have HGP : Hid (1 ≤ gk) := Lib.hid (by have := HMM.out; omega)
  clear hr10 hk10 HCLI HST HR7 HK7 HW7B HR9 HK9 HO9 HS9 HM9 HMM
  go_wp2_with fail
  go_roundg (gk - 1)
  case measure => have := HGP.out; omega
  case rel => exact ⟨n', _, ln + 1, cap7, l ++ [n], t10, b10, rfl, rfl, HR10, HK10, Lib.hid (by rw [HLN.out]; simp), HO10, HLZ2, HS10, HM10⟩
end Go.Proofs.YtljaegmmfjllkaaGreatDoor
