/- (Trace seat Z) Walk: kept of the statement's definitions. No condition but the sizes. -/
import Derived.Test.YtihkknploioakaaGreatVh
import Derived.Test.YtihkknploioakaaGreatKw
import Derived.Test.YtihkknploioakaaGreatQr
namespace Go.Proofs.YtihkknploioakaaGreat
open Go.ChangeShapes Go.WideShapes Go.ChangeAt Go.RowKit
set_option linter.unusedVariables false

/-- what it hands back -/
def KeptPost (W : World) (ks : List Int) (e : Ending) (w' : World) : Prop :=
  ∃ v, e = .returned v ∧ Below W.heap.size W w' ∧ w'.ownsRow W.heap.size 3 1 v ks.length (ks.map (.int .i64))
theorem keptM_snoc {keep v : Int} {vs r : List Int} : keptM keep (vs ++ v :: r) = keptM keep vs ++ keptM keep (v :: r) := by unfold keptM; rw [List.filter_append]
theorem occ_len_le {vs cs : List Int} (h : Strict cmpM vs) (hr : ∀ x ∈ vs, 1 ≤ x ∧ x ≤ 20000) : vs.length ≤ 20000 := by
  have hn : vs.Nodup := strict_nodup h
  have h1 : (vs.map fun x => x.toNat - 1).Nodup := List.pairwise_map.2 (hn.imp_of_mem fun {a b} ha hb hab e => hab (by have := hr _ ha; have := hr _ hb; omega))
  have := pigeon2 20000 _ h1 (fun x hx => by
    obtain ⟨y, hy, rfl⟩ := List.mem_map.1 hx
    have := hr _ hy
    omega)
  simpa using this
set_option maxRecDepth 100000 in
set_option maxHeartbeats 4000000 in
theorem lkept_any (F : Nat → Prop) (keep : Int) (v : Value) (cs : List (List Int)) (w : World) (hx : Clss F w v cs) (hik : I64 keep) (hl : cs.length ≤ 4000) (hll : ∀ c ∈ cs, c.length ≤ 4000) :
    Calls Tryz.prog 19 #[.int .i64 keep, v] w (KeptPost w (keptM keep (occM cs))) := by
  obtain ⟨a, n, c, rfl, _, _⟩ := hx.form'
  have HI1 := Lib.hid (show (Tryz.prog.info? 3).map (fun i => (i.zero, i.size, i.bytes)) = some (some (.int .i64 0), 1, 8) by kernel_rfl)
  obtain ⟨W1, hW1⟩ : ∃ W, w.alloc (.cells #[] 3) = W := ⟨_, rfl⟩
  have hb1 : Below w.heap.size w W1 := by rw [← hW1]; exact (Below.refl _ _).alloc (Nat.le_refl _) _
  have ho1 : W1.ownsRow w.heap.size 3 1 (.slice (some ⟨w.heap.size, 0, none⟩) 0 0) ([] : List Int).length (([] : List Int).map (.int .i64)) := by rw [← hW1]; simpa using own_new (base := w.heap.size) (w := w) #[] 3 (by omega) (by simp)
  have HOC := Lib.hid (loccur_any F _ cs W1 (hx.below hb1) hl hll)
  have HB1 := Lib.hid hb1
  have HO1 := Lib.hid ho1
  have HIK := Lib.hid hik
  have hs1 : W1.heap.size = w.heap.size + 1 := by rw [← hW1]; simp
  have HS1 := Lib.hid hs1
  clear hx hb1 ho1 hl hll hik hs1
  go_enter Tryz.func19, Tryz.ntmps19
  go_wp2_with fail
  try rw [hW1]
  clear hW1
  refine HOC.out.mono ?_
  rintro e w2 ⟨ov, os, rfl, hos, hb2, hst, hmem⟩
  obtain rfl := occ_eq hst hmem
  obtain ⟨oa, on, oc, rfl, HON, hon⟩ := hos.form'
  have hle := occ_len_le (cs := []) hst fun x hx => mags_I64 ((hmem x).1 hx)
  have hn2 : on ≤ 20000 := by rw [HON.out]; exact hle
  have HX := Lib.hid hos.lt
  have HB2 : Hid (Below w.heap.size w w2) := Lib.hid (HB1.out.trans (hb2.mono HB1.out.size))
  have HG2 : Hid (W1.heap.size ≤ w2.heap.size) := Lib.hid hb2.size
  have HO2 : Hid (w2.ownsRow w.heap.size 3 1 (.slice (some ⟨w.heap.size, 0, none⟩) 0 0) (keptM keep ((occM cs).take 0)).length ((keptM keep ((occM cs).take 0)).map (.int .i64))) := Lib.hid (own_same HO1.out fun k hk => hb2.block k (HO1.out.lt k hk).2)
  obtain ⟨R, hR⟩ : ∃ R, occM cs = R := ⟨_, rfl⟩
  have HRR := Lib.hid hR
  rw [hR] at HON HX HO2
  have HGR0 : Hid (w2.grownBy w2 (some w.heap.size)) := Lib.hid (World.grownBy.refl w2 _)
  have HOB0 : Hid (∀ b, (Value.slice (some ⟨w.heap.size, 0, none⟩) 0 0).ownBlock = some b → b = w.heap.size ∨ w2.heap.size ≤ b) := Lib.hid (fun b hb => .inl (by simpa [Value.ownBlock] using hb.symm))
  clear hos hb2 hst hmem hle HOC HB1 HO1 hR
  go_wp2_with fail
  go_loopg [5, 12] on (fun gg u5 u12 wx => ∃ (k : Nat) (ov : Value), k + gg = on ∧ u12 = .int .i64 k ∧ u5 = ov ∧ Hid (w2.grownBy wx (some w.heap.size)) ∧ Hid (∀ b, ov.ownBlock = some b → b = w.heap.size ∨ w2.heap.size ≤ b) ∧
    Hid (wx.ownsRow w.heap.size 3 1 ov (keptM keep (R.take k)).length ((keptM keep (R.take k)).map (.int .i64))))
  case atStart => exact ⟨0, _, by omega, rfl, rfl, HGR0, HOB0, HO2⟩
  case round =>
  clear HGR0 HOB0 HO2
  obtain ⟨k, ov, hkg, rfl, rfl, HGR, HOB, HO⟩ := hrel
  obtain ⟨pa, pc, hov⟩ := own_form HO.out
  obtain ⟨pn, hpn⟩ : ∃ m, (keptM keep (R.take k)).length = m := ⟨_, rfl⟩
  have hpk : pn ≤ k := by
    rw [← hpn]
    exact Nat.le_trans (List.length_filter_le _ _) (by rw [List.length_take]; omega)
  rw [hpn] at hov
  subst hov
  have HPN := Lib.hid hpn
  clear hpn
  have hsr := HGR.out.size
  have HBW : Hid (Below w.heap.size w wr) := Lib.hid ⟨HGR.out.os.trans HB2.out.os, HGR.out.tape.trans HB2.out.tape, HGR.out.output.trans HB2.out.output, Nat.le_trans HB2.out.size hsr, fun b hb => (HGR.out.block b (Nat.lt_of_lt_of_le hb HB2.out.size) (fun e => by injection e with e; omega)).trans (HB2.out.block b hb)⟩
  by_cases hk : k < on
  case neg =>
    have hd : decide (k < on) = false := decide_eq_false hk
    have hd2 : decide ((k : Int) < on) = false := by simp; omega
    have HF : Hid (KeptPost w (keptM keep R) (.returned (.slice pa pn pc)) wr) := Lib.hid ⟨_, rfl, HBW.out, by
      have := HO.out
      rw [List.take_of_length_le (by rw [← HON.out]; omega)] at this
      exact this⟩
    go_wp2_with fail
    go_ret
    rw [HRR.out]
    exact HF.out
  have hd : decide (k < on) = true := decide_eq_true hk
  have hd2 : decide ((k : Int) < on) = true := by simp; omega
  obtain ⟨x, hxx, ex⟩ := drop_at (xs := R) (k := k) (by rw [← HON.out]; exact hk)
  have hxm := HX.out.move (w' := wr) fun b hb hlt => HGR.out.block b hlt (fun e => by injection e with e; have := HS1.out; have := hb.1; omega)
  obtain ⟨b, o, rfl, _, hb, hc, h64⟩ := hxm.at hxx
  have htk : R.take (k + 1) = R.take k ++ [x] := by rw [List.take_add_one, hxx]; rfl
  clear hxm ex
  by_cases q : x ≤ keep
  · have hq : decide (x ≤ keep) = true := decide_eq_true q
    have HT : Hid (keptM keep (R.take (k + 1)) = keptM keep (R.take k) ++ [x]) := Lib.hid (by rw [htk]; unfold keptM; rw [List.filter_append, List.filter_cons, if_pos hq]; rfl)
    have hown6 := HO.out
    rw [HPN.out] at hown6
    clear htk hxx HO q
    go_wp2_with (at_builtin; go_loud (refine wpList_push1 rfl _ _ 40 rfl 3 (.int .i64 0) 8 Tryz.underlying40 HI1.out rfl w.heap.size (.slice pa pn pc) pn ((keptM keep (R.take k)).map (.int .i64)) wr (.int .i64 x) rfl rfl hown6 rfl (by omega) (by omega) (by have := HS1.out; have := HG2.out; omega) ?_); intro g7 cap7 w7 hown7 hg7 hs7 hgb hgl hat; have HG7 := Lib.hid hg7; have HAT := Lib.hid hat; have HO7 := Lib.hid hown7; clear hown7 hg7 hat hgb hgl hs7 hown6)
    go_roundg (gk - 1)
    case measure => omega
    case rel =>
      refine ⟨k + 1, _, by omega, by go_num, rfl, Lib.hid (grow_new HGR.out HG7.out HOB.out), Lib.hid (fun b hb => ?_), Lib.hid (by rw [HT.out, List.length_append, HPN.out, List.map_append]; exact HO7.out)⟩
      have hbg : g7 = b := by simpa [Value.ownBlock] using hb
      subst hbg
      rcases HAT.out with h | h
      · exact HOB.out _ h
      · exact .inr (by omega)
  · have hq : decide (x ≤ keep) = false := decide_eq_false q
    have HT : Hid (keptM keep (R.take (k + 1)) = keptM keep (R.take k)) := Lib.hid (by rw [htk]; unfold keptM; rw [List.filter_append, List.filter_cons, if_neg (by rw [hq]; simp)]; simp)
    clear htk hxx q
    go_wp2_with fail
    go_roundg (gk - 1)
    case measure => omega
    case rel => exact ⟨k + 1, _, by omega, by go_num, rfl, HGR, HOB, Lib.hid (by rw [HT.out, HPN.out]; have := HO.out; rw [HPN.out] at this; exact this)⟩
end Go.Proofs.YtihkknploioakaaGreat
