/- Walks: the statement's forced, propagate. -/
import Derived.Test.YtjbhglmmakkkgaaSs
import Derived.Test.YtjbhglmmakkkgaaSw1
namespace Go.Proofs.Ytjbhglmmakkkgaa
open Go.ChangeShapes Go.WideShapes Go.ChangeAt Go.RowKit
set_option linter.unusedVariables false

set_option maxHeartbeats 2000000 in
theorem forced_any {F G : Nat → Prop} (sv lv : Value) (set l : List Int) (i : Nat) (w : World) (hs : Ints F w sv set) (hl : Ints G w lv l) (hb : ∀ x ∈ l, -1000000 ≤ x ∧ x ≤ 1000000) :
    Calls Try.prog 40 #[sv, lv, .int .i64 (i : Int)] w fun e w' => e = .returned (.bool (forcedGo set i l 0)) ∧ w' = w := by
  obtain ⟨sa, sn, sc, rfl, HSN, hsn⟩ := hs.form'
  obtain ⟨la, ln, lc, rfl, HLN, hln⟩ := hl.form'
  obtain ⟨R, hR⟩ : ∃ R, forcedGo set i l 0 = R := ⟨_, rfl⟩
  have HR : Hid (R = forcedGo set i (l.drop 0) 0) := Lib.hid hR.symm
  rw [hR]
  have HS := Lib.hid hs
  have HL := Lib.hid hl
  have HBD := Lib.hid hb
  clear hR hs hl hb
  go_enter Try.func40, Try.ntmps40
  go_wp2
  go_loopg [11] ln (fun gg u11 wx => ∃ k : Nat, k + gg = ln ∧ u11 = .int .i64 k ∧ w = wx ∧ Hid (R = forcedGo set i (l.drop k) k))
  case atStart => exact ⟨0, by omega, rfl, rfl, HR⟩
  case round =>
  clear HR
  obtain ⟨k, hkg, rfl, rfl, HI⟩ := hrel
  by_cases hk : k < ln
  case neg =>
    have HF : Hid (R = true) := Lib.hid (by rw [HI.out, List.drop_eq_nil_of_le (by have := HLN.out; omega)]; rfl)
    have hk2 : ln ≤ k := by omega
    clear HI hk
    go_wp2
    go_ret
    exact ⟨by rw [HF.out]; rfl, rfl⟩
  obtain ⟨x, hx, e⟩ := drop_at (xs := l) (k := k) (by have := HLN.out; omega)
  have hll := HL.out
  obtain ⟨xb, xo, rfl, _, hxb, hxc, _⟩ := hll.at hx
  have hx0 := HBD.out x (List.mem_of_getElem? hx)
  have HE : Hid (R = if k ≠ i ∧ hasS set (-x) = false then false else forcedGo set i (l.drop (k + 1)) (k + 1)) := Lib.hid (by rw [HI.out, e, forcedGo])
  have hhas := has_any F (.slice sa sn sc) set (-x) w HS.out
  obtain ⟨T, hT⟩ : ∃ T, hasS set (-x) = T := ⟨_, rfl⟩
  rw [show (set.any fun m => m == -x) = T from hT] at hhas
  rw [hT] at HE
  have HH := Lib.hid hhas
  clear hT hhas HI e hx hll
  by_cases hki : k = i
  · have HF : Hid (R = forcedGo set i (l.drop (k + 1)) (k + 1)) := Lib.hid (by rw [HE.out, if_neg (by omega)])
    have hd : ((k : Int) != (i : Int)) = false := by rw [bne_eq_false_iff_eq]; omega
    clear HE hki
    go_wp2_with fail
    go_roundg (gk - 1)
    case measure => omega
    case rel => exact ⟨k + 1, by omega, by go_num, rfl, HF⟩
  have hd : ((k : Int) != (i : Int)) = true := by rw [bne_iff_ne]; omega
  rcases bool2 T with rfl | rfl
  · have HF : Hid (R = forcedGo set i (l.drop (k + 1)) (k + 1)) := Lib.hid (by rw [HE.out, if_neg (by simp)])
    clear HE hki
    go_wp2_with fail
    refine HH.out.mono ?_
    rintro e w1 ⟨rfl, rfl⟩
    go_wp2_with fail
    go_roundg (gk - 1)
    case measure => omega
    case rel => exact ⟨k + 1, by omega, by go_num, rfl, HF⟩
  · have HF : Hid (R = false) := Lib.hid (by rw [HE.out, if_pos ⟨hki, rfl⟩])
    clear HE hki
    go_wp2_with fail
    refine HH.out.mono ?_
    rintro e w1 ⟨rfl, rfl⟩
    go_wp2_with fail
    go_ret
    exact ⟨by rw [HF.out]; rfl, rfl⟩

def SPropPost (W : World) (V : Nat) (cs : List (List Int)) (lits : List Int) (e : Ending) (w' : World) : Prop :=
  ∃ (lv : Value) (r : List Int × Bool), e = .returned (.tuple #[lv, .bool r.2]) ∧ Ints (fun _ => True) w' lv r.1 ∧ PropRes V cs lits r ∧ Below W.heap.size W w'

set_option maxRecDepth 100000 in
set_option maxHeartbeats 16000000 in
theorem sprop_any {F G : Nat → Prop} (V : Nat) (cv lv : Value) (cs : List (List Int)) (lits : List Int) (w : World) (hc : Clss F w cv cs) (hl : Ints G w lv lits) (hV : V ≤ 24) (hcs : LitsOk V cs) (hlits : ∀ l ∈ lits, LitOk V l) :
    Calls Try.prog 17 #[.int .i64 (V : Int), cv, lv] w (SPropPost w V cs lits) := by
  obtain ⟨ca, cn, cc, rfl, HCN, hcn⟩ := hc.form'
  obtain ⟨la, ln, lc, rfl, HLN, hln⟩ := hl.form'
  have hinfo : (Try.prog.info? 3).map (fun i => (i.zero, i.size, i.bytes)) = some (some (.int .i64 0), 1, 8) := by kernel_rfl
  have HI := Lib.hid hinfo
  have hb0 : Below w.heap.size w (w.alloc (.cells #[] 3)) := (Below.refl _ _).alloc (Nat.le_refl _) _
  have HB0 := Lib.hid hb0
  have HO0 : Hid (OwnI (w.alloc (.cells #[] 3)) w.heap.size (.slice (some ⟨w.heap.size, 0, none⟩) 0 0) []) := Lib.hid (by simpa [OwnI] using own_new (base := w.heap.size) (w := w) #[] 3 (Nat.le_refl _) (by simp))
  have HC := Lib.hid hc
  have HL := Lib.hid hl
  have HCS := Lib.hid hcs
  have HLS := Lib.hid hlits
  have HLB : Hid (∀ c ∈ cs, ∀ l ∈ c, -1000000 ≤ l ∧ l ≤ 1000000) := Lib.hid (fun c hc l hl => by obtain ⟨_, h2, h3⟩ := hcs c hc l hl; omega)
  clear hinfo hb0 hc hl hcs hlits
  go_enter Try.func17, Try.ntmps17
  go_wp2
  go_loopg [8, 23] ln (fun gg u8 u23 wx => ∃ (k : Nat) (set : List Int), k + gg = ln ∧ u23 = .int .i64 k ∧ Hid (OwnI wx w.heap.size u8 set) ∧ Hid (Below w.heap.size w wx) ∧ Hid (SInv V cs lits set) ∧ Hid (∀ l ∈ lits.take k, l ∈ set))
  case atStart => exact ⟨0, [], by omega, rfl, HO0, HB0, Lib.hid (SInv.nil V cs lits), Lib.hid (by simp)⟩
  case round =>
  clear HO0 HB0
  obtain ⟨k, set, hkg, rfl, HOW, HB, HSI, HT⟩ := hrel
  have hsl : set.length ≤ 48 := by have := HSI.out.cnt; omega
  have hwr := HB.out.size
  obtain ⟨ua, uc, rfl⟩ : ∃ a c, u8 = .slice a set.length c := own_form HOW.out
  by_cases hk : k < ln
  case pos =>
    obtain ⟨x, hx, e⟩ := drop_at (xs := lits) (k := k) (by have := HLN.out; omega)
    have hll := HL.out.below HB.out
    obtain ⟨xb, xo, rfl, _, hxb, hxc, hx64⟩ := hll.at hx
    have HXL : Hid (LitOk V x) := Lib.hid (HLS.out x (List.mem_of_getElem? hx))
    have HTK : Hid (∀ s : List Int, (∀ l ∈ set, l ∈ s) → x ∈ s → ∀ l ∈ lits.take (k + 1), l ∈ s) := Lib.hid (fun s h1 h2 l hl => by
      rw [List.take_succ_eq_append_getElem (by have := HLN.out; omega)] at hl
      rcases List.mem_append.1 hl with hl | hl
      · exact h1 l (HT.out l hl)
      · have h3 : lits[k]'(by have := HLN.out; omega) = x := by rw [List.getElem?_eq_getElem (by have := HLN.out; omega)] at hx; injection hx
        rw [h3] at hl
        simp at hl
        exact hl ▸ h2)
    have HXM : Hid (x ∈ lits) := Lib.hid (List.mem_of_getElem? hx)
    have hhas := has_any _ (.slice ua set.length uc) set x wr (HOW.out.ints (by omega) (fun y hy => by obtain ⟨_, h2, h3⟩ := HSI.out.lit y hy; unfold I64; omega))
    obtain ⟨T, hT⟩ : ∃ T, hasS set x = T := ⟨_, rfl⟩
    rw [show (set.any fun m => m == x) = T from hT] at hhas
    have HH := Lib.hid hhas
    have HHS := Lib.hid hT
    clear hT hhas HT e hx hll hx64
    rcases bool2 T with rfl | rfl
    · have HTN : Hid (∀ l ∈ lits.take (k + 1), l ∈ set) := Lib.hid (HTK.out set (fun _ h => h) (hasS_iff.1 HHS.out))
      clear HTK
      go_wp2_with fail
      refine HH.out.mono ?_
      rintro e w1 ⟨rfl, rfl⟩
      go_wp2_with fail
      go_roundg (gk - 1)
      case measure => omega
      case rel => exact ⟨k + 1, set, by omega, by go_num, HOW, HB, HSI, HTN⟩
    · have HTN : Hid (∀ l ∈ lits.take (k + 1), l ∈ set ++ [x]) := Lib.hid (HTK.out (set ++ [x]) (fun _ h => by simp [h]) (by simp))
      have HSN : Hid (SInv V cs lits (set ++ [x])) := Lib.hid (HSI.out.add HXL.out (.base HXM.out) HHS.out)
      have hown := HOW.out
      unfold OwnI at hown
      clear HTK
      go_wp2_with fail
      refine HH.out.mono ?_
      rintro e w1 ⟨rfl, rfl⟩
      go_wp2_with (at_builtin; go_loud (refine wpList_push1 rfl _ _ 25 rfl 3 (.int .i64 0) 8 Try.underlying25 HI.out rfl w.heap.size (.slice ua set.length uc) set.length _ _ (.int .i64 x) rfl rfl hown rfl (by omega) (by omega) (by omega) ?_); intro g5 cap5 w5 hown5 hg5 hs5 hgb hgl hat; have HB5 := Lib.hid (HB.out.grown hg5 (by omega) (fun k hk => (hown.lt k hk).1)); have HO5 := Lib.hid (OwnI.snoc rfl hown5); clear hown5 hg5 hown)
      go_roundg (gk - 1)
      case measure => omega
      case rel => exact ⟨k + 1, set ++ [x], by omega, by go_num, HO5, HB5, HSN, HTN⟩
  have HLT : Hid (∀ l ∈ lits, l ∈ set) := Lib.hid (by
    have := HT.out
    rwa [List.take_of_length_le (by have := HLN.out; omega)] at this)
  have hk2 : ln ≤ k := by omega
  have hdk : decide (k < ln) = false := decide_eq_false hk
  clear hk HT hk2
  go_wp2
  go_loopg [8, 11] (cntS V set + 1) (fun gg u8 u11 wx => ∃ (gr : Bool) (set : List Int), u11 = .bool gr ∧ Hid (OwnI wx w.heap.size u8 set) ∧ Hid (Below w.heap.size w wx) ∧ Hid (SInv V cs lits set) ∧ Hid (∀ l ∈ lits, l ∈ set) ∧ (gr = true → cntS V set + 1 ≤ gg) ∧ Hid (gr = false → ∀ c ∈ cs, ∀ i, ClosedP set c i))
  case atStart => exact ⟨true, set, rfl, HOW, HB, HSI, HLT, fun _ => Nat.le_refl _, Lib.hid (fun h => by cases h)⟩
  case round =>
  clear HOW HB HSI HLT hkg hsl hwr
  obtain ⟨gr, set, rfl, HOW, HB, HSI, HLT, hgr, HCL⟩ := hrel
  obtain ⟨GK, hGK⟩ : ∃ G, G = gk := ⟨_, rfl⟩
  subst hGK
  rcases bool2 gr with rfl | rfl
  case inl =>
    have hg0 := hgr rfl
    obtain ⟨c0, hc0⟩ : ∃ c, cntS V set = c := ⟨_, rfl⟩
    rw [hc0] at hg0
    have hc1 : cntS V set ≤ c0 := by omega
    clear hgr HCL hc0
    go_wp2
    go_loopg [8, 11, 39] cn (fun gg u8 u11 u39 wx => ∃ (j : Nat) (gr : Bool) (set : List Int), j + gg = cn ∧ u39 = .int .i64 j ∧ u11 = .bool gr ∧ Hid (OwnI wx w.heap.size u8 set) ∧ Hid (Below w.heap.size w wx) ∧ Hid (SInv V cs lits set) ∧ Hid (∀ l ∈ lits, l ∈ set) ∧ cntS V set ≤ c0 ∧ (gr = true → cntS V set < c0) ∧ Hid (gr = false → ∀ c ∈ cs.take j, ∀ i, ClosedP set c i))
    case atStart => exact ⟨0, false, set, by omega, rfl, rfl, HOW, HB, HSI, HLT, hc1, fun h => (by cases h), Lib.hid (fun _ => by simp)⟩
    case round =>
    clear HOW HB HSI HLT hc1
    obtain ⟨j, gr, set, hjg, rfl, rfl, HOW, HB, HSI, HLT, hc1, hc2, HCL⟩ := hrel
    obtain ⟨GM, hGM⟩ : ∃ G, G = gk := ⟨_, rfl⟩
    subst hGM
    by_cases hj : j < cn
    case neg =>
      have HCL2 : Hid (gr = false → ∀ c ∈ cs, ∀ i, ClosedP set c i) := Lib.hid (by
        have := HCL.out
        rwa [List.take_of_length_le (by have := HCN.out; omega)] at this)
      have hgr2 : gr = true → cntS V set + 1 ≤ GK - 1 := fun h => by have := hc2 h; omega
      have hk2 : cn ≤ j := by omega
      have HGR := Lib.hid hgr2
      clear hj HCL hc2 hgr2
      go_wp2
      go_roundg (GK - 1)
      case measure => omega
      case rel => exact ⟨gr, set, rfl, HOW, HB, HSI, HLT, HGR.out, HCL2⟩
    obtain ⟨cl, hcl, ecl⟩ := drop_at (xs := cs) (k := j) (by have := HCN.out; omega)
    have hcw := HC.out
    obtain ⟨b, o, u, rfl, _, hb, hcc0, hu⟩ := hcw.at hcl
    have hcc := below_c HB.out hb hcc0
    clear hcc0
    obtain ⟨va, un, vc, rfl, HUN, hun⟩ := hu.form'
    have HUI := Lib.hid hu
    have HCM : Hid (cl ∈ cs) := Lib.hid (List.mem_of_getElem? hcl)
    have HTJ : Hid (cs.take (j + 1) = cs.take j ++ [cl]) := Lib.hid (by
      rw [List.take_succ_eq_append_getElem (by have := HCN.out; omega)]
      have h3 : cs[j]'(by have := HCN.out; omega) = cl := by rw [List.getElem?_eq_getElem (by have := HCN.out; omega)] at hcl; injection hcl
      rw [h3])
    have HC0 : Hid (gr = false → (∀ c ∈ cs.take j, ∀ i, ClosedP set c i) ∧ ∀ i, i < 0 → ClosedP set cl i) := Lib.hid (fun h => ⟨HCL.out h, fun i hi => by omega⟩)
    have HC2 := Lib.hid hc2
    have HWR := Lib.hid HB.out.size
    clear hcl ecl hcw hu HCL hc2
    obtain ⟨w8, hw8⟩ : ∃ x, x = wr := ⟨_, rfl⟩
    subst hw8
    go_wp2
    go_loopg [8, 11, 45] un (fun gg u8 u11 u45 wx => ∃ (i : Nat) (gr : Bool) (set : List Int), i + gg = un ∧ u45 = .int .i64 i ∧ u11 = .bool gr ∧ Hid (OwnI wx w.heap.size u8 set) ∧ Hid (Below w.heap.size w wx) ∧ Hid (SInv V cs lits set) ∧ Hid (∀ l ∈ lits, l ∈ set) ∧ cntS V set ≤ c0 ∧ Hid (gr = true → cntS V set < c0) ∧ Hid (gr = false → (∀ c ∈ cs.take j, ∀ i, ClosedP set c i) ∧ ∀ i', i' < i → ClosedP set cl i'))
    case atStart => exact ⟨0, gr, set, by omega, rfl, rfl, HOW, HB, HSI, HLT, hc1, HC2, HC0⟩
    case round =>
    clear HOW HB HSI HLT hc1 HC2 HC0 HWR hcc
    obtain ⟨i, gr, set, hig, rfl, rfl, HOW, HB, HSI, HLT, hc1, HC2, HCI⟩ := hrel
    by_cases hi : i < un
    case neg =>
      have HCN2 : Hid (gr = false → ∀ c ∈ cs.take (j + 1), ∀ i, ClosedP set c i) := Lib.hid (fun h c hc i' => by
        obtain ⟨h1, h2⟩ := HCI.out h
        rw [HTJ.out] at hc
        rcases List.mem_append.1 hc with hc | hc
        · exact h1 c hc i'
        · simp at hc
          subst hc
          rcases Nat.lt_or_ge i' i with h3 | h3
          · exact h2 i' h3
          · intro l hl
            rw [List.getElem?_eq_none (by have := HUN.out; omega)] at hl
            cases hl)
      have hk2 : un ≤ i := by omega
      clear hi HCI
      go_wp2
      go_roundg (GM - 1)
      case measure => omega
      case rel => exact ⟨j + 1, gr, set, by omega, by go_num, rfl, HOW, HB, HSI, HLT, hc1, HC2.out, HCN2⟩
    have hsl : set.length ≤ 48 := by have := HSI.out.cnt; omega
    have hwr := HB.out.size
    obtain ⟨ua, uc, rfl⟩ : ∃ a c, u8 = .slice a set.length c := own_form HOW.out
    obtain ⟨n, hn, en⟩ := drop_at (xs := cl) (k := i) (by have := HUN.out; omega)
    have hui := HUI.out.below HB.out
    have HUR := Lib.hid hui
    obtain ⟨nb, no, rfl, _, hnb, hnc, _⟩ := hui.at hn
    have HNL : Hid (LitOk V n) := Lib.hid (HCS.out cl HCM.out n (List.mem_of_getElem? hn))
    have HNN := Lib.hid hn
    have hsi := HOW.out.ints (by omega) (fun y hy => by obtain ⟨_, h2, h3⟩ := HSI.out.lit y hy; unfold I64; omega)
    have hhas := has_any _ (.slice ua set.length uc) set n wr hsi
    have hfor := forced_any (.slice ua set.length uc) _ set cl i wr hsi HUR.out (HLB.out cl HCM.out)
    obtain ⟨T, hT⟩ : ∃ T, hasS set n = T := ⟨_, rfl⟩
    obtain ⟨Q, hQ⟩ : ∃ T, forcedGo set i cl 0 = T := ⟨_, rfl⟩
    rw [show (set.any fun m => m == n) = T from hT] at hhas
    rw [hQ] at hfor
    have HH := Lib.hid hhas
    have HFO := Lib.hid hfor
    have HHS := Lib.hid hT
    have HFS := Lib.hid hQ
    clear hT hQ hhas hfor hsi hui hn en
    rcases bool2 T with rfl | rfl
    · have HCN2 : Hid (gr = false → (∀ c ∈ cs.take j, ∀ i, ClosedP set c i) ∧ ∀ i', i' < i + 1 → ClosedP set cl i') := Lib.hid (fun h => by
        obtain ⟨h1, h2⟩ := HCI.out h
        refine ⟨h1, fun i' hi' => ?_⟩
        by_cases e : i' = i
        · subst e
          intro l hl _
          rw [HNN.out] at hl
          injection hl with hl
          exact hl ▸ hasS_iff.1 HHS.out
        · exact h2 i' (by omega))
      clear HCI
      go_wp2_with fail
      refine HH.out.mono ?_
      rintro e w1 ⟨rfl, rfl⟩
      go_wp2_with fail
      go_roundg (gk - 1)
      case measure => omega
      case rel => exact ⟨i + 1, gr, set, by omega, by go_num, rfl, HOW, HB, HSI, HLT, hc1, HC2, HCN2⟩
    rcases bool2 Q with rfl | rfl
    · have HSN : Hid (SInv V cs lits (set ++ [n])) := Lib.hid (HSI.out.add HNL.out (HSI.out.forced HCM.out HNN.out HFS.out) HHS.out)
      have hcn := cntS_add HNL.out HHS.out
      have HLN2 : Hid (∀ l ∈ lits, l ∈ set ++ [n]) := Lib.hid (fun l hl => by simp [HLT.out l hl])
      have hown := HOW.out
      unfold OwnI at hown
      clear HCI
      go_wp2_with fail
      refine HH.out.mono ?_
      rintro e w1 ⟨rfl, rfl⟩
      go_wp2_with fail
      refine HFO.out.mono ?_
      rintro e w1 ⟨rfl, rfl⟩
      go_wp2_with (at_builtin; go_loud (refine wpList_push1 rfl _ _ 25 rfl 3 (.int .i64 0) 8 Try.underlying25 HI.out rfl w.heap.size (.slice ua set.length uc) set.length _ _ (.int .i64 n) rfl rfl hown rfl (by omega) (by omega) (by omega) ?_); intro g5 cap5 w5 hown5 hg5 hs5 hgb hgl hat; have HB5 := Lib.hid (HB.out.grown hg5 (by omega) (fun k hk => (hown.lt k hk).1)); have HO5 := Lib.hid (OwnI.snoc rfl hown5); clear hown5 hg5 hown)
      go_roundg (gk - 1)
      case measure => omega
      case rel => exact ⟨i + 1, true, set ++ [n], by omega, by go_num, rfl, HO5, HB5, HSN, HLN2, by omega, Lib.hid (fun _ => by omega), Lib.hid (fun h => by cases h)⟩
    · have HCN2 : Hid (gr = false → (∀ c ∈ cs.take j, ∀ i, ClosedP set c i) ∧ ∀ i', i' < i + 1 → ClosedP set cl i') := Lib.hid (fun h => by
        obtain ⟨h1, h2⟩ := HCI.out h
        refine ⟨h1, fun i' hi' => ?_⟩
        by_cases e : i' = i
        · subst e
          intro l hl hf
          rw [HFS.out] at hf
          cases hf
        · exact h2 i' (by omega))
      clear HCI
      go_wp2_with fail
      refine HH.out.mono ?_
      rintro e w1 ⟨rfl, rfl⟩
      go_wp2_with fail
      refine HFO.out.mono ?_
      rintro e w1 ⟨rfl, rfl⟩
      go_wp2_with fail
      go_roundg (gk - 1)
      case measure => omega
      case rel => exact ⟨i + 1, gr, set, by omega, by go_num, rfl, HOW, HB, HSI, HLT, hc1, HC2, HCN2⟩
  have HCL2 := Lib.hid (HCL.out rfl)
  clear HCL hgr
  have HD := Lib.hid (closed_der HSI.out HLT.out HCL2.out)
  have hsl : set.length ≤ 48 := by have := HSI.out.cnt; omega
  obtain ⟨ua, uc, rfl⟩ : ∃ a c, u8 = .slice a set.length c := own_form HOW.out
  have HSET := Lib.hid (HOW.out.ints (by omega) (fun y hy => by obtain ⟨_, h2, h3⟩ := HSI.out.lit y hy; unfold I64; omega))
  have hwr := HB.out.size
  obtain ⟨w4, hw4⟩ : ∃ x, x = wr := ⟨_, rfl⟩
  subst hw4
  clear HCL2 HOW
  go_wp2
  go_loopg [68] cn (fun gg u68 wx => ∃ j : Nat, j + gg = cn ∧ u68 = .int .i64 j ∧ w4 = wx ∧ Hid (∀ c ∈ cs.take j, c ≠ []))
  case atStart => exact ⟨0, by omega, rfl, rfl, Lib.hid (by simp)⟩
  case round =>
  obtain ⟨j, hjg, rfl, rfl, HNE⟩ := hrel
  by_cases hj : j < cn
  case pos =>
    obtain ⟨cl, hcl, ecl⟩ := drop_at (xs := cs) (k := j) (by have := HCN.out; omega)
    have hcw := HC.out.below HB.out
    obtain ⟨b, o, u, rfl, _, hb, hcc, hu⟩ := hcw.at hcl
    obtain ⟨va, un, vc, rfl, HUN, hun⟩ := hu.form'
    have HCM : Hid (cl ∈ cs) := Lib.hid (List.mem_of_getElem? hcl)
    have HTJ : Hid (cs.take (j + 1) = cs.take j ++ [cl]) := Lib.hid (by
      rw [List.take_succ_eq_append_getElem (by have := HCN.out; omega)]
      have h3 : cs[j]'(by have := HCN.out; omega) = cl := by rw [List.getElem?_eq_getElem (by have := HCN.out; omega)] at hcl; injection hcl
      rw [h3])
    clear hcl ecl hcw hu
    by_cases h0 : un = 0
    · have hd : ((un : Int) == 0) = true := by simp [h0]
      have hd2 : (un == 0) = true := by simp [h0]
      have HEM : Hid ([] ∈ cs) := Lib.hid (by
        have h1 := HUN.out
        rw [h0] at h1
        have h2 : cl = [] := List.eq_nil_of_length_eq_zero h1.symm
        have := HCM.out
        rwa [h2] at this)
      clear h0
      go_wp2
      try rw [Exit.noGoto_ret]
      go_ret2
      exact ⟨_, ([], true), rfl, Ints.nil _ _, ⟨⟨fun _ => .inl HEM.out, fun _ => rfl⟩, fun _ => rfl, fun h => by cases h⟩, HB.out⟩
    · have hd : ((un : Int) == 0) = false := by simp [h0]
      have hd2 : (un == 0) = false := by simp [h0]
      have HNE2 : Hid (∀ c ∈ cs.take (j + 1), c ≠ []) := Lib.hid (fun c hc => by
        rw [HTJ.out] at hc
        rcases List.mem_append.1 hc with hc | hc
        · exact HNE.out c hc
        · simp at hc
          subst hc
          rintro rfl
          exact h0 HUN.out)
      clear h0 HNE
      go_wp2
      go_roundg (gk - 1)
      case measure => omega
      case rel => exact ⟨j + 1, by omega, by go_num, rfl, HNE2⟩
  have HNA : Hid ([] ∉ cs) := Lib.hid (fun h => by
    have h1 := HNE.out
    rw [List.take_of_length_le (by have := HCN.out; omega)] at h1
    exact h1 [] h rfl)
  have hdj : decide (j < cn) = false := decide_eq_false hj
  have hb5 : Below w4.heap.size w4 (w4.alloc (.cells #[] 3)) := (Below.refl _ _).alloc (Nat.le_refl _) _
  have HB5 := Lib.hid hb5
  have HO5 : Hid (OwnI (w4.alloc (.cells #[] 3)) w4.heap.size (.slice (some ⟨w4.heap.size, 0, none⟩) 0 0) []) := Lib.hid (by simpa [OwnI] using own_new (base := w4.heap.size) (w := w4) #[] 3 (Nat.le_refl _) (by simp))
  obtain ⟨TOT, hTOT⟩ : ∃ t, outP (hasS set) V 1 = t := ⟨_, rfl⟩
  have HTOT := Lib.hid hTOT
  have HT0 : Hid (TOT = [] ++ outP (hasS set) V 1) := Lib.hid hTOT.symm
  clear hj HNE hb5 hTOT
  go_wp2
  go_loopg [18, 19] V (fun gg u18 u19 wx => ∃ (v : Nat) (acc : List Int), 1 ≤ v ∧ v + gg = V + 1 ∧ u19 = .int .i64 v ∧ Hid (OwnI wx w4.heap.size u18 acc) ∧ Hid (Below w4.heap.size w4 wx) ∧ Hid (TOT = acc ++ outP (hasS set) gg v) ∧ acc.length + 2 ≤ 2 * v ∧ Hid (∀ x ∈ acc, I64 x) ∧ Hid (∀ u : Nat, 1 ≤ u → u < v → ¬ (hasS set (u : Int) = true ∧ hasS set (-(u : Int)) = true)))
  case atStart => exact ⟨1, [], by omega, by omega, rfl, HO5, HB5, HT0, by simp, Lib.hid (by simp), Lib.hid (fun u h1 h2 => by omega)⟩
  case round =>
  clear HO5 HB5 HT0
  obtain ⟨v, acc, hv1, hvg, rfl, HOW, HBX, HTX, hal, HAX, HNC⟩ := hrel
  obtain ⟨GK, hGK⟩ : ∃ G, G = gk := ⟨_, rfl⟩
  subst hGK
  have hsx := HBX.out.size
  obtain ⟨xa, xc, rfl⟩ : ∃ a c, u18 = .slice a acc.length c := own_form HOW.out
  by_cases hv : v ≤ V
  case neg =>
    have HFF : Hid (TOT = acc) := Lib.hid (by rw [HTX.out, show GK = 0 by omega, outP, List.append_nil])
    have hv3 : V < v := by omega
    have HNO : Hid (¬ Conf cs (· ∈ lits)) := Lib.hid (by
      rintro (h | ⟨l, h1, h2⟩)
      · exact HNA.out h
      · obtain ⟨u, hu1, hu2, h3⟩ := (h1.lit HCS.out (fun l hl => HLS.out l hl)).cases
        have k1 := hasS_iff.2 ((HD.out _).2 h1)
        have k2 := hasS_iff.2 ((HD.out _).2 h2)
        rcases h3 with ⟨rfl, _⟩ | ⟨rfl, _⟩
        · exact HNC.out u hu1 (by omega) ⟨k1, k2⟩
        · rw [Int.neg_neg] at k2
          exact HNC.out u hu1 (by omega) ⟨k2, k1⟩)
    clear hv HTX HNC
    go_wp2
    go_ret2
    exact ⟨_, (acc, false), rfl, (HOW.out.ints (by omega) HAX.out).mono fun _ _ => trivial, ⟨⟨fun h => (by cases h), fun h => absurd h HNO.out⟩, fun h => (by cases h), fun _ => ⟨hasS set, fun l _ => hasS_iff.trans (HD.out l), by rw [HTOT.out]; exact HFF.out.symm⟩⟩, HB.out.trans (HBX.out.mono hwr)⟩
  obtain ⟨f, rfl⟩ : ∃ f, GK = f + 1 := ⟨GK - 1, by omega⟩
  have hset := HSET.out.below HBX.out
  have hh1 := has_any _ (.slice ua set.length uc) set (v : Int) wr hset
  have hh2 := has_any _ (.slice ua set.length uc) set (-(v : Int)) wr hset
  obtain ⟨bp, hbp⟩ : ∃ T, hasS set (v : Int) = T := ⟨_, rfl⟩
  obtain ⟨bn, hbn⟩ : ∃ T, hasS set (-(v : Int)) = T := ⟨_, rfl⟩
  rw [show (set.any fun m => m == (v : Int)) = bp from hbp] at hh1
  rw [show (set.any fun m => m == -(v : Int)) = bn from hbn] at hh2
  have HTY : Hid (TOT = acc ++ ((if bn = true then [-(v : Int)] else []) ++ ((if bp = true then [(v : Int)] else []) ++ outP (hasS set) f (v + 1)))) := Lib.hid (by rw [HTX.out, outP, hbp, hbn])
  have HH1 := Lib.hid hh1
  have HH2 := Lib.hid hh2
  have HBP := Lib.hid hbp
  have HBN := Lib.hid hbn
  clear hset hh1 hh2 hbp hbn HTX
  trace "L6"
  rcases bool2 bp with rfl | rfl
  · rcases bool2 bn with rfl | rfl
    · have HCF : Hid (Conf cs (· ∈ lits)) := Lib.hid (.inr ⟨_, (HD.out _).1 (hasS_iff.1 HBP.out), (HD.out _).1 (hasS_iff.1 HBN.out)⟩)
      go_wp2_with fail
      refine HH1.out.mono ?_
      rintro e w5 ⟨rfl, rfl⟩
      go_wp2_with fail
      refine HH2.out.mono ?_
      rintro e w5 ⟨rfl, rfl⟩
      go_wp2_with fail
      try rw [Exit.noGoto_ret]
      go_ret2
      exact ⟨_, ([], true), rfl, Ints.nil _ _, ⟨⟨fun _ => HCF.out, fun _ => rfl⟩, fun _ => rfl, fun h => by cases h⟩, HB.out.trans (HBX.out.mono hwr)⟩
    · have HTZ : Hid (TOT = (acc ++ [(v : Int)]) ++ outP (hasS set) f (v + 1)) := Lib.hid (by rw [HTY.out]; simp)
      have HNC2 : Hid (∀ u : Nat, 1 ≤ u → u < v + 1 → ¬ (hasS set (u : Int) = true ∧ hasS set (-(u : Int)) = true)) := Lib.hid (fun u h1 h2 h => by
        by_cases e : u = v
        · subst e; rw [HBN.out] at h; cases h.2
        · exact HNC.out u h1 (by omega) h)
      have hown := HOW.out
      unfold OwnI at hown
      clear HTY HNC
      go_wp2_with fail
      refine HH1.out.mono ?_
      rintro e w5 ⟨rfl, rfl⟩
      go_wp2_with fail
      refine HH2.out.mono ?_
      rintro e w5 ⟨rfl, rfl⟩
      go_wp2_with fail
      refine HH2.out.mono ?_
      rintro e w5 ⟨rfl, rfl⟩
      go_wp2_with fail
      refine HH1.out.mono ?_
      rintro e w5 ⟨rfl, rfl⟩
      go_wp2_with (at_builtin; go_loud (refine wpList_push1 rfl _ _ 25 rfl 3 (.int .i64 0) 8 Try.underlying25 HI.out rfl w4.heap.size (.slice xa acc.length xc) acc.length _ _ (.int .i64 (v : Int)) rfl rfl hown rfl (by omega) (by omega) (by omega) ?_); intro g5 cap5 w5 hown5 hg5 hs5 hgb hgl hat; have HB5 := Lib.hid (HBX.out.grown hg5 (by omega) (fun k hk => (hown.lt k hk).1)); have HO5 := Lib.hid (OwnI.snoc rfl hown5); clear hown5 hg5 hown)
      go_roundg f
      case measure => omega
      case rel =>
        refine ⟨v + 1, acc ++ [(v : Int)], by omega, by omega, by go_num, HO5, HB5, HTZ, by simp; omega, Lib.hid (fun x hx => ?_), HNC2⟩
        rcases List.mem_append.1 hx with hx | hx
        · exact HAX.out x hx
        · simp at hx; subst hx; unfold I64; omega
  · have HNC2 : Hid (∀ u : Nat, 1 ≤ u → u < v + 1 → ¬ (hasS set (u : Int) = true ∧ hasS set (-(u : Int)) = true)) := Lib.hid (fun u h1 h2 h => by
      by_cases e : u = v
      · subst e; rw [HBP.out] at h; cases h.1
      · exact HNC.out u h1 (by omega) h)
    clear HNC
    rcases bool2 bn with rfl | rfl
    · have HTZ : Hid (TOT = (acc ++ [-(v : Int)]) ++ outP (hasS set) f (v + 1)) := Lib.hid (by rw [HTY.out]; simp)
      have hown := HOW.out
      unfold OwnI at hown
      clear HTY
      go_wp2_with fail
      refine HH1.out.mono ?_
      rintro e w5 ⟨rfl, rfl⟩
      go_wp2_with fail
      refine HH2.out.mono ?_
      rintro e w5 ⟨rfl, rfl⟩
      go_wp2_with (at_builtin; go_loud (refine wpList_push1 rfl _ _ 25 rfl 3 (.int .i64 0) 8 Try.underlying25 HI.out rfl w4.heap.size (.slice xa acc.length xc) acc.length _ _ (.int .i64 (-(v : Int))) rfl rfl hown rfl (by omega) (by omega) (by omega) ?_); intro g5 cap5 w5 hown5 hg5 hs5 hgb hgl hat; have HB5 := Lib.hid (HBX.out.grown hg5 (by omega) (fun k hk => (hown.lt k hk).1)); have HO5 := Lib.hid (OwnI.snoc rfl hown5); clear hown5 hg5 hown)
      have hh3 := has_any _ (.slice ua set.length uc) set (v : Int) w5 (HSET.out.below HB5.out)
      rw [show (set.any fun m => m == (v : Int)) = false from HBP.out] at hh3
      refine hh3.mono ?_
      rintro e w6 ⟨rfl, rfl⟩
      clear hh3
      go_wp2_with fail
      go_roundg f
      case measure => omega
      case rel =>
        refine ⟨v + 1, acc ++ [-(v : Int)], by omega, by omega, by go_num, HO5, HB5, HTZ, by simp; omega, Lib.hid (fun x hx => ?_), HNC2⟩
        rcases List.mem_append.1 hx with hx | hx
        · exact HAX.out x hx
        · simp at hx; subst hx; unfold I64; omega
    · have HTZ : Hid (TOT = acc ++ outP (hasS set) f (v + 1)) := Lib.hid (by rw [HTY.out]; simp)
      clear HTY
      go_wp2_with fail
      refine HH1.out.mono ?_
      rintro e w5 ⟨rfl, rfl⟩
      go_wp2_with fail
      refine HH2.out.mono ?_
      rintro e w5 ⟨rfl, rfl⟩
      go_wp2_with fail
      refine HH1.out.mono ?_
      rintro e w5 ⟨rfl, rfl⟩
      go_wp2_with fail
      go_roundg f
      case measure => omega
      case rel => exact ⟨v + 1, acc, by omega, by omega, by go_num, HOW, HBX, HTZ, by omega, HAX, HNC2⟩
end Go.Proofs.Ytjbhglmmakkkgaa
