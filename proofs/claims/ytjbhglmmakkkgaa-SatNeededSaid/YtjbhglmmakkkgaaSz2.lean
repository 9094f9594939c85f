/- Walks: the statement's holds, least. -/
import Derived.Test.YtjbhglmmakkkgaaSz1
namespace Go.Proofs.Ytjbhglmmakkkgaa
open Go.ChangeShapes Go.WideShapes Go.ChangeAt Go.RowKit
set_option linter.unusedVariables false

/-- holds, with flags -/
def holdsGo (x : List Bool) : List (List Int) → List Bool → Bool
  | [], _ => true
  | c :: r, ks => if ks.headD false = false then holdsGo x r ks.tail else if c.any (litT x) = false then false else holdsGo x r ks.tail
theorem holdsGo_at {x : List Bool} {cs : List (List Int)} {ks : List Bool} {k : Nat} {c : List Int} (e : cs.drop k = c :: cs.drop (k + 1)) :
    holdsGo x (cs.drop k) (ks.drop k) = if ks.getD k false = false then holdsGo x (cs.drop (k + 1)) (ks.drop (k + 1)) else if c.any (litT x) = false then false else holdsGo x (cs.drop (k + 1)) (ks.drop (k + 1)) := by
  rw [e, holdsGo, List.tail_drop]
  have : (ks.drop k).headD false = ks.getD k false := by
    rw [List.headD_eq_head?_getD, List.head?_drop]; rfl
  rw [this]
/-- the flags' reading: nil is all -/
def Flags (G : Nat → Prop) (w : World) (v : Value) (ks : List Bool) (n : Nat) : Prop :=
  ks.length = n ∧ (v = .slice none 0 0 ∧ ks = List.replicate n true ∨ ∃ ad c, v = .slice (some ad) n c ∧ Bools G w v ks)
theorem Flags.below {G : Nat → Prop} {w w' : World} {v : Value} {ks : List Bool} {n : Nat} (h : Flags G w v ks n) (hb : Below w.heap.size w w') : Flags G w' v ks n := by
  obtain ⟨h1, h2 | ⟨ad, c, h2, h3⟩⟩ := h
  · exact ⟨h1, .inl h2⟩
  · exact ⟨h1, .inr ⟨ad, c, h2, h3.below hb⟩⟩
theorem Flags.nil (w : World) (n : Nat) : Flags (fun _ => True) w (.slice none 0 0) (List.replicate n true) n := ⟨by simp, .inl ⟨rfl, rfl⟩⟩

set_option maxRecDepth 100000 in
set_option maxHeartbeats 8000000 in
theorem holds_any {F G : Nat → Prop} (V k : Nat) (keep : Int) (cv kv : Value) (cs : List (List Int)) (ks : List Bool) (w : World) (hc : Clss F w cv cs) (hkf : Flags G w kv ks cs.length) (hlo : LitsOk V cs) (hV : V ≤ 24) (hk : k < 4611686018427387904) :
    Calls Try.prog 26 #[.agg #[.int .i64 (V : Int), .int .i64 keep, cv], kv, .int .i64 (k : Int)] w (BoolPost w (holdsGo (asgM V k) cs ks)) := by
  obtain ⟨a, n, c, rfl, HN, hn⟩ := hc.form'
  have hb : Below w.heap.size w (w.alloc (.cells #[.int .i64 (V : Int), .int .i64 keep, .slice a n c] 24)) := (Below.refl _ _).alloc (Nat.le_refl _) _
  have HB := Lib.hid hb
  have HX := Lib.hid (hc.below hb)
  have HFL := Lib.hid (hkf.below hb)
  obtain ⟨ka, kn, kc, rfl⟩ : ∃ a n c, kv = .slice a n c := by
    obtain ⟨_, ⟨h, _⟩ | ⟨ad, c, h, _⟩⟩ := hkf
    · exact ⟨_, _, _, h⟩
    · exact ⟨_, _, _, h⟩
  obtain ⟨R, hR⟩ : ∃ R, holdsGo (asgM V k) cs ks = R := ⟨_, rfl⟩
  have HR : Hid (R = holdsGo (asgM V k) (cs.drop 0) (ks.drop 0)) := Lib.hid hR.symm
  rw [hR]
  have hnil := fun (w : World) => run_neq_slice_nil_any (P := Try.prog) w 37 4 ka kn kc 0 0 Try.underlying37
  have HLO := Lib.hid hlo
  clear hR hb hc hkf hlo
  go_enter Try.func26, Try.ntmps26
  go_wp2_with fail
  refine (assignment_any V k _ hV hk).mono ?_
  rintro e w1 ⟨iv, rfl, hi1, hb1⟩
  have HB1 : Hid (Below w.heap.size w w1) := Lib.hid (HB.out.trans (hb1.mono (by simp)))
  have c0 := below_c hb1 (show w.heap.size < _ by simp) (o := 0) (v := .int .i64 V) (by simp)
  have c2 := below_c hb1 (show w.heap.size < _ by simp) (o := 2) (v := .slice a n c) (by simp)
  have HX1 := Lib.hid (HX.out.below hb1)
  have HFL1 := Lib.hid (HFL.out.below hb1)
  have HI1 := Lib.hid hi1
  obtain ⟨ia, ic, rfl, _⟩ := hi1.form
  clear hb1 HX HFL HB hi1
  have hal := asg_len V k
  obtain ⟨X, hX⟩ : ∃ X, asgM V k = X := ⟨_, rfl⟩
  rw [hX] at HR HI1 hal
  simp only [hX] at *
  have HAL := Lib.hid hal
  have HIF : Hid (Bools (fun b => (w.alloc (.cells #[.int .i64 (V : Int), .int .i64 keep, .slice a n c] 24)).heap.size ≤ b) w1 (.slice ia V ic) X) := Lib.hid (by have := HI1.out; rwa [hal] at this)
  rw [hal]
  clear hX HI1 hal
  go_wp2
  go_loopg [20] n (fun gg u20 wx => ∃ j : Nat, j + gg = n ∧ u20 = .int .i64 j ∧ w1 = wx ∧ Hid (R = holdsGo X (cs.drop j) (ks.drop j)))
  case atStart => exact ⟨0, by omega, rfl, rfl, HR⟩
  case round =>
  clear HR
  obtain ⟨j, hjg, rfl, rfl, HRX⟩ := hrel
  obtain ⟨GK, hGK⟩ : ∃ G, G = gk := ⟨_, rfl⟩
  subst hGK
  by_cases hj : j < n
  case neg =>
    have HF : Hid (R = true) := Lib.hid (by rw [HRX.out, List.drop_eq_nil_of_le (by have := HN.out; omega)]; rfl)
    have hk2 : n ≤ j := by omega
    clear HRX hj
    go_wp2
    go_ret
    exact ⟨by rw [HF.out]; rfl, HB1.out⟩
  obtain ⟨x, hxx, e⟩ := drop_at (xs := cs) (k := j) (by have := HN.out; omega)
  have hcs := HX1.out
  obtain ⟨b, o, u, rfl, _, hb, hcc, hu⟩ := hcs.at hxx
  obtain ⟨ua, un, uc, rfl, HU, hun⟩ := hu.form'
  have HUI := Lib.hid hu
  have HUL : Hid (∀ l ∈ x, LitOk V l) := Lib.hid (HLO.out x (List.mem_of_getElem? hxx))
  obtain ⟨kb, hkb⟩ : ∃ b, ks.getD j false = b := ⟨_, rfl⟩
  have HE : Hid (R = if kb = false then holdsGo X (cs.drop (j + 1)) (ks.drop (j + 1)) else if ((x.drop 0).any (litT X)) = false then false else holdsGo X (cs.drop (j + 1)) (ks.drop (j + 1))) := Lib.hid (by rw [HRX.out, holdsGo_at e, hkb]; rfl)
  have HKB := Lib.hid hkb
  clear HRX e hxx hcs hu hkb
  go_upto_region 5 with fail
  go_cut [33] (fun u33 wx => u33 = .bool (!kb) ∧ w1 = wx)
  case first =>
    obtain ⟨hkl, ⟨h1, h2⟩ | ⟨ad, kc', h1, h2⟩⟩ := HFL1.out
    · injection h1 with h1 h3 h4
      subst h1 h3 h4
      have HK1 : Hid (kb = true) := Lib.hid (by rw [← HKB.out, h2, List.getD, List.getElem?_replicate, if_pos (by have := HN.out; omega)]; rfl)
      simp only [Option.isNone_none] at hnil
      clear h2 hkl
      go_wp2
      go_meet
      exact ⟨by rw [HK1.out]; rfl, rfl⟩
    · injection h1 with h1 h3 h4
      subst h1 h3 h4
      obtain ⟨y, hy⟩ : ∃ y, ks[j]? = some y := ⟨_, List.getElem?_eq_getElem (by have := HN.out; omega)⟩
      obtain ⟨kb2, ko, hae, _, hkb2, hkc⟩ := h2.at hy
      injection hae with hae
      subst hae
      have HK1 : Hid (kb = y) := Lib.hid (by rw [← HKB.out, List.getD, hy]; rfl)
      simp only [Option.isNone_some] at hnil
      have hjn : j < cs.length := by have := HN.out; omega
      clear h2 hkl hy
      go_wp2
      go_meet
      exact ⟨by rw [HK1.out], rfl⟩
  case rest =>
  obtain ⟨rfl, rfl⟩ := hcut
  clear HKB hnil
  rcases bool2 kb with rfl | rfl
  case inr =>
    have HF : Hid (R = holdsGo X (cs.drop (j + 1)) (ks.drop (j + 1))) := Lib.hid (by rw [HE.out, if_pos rfl])
    clear HE
    go_wp2
    go_roundg (GK - 1)
    case measure => omega
    case rel => exact ⟨j + 1, by omega, by go_num, rfl, HF⟩
  obtain ⟨T, hT⟩ : ∃ T, (x.drop 0).any (litT X) = T := ⟨_, rfl⟩
  have HE2 : Hid (R = if T = false then false else holdsGo X (cs.drop (j + 1)) (ks.drop (j + 1))) := Lib.hid (by rw [HE.out, if_neg (by simp), hT])
  have HT : Hid (T = (false || (x.drop 0).any (litT X))) := Lib.hid (by rw [hT]; rfl)
  clear HE hT
  go_wp2
  go_loopg [10, 36] un (fun gg u10 u36 wx => ∃ (i : Nat) (b : Bool), i + gg = un ∧ u36 = .int .i64 i ∧ u10 = .bool b ∧ w1 = wx ∧ Hid (T = (b || (x.drop i).any (litT X))))
  case atStart => exact ⟨0, false, by omega, rfl, rfl, rfl, HT⟩
  case round =>
  clear HT
  obtain ⟨i, bb, hig, rfl, rfl, rfl, HT⟩ := hrel
  by_cases hi : i < un
  case neg =>
    have HT2 : Hid (T = bb) := Lib.hid (by rw [HT.out, List.drop_eq_nil_of_le (by have := HU.out; omega)]; simp)
    have hk2 : un ≤ i := by omega
    clear hi HT
    rcases bool2 bb with rfl | rfl
    · have HF : Hid (R = holdsGo X (cs.drop (j + 1)) (ks.drop (j + 1))) := Lib.hid (by rw [HE2.out, HT2.out, if_neg (by simp)])
      clear HE2 HT2
      go_wp2
      go_roundg (GK - 1)
      case measure => omega
      case rel => exact ⟨j + 1, by omega, by go_num, rfl, HF⟩
    · have HF : Hid (R = false) := Lib.hid (by rw [HE2.out, HT2.out, if_pos rfl])
      clear HE2 HT2
      go_wp2
      try rw [Exit.noGoto_ret]
      go_ret
      exact ⟨by rw [HF.out]; rfl, HB1.out⟩
  obtain ⟨y, hyy, ey⟩ := drop_at (xs := x) (k := i) (by have := HU.out; omega)
  have hui := HUI.out
  obtain ⟨yb, yo, rfl, _, hyb, hyc, _⟩ := hui.at hyy
  have hylo := HUL.out y (List.mem_of_getElem? hyy)
  have hva := fun w => variable_any y w (by obtain ⟨_, h2, h3⟩ := hylo; omega)
  obtain ⟨v', hv'⟩ : ∃ v', v' + 1 = y.natAbs := ⟨y.natAbs - 1, by have := hylo.1; omega⟩
  obtain ⟨bx, hbx⟩ : ∃ b, X[v']? = some b := ⟨_, List.getElem?_eq_getElem (by obtain ⟨_, h2, h3⟩ := hylo; have := HAL.out; omega)⟩
  have hif := HIF.out
  obtain ⟨xb, xo, rfl, _, hxb, hxc⟩ := hif.at hbx
  obtain ⟨pb, hpb⟩ : ∃ p, decide (0 < y) = p := ⟨_, rfl⟩
  have HTN : Hid (T = ((bb || (bx == pb)) || (x.drop (i + 1)).any (litT X))) := Lib.hid (by
    rw [HT.out, ey, List.any_cons, litT, show y.natAbs - 1 = v' by omega, hpb, List.getD, hbx, Bool.or_assoc]; rfl)
  have hvm : varM y = ((v' + 1 : Nat) : Int) := by rw [varM_pos]; omega
  rw [hvm] at hva
  have HVA := Lib.hid hva
  have hw1 : IntKind.i64.wrap (((v' + 1 : Nat) : Int) - 1) = (v' : Int) := by rw [IntWalk.i64_in _ ⟨by obtain ⟨_, h2, h3⟩ := hylo; omega, by obtain ⟨_, h2, h3⟩ := hylo; omega⟩]; omega
  have hw2 : (((v' + 1 : Nat) : Int) - 1) = (v' : Int) := by omega
  have hv3 : v' < V := by obtain ⟨_, h2, h3⟩ := hylo; omega
  clear HT ey hyy hui hif hva hvm hbx hv' hylo
  obtain ⟨T2, hT2⟩ : ∃ t, (bx == pb) = t := ⟨_, rfl⟩
  rw [hT2] at HTN
  have HT2 := Lib.hid hT2
  clear hT2
  go_upto_region 10 with fail
  go_cut [48] (fun u48 wx => u48 = .bool T2 ∧ w1 = wx)
  case first =>
    rcases bool2 pb with rfl | rfl
    · have hpp : 0 < y := of_decide_eq_true hpb
      rcases bool2 bx with rfl | rfl
      all_goals
        go_wp2_with fail
        refine (HVA.out _).mono ?_
        rintro e w2 ⟨rfl, rfl⟩
        go_wp2_with fail
        go_meet
        exact ⟨by rw [← HT2.out]; rfl, rfl⟩
    · have hpp : ¬ 0 < y := of_decide_eq_false hpb
      rcases bool2 bx with rfl | rfl
      all_goals
        go_wp2_with fail
        refine (HVA.out _).mono ?_
        rintro e w2 ⟨rfl, rfl⟩
        go_wp2_with fail
        go_meet
        exact ⟨by rw [← HT2.out]; rfl, rfl⟩
  case rest =>
  obtain ⟨rfl, rfl⟩ := hcut
  clear hw1 hw2 hxc hv3 HT2 hpb
  rcases bool2 T2 with rfl | rfl
  · have HTF : Hid (T = (true || (x.drop (i + 1)).any (litT X))) := Lib.hid (by rw [HTN.out]; simp)
    go_wp2
    go_roundg (gk - 1)
    case measure => omega
    case rel => exact ⟨i + 1, true, by omega, by go_num, rfl, rfl, HTF⟩
  · have HTF : Hid (T = (bb || (x.drop (i + 1)).any (litT X))) := Lib.hid (by rw [HTN.out]; simp)
    go_wp2
    go_roundg (gk - 1)
    case measure => omega
    case rel => exact ⟨i + 1, bb, by omega, by go_num, rfl, rfl, HTF⟩
end Go.Proofs.Ytjbhglmmakkkgaa
