/- Walk: the statement's backbone. -/
import Derived.Test.YtjbhglmmakkkgaaSu
namespace Go.Proofs.Ytjbhglmmakkkgaa
open Go.ChangeShapes Go.WideShapes Go.ChangeAt Go.RowKit
set_option linter.unusedVariables false

def anyGo (P : Nat → Bool) : Nat → Nat → Bool
  | 0, _ => false
  | f + 1, k => P k || anyGo P f (k + 1)
theorem anyGo_iff {P : Nat → Bool} : ∀ (f k : Nat), anyGo P f k = true ↔ ∃ i, k ≤ i ∧ i < k + f ∧ P i = true
  | 0, k => by simp [anyGo]; omega
  | f + 1, k => by
    rw [anyGo, Bool.or_eq_true, anyGo_iff f (k + 1)]
    constructor
    · rintro (h | ⟨i, h1, h2, h3⟩)
      · exact ⟨k, Nat.le_refl _, by omega, h⟩
      · exact ⟨i, by omega, by omega, h3⟩
    · rintro ⟨i, h1, h2, h3⟩
      by_cases e : i = k
      · subst e; exact .inl h3
      · exact .inr ⟨i, by omega, by omega, h3⟩
def yesP (V : Nat) (cs : List (List Int)) (v k : Nat) : Bool := modelB cs (asgM V k) && (asgM V k).getD (v - 1) false
def noP (V : Nat) (cs : List (List Int)) (v k : Nat) : Bool := modelB cs (asgM V k) && !(asgM V k).getD (v - 1) false
def bbLit (y n : Bool) (v : Nat) : List Int := if (y != n) = true then (if y = true then [(v : Int)] else [-(v : Int)]) else []
def sbackGo (V : Nat) (cs : List (List Int)) : Nat → Nat → List Int
  | 0, _ => []
  | f + 1, v => bbLit (anyGo (yesP V cs v) (2 ^ V) 0) (anyGo (noP V cs v) (2 ^ V) 0) v ++ sbackGo V cs f (v + 1)
def sbackM (V : Nat) (cs : List (List Int)) : List Int := sbackGo V cs V 1
theorem modelB_app {cs ds : List (List Int)} {x : List Bool} : modelB (cs ++ ds) x = (modelB cs x && modelB ds x) := by
  unfold modelB
  rw [List.all_append]
theorem modelB_lit {x : List Bool} {l : Int} : modelB [[l]] x = litT x l := by
  unfold modelB
  simp
theorem yes_iff {V v : Nat} {cs : List (List Int)} : anyGo (yesP V cs v) (2 ^ V) 0 = true ↔ ∃ y, y.length = V ∧ modelB cs y = true ∧ y.getD (v - 1) false = true := by
  rw [anyGo_iff]
  constructor
  · rintro ⟨i, _, h2, h3⟩
    unfold yesP at h3
    rw [Bool.and_eq_true] at h3
    exact ⟨asgM V i, asg_len _ _, h3.1, h3.2⟩
  · rintro ⟨y, h1, h2, h3⟩
    refine ⟨val y, Nat.zero_le _, by have := val_lt y; rw [h1] at this; omega, ?_⟩
    have := asg_of_val y
    rw [h1] at this
    unfold yesP
    rw [this, h2, h3]
    rfl
theorem no_iff {V v : Nat} {cs : List (List Int)} : anyGo (noP V cs v) (2 ^ V) 0 = true ↔ ∃ y, y.length = V ∧ modelB cs y = true ∧ y.getD (v - 1) false = false := by
  rw [anyGo_iff]
  constructor
  · rintro ⟨i, _, h2, h3⟩
    unfold noP at h3
    rw [Bool.and_eq_true] at h3
    exact ⟨asgM V i, asg_len _ _, h3.1, by simpa using h3.2⟩
  · rintro ⟨y, h1, h2, h3⟩
    refine ⟨val y, Nat.zero_le _, by have := val_lt y; rw [h1] at this; omega, ?_⟩
    have := asg_of_val y
    rw [h1] at this
    unfold noP
    rw [this, h2, h3]
    rfl
/-- the program's backbone is the statement's -/
theorem back_eq {V : Nat} {cs : List (List Int)} {x : List Bool} (hcs : LitsOk V cs) (hx : Mod V cs [] x) : ∀ (f v : Nat), 1 ≤ v → v + f ≤ V + 1 → backGo V cs x f v = sbackGo V cs f v
  | 0, _, _, _ => rfl
  | f + 1, v, h1, h2 => by
    rw [backGo, sbackGo, back_eq hcs hx f (v + 1) (by omega) (by omega)]
    congr 1
    have hsat : ∀ l, LitOk V l → ((solveM V cs [l]).1.isSome = true ↔ ∃ y, y.length = V ∧ modelB cs y = true ∧ litT y l = true) := fun l hl => by
      have hok := solveM_ok (lits := [l]) hcs (by simpa using hl)
      rw [show cs ++ [l].map (fun l => [l]) = cs ++ [[l]] from rfl] at hok
      rcases hr : (solveM V cs [l]).1 with _ | y
      · simp only [Option.isSome_none, Bool.false_eq_true, false_iff]
        rintro ⟨y, k1, k2, k3⟩
        exact (hok.absent hr).1 y ⟨k1, by rw [modelB_app, k2, modelB_lit, k3]; rfl, by simp⟩
      · obtain ⟨⟨k1, k2, _⟩, _⟩ := hok.found y hr
        rw [modelB_app, modelB_lit, Bool.and_eq_true] at k2
        simp only [Option.isSome_some, true_iff]
        exact ⟨y, k1, k2.1, k2.2⟩
    have hv : LitOk V (v : Int) := by unfold LitOk; omega
    rcases hb : x.getD (v - 1) false with _ | _
    · have hL : bitLit x v = -(v : Int) := by rw [bitLit, hb, if_neg (by simp)]
      have hno : anyGo (noP V cs v) (2 ^ V) 0 = true := no_iff.2 ⟨x, hx.1, hx.2.1, hb⟩
      have hs := hsat _ hv
      rw [hL, Int.neg_neg, hno]
      rcases hy : anyGo (yesP V cs v) (2 ^ V) 0 with _ | _
      · have : ¬ (solveM V cs [(v : Int)]).1.isSome = true := fun h => by
          obtain ⟨y, k1, k2, k3⟩ := hs.1 h
          rw [litT_pos h1] at k3
          rw [yes_iff.2 ⟨y, k1, k2, k3⟩] at hy
          cases hy
        rw [if_neg this]
        rfl
      · have : (solveM V cs [(v : Int)]).1.isSome = true := by
          obtain ⟨y, k1, k2, k3⟩ := yes_iff.1 hy
          exact hs.2 ⟨y, k1, k2, by rw [litT_pos h1]; exact k3⟩
        rw [if_pos this]
        rfl
    · have hL : bitLit x v = (v : Int) := by rw [bitLit, hb, if_pos rfl]
      have hyes : anyGo (yesP V cs v) (2 ^ V) 0 = true := yes_iff.2 ⟨x, hx.1, hx.2.1, hb⟩
      have hs := hsat _ hv.neg
      rw [hL, hyes]
      rcases hy : anyGo (noP V cs v) (2 ^ V) 0 with _ | _
      · have : ¬ (solveM V cs [-(v : Int)]).1.isSome = true := fun h => by
          obtain ⟨y, k1, k2, k3⟩ := hs.1 h
          rw [litT_nat h1] at k3
          rw [no_iff.2 ⟨y, k1, k2, by simpa using k3⟩] at hy
          cases hy
        rw [if_neg this]
        rfl
      · have : (solveM V cs [-(v : Int)]).1.isSome = true := by
          obtain ⟨y, k1, k2, k3⟩ := no_iff.1 hy
          exact hs.2 ⟨y, k1, k2, by rw [litT_nat h1, k3]; rfl⟩
        rw [if_pos this]
        rfl

def IntsP (W : World) (xs : List Int) (e : Ending) (w' : World) : Prop := ∃ v, e = .returned v ∧ Ints (fun _ => True) w' v xs ∧ Below W.heap.size W w'
set_option maxRecDepth 100000 in
set_option maxHeartbeats 8000000 in
theorem backbone_any {F : Nat → Prop} (V : Nat) (keep : Int) (cv : Value) (cs : List (List Int)) (w : World) (hc : Clss F w cv cs) (hlo : LitsOk V cs) (hV : V ≤ 24) :
    Calls Try.prog 24 #[.agg #[.int .i64 (V : Int), .int .i64 keep, cv]] w (IntsP w (sbackM V cs)) := by
  obtain ⟨a, n, c, rfl, HN, hn⟩ := hc.form'
  have hb : Below w.heap.size w (w.alloc (.cells #[.int .i64 (V : Int), .int .i64 keep, .slice a n c] 24)) := (Below.refl _ _).alloc (Nat.le_refl _) _
  have hinfo : (Try.prog.info? 3).map (fun i => (i.zero, i.size, i.bytes)) = some (some (.int .i64 0), 1, 8) := by kernel_rfl
  have HI := Lib.hid hinfo
  have HB := Lib.hid hb
  have HX := Lib.hid (hc.below hb)
  obtain ⟨R, hR⟩ : ∃ R, sbackM V cs = R := ⟨_, rfl⟩
  rw [hR]
  have HR : Hid (R = [] ++ sbackGo V cs V 1) := Lib.hid hR.symm
  obtain ⟨P, hP⟩ : ∃ P, 2 ^ V = P := ⟨_, rfl⟩
  have hPI : (2 : Int) ^ V = (P : Int) := by rw [← hP]; simp
  have hP24 : P ≤ 16777216 := by rw [← hP]; exact pow24 hV
  have hpw := fun w => power_any V w hV
  simp only [hPI] at hpw
  have HPW := Lib.hid hpw
  have HPP := Lib.hid hP
  have HLO := Lib.hid hlo
  clear hR hb hc hlo hP hPI hpw hinfo
  go_enter Try.func24, Try.ntmps24
  have c0 : (w.alloc (.cells #[.int .i64 (V : Int), .int .i64 keep, .slice a n c] 24)).cell? ⟨w.heap.size, 0, none⟩ = some (.int .i64 V) := by simp
  have c1 : (w.alloc (.cells #[.int .i64 (V : Int), .int .i64 keep, .slice a n c] 24)).cell? ⟨w.heap.size, 1, none⟩ = some (.int .i64 keep) := by simp
  have c2 : (w.alloc (.cells #[.int .i64 (V : Int), .int .i64 keep, .slice a n c] 24)).cell? ⟨w.heap.size, 2, none⟩ = some (.slice a n c) := by simp
  go_upto_region 1 with fail
  generalize w.alloc (.cells #[.int .i64 (V : Int), .int .i64 keep, .slice a n c] 24) = w0 at *
  have hs0 := block_lt c0
  have hsw := HB.out.size
  have HB0 : Hid (Below w0.heap.size w0 (w0.alloc (.cells #[] 3))) := Lib.hid ((Below.refl _ _).alloc (Nat.le_refl _) _)
  have HO0 : Hid (OwnI (w0.alloc (.cells #[] 3)) w0.heap.size (.slice (some ⟨w0.heap.size, 0, none⟩) 0 0) []) := Lib.hid (by simpa [OwnI] using own_new (base := w0.heap.size) (w := w0) #[] 3 (Nat.le_refl _) (by simp))
  go_wp2
  go_loopg [3, 4] V (fun gg u3 u4 wx => ∃ (v : Nat) (acc : List Int), 1 ≤ v ∧ v + gg = V + 1 ∧ u4 = .int .i64 v ∧ Hid (OwnI wx w0.heap.size u3 acc) ∧ Hid (Below w0.heap.size w0 wx) ∧ Hid (R = acc ++ sbackGo V cs gg v) ∧ acc.length + 1 ≤ v ∧ Hid (∀ x ∈ acc, I64 x))
  case atStart => exact ⟨1, [], by omega, by omega, rfl, HO0, HB0, HR, by simp, Lib.hid (by simp)⟩
  case round =>
  clear HO0 HB0 HR
  obtain ⟨v, acc, hv1, hvg, rfl, HOW, HBX, HRX, hal, HAX⟩ := hrel
  obtain ⟨GK, hGK⟩ : ∃ G, G = gk := ⟨_, rfl⟩
  subst hGK
  have f0 := below_c HBX.out hs0 c0
  have hsx := HBX.out.size
  by_cases hv : v ≤ V
  case neg =>
    have HFF : Hid (R = acc) := Lib.hid (by rw [HRX.out, show GK = 0 by omega, sbackGo, List.append_nil])
    have hv3 : V < v := by omega
    clear hv HRX
    go_wp2
    go_ret
    exact ⟨_, rfl, by rw [HFF.out]; exact (HOW.out.ints (by omega) HAX.out).mono fun _ _ => trivial, HB.out.trans (HBX.out.mono hsw)⟩
  obtain ⟨f, rfl⟩ : ∃ f, GK = f + 1 := ⟨GK - 1, by omega⟩
  obtain ⟨ua, uc, rfl⟩ : ∃ a c, u3 = .slice a acc.length c := own_form HOW.out
  obtain ⟨YES, hY⟩ : ∃ t, anyGo (yesP V cs v) (2 ^ V) 0 = t := ⟨_, rfl⟩
  obtain ⟨NO, hN⟩ : ∃ t, anyGo (noP V cs v) (2 ^ V) 0 = t := ⟨_, rfl⟩
  have HRY : Hid (R = acc ++ (bbLit YES NO v ++ sbackGo V cs f (v + 1))) := Lib.hid (by rw [HRX.out, sbackGo, hY, hN])
  have HY : Hid (YES = (false || anyGo (yesP V cs v) P 0)) := Lib.hid (by rw [← hY, HPP.out]; rfl)
  have HNN : Hid (NO = (false || anyGo (noP V cs v) P 0)) := Lib.hid (by rw [← hN, HPP.out]; rfl)
  obtain ⟨v', hv'⟩ : ∃ v', v' + 1 = v := ⟨v - 1, by omega⟩
  have HV' := Lib.hid hv'
  have hw1 : IntKind.i64.wrap ((v : Int) - 1) = (v' : Int) := by rw [IntWalk.i64_in _ ⟨by omega, by omega⟩]; omega
  have hw0 : wrap64 ((v : Int) - 1) = (v' : Int) := by rw [IntWalk.wrap64_in _ ⟨by omega, by omega⟩]; omega
  have hw2 : ((v : Int) - 1) = (v' : Int) := by omega
  have hv2 : v' < V := by omega
  clear hY hN HRX hv'
  go_wp2_with fail
  refine (HPW.out _).mono ?_
  rintro e w1 ⟨rfl, rfl⟩
  go_wp2_with fail
  go_loopg [5, 6, 18] P (fun gg u5 u6 u18 wx => ∃ (k : Nat) (y nn : Bool), k + gg = P ∧ u18 = .int .i64 k ∧ u5 = .bool y ∧ u6 = .bool nn ∧ Hid (OwnI wx w0.heap.size (.slice ua acc.length uc) acc) ∧ Hid (Below w0.heap.size w0 wx) ∧ Hid (YES = (y || anyGo (yesP V cs v) gg k)) ∧ Hid (NO = (nn || anyGo (noP V cs v) gg k)))
  case atStart => exact ⟨0, false, false, by omega, rfl, rfl, rfl, HOW, HBX, HY, HNN⟩
  case round =>
  clear HOW HBX HY HNN f0 hsx
  obtain ⟨k, y, nn, hkg, rfl, rfl, rfl, HOW, HBX, HY, HNN⟩ := hrel
  have f0 := below_c HBX.out hs0 c0
  have f1 := below_c HBX.out hs0 c1
  have f2 := below_c HBX.out hs0 c2
  have hsx := HBX.out.size
  by_cases hk : k < P
  case neg =>
    have hYY : YES = y := by rw [HY.out, show gk = 0 by omega, anyGo]; simp
    have hNN : NO = nn := by rw [HNN.out, show gk = 0 by omega, anyGo]; simp
    subst hYY hNN
    have hk2 : P ≤ k := by omega
    have hown := HOW.out
    unfold OwnI at hown
    clear HY HNN hk
    rcases bool2 YES with rfl | rfl <;> rcases bool2 NO with rfl | rfl
    · have HRZ : Hid (R = acc ++ sbackGo V cs f (v + 1)) := Lib.hid HRY.out
      clear HRY hown
      go_wp2
      go_roundg f
      case measure => omega
      case rel => exact ⟨v + 1, acc, by omega, by omega, by go_num, HOW, HBX, HRZ, by omega, HAX⟩
    · have HRZ : Hid (R = (acc ++ [(v : Int)]) ++ sbackGo V cs f (v + 1)) := Lib.hid (by rw [HRY.out, List.append_assoc]; rfl)
      clear HRY
      go_wp2_with (at_builtin; go_loud (refine wpList_push1 rfl _ _ 25 rfl 3 (.int .i64 0) 8 Try.underlying25 HI.out rfl w0.heap.size (.slice ua acc.length uc) acc.length _ _ (.int .i64 (v : Int)) rfl rfl hown rfl (by omega) (by omega) (by omega) ?_); intro g5 cap5 w5 hown5 hg5 hs5 hgb hgl hat; have HB5 := Lib.hid (HBX.out.grown hg5 (by omega) (fun k hk => (hown.lt k hk).1)); have HO5 := Lib.hid (OwnI.snoc rfl hown5); clear hown5 hg5 hown)
      go_roundg f
      case measure => omega
      case rel =>
        refine ⟨v + 1, acc ++ [(v : Int)], by omega, by omega, by go_num, HO5, HB5, HRZ, by simp; omega, Lib.hid (fun x hx => ?_)⟩
        rcases List.mem_append.1 hx with hx | hx
        · exact HAX.out x hx
        · simp at hx; subst hx; unfold I64; omega
    · have HRZ : Hid (R = (acc ++ [-(v : Int)]) ++ sbackGo V cs f (v + 1)) := Lib.hid (by rw [HRY.out, List.append_assoc]; rfl)
      clear HRY
      go_wp2_with (at_builtin; go_loud (refine wpList_push1 rfl _ _ 25 rfl 3 (.int .i64 0) 8 Try.underlying25 HI.out rfl w0.heap.size (.slice ua acc.length uc) acc.length _ _ (.int .i64 (-(v : Int))) rfl rfl hown rfl (by omega) (by omega) (by omega) ?_); intro g5 cap5 w5 hown5 hg5 hs5 hgb hgl hat; have HB5 := Lib.hid (HBX.out.grown hg5 (by omega) (fun k hk => (hown.lt k hk).1)); have HO5 := Lib.hid (OwnI.snoc rfl hown5); clear hown5 hg5 hown)
      go_roundg f
      case measure => omega
      case rel =>
        refine ⟨v + 1, acc ++ [-(v : Int)], by omega, by omega, by go_num, HO5, HB5, HRZ, by simp; omega, Lib.hid (fun x hx => ?_)⟩
        rcases List.mem_append.1 hx with hx | hx
        · exact HAX.out x hx
        · simp at hx; subst hx; unfold I64; omega
    · have HRZ : Hid (R = acc ++ sbackGo V cs f (v + 1)) := Lib.hid HRY.out
      clear HRY hown
      go_wp2
      go_roundg f
      case measure => omega
      case rel => exact ⟨v + 1, acc, by omega, by omega, by go_num, HOW, HBX, HRZ, by omega, HAX⟩
  obtain ⟨f2', rfl⟩ : ∃ f, gk = f + 1 := ⟨gk - 1, by omega⟩
  have hho := holds_any V k keep (.slice a n c) (.slice none 0 0) cs (List.replicate cs.length true) wr (HX.out.below HBX.out) (Flags.nil _ _) HLO.out hV (by omega)
  rw [holds_model cs _ rfl] at hho
  obtain ⟨T, hT⟩ : ∃ T, modelB cs (asgM V k) = T := ⟨_, rfl⟩
  obtain ⟨bt, hbt⟩ : ∃ b, (asgM V k)[v']? = some b := ⟨_, List.getElem?_eq_getElem (by rw [asg_len]; exact hv2)⟩
  have HYE : Hid (YES = (y || ((T && bt) || anyGo (yesP V cs v) f2' (k + 1)))) := Lib.hid (by rw [HY.out, anyGo, yesP, hT, show v - 1 = v' by have := HV'.out; omega, List.getD, hbt]; rfl)
  have HNE : Hid (NO = (nn || ((T && !bt) || anyGo (noP V cs v) f2' (k + 1)))) := Lib.hid (by rw [HNN.out, anyGo, noP, hT, show v - 1 = v' by have := HV'.out; omega, List.getD, hbt]; rfl)
  rw [hT] at hho
  have HHO := Lib.hid hho
  have HBT := Lib.hid hbt
  clear hho hT hbt HY HNN
  go_wp2_with fail
  refine HHO.out.mono ?_
  rintro e w5 ⟨rfl, hb5⟩
  have HB5 : Hid (Below w0.heap.size w0 w5) := Lib.hid (HBX.out.trans (hb5.mono hsx))
  have HO5 : Hid (OwnI w5 w0.heap.size (.slice ua acc.length uc) acc) := Lib.hid (own_below HOW.out hb5)
  have g0 := below_c HB5.out hs0 c0
  have hs5 := HB5.out.size
  clear hb5 HHO
  rcases bool2 T with rfl | rfl
  case inr =>
    have HY2 : Hid (YES = (y || anyGo (yesP V cs v) f2' (k + 1))) := Lib.hid (by rw [HYE.out]; simp)
    have HN2 : Hid (NO = (nn || anyGo (noP V cs v) f2' (k + 1))) := Lib.hid (by rw [HNE.out]; simp)
    clear HYE HNE
    go_wp2_with fail
    go_roundg f2'
    case measure => omega
    case rel => exact ⟨k + 1, y, nn, by omega, by go_num, rfl, rfl, HO5, HB5, HY2, HN2⟩
  go_wp2_with fail
  refine (assignment_any V k w5 hV (by omega)).mono ?_
  rintro e w6 ⟨iv, rfl, hi6, hb6⟩
  have HB6 : Hid (Below w0.heap.size w0 w6) := Lib.hid (HB5.out.trans (hb6.mono hs5))
  have HO6 : Hid (OwnI w6 w0.heap.size (.slice ua acc.length uc) acc) := Lib.hid (own_below HO5.out hb6)
  obtain ⟨ia, ic, rfl, _⟩ := hi6.form
  rw [asg_len] at hi6 ⊢
  have hbt := HBT.out
  obtain ⟨ib, io, rfl, _, hib, hic⟩ := hi6.at hbt
  clear hi6 hb6 hbt
  rcases bool2 bt with rfl | rfl
  · have HY2 : Hid (YES = (true || anyGo (yesP V cs v) f2' (k + 1))) := Lib.hid (by rw [HYE.out]; simp)
    have HN2 : Hid (NO = (nn || anyGo (noP V cs v) f2' (k + 1))) := Lib.hid (by rw [HNE.out]; simp)
    clear HYE HNE
    go_wp2_with fail
    go_roundg f2'
    case measure => omega
    case rel => exact ⟨k + 1, true, nn, by omega, by go_num, rfl, rfl, HO6, HB6, HY2, HN2⟩
  · have HY2 : Hid (YES = (y || anyGo (yesP V cs v) f2' (k + 1))) := Lib.hid (by rw [HYE.out]; simp)
    have HN2 : Hid (NO = (true || anyGo (noP V cs v) f2' (k + 1))) := Lib.hid (by rw [HNE.out]; simp)
    clear HYE HNE
    go_wp2_with fail
    go_roundg f2'
    case measure => omega
    case rel => exact ⟨k + 1, y, true, by omega, by go_num, rfl, rfl, HO6, HB6, HY2, HN2⟩
end Go.Proofs.Ytjbhglmmakkkgaa
