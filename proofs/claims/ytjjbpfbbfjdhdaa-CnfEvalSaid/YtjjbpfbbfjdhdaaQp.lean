/- Walks: cnf.Eval and its closure. No condition but the lengths. -/
import Derived.Test.YtjjbpfbbfjdhdaaQo
namespace Go.Proofs.Ytjjbpfbbfjdhdaa
open Go.ChangeShapes Go.WideShapes Go.ChangeAt Go.RowKit
set_option linter.unusedVariables false

def InR (inp : List Bool) (x : Int) : Prop := x ≠ 0 ∧ varM x ≤ inp.length
set_option maxHeartbeats 2000000 in
theorem evalc_any (G : Nat → Prop) (inp : List Bool) (g : Nat) (u : Value) (x : Int) (w : World) (hg : w.cell? ⟨g, 0, none⟩ = some u) (hy : Bools G w u inp) (hx : I64 x) (hr : InR inp x) :
    Calls Try.prog 54 #[.int .i64 x, .pointer (some ⟨g, 0, none⟩)] w (QuietPost w (.bool (litT inp x))) := by
  obtain ⟨ia, im, ic, rfl, HM, him⟩ : ∃ a m c, u = .slice a m c ∧ Hid (m = inp.length) ∧ m ≤ 9223372036854775807 := by
    obtain ⟨a, c, h1, h2⟩ := hy.form
    exact ⟨a, _, c, h1, rfl, h2⟩
  obtain ⟨hx0, hxv⟩ := hr
  obtain ⟨q, hq⟩ : ∃ q : Nat, (varM x).toNat - 1 = q := ⟨_, rfl⟩
  have hv1 : 1 ≤ varM x := by unfold varM; split <;> omega
  have hvq : varM x = (q : Int) + 1 := by omega
  have hql : q < inp.length := by omega
  obtain ⟨bt, hbt⟩ : ∃ bt, inp[q]? = some bt := ⟨_, List.getElem?_eq_getElem hql⟩
  obtain ⟨ib, io, rfl, _, hib, hic⟩ := hy.at hbt
  have HMG := fun w => Lib.hid (magnitude_any x w hx)
  rw [hvq] at HMG
  have hqm : q < im := by rw [HM.out]; exact hql
  have hq0 : (0 : Int) ≤ q := by omega
  have hq1 : (q : Int) < im := by omega
  have hwu : IntKind.u64.wrap ((q : Int) + 1 - 1) = (q : Int) := by simp [IntKind.wrap, IntKind.bits, IntKind.signed]; omega
  by_cases hp : 0 < x
  · have hlt : litT inp x = bt := by
      have hxq : x.toNat - 1 = q := by unfold varM at hq; rw [if_neg (by omega)] at hq; exact hq
      unfold litT
      rw [decide_eq_true hp, decide_eq_false (show ¬ x < 0 by omega), hxq]
      simp [List.getD_eq_getElem?_getD, hbt]
    rw [hlt]
    have hd0 : decide (0 < x) = true := decide_eq_true hp
    clear hp hlt hbt hvq hq hxv hx0 hv1 hql
    rcases bool2 bt with rfl | rfl
    · go_enter Try.func54, Try.ntmps54
      go_wp2
      go_quiet ((go_at_call 55; exact Calls.quiet_of_same (HMG _).out))
      go_wp2
      go_ret
      exact ⟨rfl, _, rfl⟩
    · go_enter Try.func54, Try.ntmps54
      go_wp2
      go_quiet ((go_at_call 55; exact Calls.quiet_of_same (HMG _).out))
      go_wp2
      go_ret
      exact ⟨rfl, _, rfl⟩
  · have hlt : litT inp x = !bt := by
      have hxq : (-x).toNat - 1 = q := by unfold varM at hq; rw [if_pos (by omega)] at hq; exact hq
      unfold litT
      rw [decide_eq_false hp, decide_eq_true (show x < 0 by omega), hxq]
      simp [List.getD_eq_getElem?_getD, hbt]
    rw [hlt]
    have hd0 : decide (0 < x) = false := decide_eq_false hp
    clear hp hlt hbt hvq hq hxv hx0 hv1 hql
    rcases bool2 bt with rfl | rfl
    · go_enter Try.func54, Try.ntmps54
      go_wp2
      go_quiet ((go_at_call 55; exact Calls.quiet_of_same (HMG _).out))
      go_wp2
      go_ret
      exact ⟨rfl, _, rfl⟩
    · go_enter Try.func54, Try.ntmps54
      go_wp2
      go_quiet ((go_at_call 55; exact Calls.quiet_of_same (HMG _).out))
      go_wp2
      go_ret
      exact ⟨rfl, _, rfl⟩
def evGo (inp : List Bool) : List Int → Nat → Int
  | [], _ => -1
  | x :: r, i => if litT inp x = true then i else evGo inp r (i + 1)
theorem evGo_any (inp : List Bool) : ∀ (xs : List Int) (i : Nat), decide (0 ≤ evGo inp xs i) = xs.any (litT inp)
  | [], i => by simp [evGo]
  | x :: r, i => by
    rw [evGo, List.any_cons]
    by_cases h : litT inp x = true
    · rw [if_pos h, h]; simp
    · rw [if_neg h, evGo_any inp r]; simp [h]
set_option maxHeartbeats 1000000 in
theorem indexe_any (F G : Nat → Prop) (inp : List Bool) (g : Nat) (u v : Value) (xs : List Int) (w : World) (hx : Ints F w v xs) (hg : w.cell? ⟨g, 0, none⟩ = some u) (hyb : Bools G w u inp) (hir : ∀ x ∈ xs, InR inp x) :
    Calls Try.prog 73 #[v, .func (.func 54) #[] #[.pointer (some ⟨g, 0, none⟩)]] w (QuietPost w (.int .i64 (evGo inp xs 0))) := by
  obtain ⟨a, n, c, rfl, HN, hn⟩ := hx.form'
  obtain ⟨R, hR⟩ : ∃ R, evGo inp xs 0 = R := ⟨_, rfl⟩
  have HR : Hid (R = evGo inp (xs.drop 0) 0) := Lib.hid hR.symm
  rw [hR]
  have HX := Lib.hid hx
  have HG := Lib.hid hg
  have HY := Lib.hid hyb
  have HIR := Lib.hid hir
  clear hR hx hg hyb hir
  go_enter Try.func73, Try.ntmps73
  go_wp2
  go_loopg [4, 8] n (fun g u4 u8 wx => ∃ k nq : Nat, k + g = n ∧ u8 = .int .i64 k ∧ u4 = .int .i64 0 ∧ wx = w.drewN nq ∧ Hid (R = evGo inp (xs.drop k) k))
  case atStart => exact ⟨0, 0, by omega, rfl, rfl, rfl, HR⟩
  case round =>
    obtain ⟨k, nq, hk, rfl, rfl, rfl, hinv⟩ := hrel
    by_cases hlt : k < n
    · obtain ⟨y, hy, e⟩ := drop_at (xs := xs) (k := k) (by have := HN.out; omega)
      have hxs := HX.out
      obtain ⟨b, off, rfl, _, hb, hc, hyi⟩ := hxs.at hy
      have HI : Hid (R = if litT inp y = true then (k : Int) else evGo inp (xs.drop (k + 1)) (k + 1)) := Lib.hid (by rw [hinv.out, e]; rfl)
      obtain ⟨B, hB⟩ : ∃ B, litT inp y = B := ⟨_, rfl⟩
      have hoc := fun nq => evalc_any _ inp g _ y (w.drewN nq) HG.out (HY.out.drewN nq) hyi (HIR.out y (List.mem_of_getElem? hy))
      rw [hB] at HI hoc
      have HOC := Lib.hid hoc
      clear hinv e hy hB hoc hxs hyi
      rcases bool2 B with rfl | rfl
      · have HF : Hid (R = k) := Lib.hid (by rw [HI.out, if_pos rfl])
        go_wp2_with fail
        refine (HOC.out _).mono ?_
        rintro e w' ⟨rfl, n1, rfl⟩
        go_wp2_with fail
        go_ret
        exact ⟨by rw [HF.out]; rfl, _, rfl⟩
      · have HF : Hid (R = evGo inp (xs.drop (k + 1)) (k + 1)) := Lib.hid (by rw [HI.out, if_neg (by simp)])
        go_wp2_with fail
        refine (HOC.out _).mono ?_
        rintro e w' ⟨rfl, n1, rfl⟩
        go_wp2_with fail
        go_roundg (gk - 1)
        case measure => omega
        case rel => exact ⟨k + 1, _, by omega, by go_num, rfl, rfl, HF⟩
    · have HF : Hid (R = -1) := Lib.hid (by rw [hinv.out, List.drop_eq_nil_of_le (by have := HN.out; omega)]; rfl)
      clear hinv
      go_wp2
      go_ret
      exact ⟨by rw [HF.out]; rfl, nq, rfl⟩
theorem containse_any (F G : Nat → Prop) (inp : List Bool) (g : Nat) (u v : Value) (xs : List Int) (w : World) (hx : Ints F w v xs) (hg : w.cell? ⟨g, 0, none⟩ = some u) (hyb : Bools G w u inp) (hir : ∀ x ∈ xs, InR inp x) :
    Calls Try.prog 53 #[v, .func (.func 54) #[] #[.pointer (some ⟨g, 0, none⟩)]] w (QuietPost w (.bool (xs.any (litT inp)))) := by
  have hc := evGo_any inp xs 0
  have hI := indexe_any F G inp g u v xs w hx hg hyb hir
  obtain ⟨R, hR⟩ : ∃ R, evGo inp xs 0 = R := ⟨_, rfl⟩
  rw [hR] at hc hI
  rw [← hc]
  have HI := Lib.hid hI
  clear hc hR hI hx hg hyb hir
  go_enter Try.func53, Try.ntmps53
  go_wp2_with fail
  refine HI.out.mono ?_
  rintro e w' ⟨rfl, n1, rfl⟩
  go_wp2_with fail
  go_ret
  exact ⟨rfl, _, rfl⟩

/-- Eval: the value and the code -/
def evalM (vars keep : Int) (cs : List (List Int)) (inp : List Bool) : Bool × Int :=
  if checkM vars keep cs ≠ 0 then (false, checkM vars keep cs) else if (inp.length : Int) ≠ vars then (false, 2) else (trueM cs inp, 0)
theorem check_lits {vars keep : Int} {cs : List (List Int)} (h : checkM vars keep cs = 0) : 0 ≤ vars ∧ ∀ c ∈ cs, ∀ x ∈ c, x ≠ 0 ∧ varM x ≤ vars := by
  unfold checkM at h
  split at h
  · cases h
  split at h
  · cases h
  split at h
  · cases h
  rename_i h1 _ h2
  refine ⟨by omega, fun c hc x hx => ?_⟩
  have h3 : (cs.any fun c => c.any (outB vars.toNat)) = false := by simpa using h2
  have := plain_lits (cs := cs) (n := vars.toNat) (by unfold plainM; rw [h3]; rfl) c hc x hx
  exact ⟨this.1, by omega⟩
def EvalPost (W : World) (vars keep : Int) (cs : List (List Int)) (inp : List Bool) (e : Ending) (w' : World) : Prop :=
  e = .returned (.tuple #[.bool (evalM vars keep cs inp).1, .int .i64 (evalM vars keep cs inp).2]) ∧ Below W.heap.size W w'
set_option maxRecDepth 100000 in
set_option maxHeartbeats 4000000 in
theorem eval_any (F G : Nat → Prop) (vars keep : Int) (cv iv : Value) (cs : List (List Int)) (inp : List Bool) (w : World) (hx : Clss F w cv cs) (hy : Bools G w iv inp) (hv : I64 vars) (hk : I64 keep) :
    Calls Try.prog 27 #[.agg #[.int .i64 vars, .int .i64 keep, cv], iv] w (EvalPost w vars keep cs inp) := by
  obtain ⟨a, n, c, rfl, HN, hn⟩ := hx.form'
  obtain ⟨ia, im, ic, rfl, HM, him⟩ : ∃ a m c, iv = .slice a m c ∧ Hid (m = inp.length) ∧ m ≤ 9223372036854775807 := by
    obtain ⟨a, c, h1, h2⟩ := hy.form
    exact ⟨a, _, c, h1, rfl, h2⟩
  obtain ⟨W1, hW1⟩ : ∃ W, ((w.alloc (.cells #[.int .i64 vars, .int .i64 keep, .slice a n c] 28)).alloc (.cells #[.slice ia im ic] 37)) = W := ⟨_, rfl⟩
  have hb : Below w.heap.size w W1 := by rw [← hW1]; exact ((Below.refl _ _).alloc (Nat.le_refl _) _).alloc (by simp) _
  have k0 : W1.cell? ⟨w.heap.size, 0, none⟩ = some (.int .i64 vars) := by rw [← hW1]; exact cell_alloc _ (by simp)
  have k1 : W1.cell? ⟨w.heap.size, 1, none⟩ = some (.int .i64 keep) := by rw [← hW1]; exact cell_alloc _ (by simp)
  have k2 : W1.cell? ⟨w.heap.size, 2, none⟩ = some (.slice a n c) := by rw [← hW1]; exact cell_alloc _ (by simp)
  have k3 : W1.cell? ⟨w.heap.size + 1, 0, none⟩ = some (.slice ia im ic) := by rw [← hW1, cell_of_row _ _ _ _ _ _ (new_at' _ _ (by simp))]; rfl
  have HX1 := Lib.hid (hx.below hb)
  have HY1 := Lib.hid (Bools.below hy hb)
  have HB1 := Lib.hid hb
  have hck := check_any F vars keep (.slice a n c) cs W1 HX1.out hv hk
  have HE : Hid (evalM vars keep cs inp = if checkM vars keep cs ≠ 0 then (false, checkM vars keep cs) else if (inp.length : Int) ≠ vars then (false, 2) else (trueM cs inp, 0)) := Lib.hid rfl
  have HLI : Hid (checkM vars keep cs = 0 → 0 ≤ vars ∧ ∀ c ∈ cs, ∀ x ∈ c, x ≠ 0 ∧ varM x ≤ vars) := Lib.hid check_lits
  generalize checkM vars keep cs = CK at *
  have HCK := Lib.hid hck
  obtain ⟨R, hR⟩ : ∃ R, evalM vars keep cs inp = R := ⟨_, rfl⟩
  unfold EvalPost
  rw [hR] at HE ⊢
  clear hx hy hb hck hR
  go_enter Try.func27, Try.ntmps27
  go_wp2_with fail
  clear hW1
  refine HCK.out.mono ?_
  rintro e w2 ⟨rfl, hb2⟩
  have m0 := below_c hb2 (block_lt k0) k0
  have m1 := below_c hb2 (block_lt k1) k1
  have m2 := below_c hb2 (block_lt k2) k2
  have m3 := below_c hb2 (block_lt k3) k3
  have HX2 := Lib.hid (HX1.out.below hb2)
  have HY2 := Lib.hid (Bools.below HY1.out hb2)
  have HB2 : Hid (Below w.heap.size w w2) := Lib.hid (HB1.out.trans (hb2.mono HB1.out.size))
  clear hb2 k0 k1 k2 k3 HX1 HY1 HB1 HCK
  by_cases h0 : CK = 0
  case neg =>
    have HF : Hid (R = (false, CK)) := Lib.hid (by rw [HE.out, if_pos h0])
    have hd : (CK != 0) = true := by simp [h0]
    clear h0 HE
    go_wp2_with fail
    refine bodyPost_ret (v := .tuple #[.bool R.1, .int .i64 R.2]) (by simp [results, Try.results27, go_sem, HF.out]) rfl ?_
    exact ⟨rfl, HB2.out⟩
  subst h0
  obtain ⟨hv0, hlits⟩ := HLI.out rfl
  have hd0 : ((0 : Int) != 0) = false := by simp
  by_cases h1 : (im : Int) = vars
  case neg =>
    have HF : Hid (R = (false, 2)) := Lib.hid (by rw [HE.out, if_neg (by simp), if_pos (by rw [← HM.out]; exact h1)])
    have hd : ((im : Int) != vars) = true := by simp [h1]
    clear h1 HE
    go_wp2_with fail
    refine bodyPost_ret (v := .tuple #[.bool R.1, .int .i64 R.2]) (by simp [results, Try.results27, go_sem, HF.out]) rfl ?_
    exact ⟨rfl, HB2.out⟩
  have HR : Hid (R = (trueM (cs.drop 0) inp, 0)) := Lib.hid (by rw [HE.out, if_neg (by simp), if_neg (by rw [← HM.out]; simpa using h1)]; rfl)
  have HIR : Hid (∀ c ∈ cs, ∀ x ∈ c, InR inp x) := Lib.hid fun c hc x hx => ⟨(hlits c hc x hx).1, by have := (hlits c hc x hx).2; have := HM.out; omega⟩
  have hd1 : ((im : Int) != vars) = false := by simp [h1]
  clear h1 HE hlits HLI
  go_wp2_with fail
  go_loopg [22] n (fun g u22 wx => ∃ k nq : Nat, k + g = n ∧ u22 = .int .i64 k ∧ wx = w2.drewN nq ∧ Hid (R = (trueM (cs.drop k) inp, 0)))
  case atStart => exact ⟨0, 0, by omega, rfl, rfl, HR⟩
  case round =>
  clear HR
  obtain ⟨k, nq, hkg, rfl, rfl, HR⟩ := hrel
  by_cases hk : k < n
  case neg =>
    have hdk : decide ((k : Int) < n) = false := by simp; omega
    have hdk' : decide (k < n) = false := decide_eq_false hk
    have HF : Hid (R = (true, 0)) := Lib.hid (by rw [HR.out, List.drop_eq_nil_of_le (by have := HN.out; omega)]; rfl)
    clear HR
    go_wp2_with fail
    refine bodyPost_ret (v := .tuple #[.bool R.1, .int .i64 R.2]) (by simp [results, Try.results27, go_sem, HF.out]) rfl ?_
    exact ⟨rfl, below_drewN HB2.out _⟩
  obtain ⟨x, hxx, e⟩ := drop_at (xs := cs) (k := k) (by have := HN.out; omega)
  have hcs := HX2.out
  obtain ⟨b, o, uu, rfl, _, hb, hcc, hu⟩ := hcs.at hxx
  have hce := containse_any _ _ inp (w.heap.size + 1) (.slice ia im ic) uu x (w2.drewN nq) (hu.drewN nq) m3 (HY2.out.drewN nq) (HIR.out x (List.mem_of_getElem? hxx))
  obtain ⟨ua, un, uc, rfl, HU, hun⟩ := hu.form'
  obtain ⟨T, hT⟩ : ∃ T, x.any (litT inp) = T := ⟨_, rfl⟩
  have HR1 : Hid (R = (T && trueM (cs.drop (k + 1)) inp, 0)) := Lib.hid (by rw [HR.out, e, trueM, List.all_cons, hT]; rfl)
  rw [hT] at hce
  have HCE := Lib.hid hce
  have hdk : decide ((k : Int) < n) = true := by simp; omega
  have hdk' : decide (k < n) = true := decide_eq_true hk
  clear HR e hxx hcs hu hT hce
  rcases bool2 T with rfl | rfl
  · have HF : Hid (R = (trueM (cs.drop (k + 1)) inp, 0)) := Lib.hid (by rw [HR1.out, Bool.true_and])
    go_wp2_with fail
    refine HCE.out.mono ?_
    rintro e w3 ⟨rfl, n3, rfl⟩
    go_wp2_with fail
    go_roundg (gk - 1)
    case measure => omega
    case rel => exact ⟨k + 1, _, by omega, by go_num, rfl, HF⟩
  · have HF : Hid (R = (false, 0)) := Lib.hid (by rw [HR1.out, Bool.false_and])
    go_wp2_with fail
    refine HCE.out.mono ?_
    rintro e w3 ⟨rfl, n3, rfl⟩
    go_wp2_with fail
    try rw [Exit.noGoto_ret]
    refine bodyPost_ret (v := .tuple #[.bool R.1, .int .i64 R.2]) (by simp [results, Try.results27, go_sem, HF.out]) rfl ?_
    exact ⟨rfl, below_drewN HB2.out _⟩
end Go.Proofs.Ytjjbpfbbfjdhdaa
