/- Plain: bdd.lay's model ends on a well formed diagram; walks: slices.Equal of forks, bdd.Check. No condition. -/
import Derived.Test.YteadlkecngfcoaaGreatQd
import Derived.Laws.StructEq
namespace Go.Proofs.YteadlkecngfcoaaGreat
open Go.ChangeShapes Go.WideShapes Go.ChangeAt Go.RowKit
set_option linter.unusedVariables false

theorem pigeon : ∀ (n : Nat) (xs : List Nat), xs.Nodup → (∀ x ∈ xs, x < n) → xs.length ≤ n
  | 0, [], _, _ => Nat.le_refl _
  | 0, x :: r, _, h => by have := h x (List.mem_cons_self ..); omega
  | n + 1, xs, hn, h => by
    have ih := pigeon n (xs.erase n) (hn.erase n) fun x hx => by
      have h1 := h x (List.mem_of_mem_erase hx)
      have h2 : x ≠ n := fun e => by subst e; exact (hn.not_mem_erase) hx
      omega
    have := List.length_erase (l := xs) (a := n)
    split at this <;> omega
/-- the references of the nodes are earlier ones -/
def Back (ns : List Fork) : Prop := ∀ (j : Nat) (f : Fork), ns[j]? = some f → (0 ≤ f.2.1 ∧ f.2.1 ≤ 1 + j) ∧ (0 ≤ f.2.2 ∧ f.2.2 ≤ 1 + j)
theorem lay_some {ns : List Fork} (hb : Back ns) : ∀ (k : Nat) (s : List Int × List Fork) (r : Int), 0 ≤ r → r ≤ 1 + ns.length → r.toNat + 1 ≤ k → s.1.Nodup →
    ∃ s', layGo ns k s r = some s' ∧ (∀ x ∈ s'.1, x ∈ s.1 ∨ (2 ≤ x ∧ x ≤ r)) ∧ s'.1.Nodup
  | 0, s, r, _, _, h, _ => by omega
  | k + 1, s, r, h0, h1, hk, hn => by
    rw [layGo]
    by_cases hin : r = 0 ∨ r = 1 ∨ r ∈ s.1
    · rw [if_pos hin]
      exact ⟨s, rfl, fun x hx => .inl hx, hn⟩
    rw [if_neg hin]
    have h2 : ¬ r < 2 := fun h => hin (by omega)
    rw [if_neg h2]
    obtain ⟨f, hf⟩ : ∃ f, ns[(r - 2).toNat]? = some f := ⟨_, List.getElem?_eq_getElem (by omega)⟩
    obtain ⟨⟨b1, b2⟩, b3, b4⟩ := hb _ f hf
    obtain ⟨s1, e1, i1, n1⟩ := lay_some hb k s f.2.1 b1 (by omega) (by omega) hn
    obtain ⟨s2, e2, i2, n2⟩ := lay_some hb k s1 f.2.2 b3 (by omega) (by omega) n1
    have hno : r ∉ s2.1 := fun h => by
      rcases i2 r h with h | h
      · rcases i1 r h with h | h
        · exact hin (.inr (.inr h))
        · omega
      · omega
    rw [hf]
    simp only [e1, e2, if_neg hno]
    refine ⟨_, rfl, fun x hx => ?_, ?_⟩
    · rcases List.mem_append.1 hx with hx | hx
      · rcases i2 x hx with h | h
        · rcases i1 x h with h | h
          · exact .inl h
          · exact .inr ⟨h.1, by omega⟩
        · exact .inr ⟨h.1, by omega⟩
      · rw [List.mem_singleton] at hx
        subst hx
        exact .inr ⟨by omega, by omega⟩
    · refine List.nodup_append.2 ⟨n2, by simp, fun a ha b hb e => hno ?_⟩
      rw [List.mem_singleton] at hb
      rw [← hb, ← e]
      exact ha
theorem frmGo_back {vars : Int} {all : List Fork} : ∀ (r : List Fork) (i : Nat), all.drop i = r → frmGo vars all r i = true → ∀ (j : Nat) (f : Fork), i ≤ j → all[j]? = some f → (0 ≤ f.2.1 ∧ f.2.1 ≤ 1 + j) ∧ (0 ≤ f.2.2 ∧ f.2.2 ≤ 1 + j)
  | [], i, he, _, j, f, hij, hf => by
    have := (List.getElem?_eq_some_iff.1 hf).1
    have := congrArg List.length he
    simp at this
    omega
  | g :: r, i, he, h, j, f, hij, hf => by
    obtain ⟨hg, hr, _⟩ := drop_cons he
    rw [frmGo] at h
    split at h
    · cases h
    rw [Bool.and_eq_true] at h
    obtain ⟨ha, hrest⟩ := h
    by_cases e : i = j
    · subst e
      rw [hg] at hf
      cases hf
      simp only [List.all_cons, List.all_nil, Bool.and_true, Bool.and_eq_true, refM, Bool.not_eq_true', Bool.or_eq_false_iff, decide_eq_false_iff_not] at ha
      omega
    · exact frmGo_back r (i + 1) hr hrest j f (by omega) hf
theorem frm_back {vars root : Int} {ns : List Fork} (h : frmM vars ns root = true) : Back ns ∧ 0 ≤ root ∧ root ≤ 1 + ns.length := by
  unfold frmM at h
  simp only [Bool.and_eq_true, decide_eq_true_eq] at h
  exact ⟨fun j f hf => frmGo_back ns 0 rfl h.1 j f (Nat.zero_le _) hf, h.2⟩
theorem lay_frm {vars root : Int} {ns : List Fork} (h : frmM vars ns root = true) : ∃ s', layGo ns (ns.length + 2) ([], []) root = some s' ∧ s'.1.length ≤ ns.length + 2 := by
  obtain ⟨hb, h0, h1⟩ := frm_back h
  obtain ⟨s', e, i, n⟩ := lay_some hb (ns.length + 2) ([], []) root h0 h1 (by omega) List.nodup_nil
  refine ⟨s', e, ?_⟩
  have hp := pigeon (ns.length + 2) (s'.1.map Int.toNat) (by
    unfold List.Nodup at n ⊢
    rw [List.pairwise_map]
    refine List.Pairwise.imp_of_mem ?_ n
    intro a b ha hb hab e
    have a1 := i a ha
    have b1 := i b hb
    simp at a1 b1
    omega) (fun x hx => by
    obtain ⟨y, hy, rfl⟩ := List.mem_map.1 hx
    have := i y hy
    simp at this
    omega)
  simpa using hp

theorem run_neq_fork (f g : Fork) (w : World) : (binOp .neq 49 (.agg #[.int .i64 f.1, .int .i64 f.2.1, .int .i64 f.2.2]) (.agg #[.int .i64 g.1, .int .i64 g.2.1, .int .i64 g.2.2])).run Tryz.prog w = .ok (.bool (decide (f ≠ g))) w := by
  have hu := Tryz.underlying49
  have hi := Tryz.underlying3
  have : decide (f ≠ g) = !(decide (f.1 = g.1) && (decide (f.2.1 = g.2.1) && decide (f.2.2 = g.2.2))) := by
    obtain ⟨a, b, c⟩ := f
    obtain ⟨x, y, z⟩ := g
    by_cases e1 : a = x <;> by_cases e2 : b = y <;> by_cases e3 : c = z <;> simp [e1, e2, e3]
  have ht : Tryz.prog.underlying 49 = some (.struct (Tryz.prog.fieldsOf 49)) := by kernel_rfl
  have hp : Tryz.prog.stoodInHeld 49 = false := by kernel_rfl
  have hfl : (Tryz.prog.fieldsOf 49).toList = [{ name := "Var", type := 3, offset := 0, embedded := false, tag := "", pkgPath := "", byteOffset := 0 }, { name := "Low", type := 3, offset := 1, embedded := false, tag := "", pkgPath := "", byteOffset := 8 }, { name := "High", type := 3, offset := 2, embedded := false, tag := "", pkgPath := "", byteOffset := 16 }] := by
    simp [Program.fieldsOf, hu]
  have hq : ∀ (a b : Int) (w : World), (Op.equalIn 9999 3 (.int .i64 a) (.int .i64 b)).run Tryz.prog w = .ok (a == b) w := fun a b w => run_equalIn_int w 9998 _ _ _ a b hi
  have hc : Tryz.prog.cellsOf 3 = 1 := by kernel_rfl
  rw [this, run_neq_struct, show (10000 : Nat) = 9999 + 1 from rfl, run_equalIn_struct w 9999 _ _ _ ht hp, hfl]
  by_cases e1 : f.1 = g.1 <;> by_cases e2 : f.2.1 = g.2.1 <;> by_cases e3 : f.2.2 = g.2.2 <;> simp [Op.eqFields, part, hq, go_sem, e1, e2, e3]

set_option maxHeartbeats 2000000 in
theorem equalk_any (F G : Nat → Prop) (v u : Value) (xs ys : List Fork) (w : World) (hx : Forks F w v xs) (hy : Forks G w u ys) :
    Calls Tryz.prog 57 #[v, u] w (QuietPost w (.bool (xs == ys))) := by
  obtain ⟨a, n, c, rfl, HN, hn⟩ := hx.form
  obtain ⟨a2, m, c2, rfl, HM, hm⟩ := hy.form
  obtain ⟨R, hR⟩ : ∃ R, (xs == ys) = R := ⟨_, rfl⟩
  rw [hR]
  by_cases hnm : n = m
  case neg =>
    have hne : ((n : Int) != (m : Int)) = true := by simp; omega
    have HR : Hid (R = false) := Lib.hid (by
      rw [← hR]
      by_cases e : xs = ys
      · exact absurd (by rw [HN.out, HM.out, e]) hnm
      · simp [e])
    clear hR hnm
    go_enter Tryz.func57, Tryz.ntmps57
    go_wp2
    go_ret
    exact ⟨by rw [HR.out]; rfl, 0, rfl⟩
  subst hnm
  have hne : ((n : Int) != (n : Int)) = false := by simp
  have HR : Hid (R = (xs.drop 0 == ys.drop 0)) := Lib.hid hR.symm
  clear hR
  go_enter Tryz.func57, Tryz.ntmps57
  go_wp2
  go_loopg [13] n (fun g u13 wx => ∃ (k nq : Nat), k + g = n ∧ u13 = .int .i64 k ∧ wx = w.drewN nq ∧ Hid (R = (xs.drop k == ys.drop k)))
  case atStart => exact ⟨0, 0, by omega, rfl, rfl, HR⟩
  case round =>
  obtain ⟨k, nq, hkg, rfl, rfl, hinv⟩ := hrel
  by_cases hk : k < n
  · obtain ⟨x, hxx⟩ : ∃ y, xs[k]? = some y := ⟨_, List.getElem?_eq_getElem (by have := HN.out; omega)⟩
    obtain ⟨y, hyy⟩ : ∃ y, ys[k]? = some y := ⟨_, List.getElem?_eq_getElem (by have := HM.out; omega)⟩
    obtain ⟨xb, xo, rfl, _, _, x0, x1, x2, _⟩ := hx.at hxx
    obtain ⟨yb, yo, rfl, _, _, y0, y1, y2, _⟩ := hy.at hyy
    have ex : xs.drop k = x :: xs.drop (k + 1) := by
      obtain ⟨hlt, he⟩ := List.getElem?_eq_some_iff.1 hxx
      rw [List.drop_eq_getElem_cons hlt, he]
    have ey : ys.drop k = y :: ys.drop (k + 1) := by
      obtain ⟨hlt, he⟩ := List.getElem?_eq_some_iff.1 hyy
      rw [List.drop_eq_getElem_cons hlt, he]
    have hk0 : (0 : Int) ≤ k := by omega
    have hk1 : (k : Int) < n := by omega
    have hq := fun w => run_neq_fork x y w
    by_cases hxy : x = y
    · have HF : Hid (R = (xs.drop (k + 1) == ys.drop (k + 1))) := Lib.hid (by rw [hinv.out, ex, ey, hxy]; simp)
      rw [decide_eq_false (p := x ≠ y) (by simp [hxy])] at hq
      obtain ⟨p0, p1, p2⟩ := x
      obtain ⟨q0, q1, q2⟩ := y
      simp only at hq x0 x1 x2 y0 y1 y2
      clear hinv ex ey hxx hyy hxy
      go_upto_region 6 with fail
      go_quiet (fail)
      go_wp2
      go_roundg (gk - 1)
      case measure => omega
      case rel => exact ⟨k + 1, _, by omega, by go_num, rfl, HF⟩
    · have HF : Hid (R = false) := Lib.hid (by rw [hinv.out, ex, ey]; simp [hxy])
      rw [decide_eq_true (p := x ≠ y) hxy] at hq
      obtain ⟨p0, p1, p2⟩ := x
      obtain ⟨q0, q1, q2⟩ := y
      simp only at hq x0 x1 x2 y0 y1 y2
      clear hinv ex ey hxx hyy hxy
      go_upto_region 6 with fail
      go_quiet (fail)
      go_wp2
      go_ret
      exact ⟨by rw [HF.out]; rfl, _, by rw [World.drewN_drewN]⟩
  · have HF : Hid (R = true) := Lib.hid (by rw [hinv.out, List.drop_eq_nil_of_le (by have := HN.out; omega), List.drop_eq_nil_of_le (by have := HM.out; omega)]; rfl)
    clear hinv
    go_wp2
    go_ret
    exact ⟨by rw [HF.out]; rfl, nq, rfl⟩
end Go.Proofs.YteadlkecngfcoaaGreat
