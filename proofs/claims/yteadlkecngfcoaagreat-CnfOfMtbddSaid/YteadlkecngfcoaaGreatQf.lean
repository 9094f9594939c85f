/- Walk: bdd.Check. No condition. -/
import Derived.Test.YteadlkecngfcoaaGreatQe
namespace Go.Proofs.YteadlkecngfcoaaGreat
open Go.ChangeShapes Go.WideShapes Go.ChangeAt Go.RowKit
set_option linter.unusedVariables false

theorem forkV_get : ∀ (t : List Fork) (j : Nat) (f : Fork), t[j]? = some f → (t.flatMap forkV)[j * 3]? = some (.int .i64 f.1) ∧ (t.flatMap forkV)[j * 3 + 1]? = some (.int .i64 f.2.1) ∧ (t.flatMap forkV)[j * 3 + 2]? = some (.int .i64 f.2.2)
  | [], j, f, h => by simp at h
  | g :: r, 0, f, h => by
    simp at h
    subst h
    simp [forkV]
  | g :: r, j + 1, f, h => by
    have ih := forkV_get r j f (by simpa using h)
    have e : ((g :: r).flatMap forkV) = Value.int .i64 g.1 :: Value.int .i64 g.2.1 :: Value.int .i64 g.2.2 :: r.flatMap forkV := rfl
    rw [e, show (j + 1) * 3 = j * 3 + 1 + 1 + 1 by omega, show j * 3 + 1 + 1 + 1 + 1 = (j * 3 + 1) + 1 + 1 + 1 by omega, show j * 3 + 1 + 1 + 1 + 2 = (j * 3 + 2) + 1 + 1 + 1 by omega]
    simp only [List.getElem?_cons_succ]
    exact ih
theorem add_at' {b off : Nat} {n : Nat} : (⟨b, off, none⟩ : Addr).add n = ⟨b, off + n, none⟩ := by
  unfold Addr.add; split <;> simp_all
theorem own_forks {w : World} {base : Nat} {v : Value} {t : List Fork} (h : w.ownsRow base 49 3 v t.length (t.flatMap forkV)) (hl : t.length ≤ 9223372036854775807) (hok : ∀ f ∈ t, ForkOk f) : Forks (fun b => base ≤ b) w v t := by
  refine ⟨?_, hok⟩
  rcases h.2 with ⟨rfl, h0⟩ | ⟨g, cap, cur, rfl, hb, _⟩
  · have : t = [] := List.eq_nil_of_length_eq_zero (by omega)
    subst this
    exact Sl3.nil _ _
  · refine ⟨some ⟨g, 0, none⟩, cap, by simp, by simpa using hl, fun j u hu => ⟨g, 0, rfl, hb, ?_⟩⟩
    rw [List.getElem?_map] at hu
    rcases hf : t[j]? with _ | f
    · rw [hf] at hu; cases hu
    rw [hf] at hu
    injection hu with hu
    subst hu
    have hc := h.cells (g := g) rfl
    obtain ⟨e1, e2, e3⟩ := forkV_get t j f hf
    have f1 := hc _ _ e1
    have f2 := hc _ _ e2
    have f3 := hc _ _ e3
    rw [add_at'] at f1 f2 f3
    rw [Nat.zero_add] at f1 f2 f3 ⊢
    exact ⟨f1, f2, f3⟩
theorem plc_I64 {o : List Int} {r : Int} (ho : o.length ≤ 100000) (hr : I64 r) : I64 (plc o r) := by
  unfold plc I64
  obtain ⟨h1, h2⟩ := hr
  have := List.idxOf_le_length (a := r) (l := o)
  split <;> omega
theorem layGo_ok {ns : List Fork} (hn : ∀ n ∈ ns, ForkOk n) : ∀ (k : Nat) (s s' : List Int × List Fork) (r : Int), layGo ns k s r = some s' → s'.1.length ≤ 100000 → (∀ f ∈ s.2, ForkOk f) → ∀ f ∈ s'.2, ForkOk f
  | 0, s, s', r, h, _, _ => by cases h
  | k + 1, s, s', r, h, hl, hs => by
    rw [layGo] at h
    split at h
    · cases h; exact hs
    split at h
    · cases h
    split at h
    · cases h
    rename_i f hf
    split at h
    · cases h
    rename_i s1 h1
    split at h
    · cases h
    rename_i s2 h2
    split at h
    · cases h
    cases h
    have a := layGo_len ns k _ _ _ h1
    have b := layGo_len ns k _ _ _ h2
    simp only [List.length_append, List.length_singleton] at hl
    have o1 := layGo_ok hn k _ _ _ h1 (by have := b.1; omega) hs
    have o2 := layGo_ok hn k _ _ _ h2 (by omega) o1
    have hfo := hn f (List.mem_of_getElem? hf)
    intro g hg
    rcases List.mem_append.1 hg with hg | hg
    · exact o2 g hg
    · rw [List.mem_singleton] at hg
      subst hg
      exact ⟨hfo.1, plc_I64 (by have := b.1; omega) hfo.2.1, plc_I64 (by omega) hfo.2.2⟩
/-- bdd.Check's code -/
def bddM (vars root : Int) (ns : List Fork) : Int :=
  if vars < 0 ∨ 40 < vars then 3 else if 4096 < ns.length then 4 else if frmM vars ns root = false then 1
  else match layGo ns (ns.length + 2) ([], []) root with
    | none => 1
    | some s => if plc s.1 root ≠ root ∨ s.2 ≠ ns then 1 else 0

set_option maxRecDepth 100000 in
set_option maxHeartbeats 4000000 in
theorem bddcheck_any (F : Nat → Prop) (vars root : Int) (nv : Value) (ns : List Fork) (w : World) (hx : Forks F w nv ns) (hv : I64 vars) (hr : I64 root) :
    Calls Tryz.prog 35 #[.agg #[.int .i64 vars, nv, .int .i64 root]] w fun e w' => e = .returned (.int .i64 (bddM vars root ns)) ∧ Below w.heap.size w w' := by
  obtain ⟨a, n, c, rfl, HN, hn⟩ := hx.form
  have hb : Below w.heap.size w (w.alloc (.cells #[.int .i64 vars, .slice a n c, .int .i64 root] 51)) := (Below.refl _ _).alloc (Nat.le_refl _) _
  have HB := Lib.hid hb
  have HX := Lib.hid (hx.below hb)
  obtain ⟨R, hR⟩ : ∃ R, bddM vars root ns = R := ⟨_, rfl⟩
  have HR : Hid (R = if vars < 0 ∨ 40 < vars then 3 else if 4096 < ns.length then 4 else if frmM vars ns root = false then 1
    else match layGo ns (ns.length + 2) ([], []) root with
    | none => 1
    | some s => if plc s.1 root ≠ root ∨ s.2 ≠ ns then 1 else 0) := Lib.hid hR.symm
  rw [hR]
  have HNO := Lib.hid hx.2
  clear hR hb hx
  by_cases h1 : vars < 0
  · have HF : Hid (R = 3) := Lib.hid (by rw [HR.out, if_pos (.inl h1)])
    have hd : decide (vars < 0) = true := decide_eq_true h1
    clear h1
    go_enter Tryz.func35, Tryz.ntmps35
    go_wp2_with fail
    go_ret
    exact ⟨by rw [HF.out]; rfl, HB.out⟩
  have hd1 : decide (vars < 0) = false := decide_eq_false h1
  by_cases h2 : 40 < vars
  · have HF : Hid (R = 3) := Lib.hid (by rw [HR.out, if_pos (.inr h2)])
    have hd : decide (40 < vars) = true := decide_eq_true h2
    clear h1 h2
    go_enter Tryz.func35, Tryz.ntmps35
    go_wp2_with fail
    go_ret
    exact ⟨by rw [HF.out]; rfl, HB.out⟩
  have hd2 : decide (40 < vars) = false := decide_eq_false h2
  by_cases h3 : 4096 < n
  · have HF : Hid (R = 4) := Lib.hid (by rw [HR.out, if_neg (by omega), if_pos (by rw [← HN.out]; exact h3)])
    have hd : decide ((4096 : Int) < n) = true := by simp; omega
    have hd' : decide (4096 < n) = true := by simp; omega
    clear h1 h2 h3
    go_enter Tryz.func35, Tryz.ntmps35
    go_wp2_with fail
    go_ret
    exact ⟨by rw [HF.out]; rfl, HB.out⟩
  have hd3 : decide ((4096 : Int) < n) = false := by simp; omega
  have hd3' : decide (4096 < n) = false := by simp; omega
  have HR2 : Hid (R = if frmM vars ns root = false then 1
    else match layGo ns (ns.length + 2) ([], []) root with
    | none => 1
    | some s => if plc s.1 root ≠ root ∨ s.2 ≠ ns then 1 else 0) := Lib.hid (by rw [HR.out, if_neg (by omega), if_neg (by rw [← HN.out]; omega)])
  have hfo := formed_any F vars root (.slice a n c) ns _ HX.out (by rw [← HN.out]; omega) hv hr
  have HLF : Hid (frmM vars ns root = true → ∃ s', layGo ns (ns.length + 2) ([], []) root = some s' ∧ s'.1.length ≤ ns.length + 2) := Lib.hid lay_frm
  obtain ⟨O, hO⟩ : ∃ O, frmM vars ns root = O := ⟨_, rfl⟩
  rw [hO] at HR2 hfo HLF
  have HFO := Lib.hid hfo
  have hnl : n ≤ 4096 := by omega
  clear h1 h2 h3 hO hfo HR
  go_enter Tryz.func35, Tryz.ntmps35
  go_wp2_with fail
  refine HFO.out.mono ?_
  rintro e w1 ⟨rfl, hb1⟩
  have HB1 : Hid (Below w.heap.size w w1) := Lib.hid (HB.out.trans (hb1.mono (by simp)))
  have c0 := below_c hb1 (show w.heap.size < _ by simp) (o := 0) (v := .int .i64 vars) (by simp)
  have c1 := below_c hb1 (show w.heap.size < _ by simp) (o := 1) (v := .slice a n c) (by simp)
  have c2 := below_c hb1 (show w.heap.size < _ by simp) (o := 2) (v := .int .i64 root) (by simp)
  have HX1 := Lib.hid (HX.out.below hb1)
  clear hb1 HX HFO HB
  rcases bool2 O with rfl | rfl
  case inr =>
    have HF : Hid (R = 1) := Lib.hid (by rw [HR2.out, if_pos rfl])
    go_wp2_with fail
    go_ret
    exact ⟨by rw [HF.out]; rfl, HB1.out⟩
  obtain ⟨s', hs, hsl⟩ := HLF.out rfl
  have HR3 : Hid (R = if plc s'.1 root ≠ root ∨ s'.2 ≠ ns then 1 else 0) := Lib.hid (by rw [HR2.out, if_neg (by simp), hs])
  have hla := lay_any F (ns.length + 2) vars root (.slice a n c) ns s' w1 HX1.out (by rw [← HN.out]; omega) hv hr hs (by have := HN.out; omega)
  have HLA := Lib.hid hla
  have HOK : Hid (∀ f ∈ s'.2, ForkOk f) := Lib.hid (layGo_ok HNO.out _ _ _ _ hs (by have := HN.out; omega) (by simp))
  have HTL : Hid (s'.2.length ≤ 9223372036854775807) := Lib.hid (by have h5 := (layGo_len ns _ _ _ _ hs).2 rfl; have := HN.out; omega)
  clear hla hs HR2 HLF hsl
  go_wp2_with fail
  refine HLA.out.mono ?_
  rintro e w2 ⟨lv, B, rfl, hb2, hB, ho2⟩
  have j0 := below_c hb2 (block_lt c0) c0
  have j1 := below_c hb2 (block_lt c1) c1
  have j2 := below_c hb2 (block_lt c2) c2
  have hlt2 := block_lt j0
  obtain ⟨la, lc, rfl⟩ := own_form ho2
  have hf2 := own_forks ho2 HTL.out HOK.out
  obtain ⟨q, hq⟩ : ∃ q, plc s'.1 root = q := ⟨_, rfl⟩
  rw [hq] at HR3 ⊢
  have hba : Below w2.heap.size w2 (w2.alloc (.cells #[.int .i64 vars, .slice la s'.2.length lc, .int .i64 q] 51)) := (Below.refl _ _).alloc (Nat.le_refl _) _
  have HB2 : Hid (Below w.heap.size w (w2.alloc (.cells #[.int .i64 vars, .slice la s'.2.length lc, .int .i64 q] 51))) := Lib.hid ((HB1.out.trans (hb2.mono HB1.out.size)).trans (hba.mono (by have := HB1.out.size; have := hb2.size; omega)))
  have HE := Lib.hid (equalk_any _ _ (.slice la s'.2.length lc) (.slice a n c) s'.2 ns _ (hf2.below hba) ((HX1.out.below hb2).below hba))
  clear hb2 ho2 hf2 hba hq c0 c1 c2 HLA HX1 HB1
  by_cases hqr : q = root
  · have hdq : (q != root) = false := by simp [hqr]
    obtain ⟨E, hE⟩ : ∃ E, (s'.2 == ns) = E := ⟨_, rfl⟩
    have HR4 : Hid (R = if E = true then 0 else 1) := Lib.hid (by
      rw [HR3.out, ← hE]
      by_cases h : s'.2 = ns
      · rw [if_neg (by simp [hqr, h]), if_pos (by simp [h])]
      · rw [if_pos (.inr h), if_neg (by simpa using h)])
    rw [hE] at HE
    clear HR3 hE
    clear hqr
    rcases bool2 E with rfl | rfl
    · have HF : Hid (R = 0) := Lib.hid (by rw [HR4.out, if_pos rfl])
      go_wp2_with fail
      refine HE.out.mono ?_
      rintro e w3 ⟨rfl, n3, rfl⟩
      go_wp2_with fail
      go_ret
      exact ⟨by rw [HF.out]; rfl, below_drewN HB2.out _⟩
    · have HF : Hid (R = 1) := Lib.hid (by rw [HR4.out, if_neg (by simp)])
      go_wp2_with fail
      refine HE.out.mono ?_
      rintro e w3 ⟨rfl, n3, rfl⟩
      go_wp2_with fail
      go_ret
      exact ⟨by rw [HF.out]; rfl, below_drewN HB2.out _⟩
  · have hdq : (q != root) = true := by simp [hqr]
    have HF : Hid (R = 1) := Lib.hid (by rw [HR3.out, if_pos (.inl hqr)])
    clear HR3 hqr
    go_wp2_with fail
    go_ret
    exact ⟨by rw [HF.out]; rfl, HB2.out⟩
end Go.Proofs.YteadlkecngfcoaaGreat
