/- Walk: the statement's valid. -/
import Derived.Test.YtjbhglmmakkkgaaSy1
namespace Go.Proofs.Ytjbhglmmakkkgaa
open Go.ChangeShapes Go.WideShapes Go.ChangeAt Go.RowKit
set_option linter.unusedVariables false

theorem validGo_at {V : Nat} {cs : List (List Int)} {k : Nat} {x : List Int} {p : Option (List Int)} (e : cs.drop k = x :: cs.drop (k + 1)) :
    validGo V p (cs.drop k) = if clauseGo V none x = false then false else if (p.any fun q => !beforeM q x) = true then false else validGo V (some x) (cs.drop (k + 1)) := by
  rw [e]
  rcases p with _ | q
  · rw [validGo]
    cases clauseGo V none x <;> simp
  · rw [validGo]
    cases clauseGo V none x <;> cases h : beforeM q x <;> simp [h]
theorem clauseGo_lits {V : Nat} : ∀ (x : List Int) (p : Option Int), clauseGo V p x = true → ∀ l ∈ x, LitOk V l
  | [], _, _ => by simp
  | a :: r, p, h => by
    have h2 : litB V a = true ∧ clauseGo V (some a) r = true := by
      rcases p with _ | q
      · rw [clauseGo] at h; simpa using h
      · rw [clauseGo] at h; simp at h; exact ⟨h.1.1, h.2⟩
    intro l hl
    rcases List.mem_cons.1 hl with rfl | hl
    · exact litB_iff.1 h2.1
    · exact clauseGo_lits r _ h2.2 l hl

set_option maxRecDepth 100000 in
set_option maxHeartbeats 8000000 in
theorem valid_any {F : Nat → Prop} (vars keep : Int) (cv : Value) (cs : List (List Int)) (w : World) (hc : Clss F w cv cs) (hv : I64 vars) (hk : I64 keep) :
    Calls Try.prog 15 #[.agg #[.int .i64 vars, .int .i64 keep, cv]] w (BoolPost w (validM vars keep cs)) := by
  obtain ⟨a, n, c, rfl, HN, hn⟩ := hc.form'
  have hb : Below w.heap.size w (w.alloc (.cells #[.int .i64 vars, .int .i64 keep, .slice a n c] 24)) := (Below.refl _ _).alloc (Nat.le_refl _) _
  have HB := Lib.hid hb
  have HX := Lib.hid (hc.below hb)
  obtain ⟨R, hR⟩ : ∃ R, validM vars keep cs = R := ⟨_, rfl⟩
  have HR : Hid (R = if vars < 0 ∨ 20000 < vars ∨ keep < 0 ∨ vars < keep ∨ 60000 < cs.length then false else validGo vars.toNat none cs) := Lib.hid hR.symm
  rw [hR]
  clear hR hb hc
  by_cases h1 : vars < 0
  · have HF : Hid (R = false) := Lib.hid (by rw [HR.out, if_pos (.inl h1)])
    have hd : decide (vars < 0) = true := decide_eq_true h1
    clear h1
    go_enter Try.func15, Try.ntmps15
    go_wp2_with fail
    go_ret
    exact ⟨by rw [HF.out]; rfl, HB.out⟩
  have hd1 : decide (vars < 0) = false := decide_eq_false h1
  by_cases h2 : 20000 < vars
  · have HF : Hid (R = false) := Lib.hid (by rw [HR.out, if_pos (.inr (.inl h2))])
    have hd : decide (20000 < vars) = true := decide_eq_true h2
    clear h1 h2
    go_enter Try.func15, Try.ntmps15
    go_wp2_with fail
    go_ret
    exact ⟨by rw [HF.out]; rfl, HB.out⟩
  have hd2 : decide (20000 < vars) = false := decide_eq_false h2
  by_cases h3 : keep < 0
  · have HF : Hid (R = false) := Lib.hid (by rw [HR.out, if_pos (.inr (.inr (.inl h3)))])
    have hd : decide (keep < 0) = true := decide_eq_true h3
    clear h1 h2 h3
    go_enter Try.func15, Try.ntmps15
    go_wp2_with fail
    go_ret
    exact ⟨by rw [HF.out]; rfl, HB.out⟩
  have hd3 : decide (keep < 0) = false := decide_eq_false h3
  by_cases h4 : vars < keep
  · have HF : Hid (R = false) := Lib.hid (by rw [HR.out, if_pos (.inr (.inr (.inr (.inl h4))))])
    have hd : decide (vars < keep) = true := decide_eq_true h4
    clear h1 h2 h3 h4
    go_enter Try.func15, Try.ntmps15
    go_wp2_with fail
    go_ret
    exact ⟨by rw [HF.out]; rfl, HB.out⟩
  have hd4 : decide (vars < keep) = false := decide_eq_false h4
  by_cases h5 : 60000 < n
  · have HF : Hid (R = false) := Lib.hid (by rw [HR.out, if_pos (.inr (.inr (.inr (.inr (by rw [← HN.out]; exact h5)))))])
    have hd : decide ((60000 : Int) < n) = true := by simp; omega
    have hd' : decide (60000 < n) = true := by simp; omega
    clear h1 h2 h3 h4 h5
    go_enter Try.func15, Try.ntmps15
    go_wp2_with fail
    go_ret
    exact ⟨by rw [HF.out]; rfl, HB.out⟩
  have hd5 : decide ((60000 : Int) < n) = false := by simp; omega
  have hd5' : decide (60000 < n) = false := by simp; omega
  obtain ⟨V, rfl⟩ := Int.eq_ofNat_of_zero_le (show 0 ≤ vars by omega)
  have HR2 : Hid (R = validGo V none (cs.drop 0)) := Lib.hid (by rw [HR.out, if_neg (by have := HN.out; omega)]; rfl)
  have hVV : V ≤ 20000 := by omega
  clear h1 h2 h3 h4 h5 HR
  go_enter Try.func15, Try.ntmps15
  go_wp2_with fail
  go_loopg [34] n (fun g u34 wx => ∃ (k : Nat) (p : Option (List Int)), k + g = n ∧ u34 = .int .i64 k ∧ Hid (Below w.heap.size w wx) ∧ wx.cell? ⟨w.heap.size, 0, none⟩ = some (.int .i64 V) ∧ wx.cell? ⟨w.heap.size, 2, none⟩ = some (.slice a n c) ∧ Hid (Clss F wx (.slice a n c) cs) ∧ Hid (p = if k = 0 then none else cs[k-1]?) ∧ Hid (∀ q, p = some q → ∀ l ∈ q, LitOk V l) ∧ Hid (R = validGo V p (cs.drop k)))
  case atStart => exact ⟨0, none, by omega, rfl, HB, by simp, by simp, HX, Lib.hid rfl, Lib.hid (fun q h => by cases h), HR2⟩
  case round =>
  clear HB HX HR2
  obtain ⟨k, p, hkg, rfl, HB, c0, c2, HX, HP, HPL, hinv⟩ := hrel
  by_cases hk : k < n
  case neg =>
    have HF : Hid (R = true) := Lib.hid (by rw [hinv.out, List.drop_eq_nil_of_le (by have := HN.out; omega)]; cases p <;> rfl)
    have hk2 : n ≤ k := by omega
    clear hinv hk HP
    go_wp2_with fail
    go_ret
    exact ⟨by rw [HF.out]; rfl, HB.out⟩
  obtain ⟨x, hxx, e⟩ := drop_at (xs := cs) (k := k) (by have := HN.out; omega)
  have hcs := HX.out
  obtain ⟨b, o, u, rfl, _, hb, hcc, hu⟩ := hcs.at hxx
  obtain ⟨ua, un, uc, rfl, HU, hun⟩ := hu.form'
  obtain ⟨B, hB⟩ : ∃ B, clauseGo V none x = B := ⟨_, rfl⟩
  have hcl := clause_any F V (.slice ua un uc) x wr hu (by omega)
  have HE : Hid (R = if B = false then false else if (p.any fun q => !beforeM q x) = true then false else validGo V (some x) (cs.drop (k + 1))) := Lib.hid (by rw [hinv.out, validGo_at e, hB])
  have HLO : Hid (B = true → ∀ l ∈ x, LitOk V l) := Lib.hid (fun h => clauseGo_lits x none (hB.trans h))
  rw [hB] at hcl
  have HCL := Lib.hid hcl
  have hPN : Hid (some x = if k + 1 = 0 then none else cs[k + 1 - 1]?) := Lib.hid (by rw [if_neg (by omega), Nat.add_sub_cancel, hxx])
  have HUI := Lib.hid hu
  clear hB hcl hinv e hu
  rcases bool2 B with rfl | rfl
  case inr =>
    have HF : Hid (R = false) := Lib.hid (by rw [HE.out, if_pos rfl])
    clear hxx hcs
    go_wp2_with fail
    refine HCL.out.mono ?_
    rintro e w1 ⟨rfl, n1, rfl⟩
    go_wp2_with fail
    go_ret
    exact ⟨by rw [HF.out]; rfl, below_drewN HB.out _⟩
  have HXO := Lib.hid (HLO.out rfl)
  have HE2 : Hid (R = if (p.any fun q => !beforeM q x) = true then false else validGo V (some x) (cs.drop (k + 1))) := Lib.hid (by rw [HE.out, if_neg (by simp)])
  have HPL2 : Hid (∀ q, some x = some q → ∀ l ∈ q, LitOk V l) := Lib.hid (fun q h => by injection h with h; exact h ▸ HXO.out)
  clear HE HLO
  by_cases hk0 : k = 0
  · have HF : Hid (R = validGo V (some x) (cs.drop (k + 1))) := Lib.hid (by rw [HE2.out, HP.out, if_pos hk0]; simp)
    have hd : decide ((0 : Int) < k) = false := by simp; omega
    have hd1 : decide (0 < k) = false := by simp; omega
    have HCS := Lib.hid hcs
    clear hk0 hxx hcs HE2 HP
    go_wp2_with fail
    refine HCL.out.mono ?_
    rintro e w1 ⟨rfl, n1, rfl⟩
    go_wp2_with fail
    go_roundg (gk - 1)
    case measure => omega
    case rel => exact ⟨k + 1, some x, by omega, by go_num, Lib.hid (below_drewN HB.out _), c0, c2, Lib.hid (HCS.out.drewN _), hPN, HPL2, HF⟩
  obtain ⟨k', hk'⟩ : ∃ k', k' + 1 = k := ⟨k - 1, by omega⟩
  obtain ⟨q, hq⟩ : ∃ q, cs[k']? = some q := ⟨_, List.getElem?_eq_getElem (by have := HN.out; omega)⟩
  obtain ⟨qb, qo, qv, hqo, _, hqb, hqc, hqi⟩ := hcs.at hq
  injection hqo with hqo
  injection hqo with h1 h2
  subst h1 h2
  obtain ⟨qa, qn, qcap, rfl, HQ, hqn⟩ := hqi.form'
  have hpq : p = some q := by rw [HP.out, if_neg hk0, show k - 1 = k' by omega, hq]
  have HE3 : Hid (R = if (!beforeM q x) = true then false else validGo V (some x) (cs.drop (k + 1))) := Lib.hid (by rw [HE2.out, hpq]; simp)
  have hbe := fun n1 => before_any _ _ q x (wr.drewN n1) (hqi.drewN n1) (HUI.out.drewN n1) (fun l hl => by obtain ⟨_, h2, h3⟩ := HPL.out q hpq l hl; omega) (fun l hl => by obtain ⟨_, h2, h3⟩ := HXO.out l hl; omega)
  obtain ⟨T, hT⟩ : ∃ T, beforeM q x = T := ⟨_, rfl⟩
  rw [hT] at HE3
  simp only [hT] at hbe
  have HBE := Lib.hid hbe
  have hd : decide ((0 : Int) < k) = true := by simp; omega
  have hd1 : decide (0 < k) = true := by simp; omega
  have hw1 : IntKind.i64.wrap ((k : Int) - 1) = (k' : Int) := by rw [IntWalk.i64_in _ ⟨by omega, by omega⟩]; omega
  have hw0 : wrap64 ((k : Int) - 1) = (k' : Int) := by rw [IntWalk.wrap64_in _ ⟨by omega, by omega⟩]; omega
  have hw2 : ((k : Int) - 1) = (k' : Int) := by omega
  have hk3 : k' < n := by omega
  have HCS := Lib.hid hcs
  clear hbe hT hpq hq hcs hxx hk' hk0 HE2 HP HPL hqi
  rcases bool2 T with rfl | rfl
  · have HF : Hid (R = validGo V (some x) (cs.drop (k + 1))) := Lib.hid (by rw [HE3.out, if_neg (by simp)])
    clear HE3
    go_wp2_with fail
    refine HCL.out.mono ?_
    rintro e w1 ⟨rfl, n1, rfl⟩
    go_wp2_with fail
    refine (HBE.out _).mono ?_
    rintro e w1 ⟨rfl, n2, rfl⟩
    go_wp2_with fail
    go_roundg (gk - 1)
    case measure => omega
    case rel => exact ⟨k + 1, some x, by omega, by go_num, Lib.hid (below_drewN HB.out _), c0, c2, Lib.hid (HCS.out.drewN _), hPN, HPL2, HF⟩
  · have HF : Hid (R = false) := Lib.hid (by rw [HE3.out, if_pos (by simp)])
    clear HE3
    go_wp2_with fail
    refine HCL.out.mono ?_
    rintro e w1 ⟨rfl, n1, rfl⟩
    go_wp2_with fail
    refine (HBE.out _).mono ?_
    rintro e w1 ⟨rfl, n2, rfl⟩
    go_wp2_with fail
    go_ret
    exact ⟨by rw [HF.out]; rfl, below_drewN HB.out _⟩
end Go.Proofs.Ytjbhglmmakkkgaa
