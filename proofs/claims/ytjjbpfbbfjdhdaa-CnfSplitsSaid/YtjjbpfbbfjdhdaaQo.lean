/- Plain: the canonical form has the same models. Walk: the statement CnfModels. No condition. -/
import Derived.Test.YtjjbpfbbfjdhdaaQn
namespace Go.Proofs.Ytjjbpfbbfjdhdaa
open Go.ChangeShapes Go.WideShapes Go.ChangeAt Go.RowKit
set_option linter.unusedVariables false

theorem cptG_has {α : Type} [DecidableEq α] : ∀ (p : Option α) (l : List α) (x : α), x ∈ l → x ∈ cptG p l ∨ p = some x
  | p, y :: r, x, h => by
    rw [cptG]
    split
    · rename_i e
      rcases List.mem_cons.1 h with rfl | h
      · exact .inr e
      · rcases cptG_has (some y) r x h with h1 | h1
        · exact .inl h1
        · exact .inr (e.trans h1)
    · rcases List.mem_cons.1 h with rfl | h
      · exact .inl (List.mem_cons_self ..)
      · rcases cptG_has (some y) r x h with h1 | h1
        · exact .inl (List.mem_cons_of_mem _ h1)
        · injection h1 with h1
          subst h1
          exact .inl (List.mem_cons_self ..)
theorem cptM_mem {α : Type} [DecidableEq α] {l : List α} {x : α} : x ∈ cptM l ↔ x ∈ l :=
  ⟨fun h => cptG_sub none l x h, fun h => (cptG_has none l x h).resolve_right fun e => by cases e⟩
theorem claM_iff {c : List Int} {x : Int} : x ∈ claM c ↔ x ∈ c := by
  unfold claM
  rw [cptM_mem]
  exact (srtC_perm litC c).mem_iff
theorem canM_iff {cs : List (List Int)} {d : List Int} : d ∈ canM cs ↔ oppM d = false ∧ ∃ c ∈ cs, claM c = d := by
  unfold canM
  rw [cptM_mem, (srtC_perm clsC _).mem_iff, List.mem_filter, List.mem_map]
  constructor
  · rintro ⟨h1, h2⟩
    exact ⟨by simpa using h2, h1⟩
  · rintro ⟨h1, h2⟩
    exact ⟨h2, by simpa using h1⟩
theorem oppM_has : ∀ (l : List Int), oppM l = true → ∃ x ∈ l, x ≠ 0 ∧ -x ∈ l
  | [], h => by simp [oppM] at h
  | [_], h => by simp [oppM] at h
  | a :: b :: r, h => by
    rw [oppM, Bool.or_eq_true] at h
    rcases h with h | h
    · simp only [Bool.and_eq_true, decide_eq_true_eq] at h
      exact ⟨a, List.mem_cons_self .., by omega, by rw [← h.1.2]; simp⟩
    · obtain ⟨x, h1, h2, h3⟩ := oppM_has (b :: r) h
      exact ⟨x, List.mem_cons_of_mem _ h1, h2, List.mem_cons_of_mem _ h3⟩
theorem litT_neg (inp : List Bool) {x : Int} (h : x ≠ 0) : litT inp (-x) = !litT inp x := by
  unfold litT
  rcases Int.lt_or_gt_of_ne h with h1 | h1
  · rw [decide_eq_true (show 0 < -x by omega), decide_eq_false (show ¬ -x < 0 by omega), decide_eq_false (show ¬ 0 < x by omega), decide_eq_true h1]
    simp
  · rw [decide_eq_false (show ¬ 0 < -x by omega), decide_eq_true (show -x < 0 by omega), decide_eq_true h1, decide_eq_false (show ¬ x < 0 by omega), Int.neg_neg]
    simp
theorem any_mem {α : Type} {f : α → Bool} {l m : List α} (h : ∀ x, x ∈ l ↔ x ∈ m) : l.any f = m.any f := by
  rw [Bool.eq_iff_iff, List.any_eq_true, List.any_eq_true]
  exact ⟨fun ⟨x, h1, h2⟩ => ⟨x, (h x).1 h1, h2⟩, fun ⟨x, h1, h2⟩ => ⟨x, (h x).2 h1, h2⟩⟩
theorem opp_any {inp : List Bool} {c : List Int} (h : oppM (claM c) = true) : c.any (litT inp) = true := by
  obtain ⟨x, h1, h2, h3⟩ := oppM_has _ h
  rw [claM_iff] at h1 h3
  rw [List.any_eq_true]
  rcases bool2 (litT inp x) with h4 | h4
  · exact ⟨x, h1, h4⟩
  · exact ⟨-x, h3, by rw [litT_neg inp h2, h4]; rfl⟩
theorem true_can (cs : List (List Int)) (inp : List Bool) : trueM (canM cs) inp = trueM cs inp := by
  unfold trueM
  rw [Bool.eq_iff_iff, List.all_eq_true, List.all_eq_true]
  constructor
  · intro h c hc
    rcases bool2 (oppM (claM c)) with ho | ho
    · exact opp_any ho
    · have := h (claM c) (canM_iff.2 ⟨ho, c, hc, rfl⟩)
      rwa [any_mem (m := c) fun x => claM_iff] at this
  · intro h d hd
    obtain ⟨_, c, hc, rfl⟩ := canM_iff.1 hd
    rw [any_mem (m := c) fun x => claM_iff]
    exact h c hc
theorem plain_can {cs : List (List Int)} {n : Nat} (h : plainM cs n = true) : plainM (canM cs) n = true := by
  unfold plainM at h ⊢
  have h1 : (cs.any fun c => c.any (outB n)) = false := by simpa using h
  have h2 : ((canM cs).any fun c => c.any (outB n)) = false := by
    rw [List.any_eq_false]
    intro d hd
    obtain ⟨_, c, hc, rfl⟩ := canM_iff.1 hd
    have := List.any_eq_false.1 h1 c hc
    rwa [any_mem (m := c) fun x => claM_iff]
  rw [h2]
  rfl
set_option maxRecDepth 100000 in
set_option maxHeartbeats 8000000 in
theorem CnfModels_any (F : Nat → Prop) (cv : Value) (cs : List (List Int)) (w : World) (hx : Clss F w cv cs) :
    Calls Try.prog 4 #[cv] w (BoolPost w true) := by
  obtain ⟨a, n, c, rfl, HN, hn⟩ := hx.form'
  have HX := Lib.hid hx
  clear hx
  go_enter Try.func4, Try.ntmps4
  go_wp2_with fail
  refine (known_any w).mono ?_
  rintro e w2 ⟨rfl, hb2⟩
  have HX2 := Lib.hid (HX.out.below hb2)
  have HB2 := Lib.hid hb2
  obtain ⟨Fw, hFw⟩ : ∃ b, fewC cs 20 100 = b := ⟨_, rfl⟩
  have hfew := lfew_any F (.slice a n c) cs 20 100 w2 HX2.out (by omega) (by omega)
  rw [hFw] at hfew
  have HFEW := Lib.hid hfew
  have HFW := Lib.hid hFw
  clear hb2 HX hfew hFw
  go_wp2_with fail
  refine HFEW.out.mono ?_
  rintro e w3 ⟨rfl, rfl⟩
  rcases bool2 Fw with rfl | rfl
  case inr =>
    go_wp2_with fail
    go_ret
    exact ⟨rfl, HB2.out⟩
  obtain ⟨hl, hll⟩ := few_lens HFW.out
  have HL : Hid (cs.length ≤ 60 ∧ ∀ c ∈ cs, c.length ≤ 16777216) := Lib.hid ⟨by omega, fun c hc => by have := hll c hc; omega⟩
  obtain ⟨Pl, hPl⟩ : ∃ b, plainM cs 6 = b := ⟨_, rfl⟩
  have hpl := plain_any F 6 (.slice a n c) cs w3 HX2.out (by omega)
  rw [hPl] at hpl
  have HPL := Lib.hid hpl
  have HPE := Lib.hid hPl
  clear HFEW HFW hl hll hpl hPl
  go_wp2_with fail
  refine HPL.out.mono ?_
  rintro e w4 ⟨rfl, rfl⟩
  rcases bool2 Pl with rfl | rfl
  case inr =>
    go_wp2_with fail
    go_ret
    exact ⟨rfl, HB2.out⟩
  have HCN := Lib.hid (canonical_any F (.slice a n c) cs w4 HX2.out (by have := HL.out.1; omega) HL.out.2)
  clear HPL
  go_wp2_with fail
  refine HCN.out.mono ?_
  rintro e w5 ⟨v5, rfl, hc5, hb5⟩
  obtain ⟨qa, qn, qc, rfl, _, _⟩ := hc5.form'
  have HC5 := Lib.hid hc5
  have HX5 := Lib.hid (HX2.out.below hb5)
  have HB5 : Hid (Below w.heap.size w w5) := Lib.hid (HB2.out.trans (hb5.mono HB2.out.size))
  have hpl := plain_any _ 6 (.slice qa qn qc) (canM cs) w5 HC5.out (by omega)
  rw [plain_can HPE.out] at hpl
  have HPL := Lib.hid hpl
  clear hc5 hb5 HCN HX2 HB2 hpl
  go_wp2_with fail
  refine HPL.out.mono ?_
  rintro e w6 ⟨rfl, rfl⟩
  have HBL : Hid (Below w6.heap.size w6 w6) := Lib.hid (Below.refl _ _)
  have HT : Hid (∀ inp, trueM (canM cs) inp = trueM cs inp) := Lib.hid (true_can cs)
  have HP1 : Hid (∀ c ∈ cs, ∀ x ∈ c, x ≠ 0 ∧ varM x ≤ (6 : Nat)) := Lib.hid (plain_lits HPE.out)
  have HP2 : Hid (∀ c ∈ canM cs, ∀ x ∈ c, x ≠ 0 ∧ varM x ≤ (6 : Nat)) := Lib.hid (plain_lits (plain_can HPE.out))
  clear HPL HPE
  go_wp2_with fail
  go_loopg [4] 64 (fun g u4 wx => ∃ k : Nat, k + g = 64 ∧ u4 = .int .i64 k ∧ Hid (Below w6.heap.size w6 wx))
  case atStart => exact ⟨0, by omega, rfl, HBL⟩
  case round =>
  clear HBL
  obtain ⟨k, hkg, rfl, HBL⟩ := hrel
  have HBW : Hid (Below w.heap.size w wr) := Lib.hid (HB5.out.trans (HBL.out.mono HB5.out.size))
  by_cases hk : k < 64
  case neg =>
    have hd : decide ((k : Int) < 64) = false := by simp; omega
    go_wp2_with fail
    go_ret
    exact ⟨rfl, HBW.out⟩
  have hd : decide ((k : Int) < 64) = true := by simp; omega
  have HAS := Lib.hid (assign_any 6 k wr (by omega) (by omega))
  go_wp2_with fail
  refine Calls.mono HAS.out ?_
  rintro e w7 ⟨iv, rfl, hi7, hb7⟩
  obtain ⟨ia, ic, rfl, _⟩ := hi7.form
  have HB7 : Hid (Below w6.heap.size w6 w7) := Lib.hid (HBL.out.trans (hb7.mono HBL.out.size))
  have HX7 := Lib.hid (HX5.out.below HB7.out)
  have HC7 := Lib.hid (Clss.below HC5.out HB7.out)
  have h1 := true_any _ _ _ _ _ (assM 6 k) w7 HC7.out hi7 (by rw [assM_len]; exact HP2.out)
  have h2 := fun m => true_any _ _ _ _ _ (assM 6 k) (w7.drewN m) (HX7.out.drewN m) (hi7.drewN m) (by rw [assM_len]; exact HP1.out)
  rw [HT.out] at h1
  obtain ⟨T, hT⟩ : ∃ T, trueM cs (assM 6 k) = T := ⟨_, rfl⟩
  rw [hT] at h1 h2
  have H1 := Lib.hid h1
  have H2 := Lib.hid h2
  clear hi7 hb7 h1 h2 hT HAS
  go_wp2_with fail
  refine H1.out.mono ?_
  rintro e w8 ⟨rfl, n8, rfl⟩
  go_wp2_with fail
  refine (H2.out n8).mono ?_
  rintro e w9 ⟨rfl, n9, rfl⟩
  have hTT : (T != T) = false := by simp
  go_wp2_with fail
  go_roundg (gk - 1)
  case measure => omega
  case rel => exact ⟨k + 1, by omega, by go_num, Lib.hid (below_drewN HB7.out (n8 + n9))⟩
end Go.Proofs.Ytjjbpfbbfjdhdaa
