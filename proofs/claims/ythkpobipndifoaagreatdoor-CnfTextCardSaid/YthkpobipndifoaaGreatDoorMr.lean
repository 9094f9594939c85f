/- (Text seat) Walks: number of any int and text, of the statements. No condition but the ranges. -/
import Derived.Test.YthkpobipndifoaaGreatDoorMq
import Derived.Test.YthkpobipndifoaaGreatDoorMo
namespace Go.Proofs.YthkpobipndifoaaGreatDoor
open Go.ChangeShapes Go.WideShapes Go.ChangeAt Go.RowKit Go.Lib
set_option linter.unusedVariables false
set_option linter.unusedSimpArgs false

abbrev BA (l : Bts) : ByteArray := ⟨l.toArray⟩
theorem ba_app (a b : Bts) : BA a ++ BA b = BA (a ++ b) := by apply ByteArray.ext; simp
theorem ba_size (a : Bts) : (BA a).size = a.length := by show a.toArray.size = _; simp
def StrPost (W : World) (l : Bts) (e : Ending) (w' : World) : Prop := ∃ S : ByteArray, e = .returned (.string S) ∧ Hid (S = BA l) ∧ ∃ n, w' = W.drewN n
theorem itoa_len20 {n : Int} (h1 : -1000000000000000000 ≤ n) (h2 : n ≤ 1000000000000000000) : (itoa n).length ≤ 20 := by
  unfold itoa
  split
  · rw [List.length_cons, decDigits_length]
    have := nDigits_le (u := n.natAbs) (k := 19) (by omega) (by omega)
    omega
  · rw [decDigits_length]
    have := nDigits_le (u := n.toNat) (k := 19) (by omega) (by omega)
    omega
set_option maxRecDepth 100000 in
set_option maxHeartbeats 2000000 in
theorem lnum_any (n : Int) (w : World) (h1 : -1000000000000000000 ≤ n) (h2 : n ≤ 1000000000000000000) : Calls Tryz.prog 20 #[.int .i64 n] w (StrPost w (itoa n)) := by
  by_cases h : n < 0
  · obtain ⟨m, rfl⟩ : ∃ m : Nat, n = -(m : Int) := ⟨n.natAbs, by omega⟩
    have hd0 : decide (-(m : Int) < 0) = true := decide_eq_true h
    have hneg : - -(m : Int) = (m : Int) := by omega
    have hm0 : 0 < m := by omega
    have hd0' : decide (0 < m) = true := decide_eq_true hm0
    obtain ⟨hw, hw'⟩ := wr64 (x := (m : Int)) (by omega) (by omega)
    have hm1 : 1 ≤ m := by omega
    have HL : Hid ((decDigits m).length ≤ 19) := Lib.hid (by rw [decDigits_length]; exact nDigits_le (k := 19) (by omega) (by omega))
    obtain ⟨D, hD⟩ : ∃ D : ByteArray, BA (decDigits m) = D := ⟨_, rfl⟩
    have HN : Hid (∀ w, Calls Tryz.prog 20 #[.int .i64 m] w (QuietPost w (.string D))) := Lib.hid fun w => by rw [← hD]; exact lnumber_nat m (by omega) w
    have hc : ¬ 9223372036854775807 < 1 + D.size := by rw [← hD, ba_size]; have := HL.out; omega
    have HD := Lib.hid hD
    have HI : Hid (itoa (-(m : Int)) = [45] ++ decDigits m) := Lib.hid (itoa_neg m hm1)
    clear h h1 h2 hm1 HL hD
    go_enter Tryz.func20, Tryz.ntmps20
    go_wp2_with fail
    refine (HN.out _).mono ?_
    rintro e w1 ⟨rfl, n1, rfl⟩
    go_wp2_with fail
    go_ret
    refine ⟨_, rfl, Lib.hid ?_, n1, rfl⟩
    rw [HI.out, ← ba_app, HD.out]
  · obtain ⟨m, rfl⟩ : ∃ m : Nat, n = (m : Int) := ⟨n.toNat, by omega⟩
    refine (lnumber_nat m (by omega) w).mono ?_
    rintro e w1 ⟨rfl, n1, rfl⟩
    exact ⟨_, rfl, Lib.hid (by rw [itoa_nonneg]), n1, rfl⟩

theorem headT_len {v n k : Int} (hv : -1000000 ≤ v ∧ v ≤ 1000000) (hn : -1000000 ≤ n ∧ n ≤ 1000000) (hk : -1000000 ≤ k ∧ k ≤ 1000000) : (headT v n k).length ≤ 80 := by
  have h1 := itoa_len20 (n := v) (by omega) (by omega)
  have h2 := itoa_len20 (n := n) (by omega) (by omega)
  have h3 := itoa_len20 (n := k) (by omega) (by omega)
  unfold headT
  simp [wPcnf, wSp, wKeep, wNl]
  omega
theorem clsT_take_le (k : Nat) (cs : List (List Int)) : (clsT (cs.take k)).length ≤ (clsT cs).length := by
  have h := congrArg (fun l => (clsT l).length) (List.take_append_drop k cs)
  simp only [clsT_app, List.length_append] at h
  omega
theorem litsT_take_le (k : Nat) (c : List Int) : (litsT (c.take k)).length ≤ (litsT c).length := by
  have h := congrArg (fun l => (litsT l).length) (List.take_append_drop k c)
  simp only [litsT_app, List.length_append] at h
  omega
theorem clsT_bound {B : Nat} : ∀ {cs : List (List Int)}, (∀ c ∈ cs, (litsT c).length + 2 ≤ B) → (clsT cs).length ≤ cs.length * B
  | [], _ => by simp [clsT]
  | c :: cs, h => by
    have e : (c :: cs).length * B = cs.length * B + B := by rw [List.length_cons, Nat.succ_mul]
    rw [clsT, List.length_append, List.length_append, e]
    have := clsT_bound fun d hd => h d (List.mem_cons_of_mem _ hd)
    have := h c (List.mem_cons_self ..)
    simp
    omega
def TxPost (W : World) (l : Bts) (e : Ending) (w' : World) : Prop := ∃ S : ByteArray, e = .returned (.string S) ∧ Hid (S = BA l) ∧ Below W.heap.size W w'
theorem litsT_bound {m : Nat} : ∀ {c : List Int}, (∀ x ∈ c, (itoa x).length ≤ m) → (litsT c).length ≤ c.length * (m + 1)
  | [], _ => by simp [litsT]
  | x :: c, h => by
    rw [litsT, List.length_append, List.length_append, List.length_cons, Nat.succ_mul]
    have := litsT_bound fun y hy => h y (List.mem_cons_of_mem _ hy)
    have := h x (List.mem_cons_self ..)
    simp [wSp]
    omega
theorem text_bound {v k : Int} {cs : List (List Int)} (hv : -1000000 ≤ v ∧ v ≤ 1000000) (hk : -1000000 ≤ k ∧ k ≤ 1000000) (hl : cs.length ≤ 1000000) (hll : ∀ c ∈ cs, c.length ≤ 1000000) (h64 : ∀ c ∈ cs, ∀ x ∈ c, -1000000 ≤ x ∧ x ≤ 1000000) : (textM v k cs).length ≤ 100000000000000 := by
  have h1 := headT_len (n := cs.length) hv ⟨by omega, by omega⟩ hk
  have h2 : (clsT cs).length ≤ cs.length * 22000002 := clsT_bound fun c hc => by
    have h3 := litsT_bound (m := 20) (c := c) fun x hx => itoa_len20 (by have := h64 c hc x hx; omega) (by have := h64 c hc x hx; omega)
    have := hll c hc
    omega
  have h4 := Nat.mul_le_mul_right 22000002 hl
  unfold textM
  rw [List.length_append]
  omega
set_option maxRecDepth 100000 in
set_option maxHeartbeats 8000000 in
theorem ltext_any (F : Nat → Prop) (vars keep : Int) (cv : Value) (cs : List (List Int)) (w : World) (hx : Clss F w cv cs) (hv : -1000000 ≤ vars ∧ vars ≤ 1000000) (hk : -1000000 ≤ keep ∧ keep ≤ 1000000) (hl : cs.length ≤ 1000000) (hll : ∀ c ∈ cs, c.length ≤ 1000000) (h64 : ∀ c ∈ cs, ∀ x ∈ c, -1000000 ≤ x ∧ x ≤ 1000000) :
    Calls Tryz.prog 8 #[.agg #[.int .i64 vars, .int .i64 keep, cv]] w (TxPost w (textM vars keep cs)) := by
  obtain ⟨ca, cn, cc, rfl, HCN, _⟩ := hx.form'
  obtain ⟨s, hs⟩ : ∃ b, w.heap.size = b := ⟨_, rfl⟩
  obtain ⟨W1, hW1⟩ : ∃ W, w.alloc (.cells #[.int .i64 vars, .int .i64 keep, .slice ca cn cc] 25) = W := ⟨_, rfl⟩
  have hb1 : Below w.heap.size w W1 := by rw [← hW1]; exact (Below.refl _ _).alloc (Nat.le_refl _) _
  have hr : W1.heap[s]? = some (.cells #[.int .i64 vars, .int .i64 keep, .slice ca cn cc] 25) := by rw [← hW1]; exact new_at' _ _ hs.symm
  have c0 : W1.cell? ⟨s, 0, none⟩ = some (.int .i64 vars) := by rw [cell_of_row _ _ _ _ _ _ hr]; rfl
  have c1 : W1.cell? ⟨s, 1, none⟩ = some (.int .i64 keep) := by rw [cell_of_row _ _ _ _ _ _ hr]; rfl
  have c2 : W1.cell? ⟨s, 2, none⟩ = some (.slice ca cn cc) := by rw [cell_of_row _ _ _ _ _ _ hr]; rfl
  have HX : Hid (Clss F W1 (.slice ca cn cc) cs) := Lib.hid (Clss.below hx hb1)
  have HB1 := Lib.hid hb1
  have HW1 := Lib.hid hW1
  have HS := Lib.hid hs
  have hcn : cn ≤ 1000000 := by rw [HCN.out]; exact hl
  have HLL := Lib.hid hll
  have H64 := Lib.hid h64
  have HV := Lib.hid hv
  have HK := Lib.hid hk
  obtain ⟨N, hN⟩ : ∃ N, (textM vars keep cs).length = N := ⟨_, rfl⟩
  have hNb : N ≤ 100000000000000 := by rw [← hN]; exact text_bound hv hk hl hll h64
  have HNC : Hid ((headT vars cn keep).length + (clsT cs).length = N) := Lib.hid (by rw [← hN]; unfold textM; rw [List.length_append, HCN.out])
  clear hN
  have HN1 := Lib.hid (fun w => lnum_any vars w (by omega) (by omega))
  have HN2 := Lib.hid (fun w => lnum_any (cn : Int) w (by omega) (by omega))
  have HN3 := Lib.hid (fun w => lnum_any keep w (by omega) (by omega))
  clear hx hb1 hr hW1 hs hl hll h64 hv hk
  go_enter Tryz.func8, Tryz.ntmps8
  go_upto_region 1 with fail
  try rw [HW1.out, HS.out]
  refine wp_region_held_drew (S := fun w' => w'.cell? ⟨s, 0, none⟩ = some (.int .i64 vars) ∧ w'.cell? ⟨s, 1, none⟩ = some (.int .i64 keep) ∧ w'.cell? ⟨s, 2, none⟩ = some (.slice ca cn cc)) (by kernel_rfl) (by exact ⟨c0, c1, c2⟩) (fun hHeld => ?_)
  refine wpAnyH_take (i := 0) (v := ?_) rfl (by kernel_rfl) (by kernel_rfl) (by kernel_rfl) (fun _ _ _ h => h) (Or.inl ⟨by rfl, ?_⟩) (by assumption) ?_
  rotate_left
  · intro w hSw
    try dsimp only at hSw
    go_simp
    try with_reducible rfl
  try simp only [Act.put, List.getElem_toArray, List.getElem_cons_succ, List.getElem_cons_zero, List.setIfInBounds_toArray, List.set_cons_zero, List.set_cons_succ]
  refine wpAnyH_take (i := 1) (v := ?_) rfl (by kernel_rfl) (by kernel_rfl) (by kernel_rfl) (fun _ _ _ h => h) (Or.inl ⟨by rfl, ?_⟩) (by assumption) ?_
  rotate_left
  · intro w hSw
    try dsimp only at hSw
    go_simp
    try with_reducible rfl
  try simp only [Act.put, List.getElem_toArray, List.getElem_cons_succ, List.getElem_cons_zero, List.setIfInBounds_toArray, List.set_cons_zero, List.set_cons_succ]
  refine wpAnyH_take (i := 5) (v := ?_) rfl (by kernel_rfl) (by kernel_rfl) (by kernel_rfl) (fun _ _ _ h => h) (Or.inl ⟨by rfl, ?_⟩) (by assumption) ?_
  rotate_left
  · intro w hSw
    try dsimp only at hSw
    go_simp
    try with_reducible rfl
  try simp only [Act.put, List.getElem_toArray, List.getElem_cons_succ, List.getElem_cons_zero, List.setIfInBounds_toArray, List.set_cons_zero, List.set_cons_succ]
  refine wpAnyH_take (i := 6) (v := ?_) rfl (by kernel_rfl) (by kernel_rfl) (by kernel_rfl) (fun _ _ _ h => h) (Or.inl ⟨by rfl, ?_⟩) (by assumption) ?_
  rotate_left
  · intro w hSw
    try dsimp only at hSw
    go_simp
    try with_reducible rfl
  try simp only [Act.put, List.getElem_toArray, List.getElem_cons_succ, List.getElem_cons_zero, List.setIfInBounds_toArray, List.set_cons_zero, List.set_cons_succ]
  refine wpAnyH_take (i := 7) (v := ?_) rfl (by kernel_rfl) (by kernel_rfl) (by kernel_rfl) (fun _ _ _ h => h) (Or.inl ⟨by rfl, ?_⟩) (by assumption) ?_
  rotate_left
  · intro w hSw
    try dsimp only at hSw
    go_simp
    try with_reducible rfl
  try simp only [Act.put, List.getElem_toArray, List.getElem_cons_succ, List.getElem_cons_zero, List.setIfInBounds_toArray, List.set_cons_zero, List.set_cons_succ]
  refine wpAnyH_take (i := 11) (v := ?_) rfl (by kernel_rfl) (by kernel_rfl) (by kernel_rfl) (fun _ _ _ h => h) (Or.inl ⟨by rfl, ?_⟩) (by assumption) ?_
  rotate_left
  · intro w hSw
    try dsimp only at hSw
    go_simp
    try with_reducible rfl
  try simp only [Act.put, List.getElem_toArray, List.getElem_cons_succ, List.getElem_cons_zero, List.setIfInBounds_toArray, List.set_cons_zero, List.set_cons_succ]
  refine wpAnyH_take (i := 12) (v := ?_) rfl (by kernel_rfl) (by kernel_rfl) (by kernel_rfl) (fun _ _ _ h => h) (Or.inl ⟨by rfl, ?_⟩) (by assumption) ?_
  rotate_left
  · intro w hSw
    try dsimp only at hSw
    go_simp
    try with_reducible rfl
  try simp only [Act.put, List.getElem_toArray, List.getElem_cons_succ, List.getElem_cons_zero, List.setIfInBounds_toArray, List.set_cons_zero, List.set_cons_succ]
  refine wpAnyH_ready (rs := [2]) (by kernel_rfl) (by simp) ?_
  refine AllReadyH.cons rfl (fun K hK => ?_) AllReadyH.nil
  go_simp
  go_at_call 20
  (with_reducible refine (HN1.out _).mono ?_)
  rintro e w1 ⟨S1, rfl, HS1, n1, rfl⟩
  have hz1 : S1.size ≤ 20 := by rw [HS1.out, ba_size]; exact itoa_len20 (by have := HV.out; omega) (by have := HV.out; omega)
  have g1 : ¬ 9223372036854775807 < 6 + S1.size := by omega
  have g2 : ¬ 9223372036854775807 < 6 + S1.size + 1 := by omega
  go_wp2_with fail
  refine hK.out _ _ (by exact ⟨c0, c1, c2⟩) (fun _ => ?_)
  clear hK K
  try simp only [Act.put, List.getElem_toArray, List.getElem_cons_succ, List.getElem_cons_zero, List.setIfInBounds_toArray, List.set_cons_zero, List.set_cons_succ]
  refine wpAnyH_take (i := 3) (v := ?_) rfl (by kernel_rfl) (by kernel_rfl) (by kernel_rfl) (fun _ _ _ h => h) (Or.inl ⟨by rfl, ?_⟩) (by assumption) ?_
  rotate_left
  · intro w hSw
    try dsimp only at hSw
    go_simp
    try with_reducible rfl
  try simp only [Act.put, List.getElem_toArray, List.getElem_cons_succ, List.getElem_cons_zero, List.setIfInBounds_toArray, List.set_cons_zero, List.set_cons_succ]
  refine wpAnyH_take (i := 4) (v := ?_) rfl (by kernel_rfl) (by kernel_rfl) (by kernel_rfl) (fun _ _ _ h => h) (Or.inl ⟨by rfl, ?_⟩) (by assumption) ?_
  rotate_left
  · intro w hSw
    try dsimp only at hSw
    go_simp
    try with_reducible rfl
  try simp only [Act.put, List.getElem_toArray, List.getElem_cons_succ, List.getElem_cons_zero, List.setIfInBounds_toArray, List.set_cons_zero, List.set_cons_succ]
  refine wpAnyH_ready (rs := [8]) (by kernel_rfl) (by simp) ?_
  refine AllReadyH.cons rfl (fun K hK => ?_) AllReadyH.nil
  go_simp
  go_at_call 20
  (with_reducible refine (HN2.out _).mono ?_)
  rintro e w1 ⟨S2, rfl, HS2, n2, rfl⟩
  have hz2 : S2.size ≤ 20 := by rw [HS2.out, ba_size]; exact itoa_len20 (by omega) (by omega)
  have g3 : ¬ 9223372036854775807 < 6 + S1.size + 1 + S2.size := by omega
  have g4 : ¬ 9223372036854775807 < 6 + S1.size + 1 + S2.size + 8 := by omega
  go_wp2_with fail
  refine hK.out _ _ (by exact ⟨c0, c1, c2⟩) (fun _ => ?_)
  clear hK K
  try simp only [Act.put, List.getElem_toArray, List.getElem_cons_succ, List.getElem_cons_zero, List.setIfInBounds_toArray, List.set_cons_zero, List.set_cons_succ]
  refine wpAnyH_take (i := 9) (v := ?_) rfl (by kernel_rfl) (by kernel_rfl) (by kernel_rfl) (fun _ _ _ h => h) (Or.inl ⟨by rfl, ?_⟩) (by assumption) ?_
  rotate_left
  · intro w hSw
    try dsimp only at hSw
    go_simp
    try with_reducible rfl
  try simp only [Act.put, List.getElem_toArray, List.getElem_cons_succ, List.getElem_cons_zero, List.setIfInBounds_toArray, List.set_cons_zero, List.set_cons_succ]
  refine wpAnyH_take (i := 10) (v := ?_) rfl (by kernel_rfl) (by kernel_rfl) (by kernel_rfl) (fun _ _ _ h => h) (Or.inl ⟨by rfl, ?_⟩) (by assumption) ?_
  rotate_left
  · intro w hSw
    try dsimp only at hSw
    go_simp
    try with_reducible rfl
  try simp only [Act.put, List.getElem_toArray, List.getElem_cons_succ, List.getElem_cons_zero, List.setIfInBounds_toArray, List.set_cons_zero, List.set_cons_succ]
  refine wpAnyH_ready (rs := [13]) (by kernel_rfl) (by simp) ?_
  refine AllReadyH.cons rfl (fun K hK => ?_) AllReadyH.nil
  go_simp
  go_at_call 20
  (with_reducible refine (HN3.out _).mono ?_)
  rintro e w1 ⟨S3, rfl, HS3, n3, rfl⟩
  have hz3 : S3.size ≤ 20 := by rw [HS3.out, ba_size]; exact itoa_len20 (by have := HK.out; omega) (by have := HK.out; omega)
  have g5 : ¬ 9223372036854775807 < 6 + S1.size + 1 + S2.size + 8 + S3.size := by omega
  have g6 : ¬ 9223372036854775807 < 6 + S1.size + 1 + S2.size + 8 + S3.size + 1 := by omega
  go_wp2_with fail
  refine hK.out _ _ (by exact ⟨c0, c1, c2⟩) (fun _ => ?_)
  clear hK K
  try simp only [Act.put, List.getElem_toArray, List.getElem_cons_succ, List.getElem_cons_zero, List.setIfInBounds_toArray, List.set_cons_zero, List.set_cons_succ]
  refine wpAnyH_take (i := 14) (v := ?_) rfl (by kernel_rfl) (by kernel_rfl) (by kernel_rfl) (fun _ _ _ h => h) (Or.inl ⟨by rfl, ?_⟩) (by assumption) ?_
  rotate_left
  · intro w hSw
    try dsimp only at hSw
    go_simp
    try with_reducible rfl
  try simp only [Act.put, List.getElem_toArray, List.getElem_cons_succ, List.getElem_cons_zero, List.setIfInBounds_toArray, List.set_cons_zero, List.set_cons_succ]
  refine wpAnyH_take (i := 15) (v := ?_) rfl (by kernel_rfl) (by kernel_rfl) (by kernel_rfl) (fun _ _ _ h => h) (Or.inl ⟨by rfl, ?_⟩) (by assumption) ?_
  rotate_left
  · intro w hSw
    try dsimp only at hSw
    go_simp
    try with_reducible rfl
  try simp only [Act.put, List.getElem_toArray, List.getElem_cons_succ, List.getElem_cons_zero, List.setIfInBounds_toArray, List.set_cons_zero, List.set_cons_succ]
  refine wpAnyH_take (i := 16) (v := ?_) rfl (by kernel_rfl) (by kernel_rfl) (by kernel_rfl) (fun _ _ _ h => h) (Or.inl ⟨by rfl, ?_⟩) (by assumption) ?_
  rotate_left
  · intro w hSw
    try dsimp only at hSw
    go_simp
    try with_reducible rfl
  try simp only [Act.put, List.getElem_toArray, List.getElem_cons_succ, List.getElem_cons_zero, List.setIfInBounds_toArray, List.set_cons_zero, List.set_cons_succ]
  refine wpAnyH_done (by kernel_rfl) ?_ _
  have HS0 : Hid ((⟨#[112, 32, 99, 110, 102, 32]⟩ : ByteArray) ++ S1 ++ ⟨#[32]⟩ ++ S2 ++ ⟨#[10, 99, 32, 107, 101, 101, 112, 32]⟩ ++ S3 ++ ⟨#[10]⟩ = BA (headT vars cn keep ++ clsT (cs.take 0))) := Lib.hid (by
    rw [HS1.out, HS2.out, HS3.out]
    show BA wPcnf ++ BA (itoa vars) ++ BA wSp ++ BA (itoa cn) ++ BA wKeep ++ BA (itoa keep) ++ BA wNl = _
    simp only [ba_app]
    simp [headT, clsT])
  have HBD : Hid (Below W1.heap.size W1 (W1.drew.drewN (n1 + n2 + n3))) := Lib.hid (below_drewN (Below.refl _ _).drew _)
  clear HS1 HS2 HS3 hz1 hz2 hz3 g1 g2 g3 g4 g5 g6
  go_wp2_with fail
  go_loopg [3, 27] cn (fun gg u3 u27 wx => ∃ (k : Nat) (S : ByteArray), k + gg = cn ∧ u27 = .int .i64 k ∧ u3 = .string S ∧ Hid (S = BA (headT vars cn keep ++ clsT (cs.take k))) ∧ S.size ≤ N ∧ Hid (Below W1.heap.size W1 wx))
  case atStart => exact ⟨0, _, by omega, rfl, rfl, HS0, by rw [HS0.out, ba_size]; have := HNC.out; simp [clsT]; omega, Lib.hid (by repeat (first | exact Below.refl _ _ | exact (Below.refl _ _).drew | apply below_drewN))⟩
  case round =>
  clear HS0 HBD
  obtain ⟨k, S, hkg, rfl, rfl, HSE, hsz, HB⟩ := hrel
  by_cases hk : k < cn
  case neg =>
    obtain rfl : k = cn := by omega
    have hdk : decide ((k : Int) < k) = false := by simp
    have hdk' : decide (k < k) = false := decide_eq_false (by omega)
    have HF : Hid (S = BA (textM vars keep cs)) := Lib.hid (by rw [HSE.out, List.take_of_length_le (by rw [HCN.out]; exact Nat.le_refl _)]; unfold textM; rw [← HCN.out])
    clear HSE
    go_wp2_with fail
    go_ret
    exact ⟨_, rfl, HF, HB1.out.trans (HB.out.mono HB1.out.size)⟩
  obtain ⟨c, hc⟩ : ∃ c, cs[k]? = some c := ⟨_, List.getElem?_eq_getElem (by rw [← HCN.out]; exact hk)⟩
  have hxr : Clss F wr (.slice ca cn cc) cs := Clss.below HX.out HB.out
  obtain ⟨xb, xo, xv, rfl, _, hxb, hxc, hxi⟩ := hxr.at hc
  obtain ⟨xa, xn, xcp, rfl, HXN, _⟩ := hxi.form'
  have hdk : decide ((k : Int) < cn) = true := by simp; omega
  have hdk' : decide (k < cn) = true := decide_eq_true hk
  have hk0 : (0 : Int) ≤ k := by omega
  have hkn : (k : Int) < cn := by omega
  have HXI := Lib.hid hxi
  have hxn : xn ≤ 1000000 := by rw [HXN.out]; exact HLL.out c (List.mem_of_getElem? hc)
  have HC64 := Lib.hid (H64.out c (List.mem_of_getElem? hc))
  have HTK : Hid (clsT (cs.take (k + 1)) = clsT (cs.take k) ++ (litsT c ++ [48, 10])) := Lib.hid (by rw [List.take_add_one, hc, clsT_app]; simp [clsT])
  have HTL : Hid ((clsT (cs.take k)).length + (litsT c).length + 2 ≤ (clsT cs).length) := Lib.hid (by
    have h := clsT_take_le (k + 1) cs
    rw [HTK.out] at h
    simp at h
    omega)
  have HS1 : Hid (S = BA (headT vars cn keep ++ clsT (cs.take k) ++ litsT (c.take 0))) := Lib.hid (by rw [HSE.out]; simp [litsT])
  obtain ⟨GK, hGK⟩ : ∃ G, G = gk := ⟨_, rfl⟩
  subst hGK
  have HBW : Hid (Below wr.heap.size wr wr) := Lib.hid (Below.refl _ _)
  clear hc hxr hxi HSE
  go_wp2_with fail
  go_loopg [3, 33] xn (fun gg u3 u33 wx => ∃ (j : Nat) (U : ByteArray), j + gg = xn ∧ u33 = .int .i64 j ∧ u3 = .string U ∧ Hid (U = BA (headT vars cn keep ++ clsT (cs.take k) ++ litsT (c.take j))) ∧ U.size ≤ N ∧ Hid (Below wr.heap.size wr wx))
  case atStart => exact ⟨0, S, by omega, rfl, rfl, HS1, by omega, HBW⟩
  case round =>
  clear HS1 HBW
  obtain ⟨j, U, hjg, rfl, rfl, HU, hus, HBJ⟩ := hrel
  by_cases hj : j < xn
  case neg =>
    obtain rfl : xn = j := by omega
    have hdj : decide ((xn : Int) < xn) = false := by simp
    have hdj' : decide (xn < xn) = false := decide_eq_false (by omega)
    have g1 : ¬ 9223372036854775807 < U.size + 2 := by omega
    have HU2 : Hid (U ++ ⟨#[48, 10]⟩ = BA (headT vars cn keep ++ clsT (cs.take (k + 1)))) := Lib.hid (by
      rw [HU.out, HTK.out, List.take_of_length_le (l := c) (by rw [HXN.out]; exact Nat.le_refl _)]
      show BA _ ++ BA [48, 10] = _
      rw [ba_app]
      simp)
    have hus2 : (U ++ ⟨#[48, 10]⟩ : ByteArray).size ≤ N := by
      rw [HU2.out, ba_size, List.length_append]
      have := clsT_take_le (k + 1) cs
      have := HNC.out
      omega
    have HB2 := Lib.hid (HB.out.trans (HBJ.out.mono HB.out.size))
    clear HU HBJ HB hus
    go_wp2_with fail
    go_roundg (GK - 1)
    case measure => omega
    case rel => exact ⟨k + 1, _, by omega, by go_num, rfl, HU2, hus2, HB2⟩
  obtain ⟨x, hxj⟩ : ∃ x, c[j]? = some x := ⟨_, List.getElem?_eq_getElem (by rw [← HXN.out]; exact hj)⟩
  obtain ⟨zb, zo, rfl, _, hzb, hzc, hx64⟩ := (HXI.out.below HBJ.out).at hxj
  have hxr := HC64.out x (List.mem_of_getElem? hxj)
  have hdj : decide ((j : Int) < xn) = true := by simp; omega
  have hdj' : decide (j < xn) = true := decide_eq_true hj
  have hj0 : (0 : Int) ≤ j := by omega
  have hjn : (j : Int) < xn := by omega
  have HLJ : Hid (litsT (c.take (j + 1)) = litsT (c.take j) ++ (itoa x ++ wSp)) := Lib.hid (by rw [List.take_add_one, hxj, litsT_app]; simp [litsT])
  have HNX := Lib.hid (fun w => lnum_any x w (by omega) (by omega))
  have HIL := Lib.hid (itoa_len20 (n := x) (by omega) (by omega))
  clear hxj hx64 hxr
  go_wp2_with fail
  refine (HNX.out _).mono ?_
  rintro e w1 ⟨D, rfl, HNE, n4, rfl⟩
  have hnz : D.size ≤ 20 := by rw [HNE.out, ba_size]; exact HIL.out
  have g1 : ¬ 9223372036854775807 < D.size + 1 := by omega
  have g2 : ¬ 9223372036854775807 < U.size + (D.size + 1) := by omega
  have HU2 : Hid (U ++ (D ++ ⟨#[32]⟩) = BA (headT vars cn keep ++ clsT (cs.take k) ++ litsT (c.take (j + 1)))) := Lib.hid (by
    rw [HU.out, HNE.out, HLJ.out]
    show BA _ ++ (BA _ ++ BA wSp) = _
    rw [ba_app, ba_app]
    simp)
  have hus2 : (U ++ (D ++ ⟨#[32]⟩) : ByteArray).size ≤ N := by
    rw [HU2.out, ba_size, List.length_append, List.length_append]
    have := litsT_take_le (j + 1) c
    have := HTL.out
    have := HNC.out
    omega
  have HB2 := Lib.hid (below_drewN HBJ.out n4)
  clear HU HNE HBJ hus hnz
  go_wp2_with fail
  go_roundg (gk - 1)
  case measure => omega
  case rel => exact ⟨j + 1, _, by omega, by go_num, rfl, HU2, hus2, HB2⟩
end Go.Proofs.YthkpobipndifoaaGreatDoor
