/- (Text seat) Walks: strconv.Itoa and strings.HasPrefix at this program, cnf.Print. Condition: the table of powers lies as laid. -/
import Derived.Test.YthkpobipndifoaaGreatDoorMr
import Derived.Test.YthkpobipndifoaaGreatDoorKu
import Derived.Test.YthkpobipndifoaaGreatDoorTi
import Derived.Test.YthkpobipndifoaaGreatDoorTh
import Derived.Shelf.Strconv.Itoa3
import Derived.Shelf.Strings.Prefix
import Derived.Lib.AppendIntMem
namespace Go.Proofs.YthkpobipndifoaaGreatDoor
open Go.ChangeShapes Go.WideShapes Go.ChangeAt Go.RowKit Go.Lib
set_option linter.unusedVariables false
set_option linter.unusedSimpArgs false

abbrev TabT (B : Nat) (w : World) : Prop := Lib.TabBelow Tryz.prog B w "internal/strconv.uint64pow10" .u64 Lib.pow10Tab
theorem TabT.below {B B' : Nat} {w w' : World} (h : TabT B w) (hb : Below B' w w') (hle : B ≤ B') : TabT B w' := h.on (hb.mono hle)
theorem itoa_any (B : Nat) (n : Int) (w : World) (h : I64 n) (ht : TabT B w) : Calls Tryz.prog 22 #[.int .i64 n] w (TxPost w (itoa n)) := by
  refine (Any.strconv_Itoa itoaL n h.1 h.2 w ht.here).mono ?_
  rintro e w' ⟨rfl, k, os, rfl⟩
  exact ⟨_, rfl, Lib.hid rfl, Lib.below_grow _ w (Nat.le_refl _) k os⟩
theorem bld_below {B b : Nat} {bs : List Value} {w w' : World} (h : Lib.IsBuilder 57 5 B b bs w) (hb : Below w.heap.size w w') : Lib.IsBuilder 57 5 B b bs w' := by
  have key : ∀ p, Lib.BuilderAt 57 5 B b p bs w → Lib.BuilderAt 57 5 B b p bs w' := by
    intro p h
    have hlt := h.lt
    obtain ⟨hB, v, hbk, hown, hne⟩ := h
    exact ⟨hB, v, (hb.block b hlt).trans hbk, own_below hown hb, hne⟩
  exact h.imp (key _) (key _)
theorem bwrite_l (B b : Nat) (l m : Bts) (s : ByteArray) (w : World) (hs : s = BA m) (h : Lib.IsBuilder 57 5 B b (Lib.byteCells l) w) (hlen : l.length + m.length ≤ 140737488355328) (hBw : B ≤ w.heap.size) :
    Calls Tryz.prog 21 #[.pointer (some ⟨b, 0, none⟩), .string s] w fun e w' => e = .returned (.tuple #[.int .i64 s.size, .nilIface]) ∧ Lib.IsBuilder 57 5 B b (Lib.byteCells (l ++ m)) w' ∧ Below B w w' := by
  refine (bwrite_any B b l s w h (by rw [hs, ba_size]; exact hlen) hBw).mono ?_
  rintro e w' ⟨rfl, h1, h2⟩
  subst hs
  refine ⟨rfl, ?_, h2⟩
  have e1 : (BA m).data.toList = m := by simp
  rw [e1] at h1
  exact h1
theorem clss_lt' {F : Nat → Prop} {w : World} {v : Value} {cs : List (List Int)} (h : Clss F w v cs) : Clss (fun b => b < w.heap.size) w v cs := by
  obtain ⟨us, h1, h2, h3⟩ := h
  exact ⟨us, h1.lt.mono fun b hb => hb.2, h2, fun j u x hu hx => ((h3 j u x hu hx).lt).mono fun b hb => hb.2⟩
theorem check_rng' {vars keep : Int} {cs : List (List Int)} (h : checkM vars keep cs = 0) : (0 ≤ vars ∧ vars ≤ 20000) ∧ (0 ≤ keep ∧ keep ≤ 20000) ∧ cs.length ≤ 60000 ∧ ∀ c ∈ cs, ∀ x ∈ c, x ≠ 0 ∧ -20000 ≤ x ∧ x ≤ 20000 := by
  unfold checkM at h
  by_cases h1 : vars < 0 ∨ keep < 0 ∨ vars < keep
  · rw [if_pos h1] at h; cases h
  rw [if_neg h1] at h
  by_cases h2 : 20000 < vars ∨ 60000 < cs.length
  · rw [if_pos h2] at h; cases h
  rw [if_neg h2] at h
  by_cases h3 : (cs.any fun c => c.any (outB vars.toNat)) = true
  · rw [if_pos h3] at h; cases h
  refine ⟨by omega, by omega, by omega, fun c hc x hx => ?_⟩
  have h4 : (cs.any fun c => c.any (outB vars.toNat)) = false := by simpa using h3
  have h5 := List.any_eq_false.1 (by simpa using List.any_eq_false.1 h4 c hc : c.any (outB vars.toNat) = false) x hx
  unfold outB at h5
  simp only [Bool.or_eq_true, decide_eq_true_eq, not_or] at h5
  have h6 := h5.2
  unfold varM at h6
  refine ⟨h5.1, ?_⟩
  split at h6 <;> omega
theorem check_rng {vars keep : Int} {cs : List (List Int)} (h : checkM vars keep cs = 0) : (0 ≤ vars ∧ vars ≤ 20000) ∧ (0 ≤ keep ∧ keep ≤ 20000) ∧ ∀ c ∈ cs, ∀ x ∈ c, -20000 ≤ x ∧ x ≤ 20000 :=
  let ⟨h1, h2, _, h3⟩ := check_rng' h; ⟨h1, h2, fun c hc x hx => (h3 c hc x hx).2⟩
def PrtPost (W : World) (vars keep : Int) (cs : List (List Int)) (e : Ending) (w' : World) : Prop :=
  ∃ S : ByteArray, e = .returned (.tuple #[.string S, .int .i64 (checkM vars keep cs)]) ∧ Hid (S = BA (if checkM vars keep cs = 0 then textM vars keep cs else [])) ∧ Below W.heap.size W w'
set_option maxRecDepth 100000 in
set_option maxHeartbeats 8000000 in
theorem print_any (F : Nat → Prop) (B0 : Nat) (vars keep : Int) (cv : Value) (cs : List (List Int)) (w : World) (hx : Clss F w cv cs) (hv : I64 vars) (hk : I64 keep) (hl : cs.length ≤ 1000000) (hll : ∀ c ∈ cs, c.length ≤ 1000000) (hL : checkM vars keep cs = 0 → (textM vars keep cs).length ≤ 4194304) (ht : TabT B0 w) (hB0 : B0 ≤ w.heap.size) :
    Calls Tryz.prog 10 #[.agg #[.int .i64 vars, .int .i64 keep, cv]] w (PrtPost w vars keep cs) := by
  obtain ⟨ca, cn, cc, rfl, HCN, hcnm⟩ := hx.form'
  obtain ⟨s, hs⟩ : ∃ b, w.heap.size = b := ⟨_, rfl⟩
  obtain ⟨W1, hW1⟩ : ∃ W, w.alloc (.cells #[.int .i64 vars, .int .i64 keep, .slice ca cn cc] 25) = W := ⟨_, rfl⟩
  have hb1 : Below w.heap.size w W1 := by rw [← hW1]; exact (Below.refl _ _).alloc (Nat.le_refl _) _
  have hr : W1.heap[s]? = some (.cells #[.int .i64 vars, .int .i64 keep, .slice ca cn cc] 25) := by rw [← hW1]; exact new_at' _ _ hs.symm
  have hs1 : W1.heap.size = s + 1 := by rw [← hW1]; simp; omega
  have c0 : W1.cell? ⟨s, 0, none⟩ = some (.int .i64 vars) := by rw [cell_of_row _ _ _ _ _ _ hr]; rfl
  have c1 : W1.cell? ⟨s, 1, none⟩ = some (.int .i64 keep) := by rw [cell_of_row _ _ _ _ _ _ hr]; rfl
  have c2 : W1.cell? ⟨s, 2, none⟩ = some (.slice ca cn cc) := by rw [cell_of_row _ _ _ _ _ _ hr]; rfl
  have HX : Hid (Clss F W1 (.slice ca cn cc) cs) := Lib.hid (Clss.below hx hb1)
  have HT : Hid (TabT B0 W1) := Lib.hid (ht.below hb1 hB0)
  have HB1 := Lib.hid hb1
  have HW1 := Lib.hid hW1
  have HS := Lib.hid hs
  have HS1 := Lib.hid hs1
  have hB0s : B0 ≤ s := by rw [← hs]; exact hB0
  obtain ⟨E, hE⟩ : ∃ E, checkM vars keep cs = E := ⟨_, rfl⟩
  have HCK := Lib.hid (check_any F vars keep _ cs W1 HX.out hv hk)
  rw [hE] at HCK
  have HLL := Lib.hid hll
  have hcn : cn ≤ 1000000 := by rw [HCN.out]; exact hl
  have HL4 : Hid (E = 0 → (textM vars keep cs).length ≤ 4194304) := Lib.hid (by rw [← hE]; exact hL)
  have HPP : Hid (∀ S w', S = BA (if E = 0 then textM vars keep cs else []) → Below w.heap.size w w' → PrtPost w vars keep cs (.returned (.tuple #[.string S, .int .i64 E])) w') := Lib.hid fun S w' h1 h2 => ⟨S, by rw [hE], Lib.hid (by rw [hE]; exact h1), h2⟩
  have HOK : Hid (E = 0 → (0 ≤ vars ∧ vars ≤ 20000) ∧ (0 ≤ keep ∧ keep ≤ 20000) ∧ ∀ c ∈ cs, ∀ x ∈ c, -20000 ≤ x ∧ x ≤ 20000) := Lib.hid fun h => check_rng (by rw [hE]; exact h)
  have HVK := Lib.hid (And.intro hv hk)
  clear hx hb1 hr hW1 hs hl hll hE hL ht hB0 hv hk
  go_enter Tryz.func10, Tryz.ntmps10
  go_upto_region 1 with fail
  try rw [HW1.out, HS.out]
  go_wp2_with fail
  refine HCK.out.mono ?_
  rintro e w2 ⟨rfl, hb2⟩
  have HX2 := Lib.hid (Clss.below HX.out hb2)
  have HB2 := Lib.hid (HB1.out.trans (hb2.mono HB1.out.size))
  have HT2 := Lib.hid (HT.out.below hb2 (by omega))
  have c0 := below_c hb2 (by omega) c0
  have c1 := below_c hb2 (by omega) c1
  have c2 := below_c hb2 (by omega) c2
  have hs2 : s + 1 ≤ w2.heap.size := by rw [← HS1.out]; exact hb2.size
  clear hb2 HCK HX HT HB1
  by_cases hE0 : E = 0
  case neg =>
    have hne : (E != 0) = true := by simp; exact hE0
    have HF := HPP.out (BA []) w2 (by rw [if_neg hE0]) HB2.out
    have HF := Lib.hid HF
    clear hE0
    go_wp2_with fail
    go_ret2
    exact HF.out
  subst hE0
  obtain ⟨hvr, hkr, hxr⟩ := HOK.out rfl
  have HXR := Lib.hid hxr
  have hL4 := HL4.out rfl
  obtain ⟨N, hN⟩ : ∃ N, (textM vars keep cs).length = N := ⟨_, rfl⟩
  have hNb : N ≤ 4194304 := by rw [← hN]; exact hL4
  have HNC : Hid ((headT vars cn keep).length + (clsT cs).length = N) := Lib.hid (by rw [← hN]; unfold textM; rw [List.length_append, HCN.out])
  obtain ⟨b, hb⟩ : ∃ g, w2.heap.size = g := ⟨_, rfl⟩
  obtain ⟨W3, hW3⟩ : ∃ W, w2.alloc (.cells #[.pointer none, .slice none 0 0] 57) = W := ⟨_, rfl⟩
  have hb3 : Below w2.heap.size w2 W3 := by rw [← hW3]; exact (Below.refl _ _).alloc (Nat.le_refl _) _
  have HBU : Hid (Lib.IsBuilder 57 5 b b (Lib.byteCells []) W3) := Lib.hid (by rw [← hW3, ← hb]; exact Lib.fresh_isBuilder _ _ _)
  have HX3 := Lib.hid (Clss.below HX2.out hb3)
  have HT3 := Lib.hid (HT2.out.below hb3 (by omega))
  have HXL : Hid (Clss (fun g => g < b) W3 (.slice ca cn cc) cs) := Lib.hid (by rw [← hb]; exact Clss.below (clss_lt' HX2.out) hb3)
  have HB3 := Lib.hid (HB2.out.trans (hb3.mono HB2.out.size))
  have c0 := below_c hb3 (by omega) c0
  have c1 := below_c hb3 (by omega) c1
  have c2 := below_c hb3 (by omega) c2
  have hbs : s + 1 ≤ b := by omega
  have hs3 : b ≤ W3.heap.size := by rw [← hb]; exact hb3.size
  have HW3 := Lib.hid hW3
  have HBB := Lib.hid hb
  have HVR := Lib.hid hvr
  have HKR := Lib.hid hkr
  have HI1 : Hid (∀ W, Below W3.heap.size W3 W → Calls Tryz.prog 22 #[.int .i64 vars] W (TxPost W (itoa vars))) := Lib.hid fun W hW => itoa_any B0 _ W HVK.out.1 (HT3.out.below hW (by omega))
  have HI2 : Hid (∀ W, Below W3.heap.size W3 W → Calls Tryz.prog 22 #[.int .i64 cn] W (TxPost W (itoa cn))) := Lib.hid fun W hW => itoa_any B0 _ W (by unfold I64; omega) (HT3.out.below hW (by omega))
  have HI3 : Hid (∀ W, Below W3.heap.size W3 W → Calls Tryz.prog 22 #[.int .i64 keep] W (TxPost W (itoa keep))) := Lib.hid fun W hW => itoa_any B0 _ W HVK.out.2 (HT3.out.below hW (by omega))
  clear hb3 hW3 hb HX2 HT2 HB2 hxr hL4 hN hvr hkr
  go_upto_region 5 with fail
  try rw [HW3.out, HBB.out]
  clear HW3
  have HL : Hid (Below W3.heap.size W3 W3.drew) := Lib.hid (Below.refl _ _).drew
  refine wp_region_held_drew (S := fun w' => w'.cell? ⟨s, 0, none⟩ = some (.int .i64 vars) ∧ w'.cell? ⟨s, 1, none⟩ = some (.int .i64 keep) ∧ w'.cell? ⟨s, 2, none⟩ = some (.slice ca cn cc)) (by kernel_rfl) (by exact ⟨c0, c1, c2⟩) (fun hHeld => ?_)
  refine wpAnyH_take (i := 0) (v := ?_) rfl (by kernel_rfl) (by kernel_rfl) (by kernel_rfl) (fun _ _ _ h => h) (Or.inl ⟨by rfl, ?_⟩) (by assumption) ?_
  rotate_left
  · intro w hSw
    try dsimp only at hSw
    go_simp
    try with_reducible rfl
  try simp only [Act.put, List.getElem_toArray, List.getElem_cons_succ, List.getElem_cons_zero, List.setIfInBounds_toArray, List.set_cons_zero, List.set_cons_succ]
  refine wpAnyH_take (i := 1) (v := ?_) rfl (by kernel_rfl) (by kernel_rfl) (by kernel_rfl) (fun _ _ _ h => h) (Or.inl ⟨by rfl, ?_⟩) (by assumption) ?_
  rotate_left
  · intro w hSw
    try dsimp only at hSw
    go_simp
    try with_reducible rfl
  try simp only [Act.put, List.getElem_toArray, List.getElem_cons_succ, List.getElem_cons_zero, List.setIfInBounds_toArray, List.set_cons_zero, List.set_cons_succ]
  refine wpAnyH_take (i := 5) (v := ?_) rfl (by kernel_rfl) (by kernel_rfl) (by kernel_rfl) (fun _ _ _ h => h) (Or.inl ⟨by rfl, ?_⟩) (by assumption) ?_
  rotate_left
  · intro w hSw
    try dsimp only at hSw
    go_simp
    try with_reducible rfl
  try simp only [Act.put, List.getElem_toArray, List.getElem_cons_succ, List.getElem_cons_zero, List.setIfInBounds_toArray, List.set_cons_zero, List.set_cons_succ]
  refine wpAnyH_take (i := 6) (v := ?_) rfl (by kernel_rfl) (by kernel_rfl) (by kernel_rfl) (fun _ _ _ h => h) (Or.inl ⟨by rfl, ?_⟩) (by assumption) ?_
  rotate_left
  · intro w hSw
    try dsimp only at hSw
    go_simp
    try with_reducible rfl
  try simp only [Act.put, List.getElem_toArray, List.getElem_cons_succ, List.getElem_cons_zero, List.setIfInBounds_toArray, List.set_cons_zero, List.set_cons_succ]
  refine wpAnyH_take (i := 7) (v := ?_) rfl (by kernel_rfl) (by kernel_rfl) (by kernel_rfl) (fun _ _ _ h => h) (Or.inl ⟨by rfl, ?_⟩) (by assumption) ?_
  rotate_left
  · intro w hSw
    try dsimp only at hSw
    go_simp
    try with_reducible rfl
  try simp only [Act.put, List.getElem_toArray, List.getElem_cons_succ, List.getElem_cons_zero, List.setIfInBounds_toArray, List.set_cons_zero, List.set_cons_succ]
  refine wpAnyH_take (i := 11) (v := ?_) rfl (by kernel_rfl) (by kernel_rfl) (by kernel_rfl) (fun _ _ _ h => h) (Or.inl ⟨by rfl, ?_⟩) (by assumption) ?_
  rotate_left
  · intro w hSw
    try dsimp only at hSw
    go_simp
    try with_reducible rfl
  try simp only [Act.put, List.getElem_toArray, List.getElem_cons_succ, List.getElem_cons_zero, List.setIfInBounds_toArray, List.set_cons_zero, List.set_cons_succ]
  refine wpAnyH_take (i := 12) (v := ?_) rfl (by kernel_rfl) (by kernel_rfl) (by kernel_rfl) (fun _ _ _ h => h) (Or.inl ⟨by rfl, ?_⟩) (by assumption) ?_
  rotate_left
  · intro w hSw
    try dsimp only at hSw
    go_simp
    try with_reducible rfl
  try simp only [Act.put, List.getElem_toArray, List.getElem_cons_succ, List.getElem_cons_zero, List.setIfInBounds_toArray, List.set_cons_zero, List.set_cons_succ]
  refine wpAnyH_ready (rs := [2]) (by kernel_rfl) (by simp) ?_
  refine AllReadyH.cons rfl (fun K hK => ?_) AllReadyH.nil
  go_simp
  go_at_call 22
  (with_reducible refine (HI1.out _ HL.out).mono ?_)
  rintro e wq ⟨S1, rfl, HS1, hbq⟩
  have hz1 : S1.size ≤ 20 := by rw [HS1.out, ba_size]; exact itoa_len20 (by have := HVR.out; omega) (by have := HVR.out; omega)
  have g10 : ¬ 9223372036854775807 < 6 + S1.size := by omega
  have g11 : ¬ 9223372036854775807 < 6 + S1.size + 1 := by omega
  have HL := Lib.hid (HL.out.trans (hbq.mono HL.out.size))
  have c0 := below_c hbq (block_lt c0) c0
  have c1 := below_c hbq (block_lt c1) c1
  have c2 := below_c hbq (block_lt c2) c2
  clear hbq
  go_wp2_with fail
  refine hK.out _ _ (by exact ⟨c0, c1, c2⟩) (fun _ => ?_)
  clear hK K
  try simp only [Act.put, List.getElem_toArray, List.getElem_cons_succ, List.getElem_cons_zero, List.setIfInBounds_toArray, List.set_cons_zero, List.set_cons_succ]
  refine wpAnyH_take (i := 3) (v := ?_) rfl (by kernel_rfl) (by kernel_rfl) (by kernel_rfl) (fun _ _ _ h => h) (Or.inl ⟨by rfl, ?_⟩) (by assumption) ?_
  rotate_left
  · intro w hSw
    try dsimp only at hSw
    go_simp
    try with_reducible rfl
  try simp only [Act.put, List.getElem_toArray, List.getElem_cons_succ, List.getElem_cons_zero, List.setIfInBounds_toArray, List.set_cons_zero, List.set_cons_succ]
  refine wpAnyH_take (i := 4) (v := ?_) rfl (by kernel_rfl) (by kernel_rfl) (by kernel_rfl) (fun _ _ _ h => h) (Or.inl ⟨by rfl, ?_⟩) (by assumption) ?_
  rotate_left
  · intro w hSw
    try dsimp only at hSw
    go_simp
    try with_reducible rfl
  try simp only [Act.put, List.getElem_toArray, List.getElem_cons_succ, List.getElem_cons_zero, List.setIfInBounds_toArray, List.set_cons_zero, List.set_cons_succ]
  refine wpAnyH_ready (rs := [8]) (by kernel_rfl) (by simp) ?_
  refine AllReadyH.cons rfl (fun K hK => ?_) AllReadyH.nil
  go_simp
  go_at_call 22
  (with_reducible refine (HI2.out _ HL.out).mono ?_)
  rintro e wq ⟨S2, rfl, HS2, hbq⟩
  have hz2 : S2.size ≤ 20 := by rw [HS2.out, ba_size]; exact itoa_len20 (by omega) (by omega)
  have g20 : ¬ 9223372036854775807 < 6 + S1.size + 1 + S2.size := by omega
  have g21 : ¬ 9223372036854775807 < 6 + S1.size + 1 + S2.size + 8 := by omega
  have HL := Lib.hid (HL.out.trans (hbq.mono HL.out.size))
  have c0 := below_c hbq (block_lt c0) c0
  have c1 := below_c hbq (block_lt c1) c1
  have c2 := below_c hbq (block_lt c2) c2
  clear hbq
  go_wp2_with fail
  refine hK.out _ _ (by exact ⟨c0, c1, c2⟩) (fun _ => ?_)
  clear hK K
  try simp only [Act.put, List.getElem_toArray, List.getElem_cons_succ, List.getElem_cons_zero, List.setIfInBounds_toArray, List.set_cons_zero, List.set_cons_succ]
  refine wpAnyH_take (i := 9) (v := ?_) rfl (by kernel_rfl) (by kernel_rfl) (by kernel_rfl) (fun _ _ _ h => h) (Or.inl ⟨by rfl, ?_⟩) (by assumption) ?_
  rotate_left
  · intro w hSw
    try dsimp only at hSw
    go_simp
    try with_reducible rfl
  try simp only [Act.put, List.getElem_toArray, List.getElem_cons_succ, List.getElem_cons_zero, List.setIfInBounds_toArray, List.set_cons_zero, List.set_cons_succ]
  refine wpAnyH_take (i := 10) (v := ?_) rfl (by kernel_rfl) (by kernel_rfl) (by kernel_rfl) (fun _ _ _ h => h) (Or.inl ⟨by rfl, ?_⟩) (by assumption) ?_
  rotate_left
  · intro w hSw
    try dsimp only at hSw
    go_simp
    try with_reducible rfl
  try simp only [Act.put, List.getElem_toArray, List.getElem_cons_succ, List.getElem_cons_zero, List.setIfInBounds_toArray, List.set_cons_zero, List.set_cons_succ]
  refine wpAnyH_ready (rs := [13]) (by kernel_rfl) (by simp) ?_
  refine AllReadyH.cons rfl (fun K hK => ?_) AllReadyH.nil
  go_simp
  go_at_call 22
  (with_reducible refine (HI3.out _ HL.out).mono ?_)
  rintro e wq ⟨S3, rfl, HS3, hbq⟩
  have hz3 : S3.size ≤ 20 := by rw [HS3.out, ba_size]; exact itoa_len20 (by have := HKR.out; omega) (by have := HKR.out; omega)
  have g30 : ¬ 9223372036854775807 < 6 + S1.size + 1 + S2.size + 8 + S3.size := by omega
  have g31 : ¬ 9223372036854775807 < 6 + S1.size + 1 + S2.size + 8 + S3.size + 1 := by omega
  have HL := Lib.hid (HL.out.trans (hbq.mono HL.out.size))
  have c0 := below_c hbq (block_lt c0) c0
  have c1 := below_c hbq (block_lt c1) c1
  have c2 := below_c hbq (block_lt c2) c2
  clear hbq
  go_wp2_with fail
  refine hK.out _ _ (by exact ⟨c0, c1, c2⟩) (fun _ => ?_)
  clear hK K
  try simp only [Act.put, List.getElem_toArray, List.getElem_cons_succ, List.getElem_cons_zero, List.setIfInBounds_toArray, List.set_cons_zero, List.set_cons_succ]
  refine wpAnyH_take (i := 14) (v := ?_) rfl (by kernel_rfl) (by kernel_rfl) (by kernel_rfl) (fun _ _ _ h => h) (Or.inl ⟨by rfl, ?_⟩) (by assumption) ?_
  rotate_left
  · intro w hSw
    try dsimp only at hSw
    go_simp
    try with_reducible rfl
  try simp only [Act.put, List.getElem_toArray, List.getElem_cons_succ, List.getElem_cons_zero, List.setIfInBounds_toArray, List.set_cons_zero, List.set_cons_succ]
  refine wpAnyH_take (i := 15) (v := ?_) rfl (by kernel_rfl) (by kernel_rfl) (by kernel_rfl) (fun _ _ _ h => h) (Or.inl ⟨by rfl, ?_⟩) (by assumption) ?_
  rotate_left
  · intro w hSw
    try dsimp only at hSw
    go_simp
    try with_reducible rfl
  try simp only [Act.put, List.getElem_toArray, List.getElem_cons_succ, List.getElem_cons_zero, List.setIfInBounds_toArray, List.set_cons_zero, List.set_cons_succ]
  refine wpAnyH_ready (rs := [16]) (by kernel_rfl) (by simp) ?_
  refine AllReadyH.cons rfl (fun K hK => ?_) AllReadyH.nil
  go_simp
  have HH : Hid ((⟨#[112, 32, 99, 110, 102, 32]⟩ : ByteArray) ++ S1 ++ ⟨#[32]⟩ ++ S2 ++ ⟨#[10, 99, 32, 107, 101, 101, 112, 32]⟩ ++ S3 ++ ⟨#[10]⟩ = BA (headT vars cn keep)) := Lib.hid (by
    rw [HS1.out, HS2.out, HS3.out]
    show BA wPcnf ++ BA (itoa vars) ++ BA wSp ++ BA (itoa cn) ++ BA wKeep ++ BA (itoa keep) ++ BA wNl = _
    simp only [ba_app]
    simp [headT])
  clear HS1 HS2 HS3 hz1 hz2 hz3 g10 g11 g20 g21 g30 g31
  have hlh : ([] : Bts).length + (headT vars cn keep).length ≤ 140737488355328 := by have := HNC.out; simp; omega
  go_at_call 21
  (with_reducible refine (bwrite_l b b [] _ _ _ HH.out (bld_below HBU.out HL.out) hlh (Nat.le_trans hs3 HL.out.size)).mono ?_)
  rintro e w5 ⟨rfl, hbu, hb5⟩
  have HB5 : Hid (Below b W3 w5) := Lib.hid ((HL.out.mono hs3).trans hb5)
  have HBU5 := Lib.hid hbu
  have c0 := below_c hb5 (by omega) c0
  have c1 := below_c hb5 (by omega) c1
  have c2 := below_c hb5 (by omega) c2
  clear hbu hb5 HL HBU HH hlh HI1 HI2 HI3
  go_wp2_with fail
  refine hK.out _ _ (by exact ⟨c0, c1, c2⟩) (fun _ => ?_)
  clear hK K
  try simp only [Act.put, List.getElem_toArray, List.getElem_cons_succ, List.getElem_cons_zero, List.setIfInBounds_toArray, List.set_cons_zero, List.set_cons_succ]
  refine wpAnyH_done (by kernel_rfl) ?_ _
  have HC0 : Hid ([] ++ headT vars cn keep = headT vars cn keep ++ clsT (cs.take 0)) := Lib.hid (by simp [clsT])
  rw [HC0.out] at HBU5
  clear HC0
  go_wp2_with fail
  go_loopg [35] cn (fun gg u35 wx => ∃ k : Nat, k + gg = cn ∧ u35 = .int .i64 k ∧ Hid (Lib.IsBuilder 57 5 b b (Lib.byteCells (headT vars cn keep ++ clsT (cs.take k))) wx) ∧ Hid (Below b W3 wx))
  case atStart => exact ⟨0, by omega, rfl, HBU5, HB5⟩
  case round =>
  clear HBU5 HB5
  obtain ⟨k, hkg, rfl, HBU, HB⟩ := hrel
  have hwz := HB.out.size
  by_cases hk : k < cn
  case neg =>
    obtain rfl : k = cn := by omega
    have hdk : decide ((k : Int) < k) = false := by simp
    have hdk' : decide (k < k) = false := decide_eq_false (by omega)
    have HTX : Hid (headT vars k keep ++ clsT (cs.take k) = textM vars keep cs) := Lib.hid (by rw [List.take_of_length_le (by rw [HCN.out]; exact Nat.le_refl _)]; unfold textM; rw [← HCN.out])
    rw [HTX.out] at HBU
    have HLE := Lib.hid (Any.Builder_Len bLen b b _ wr HBU.out)
    have hlen : (Lib.byteCells (textM vars keep cs)).length = N := by rw [Lib.byteCells_length, ← HTX.out, List.length_append, List.take_of_length_le (by rw [HCN.out]; exact Nat.le_refl _)]; exact HNC.out
    rw [hlen] at HLE
    have hdN : decide (4194304 < (N : Int)) = false := decide_eq_false (by omega)
    have hdN' : decide (4194304 < N) = false := decide_eq_false (by omega)
    have HST := Lib.hid (Any.Builder_String_any bString bExtra b b (textM vars keep cs) wr HBU.out (by omega))
    clear hlen
    go_wp2_with fail
    refine HLE.out.mono ?_
    rintro e w6 ⟨rfl, hww⟩
    subst hww
    go_wp2_with fail
    refine HST.out.mono ?_
    rintro e w7 ⟨rfl, hb7⟩
    have HF := Lib.hid (HPP.out (BA (textM vars keep cs)) w7 (by simp) ((HB3.out.trans (HB.out.mono (by rw [HS.out]; omega))).trans (hb7.mono (by rw [HS.out]; omega))))
    clear hb7 HST HLE
    go_wp2_with fail
    go_ret2
    exact HF.out
  obtain ⟨c, hc⟩ : ∃ c, cs[k]? = some c := ⟨_, List.getElem?_eq_getElem (by rw [← HCN.out]; exact hk)⟩
  have hxw : Clss (fun g => g < b) wr (.slice ca cn cc) cs := Rows1.move (fun _ _ _ _ _ h hm => h.move hm) HXL.out fun g hg _ => HB.out.block g hg
  obtain ⟨xb, xo, xv, rfl, hxb', hxb, hxc, hxi⟩ := hxw.at hc
  obtain ⟨xa, xn, xcp, rfl, HXN, _⟩ := hxi.form'
  have hdk : decide ((k : Int) < cn) = true := by simp; omega
  have hdk' : decide (k < cn) = true := decide_eq_true hk
  have hk0 : (0 : Int) ≤ k := by omega
  have hkn : (k : Int) < cn := by omega
  have HXI := Lib.hid hxi
  have hxn : xn ≤ 1000000 := by rw [HXN.out]; exact HLL.out c (List.mem_of_getElem? hc)
  have HC64 := Lib.hid (HXR.out c (List.mem_of_getElem? hc))
  have HTK : Hid (clsT (cs.take (k + 1)) = clsT (cs.take k) ++ (litsT c ++ [48, 10])) := Lib.hid (by rw [List.take_add_one, hc, clsT_app]; simp [clsT])
  have HTL : Hid ((clsT (cs.take k)).length + (litsT c).length + 2 ≤ (clsT cs).length) := Lib.hid (by
    have h := clsT_take_le (k + 1) cs
    rw [HTK.out] at h
    simp at h
    omega)
  have HC0 : Hid (headT vars cn keep ++ clsT (cs.take k) = headT vars cn keep ++ clsT (cs.take k) ++ litsT (c.take 0)) := Lib.hid (by simp [litsT])
  rw [HC0.out] at HBU
  have HBW : Hid (Below b wr wr) := Lib.hid (Below.refl _ _)
  obtain ⟨GK, hGK⟩ : ∃ G, G = gk := ⟨_, rfl⟩
  subst hGK
  clear hc hxw hxi HC0
  go_wp2_with fail
  go_loopg [41] xn (fun gg u41 wx => ∃ j : Nat, j + gg = xn ∧ u41 = .int .i64 j ∧ Hid (Lib.IsBuilder 57 5 b b (Lib.byteCells (headT vars cn keep ++ clsT (cs.take k) ++ litsT (c.take j))) wx) ∧ Hid (Below b wr wx))
  case atStart => exact ⟨0, by omega, rfl, HBU, HBW⟩
  case round =>
  clear HBU HBW
  obtain ⟨j, hjg, rfl, HBU, HBJ⟩ := hrel
  have hwj := HBJ.out.size
  by_cases hj : j < xn
  case neg =>
    obtain rfl : xn = j := by omega
    have hdj : decide ((xn : Int) < xn) = false := by simp
    have hdj' : decide (xn < xn) = false := decide_eq_false (by omega)
    have HWR := Lib.hid (bwrite_l b b _ [48, 10] ⟨#[48, 10]⟩ wr rfl HBU.out (by
      have := litsT_take_le xn c
      have := HTL.out
      have := HNC.out
      rw [List.length_append, List.length_append]
      simp
      omega) (by omega))
    have HEQ : Hid (headT vars cn keep ++ clsT (cs.take k) ++ litsT (c.take xn) ++ [48, 10] = headT vars cn keep ++ clsT (cs.take (k + 1))) := Lib.hid (by
      rw [HTK.out, List.take_of_length_le (l := c) (by rw [HXN.out]; exact Nat.le_refl _)]
      simp)
    rw [HEQ.out] at HWR
    clear HBU
    go_wp2_with fail
    refine HWR.out.mono ?_
    rintro e w6 ⟨rfl, hbu, hb6⟩
    have HBU6 := Lib.hid hbu
    have HB6 := Lib.hid ((HB.out.trans (HBJ.out)).trans hb6)
    clear hbu hb6 HWR HB HBJ
    go_wp2_with fail
    go_roundg (GK - 1)
    case measure => omega
    case rel => exact ⟨k + 1, by omega, by go_num, HBU6, HB6⟩
  obtain ⟨x, hxj⟩ : ∃ x, c[j]? = some x := ⟨_, List.getElem?_eq_getElem (by rw [← HXN.out]; exact hj)⟩
  obtain ⟨zb, zo, rfl, _, hzb, hzc, hx64⟩ := (HXI.out.move fun g hg _ => HBJ.out.block g hg).at hxj
  have hxrr := HC64.out x (List.mem_of_getElem? hxj)
  have hdj : decide ((j : Int) < xn) = true := by simp; omega
  have hdj' : decide (j < xn) = true := decide_eq_true hj
  have hj0 : (0 : Int) ≤ j := by omega
  have hjn : (j : Int) < xn := by omega
  have HLJ : Hid (litsT (c.take (j + 1)) = litsT (c.take j) ++ (itoa x ++ wSp)) := Lib.hid (by rw [List.take_add_one, hxj, litsT_app]; simp [litsT])
  have HIX := Lib.hid (itoa_any B0 x wr hx64 ((HT3.out.below HB.out (by omega)).below HBJ.out (by omega)))
  have HIL := Lib.hid (itoa_len20 (n := x) (by omega) (by omega))
  clear hxj hx64 hxrr
  go_wp2_with fail
  refine HIX.out.mono ?_
  rintro e w6 ⟨D, rfl, HDE, hb6⟩
  have hnz : D.size ≤ 20 := by rw [HDE.out, ba_size]; exact HIL.out
  have g1 : ¬ 9223372036854775807 < D.size + 1 := by omega
  have HDS : Hid (D ++ ⟨#[32]⟩ = BA (itoa x ++ wSp)) := Lib.hid (by
    rw [HDE.out]
    show BA _ ++ BA wSp = _
    rw [ba_app])
  have HWR := Lib.hid (bwrite_l b b _ _ _ w6 HDS.out (bld_below HBU.out hb6) (by
    have h1 := litsT_take_le j c
    have h2 := HTL.out
    have h3 := HNC.out
    have h4 := HIL.out
    rw [List.length_append, List.length_append, List.length_append]
    simp [wSp]
    omega) (by have := hb6.size; omega))
  have HEQ : Hid (headT vars cn keep ++ clsT (cs.take k) ++ litsT (c.take j) ++ (itoa x ++ wSp) = headT vars cn keep ++ clsT (cs.take k) ++ litsT (c.take (j + 1))) := Lib.hid (by
    rw [HLJ.out]
    simp)
  rw [HEQ.out] at HWR
  have HB6 := Lib.hid (HBJ.out.trans (hb6.mono (by omega)))
  clear HBU hb6 HDE HDS hnz
  go_wp2_with fail
  refine HWR.out.mono ?_
  rintro e w7 ⟨rfl, hbu, hb7⟩
  have HBU7 := Lib.hid hbu
  have HB7 := Lib.hid (HB6.out.trans hb7)
  clear hbu hb7 HWR HB6 HBJ
  go_wp2_with fail
  go_roundg (gk - 1)
  case measure => omega
  case rel => exact ⟨j + 1, by omega, by go_num, HBU7, HB7⟩
end Go.Proofs.YthkpobipndifoaaGreatDoor
