/- Walk: the statement's Boolean, the diagram of a truth table. No condition but the sizes. -/
import Derived.Test.YtelobilhppoooaaUd
import Derived.Test.YtelobilhppoooaaKz
namespace Go.Proofs.Ytelobilhppoooaa
open Go.ChangeShapes Go.WideShapes Go.ChangeAt Go.RowKit
set_option linter.unusedVariables false

def BooPost (W : World) (m : Nat) (t : List Bool) (e : Ending) (w' : World) : Prop :=
  ∃ a n c, e = .returned (.agg #[.int .i64 m, .slice a n c, .int .i64 (nodeM m t [] 0).1]) ∧ Forks (fun b => W.heap.size ≤ b) w' (.slice a n c) (nodeM m t [] 0).2 ∧ n ≤ c ∧ Below W.heap.size W w'
theorem own_ints {w : World} {base : Nat} {e : TypeId} {v : Value} {n : Nat} {xs : List Int} (h : w.ownsRow base e 1 v n (xs.map (.int .i64))) (hn : n ≤ 9223372036854775807) (hi : ∀ x ∈ xs, I64 x) (h0 : 0 < n) :
    ∃ g cap, v = .slice (some ⟨g, 0, none⟩) n cap ∧ n ≤ cap ∧ cap ≤ 9223372036854775807 ∧ base ≤ g ∧ Ints (fun b => base ≤ b ∧ b < w.heap.size) w (.slice (some ⟨g, 0, none⟩) n cap) xs := by
  rcases h.2 with ⟨_, e0⟩ | ⟨g, cap, cur, rfl, hb, _, hc, hm, _⟩
  · omega
  · exact ⟨g, cap, rfl, hc, by unfold maxLen at hm; exact hm, hb, ((ownsRow_sl1 h hn).lt).mono fun b hb => ⟨hb.1.1, hb.2⟩, hi⟩
theorem b2i_I64 (x : Bool) : I64 (b2i x) := by unfold b2i; split <;> exact ⟨by omega, by omega⟩
theorem own_cap {w : World} {base : Nat} {e : TypeId} {size : Nat} {v : Value} {n : Nat} {xs : List Value} (h : w.ownsRow base e size v n xs) : ∃ a c, v = .slice a n c ∧ n ≤ c := by
  rcases h.2 with ⟨rfl, h0⟩ | ⟨g, cap, cur, rfl, _, _, hc, _⟩
  · exact ⟨none, 0, by rw [h0], by omega⟩
  · exact ⟨_, _, rfl, hc⟩
theorem take_snoc2 {α : Type} {xs : List α} {k : Nat} {x : α} (h : xs[k]? = some x) : xs.take (k + 1) = xs.take k ++ [x] := by
  rw [List.take_add_one, h]; rfl
set_option maxRecDepth 100000 in
set_option maxHeartbeats 4000000 in
theorem boolean_any (F : Nat → Prop) (m : Nat) (tv : Value) (t : List Bool) (w : World) (hx : Bools F w tv t) (ht : t.length = 2 ^ m) (hm : m ≤ 6) :
    Calls Try.prog 14 #[.int .i64 m, tv] w (BooPost w m t) := by
  have hpow : 2 ^ m ≤ 2 ^ 6 := Nat.pow_le_pow_right (by omega) hm
  have hpos : 1 ≤ 2 ^ m := Nat.one_le_two_pow
  obtain ⟨ta, tn, tc, rfl, HTN, htn⟩ : ∃ a n c, tv = .slice a n c ∧ Hid (n = t.length) ∧ n ≤ 64 := by
    obtain ⟨a, c, h1, h2⟩ := hx.form
    exact ⟨a, _, c, h1, rfl, by omega⟩
  obtain ⟨W1, hW1⟩ : ∃ W, w.alloc (.cells #[.int .i64 0, .slice none 0 0, .int .i64 0] 24) = W := ⟨_, rfl⟩
  have hb1 : Below w.heap.size w W1 := by rw [← hW1]; exact (Below.refl _ _).alloc (Nat.le_refl _) _
  have c0 : W1.cell? ⟨w.heap.size, 0, none⟩ = some (.int .i64 0) := by rw [← hW1]; simp
  have c1 : W1.cell? ⟨w.heap.size, 1, none⟩ = some (.slice none 0 0) := by rw [← hW1]; simp
  have c2 : W1.cell? ⟨w.heap.size, 2, none⟩ = some (.int .i64 0) := by rw [← hW1]; simp
  have cf : ∀ o, W1.frozen? ⟨w.heap.size, o, none⟩ = false := fun o => by rw [← hW1]; simp only [World.frozen?, new_at w _]; simp
  have hs1 : W1.heap.size = w.heap.size + 1 := by rw [← hW1]; simp
  have HX := Lib.hid (hx.below hb1)
  have HB1 := Lib.hid hb1
  have HW1 := Lib.hid hW1
  have HIF := Lib.hid (show (Try.prog.info? 3).map (fun i => (i.zero, i.size, i.bytes)) = some (some (.int .i64 0), 1, 8) by kernel_rfl)
  have HT := Lib.hid ht
  have HP := Lib.hid hpos
  obtain ⟨BB, hBB⟩ : ∃ B, w.heap.size = B := ⟨_, rfl⟩
  have HBB := Lib.hid hBB
  rw [hBB] at c0 c1 c2 cf hs1
  have HCF := Lib.hid cf
  have HBR : Hid (Below (BB + 1) W1 W1) := Lib.hid (Below.refl _ _)
  clear hx hW1 ht hb1 hpow hpos hBB cf
  go_enter Try.func14, Try.ntmps14
  go_wp2_with fail
  rw [HW1.out, HBB.out]
  go_loopg [5, 12] (tn) (fun g u5 u12 wx => ∃ (k : Nat), k + g = tn ∧ u12 = .int .i64 k ∧ Hid (Below (BB + 1) W1 wx) ∧ Hid (wx.ownsRow (BB + 1) 3 1 u5 k (((t.take k).map b2i).map (.int .i64))))
  case atStart => exact ⟨0, by omega, rfl, HBR, Lib.hid (World.ownsRow_nil _ _ _ _)⟩
  case round =>
  obtain ⟨k, hkg, rfl, HBX, HOX⟩ := hrel
  have hsx := HBX.out.size
  by_cases hk : k < tn
  · obtain ⟨x, hxk⟩ : ∃ x, t[k]? = some x := ⟨_, List.getElem?_eq_getElem (by rw [← HTN.out]; exact hk)⟩
    have HXK := Lib.hid hxk
    obtain ⟨fb, fo, rfl, hF, hlt, hcell⟩ := HX.out.at hxk
    have hcx : wr.cell? ⟨fb, fo + k, none⟩ = some (.bool x) := below_c HBX.out (by omega) hcell
    have hdk : decide ((k : Int) < tn) = true := by simp; omega
    have hdk' : decide (k < tn) = true := decide_eq_true hk
    have hox := HOX.out
    clear hcell hF hxk
    rcases bool2 x with rfl | rfl
    all_goals
      go_wp2_with (at_builtin; go_loud (refine wpList_push1 rfl _ _ 50 rfl 3 (.int .i64 0) 8 Try.underlying50 HIF.out rfl (BB + 1) u5 k _ wr _ rfl rfl hox rfl (by omega) (by omega) (by omega) ?_); intro g3 cap3 w3 hown3 hg3 hs3 hgb hgl _; have HB3 := Lib.hid (HBX.out.grown hg3 (by omega) (fun k hk => (hox.lt k hk).1)); have HO3 := Lib.hid hown3; clear hown3 hg3 hox)
      go_roundg (gk - 1)
      case measure => omega
      case rel =>
        refine ⟨k + 1, by omega, by go_num, HB3, Lib.hid ?_⟩
        have h := HO3.out
        rw [take_snoc2 HXK.out, List.map_append, List.map_append]
        exact h
  obtain rfl : k = tn := by omega
  have hdk : decide ((k : Int) < k) = false := by simp
  have hdk' : decide (k < k) = false := decide_eq_false (by omega)
  obtain ⟨lg, lc, hlv, hlc, hlc2, hlb, hli⟩ := own_ints HOX.out (by omega) (by intro x hx; obtain ⟨y, _, rfl⟩ := List.mem_map.1 hx; exact b2i_I64 y) (by have := HP.out; have := HT.out; have := HTN.out; omega)
  rw [List.take_of_length_le (by have := HTN.out; omega)] at hli
  obtain ⟨W2, hW2⟩ : ∃ W, wr.alloc (.cells #[.int .i64 0, .int .i64 1] 3) = W := ⟨_, rfl⟩
  have hb2 : Below wr.heap.size wr W2 := by rw [← hW2]; exact (Below.refl _ _).alloc (Nat.le_refl _) _
  have hs2 : W2.heap.size = wr.heap.size + 1 := by rw [← hW2]; simp
  have hl01 : Ints (fun b => b < W2.heap.size) W2 (.slice (some ⟨wr.heap.size, 0, none⟩) 2 2) [0, 1] := (ints_block [0, 1] 2 (by rw [← hW2]; exact new_at _ _) (by simp) (by simp) (by intro x hx; simp at hx; rcases hx with rfl | rfl <;> exact ⟨by omega, by omega⟩)).lt.mono fun b hb => hb.2
  have hna := node_any W2.heap.size m t 0 [] lg 0 k lc (some ⟨wr.heap.size, 0, none⟩) 2 (.slice none 0 0) W2 HT.out (HTN.out.trans HT.out) (by omega) (by omega) (by have h1 : 2 ^ m ≤ 2 ^ 6 := Nat.pow_le_pow_right (by omega) hm; simp; omega) (by simp) hlc hlc2 ((hli.below hb2).mono fun b hb => by have := hb.2; omega) hl01 (World.ownsRow_nil _ _ _ _) (Nat.le_refl _)
  have hbd := node_bd m t [] 0 (by omega) (by omega) (by have h1 : 2 ^ m ≤ 2 ^ 6 := Nat.pow_le_pow_right (by omega) hm; simp; omega) (by simp)
  have HW2 := Lib.hid hW2
  have HNA := Lib.hid hna
  have HBD := Lib.hid hbd
  have HB2 := Lib.hid (HBX.out.trans (hb2.mono (by omega)))
  subst hlv
  clear hna hbd hW2 hb2 hl01 hli
  go_wp2_with fail
  rw [HW2.out]
  refine HNA.out.mono ?_
  rintro e w3 ⟨rv, rfl, hown, hb3⟩
  have hfk := own_forks hown (by have := HBD.out.1; have h1 : 2 ^ m ≤ 2 ^ 6 := Nat.pow_le_pow_right (by omega) hm; simp at this; omega) HBD.out.2.2
  obtain ⟨ra, rc, rfl, hrc⟩ := own_cap hown
  have HFK := Lib.hid hfk
  have HB3 := Lib.hid (HB2.out.trans (hb3.mono (by omega)))
  have d0 := below_c HB3.out (by omega) c0
  have d1 := below_c HB3.out (by omega) c1
  have d2 := below_c HB3.out (by omega) c2
  have df : ∀ o, w3.frozen? ⟨BB, o, none⟩ = false := fun o => below_z HB3.out (by omega) (HCF.out o)
  clear hfk hb3 hown HNA c0 c1 c2
  trace_state
  go_wp2_with fail
  obtain ⟨v0, v1, v2⟩ := set3_at (x := .int .i64 m) (y := .slice ra (nodeM m t [] 0).2.length rc) (z := .int .i64 (nodeM m t [] 0).1) d0 d1 d2
  refine bodyPost_ret (v := .agg #[.int .i64 m, .slice ra (nodeM m t [] 0).2.length rc, .int .i64 (nodeM m t [] 0).1]) (by simp [results, Try.results14, go_sem, v0, v1, v2]) rfl ?_
  refine ⟨_, _, _, rfl, ?_, hrc, ?_⟩
  · exact (HFK.out.move fun b hb hlt => set3_block _ _ _ (by have : W2.heap.size ≤ b := hb; omega)).mono fun b hb => Nat.le_trans (by have := HBB.out; omega) hb
  · exact set3_below _ _ _ (HB1.out.trans (HB3.out.mono (by have := HBB.out; omega))) (by have := HBB.out; omega)
end Go.Proofs.Ytelobilhppoooaa
