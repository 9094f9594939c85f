/- Walks of layer 33: what the statements' own 'part' answers, kids that are not earlier parts. -/
import Derived.Test.YteadlkecngfcoaaGreatDoorChecked
import Derived.Test.YteadlkecngfcoaaGreatDoorDd
import Derived.Deep.DeepCutAuto
import Derived.Deep.LoopGhost
namespace Go.Proofs.YteadlkecngfcoaaGreatDoor
open Go.ChangeShapes Go.WideShapes Go.ChangeAt Go.RowKit
set_option linter.unusedVariables false

set_option maxRecDepth 100000 in
set_option maxHeartbeats 8000000 in
theorem part_d3 {F : Nat → Prop} (V : Nat) (kids : List Int) (pv mv kv : Value) (mss : List (List Bool)) (w : World)
    (hm : Rows1 Bools F w mv mss) (hk : Ints F w kv kids) (hv1 : V ≤ 40) (hany : kids.any (fun x => decide (x < 0 ∨ (mss.length : Int) ≤ x)) = true) :
    Calls Tryz.prog 19 #[.agg #[.int .i64 V, pv], mv, .int .i64 mss.length, .agg #[.int .i64 3, .int .i64 0, kv]] w (PartPost w (10, [])) := by
  obtain ⟨ma, mc, rfl, hml⟩ := hm.form
  obtain ⟨ka, n, kc, rfl, HN, hkl⟩ := hk.form'
  have hinfo : (Tryz.prog.info? 4).map (fun i => (i.zero, i.size, i.bytes)) = some (some (.bool false), 1, 1) := by kernel_rfl
  obtain ⟨i0, g1, g2, g3, g4⟩ := info_parts hinfo
  have G1 := Lib.hid g1
  have G2 := Lib.hid g2
  have G3 := Lib.hid g3
  have G4 := Lib.hid g4
  clear g1 g2 g3 g4 hinfo
  go_enter Tryz.func19, Tryz.ntmps19
  go_upto_region 2 with (at_make; refine wpList_make_full _ rfl _ _ 36 rfl (w.heap.size + 2) 4 i0 (.bool false) 1 Tryz.underlying36 G1.out G2.out G3.out .i64 .i64 _ _ (V + 1) rfl rfl (by simp) (by simp) (by rw [G4.out]; omega) (by unfold maxLen; omega) (by simp) ?_; intro w1 hown1 hg1)
  have hsz1 : w.heap.size + 2 < w1.heap.size := by have := hown1.lt (w.heap.size + 1 + 1) (by simp [Value.ownBlock]); omega
  have HO1 : Hid (w1.ownsRow (w.heap.size + 2) 4 1 (.slice (some ⟨w.heap.size + 1 + 1, 0, none⟩) (V + 1) (V + 1)) (V + 1) ((List.replicate (V + 1) false).map .bool)) := Lib.hid (by rw [made_bools] at hown1; simpa using hown1)
  have hbw : Below w.heap.size w w1 := ((((Below.refl w.heap.size w).alloc (Nat.le_refl _) (.cells #[.int .i64 V, pv] 29)).alloc (by simp) (.cells #[.int .i64 3, .int .i64 0, .slice ka n kc] 43)).grown hg1 (by simp; omega) (by intro k hk; cases hk))
  have HB1 := Lib.hid hbw
  have d0 : w1.cell? ⟨w.heap.size, 0, none⟩ = some (.int .i64 V) := hg1.cell (by simp) (by simp)
  have p0 : w1.cell? ⟨w.heap.size + 1, 0, none⟩ = some (.int .i64 3) := hg1.cell (by simp) (by simp)
  have p1 : w1.cell? ⟨w.heap.size + 1, 1, none⟩ = some (.int .i64 0) := hg1.cell (by simp) (by simp)
  have p2 : w1.cell? ⟨w.heap.size + 1, 2, none⟩ = some (.slice ka n kc) := hg1.cell (by simp) (by simp)
  clear hown1 hg1 hbw
  have HANY := Lib.hid hany
  clear hany
  go_wp2
  go_loopg [8, 9, 125] n (fun g u8 u9 u wx => ∃ j : Nat, j + g = n ∧ u8 = .slice none 0 0 ∧ u9 = .int .i64 0 ∧ u = .int .i64 j ∧ wx = w1 ∧ Hid ((kids.drop j).any (fun x => decide (x < 0 ∨ (mss.length : Int) ≤ x)) = true))
  case atStart => exact ⟨0, by omega, rfl, rfl, rfl, rfl, HANY⟩
  case round =>
  obtain ⟨j, hjg, rfl, rfl, rfl, rfl, hany⟩ := hrel
  have hj : j < kids.length := by
    rcases Nat.lt_or_ge j kids.length with h | h
    · exact h
    · have := hany.out; rw [List.drop_eq_nil_of_le h] at this; simp at this
  obtain ⟨x, hx⟩ : ∃ x, kids[j]? = some x := ⟨_, List.getElem?_eq_getElem hj⟩
  have hjn : j < n := by have := HN.out; omega
  obtain ⟨kb, koff, rfl, _, hkb, hck, hxi⟩ := (hk.below HB1.out).at hx
  obtain ⟨hx1, hx2⟩ := hxi
  have e : kids.drop j = x :: kids.drop (j + 1) := by
    obtain ⟨hlt, he⟩ := List.getElem?_eq_some_iff.1 hx
    rw [List.drop_eq_getElem_cons hlt, he]
  have HE := Lib.hid e
  clear hx hj e
  by_cases hb1 : x < 0
  · go_wp2
    go_ret2
    exact PartPost.no HB1.out rfl (by decide)
  by_cases hb2 : (mss.length : Int) ≤ x
  · go_wp2
    go_ret2
    exact PartPost.no HB1.out rfl (by decide)
  go_wp2
  go_roundg (gk - 1)
  case measure => omega
  case rel => exact ⟨j + 1, by omega, rfl, rfl, by go_num, rfl, Lib.hid (by
    have := hany.out
    rw [HE.out, List.any_cons, show decide (x < 0 ∨ (mss.length : Int) ≤ x) = false by simp; omega, Bool.false_or] at this
    exact this)⟩

set_option maxRecDepth 100000 in
set_option maxHeartbeats 8000000 in
theorem part_e3 {F : Nat → Prop} (V : Nat) (lit : Int) (kids : List Int) (pv mv kv : Value) (mss : List (List Bool)) (w : World)
    (hm : Rows1 Bools F w mv mss) (hk : Ints F w kv kids) (hv1 : V ≤ 40) (hl : (lit != 0) = true) :
    Calls Tryz.prog 19 #[.agg #[.int .i64 V, pv], mv, .int .i64 mss.length, .agg #[.int .i64 3, .int .i64 lit, kv]] w (PartPost w (1, [])) := by
  obtain ⟨ma, mc, rfl, hml⟩ := hm.form
  obtain ⟨ka, n, kc, rfl, HN, hkl⟩ := hk.form'
  have hinfo : (Tryz.prog.info? 4).map (fun i => (i.zero, i.size, i.bytes)) = some (some (.bool false), 1, 1) := by kernel_rfl
  obtain ⟨i0, g1, g2, g3, g4⟩ := info_parts hinfo
  have G1 := Lib.hid g1
  have G2 := Lib.hid g2
  have G3 := Lib.hid g3
  have G4 := Lib.hid g4
  clear g1 g2 g3 g4 hinfo
  go_enter Tryz.func19, Tryz.ntmps19
  go_upto_region 2 with (at_make; refine wpList_make_full _ rfl _ _ 36 rfl (w.heap.size + 2) 4 i0 (.bool false) 1 Tryz.underlying36 G1.out G2.out G3.out .i64 .i64 _ _ (V + 1) rfl rfl (by simp) (by simp) (by rw [G4.out]; omega) (by unfold maxLen; omega) (by simp) ?_; intro w1 hown1 hg1)
  have hsz1 : w.heap.size + 2 < w1.heap.size := by have := hown1.lt (w.heap.size + 1 + 1) (by simp [Value.ownBlock]); omega
  have HO1 : Hid (w1.ownsRow (w.heap.size + 2) 4 1 (.slice (some ⟨w.heap.size + 1 + 1, 0, none⟩) (V + 1) (V + 1)) (V + 1) ((List.replicate (V + 1) false).map .bool)) := Lib.hid (by rw [made_bools] at hown1; simpa using hown1)
  have hbw : Below w.heap.size w w1 := ((((Below.refl w.heap.size w).alloc (Nat.le_refl _) (.cells #[.int .i64 V, pv] 29)).alloc (by simp) (.cells #[.int .i64 3, .int .i64 lit, .slice ka n kc] 43)).grown hg1 (by simp; omega) (by intro k hk; cases hk))
  have HB1 := Lib.hid hbw
  have d0 : w1.cell? ⟨w.heap.size, 0, none⟩ = some (.int .i64 V) := hg1.cell (by simp) (by simp)
  have p0 : w1.cell? ⟨w.heap.size + 1, 0, none⟩ = some (.int .i64 3) := hg1.cell (by simp) (by simp)
  have p1 : w1.cell? ⟨w.heap.size + 1, 1, none⟩ = some (.int .i64 lit) := hg1.cell (by simp) (by simp)
  have p2 : w1.cell? ⟨w.heap.size + 1, 2, none⟩ = some (.slice ka n kc) := hg1.cell (by simp) (by simp)
  clear hown1 hg1 hbw
  go_wp2
  go_ret2
  exact PartPost.no HB1.out rfl (by decide)

set_option maxRecDepth 100000 in
set_option maxHeartbeats 8000000 in
theorem part_d4 {F : Nat → Prop} (V : Nat) (lit : Int) (kids : List Int) (pv mv kv : Value) (mss : List (List Bool)) (w : World)
    (hm : Rows1 Bools F w mv mss) (hk : Ints F w kv kids) (hv1 : V ≤ 40) (hany : kids.any (fun x => decide (x < 0 ∨ (mss.length : Int) ≤ x)) = true) (hn : kids.length = 2) (hl1 : 1 ≤ lit) (hl2 : lit ≤ V) :
    Calls Tryz.prog 19 #[.agg #[.int .i64 V, pv], mv, .int .i64 mss.length, .agg #[.int .i64 4, .int .i64 lit, kv]] w (PartPost w (10, [])) := by
  obtain ⟨ma, mc, rfl, hml⟩ := hm.form
  obtain ⟨ka, n, kc, rfl, HN, hkl⟩ := hk.form'
  have hinfo : (Tryz.prog.info? 4).map (fun i => (i.zero, i.size, i.bytes)) = some (some (.bool false), 1, 1) := by kernel_rfl
  obtain ⟨i0, g1, g2, g3, g4⟩ := info_parts hinfo
  have G1 := Lib.hid g1
  have G2 := Lib.hid g2
  have G3 := Lib.hid g3
  have G4 := Lib.hid g4
  clear g1 g2 g3 g4 hinfo
  have l0 : (lit == 0) = false := by rw [beq_eq_false_iff_ne]; omega
  have hnn : ((n : Int) != 2) = false := by rw [bne_eq_false_iff_eq]; have := HN.out; omega
  clear hn
  go_enter Tryz.func19, Tryz.ntmps19
  go_upto_region 2 with (at_make; refine wpList_make_full _ rfl _ _ 36 rfl (w.heap.size + 2) 4 i0 (.bool false) 1 Tryz.underlying36 G1.out G2.out G3.out .i64 .i64 _ _ (V + 1) rfl rfl (by simp) (by simp) (by rw [G4.out]; omega) (by unfold maxLen; omega) (by simp) ?_; intro w1 hown1 hg1)
  have hsz1 : w.heap.size + 2 < w1.heap.size := by have := hown1.lt (w.heap.size + 1 + 1) (by simp [Value.ownBlock]); omega
  have HO1 : Hid (w1.ownsRow (w.heap.size + 2) 4 1 (.slice (some ⟨w.heap.size + 1 + 1, 0, none⟩) (V + 1) (V + 1)) (V + 1) ((List.replicate (V + 1) false).map .bool)) := Lib.hid (by rw [made_bools] at hown1; simpa using hown1)
  have hbw : Below w.heap.size w w1 := ((((Below.refl w.heap.size w).alloc (Nat.le_refl _) (.cells #[.int .i64 V, pv] 29)).alloc (by simp) (.cells #[.int .i64 4, .int .i64 lit, .slice ka n kc] 43)).grown hg1 (by simp; omega) (by intro k hk; cases hk))
  have HB1 := Lib.hid hbw
  have d0 : w1.cell? ⟨w.heap.size, 0, none⟩ = some (.int .i64 V) := hg1.cell (by simp) (by simp)
  have p0 : w1.cell? ⟨w.heap.size + 1, 0, none⟩ = some (.int .i64 4) := hg1.cell (by simp) (by simp)
  have p1 : w1.cell? ⟨w.heap.size + 1, 1, none⟩ = some (.int .i64 lit) := hg1.cell (by simp) (by simp)
  have p2 : w1.cell? ⟨w.heap.size + 1, 2, none⟩ = some (.slice ka n kc) := hg1.cell (by simp) (by simp)
  clear hown1 hg1 hbw
  have HANY := Lib.hid hany
  clear hany
  go_wp2
  go_loopg [8, 9, 125] n (fun g u8 u9 u wx => ∃ j : Nat, j + g = n ∧ u8 = .slice none 0 0 ∧ u9 = .int .i64 0 ∧ u = .int .i64 j ∧ wx = w1 ∧ Hid ((kids.drop j).any (fun x => decide (x < 0 ∨ (mss.length : Int) ≤ x)) = true))
  case atStart => exact ⟨0, by omega, rfl, rfl, rfl, rfl, HANY⟩
  case round =>
  obtain ⟨j, hjg, rfl, rfl, rfl, rfl, hany⟩ := hrel
  have hj : j < kids.length := by
    rcases Nat.lt_or_ge j kids.length with h | h
    · exact h
    · have := hany.out; rw [List.drop_eq_nil_of_le h] at this; simp at this
  obtain ⟨x, hx⟩ : ∃ x, kids[j]? = some x := ⟨_, List.getElem?_eq_getElem hj⟩
  have hjn : j < n := by have := HN.out; omega
  obtain ⟨kb, koff, rfl, _, hkb, hck, hxi⟩ := (hk.below HB1.out).at hx
  obtain ⟨hx1, hx2⟩ := hxi
  have e : kids.drop j = x :: kids.drop (j + 1) := by
    obtain ⟨hlt, he⟩ := List.getElem?_eq_some_iff.1 hx
    rw [List.drop_eq_getElem_cons hlt, he]
  have HE := Lib.hid e
  clear hx hj e
  by_cases hb1 : x < 0
  · go_wp2
    go_ret2
    exact PartPost.no HB1.out rfl (by decide)
  by_cases hb2 : (mss.length : Int) ≤ x
  · go_wp2
    go_ret2
    exact PartPost.no HB1.out rfl (by decide)
  go_wp2
  go_roundg (gk - 1)
  case measure => omega
  case rel => exact ⟨j + 1, by omega, rfl, rfl, by go_num, rfl, Lib.hid (by
    have := hany.out
    rw [HE.out, List.any_cons, show decide (x < 0 ∨ (mss.length : Int) ≤ x) = false by simp; omega, Bool.false_or] at this
    exact this)⟩

end Go.Proofs.YteadlkecngfcoaaGreatDoor
