/- Walks of layer 33: what the statements' own 'part' answers, decisions that are not well formed. -/
import Derived.Test.YteadlkecngfcoaaGreatDoorChecked
import Derived.Test.YteadlkecngfcoaaGreatDoorDd
import Derived.Deep.DeepCutAuto
import Derived.Deep.LoopGhost
namespace Go.Proofs.YteadlkecngfcoaaGreatDoor
open Go.ChangeShapes Go.WideShapes Go.ChangeAt Go.RowKit
set_option linter.unusedVariables false

set_option maxRecDepth 100000 in
set_option maxHeartbeats 8000000 in
theorem part_a4 {F : Nat → Prop} (V : Nat) (lit : Int) (kids : List Int) (pv mv kv : Value) (mss : List (List Bool)) (w : World)
    (hm : Rows1 Bools F w mv mss) (hk : Ints F w kv kids) (hv1 : V ≤ 40) (hn : kids.length ≠ 2) :
    Calls Tryz.prog 19 #[.agg #[.int .i64 V, pv], mv, .int .i64 mss.length, .agg #[.int .i64 4, .int .i64 lit, kv]] w (PartPost w (1, [])) := by
  obtain ⟨ma, mc, rfl, hml⟩ := hm.form
  obtain ⟨ka, n, kc, rfl, HN, hkl⟩ := hk.form'
  have hinfo : (Tryz.prog.info? 4).map (fun i => (i.zero, i.size, i.bytes)) = some (some (.bool false), 1, 1) := by kernel_rfl
  obtain ⟨i0, g1, g2, g3, g4⟩ := info_parts hinfo
  have G1 := Lib.hid g1
  have G2 := Lib.hid g2
  have G3 := Lib.hid g3
  have G4 := Lib.hid g4
  clear g1 g2 g3 g4 hinfo
  have hn2 : ((n : Int) != 2) = true := by rw [bne_iff_ne]; have := HN.out; omega
  clear hn HN
  go_enter Tryz.func19, Tryz.ntmps19
  go_upto_region 2 with (at_make; refine wpList_make_full _ rfl _ _ 36 rfl (w.heap.size + 2) 4 i0 (.bool false) 1 Tryz.underlying36 G1.out G2.out G3.out .i64 .i64 _ _ (V + 1) rfl rfl (by simp) (by simp) (by rw [G4.out]; omega) (by unfold maxLen; omega) (by simp) ?_; intro w1 hown1 hg1)
  have hsz1 : w.heap.size + 2 < w1.heap.size := by have := hown1.lt (w.heap.size + 1 + 1) (by simp [Value.ownBlock]); omega
  have HO1 : Hid (w1.ownsRow (w.heap.size + 2) 4 1 (.slice (some ⟨w.heap.size + 1 + 1, 0, none⟩) (V + 1) (V + 1)) (V + 1) ((List.replicate (V + 1) false).map .bool)) := Lib.hid (by rw [made_bools] at hown1; simpa using hown1)
  have hbw : Below w.heap.size w w1 := ((((Below.refl w.heap.size w).alloc (Nat.le_refl _) (.cells #[.int .i64 V, pv] 29)).alloc (by simp) (.cells #[.int .i64 4, .int .i64 lit, .slice ka n kc] 43)).grown hg1 (by simp; omega) (by intro k hk; cases hk))
  have HB1 := Lib.hid hbw
  have d0 : w1.cell? ⟨w.heap.size, 0, none⟩ = some (.int .i64 V) := hg1.cell (by simp) (by simp)
  have p0 : w1.cell? ⟨w.heap.size + 1, 0, none⟩ = some (.int .i64 4) := hg1.cell (by simp) (by simp)
  have p1 : w1.cell? ⟨w.heap.size + 1, 1, none⟩ = some (.int .i64 lit) := hg1.cell (by simp) (by simp)
  have p2 : w1.cell? ⟨w.heap.size + 1, 2, none⟩ = some (.slice ka n kc) := hg1.cell (by simp) (by simp)
  clear hown1 hg1 hbw
  go_wp2
  go_ret2
  exact PartPost.no HB1.out rfl (by decide)

set_option maxRecDepth 100000 in
set_option maxHeartbeats 8000000 in
theorem part_b4 {F : Nat → Prop} (V : Nat) (lit : Int) (kids : List Int) (pv mv kv : Value) (mss : List (List Bool)) (w : World)
    (hm : Rows1 Bools F w mv mss) (hk : Ints F w kv kids) (hv1 : V ≤ 40) (hn : kids.length = 2) (hl : lit < 1 ∨ (V : Int) < lit) (h2 : I64 lit) :
    Calls Tryz.prog 19 #[.agg #[.int .i64 V, pv], mv, .int .i64 mss.length, .agg #[.int .i64 4, .int .i64 lit, kv]] w (PartPost w (3, [])) := by
  obtain ⟨ma, mc, rfl, hml⟩ := hm.form
  obtain ⟨ka, n, kc, rfl, HN, hkl⟩ := hk.form'
  have hinfo : (Tryz.prog.info? 4).map (fun i => (i.zero, i.size, i.bytes)) = some (some (.bool false), 1, 1) := by kernel_rfl
  obtain ⟨i0, g1, g2, g3, g4⟩ := info_parts hinfo
  have G1 := Lib.hid g1
  have G2 := Lib.hid g2
  have G3 := Lib.hid g3
  have G4 := Lib.hid g4
  clear g1 g2 g3 g4 hinfo
  have hn0 : 2 = n := by have := HN.out; omega
  clear HN
  subst hn0
  obtain ⟨h21, h22⟩ := h2
  go_enter Tryz.func19, Tryz.ntmps19
  go_upto_region 2 with (at_make; refine wpList_make_full _ rfl _ _ 36 rfl (w.heap.size + 2) 4 i0 (.bool false) 1 Tryz.underlying36 G1.out G2.out G3.out .i64 .i64 _ _ (V + 1) rfl rfl (by simp) (by simp) (by rw [G4.out]; omega) (by unfold maxLen; omega) (by simp) ?_; intro w1 hown1 hg1)
  have hsz1 : w.heap.size + 2 < w1.heap.size := by have := hown1.lt (w.heap.size + 1 + 1) (by simp [Value.ownBlock]); omega
  have HO1 : Hid (w1.ownsRow (w.heap.size + 2) 4 1 (.slice (some ⟨w.heap.size + 1 + 1, 0, none⟩) (V + 1) (V + 1)) (V + 1) ((List.replicate (V + 1) false).map .bool)) := Lib.hid (by rw [made_bools] at hown1; simpa using hown1)
  have hbw : Below w.heap.size w w1 := ((((Below.refl w.heap.size w).alloc (Nat.le_refl _) (.cells #[.int .i64 V, pv] 29)).alloc (by simp) (.cells #[.int .i64 4, .int .i64 lit, .slice ka 2 kc] 43)).grown hg1 (by simp; omega) (by intro k hk; cases hk))
  have HB1 := Lib.hid hbw
  have d0 : w1.cell? ⟨w.heap.size, 0, none⟩ = some (.int .i64 V) := hg1.cell (by simp) (by simp)
  have p0 : w1.cell? ⟨w.heap.size + 1, 0, none⟩ = some (.int .i64 4) := hg1.cell (by simp) (by simp)
  have p1 : w1.cell? ⟨w.heap.size + 1, 1, none⟩ = some (.int .i64 lit) := hg1.cell (by simp) (by simp)
  have p2 : w1.cell? ⟨w.heap.size + 1, 2, none⟩ = some (.slice ka 2 kc) := hg1.cell (by simp) (by simp)
  clear hown1 hg1 hbw
  by_cases l0 : (lit == 0) = true
  · clear hl
    go_wp2
    go_ret2
    exact PartPost.no HB1.out rfl (by decide)
  · have l0' : (lit == 0) = false := by simpa using l0
    have hl' : (V : Int) < lit ∨ lit < 0 := by
      have : lit ≠ 0 := by simpa using l0
      omega
    clear hl l0
    by_cases l1 : (V : Int) < lit
    · clear hl'
      go_wp2
      go_ret2
      exact PartPost.no HB1.out rfl (by decide)
    · have l2 : lit < 0 := by omega
      clear hl'
      by_cases l3 : lit < -(V : Int)
      · go_wp2
        go_ret2
        exact PartPost.no HB1.out rfl (by decide)
      · go_wp2
        go_ret2
        exact PartPost.no HB1.out rfl (by decide)

end Go.Proofs.YteadlkecngfcoaaGreatDoor
