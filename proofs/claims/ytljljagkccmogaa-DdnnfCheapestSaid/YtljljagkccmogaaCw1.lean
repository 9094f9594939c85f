/- Walks: slices.Clone, slices.Index, slices.Contains, the statement's assignment. -/
import Derived.Test.YtljljagkccmogaaChecked
import Derived.Test.YtljljagkccmogaaB2
import Derived.Deep.DeepCutAuto
import Derived.Deep.LoopGhost
namespace Go.Proofs.Ytljljagkccmogaa
open Go.ChangeShapes Go.WideShapes Go.ChangeAt Go.RowKit
set_option linter.unusedVariables false

set_option maxRecDepth 100000 in
set_option maxHeartbeats 1000000 in
theorem clone_any (F : Nat → Prop) (v : Value) (xs : List Int) (w : World) (hx : Ints F w v xs) (hl : xs.length ≤ 16777216) :
    Calls Try.prog 45 #[v] w (IntsPost w xs) := by
  obtain ⟨a, n, c, rfl, HN, hn⟩ := hx.form'
  have hu := Try.underlying35
  have hinfo : (Try.prog.info? 3).map (fun i => (i.zero, i.size, i.bytes)) = some (some (.int .i64 0), 1, 8) := by kernel_rfl
  have HI := Lib.hid hinfo
  have HX := Lib.hid hx
  have hnil := fun (w : World) => Lib.run_eql_slice_nil w 35 3 a n c 0 0 hu
  have hn2 : n ≤ 16777216 := by rw [HN.out]; exact hl
  clear hinfo hx
  rcases a with _ | ad
  · simp only [Option.isNone_none] at hnil
    go_enter Try.func45, Try.ntmps45
    go_wp2
    go_ret
    have h0 : xs = [] := by
      rcases xs with _ | ⟨u, r⟩
      · rfl
      · obtain ⟨_, _, he, _⟩ := HX.out.at (k := 0) (x := u) rfl
        cases he
    subst h0
    exact ⟨_, rfl, Ints.nil _ _, Below.refl _ _⟩
  · simp only [Option.isNone_some] at hnil
    have hown : (w.alloc (.cells #[] 3)).ownsRow w.heap.size 3 1 (.slice (some ⟨w.heap.size, 0, none⟩) 0 0) 0 [] := by
      simpa using own_new (base := w.heap.size) (w := w) #[] 3 (Nat.le_refl _) (by simp)
    have hb0 : Below w.heap.size w (w.alloc (.cells #[] 3)) := (Below.refl _ _).alloc (Nat.le_refl _) _
    have HS := Lib.hid (HX.out.below hb0).1
    have HB0 := Lib.hid hb0
    clear hb0
    go_enter Try.func45, Try.ntmps45
    go_wp2_with (at_builtin; go_loud (refine wpList_pushAll rfl _ _ 35 rfl 3 (.int .i64 0) 8 Try.underlying35 HI.out rfl w.heap.size (.slice (some ⟨w.heap.size, 0, none⟩) 0 0) 0 [] _ F (some ad) n c _ rfl rfl hown HS.out (ints_oneCell .i64 _) (by omega) (by omega) (by simp) ?_); intro v' w' hown' hg' _; have HO := Lib.hid hown'; have HG := Lib.hid hg'; clear hown' hg' hown)
    go_ret
    have ho := HO.out
    rw [List.nil_append, Nat.zero_add] at ho
    refine ⟨_, rfl, ⟨(ownsRow_sl1 ho hn).mono fun b hb => hb.1, HX.out.2⟩, HB0.out.grown HG.out (by simp) fun k hk => by simp [Value.ownBlock] at hk; omega⟩

/-- the first place of x, -1 if it is nowhere -/
def idxGo (x : Int) : List Int → Nat → Int
  | [], _ => -1
  | y :: r, i => if x = y then i else idxGo x r (i + 1)
theorem idxGo_nonneg (x : Int) : ∀ (ys : List Int) (i : Nat), decide (0 ≤ idxGo x ys i) = ys.contains x
  | [], i => by simp [idxGo]
  | y :: r, i => by
    rw [idxGo, List.contains_cons]
    by_cases h : x = y
    · subst h; simp
    · rw [if_neg h, idxGo_nonneg x r (i + 1)]
      simp [h]

set_option maxHeartbeats 1000000 in
theorem index_any (F : Nat → Prop) (v : Value) (xs : List Int) (x : Int) (w : World) (hx : Ints F w v xs) (hi : I64 x) :
    Calls Try.prog 36 #[v, .int .i64 x] w fun e w' => e = .returned (.int .i64 (idxGo x xs 0)) ∧ w' = w := by
  obtain ⟨a, n, c, rfl, HN, hn⟩ := hx.form'
  obtain ⟨R, hR⟩ : ∃ R, idxGo x xs 0 = R := ⟨_, rfl⟩
  have HR : Hid (R = idxGo x (xs.drop 0) 0) := Lib.hid hR.symm
  rw [hR]
  clear hR
  go_enter Try.func36, Try.ntmps36
  go_wp2
  go_loop [4, 5, 8] (fun u4 u5 u8 => ∃ k : Nat, k ≤ n ∧ u8 = .int .i64 k ∧ u4 = .int .i64 0 ∧ Hid (R = idxGo x (xs.drop k) k)) (fun _ _ u8 => n - (intOf u8).toNat)
  case atStart => exact ⟨0, by omega, rfl, rfl, HR⟩
  case round =>
    obtain ⟨k, hk, rfl, rfl, hinv⟩ := hrel
    by_cases hlt : k < n
    · obtain ⟨y, hy⟩ : ∃ y, xs[k]? = some y := ⟨_, List.getElem?_eq_getElem (by have := HN.out; omega)⟩
      obtain ⟨b, off, rfl, _, hb, hc, hyi⟩ := hx.at hy
      have e : xs.drop k = y :: xs.drop (k + 1) := by
        obtain ⟨hlt, he⟩ := List.getElem?_eq_some_iff.1 hy
        rw [List.drop_eq_getElem_cons hlt, he]
      have HI : Hid (R = if x = y then (k : Int) else idxGo x (xs.drop (k + 1)) (k + 1)) := Lib.hid (by rw [hinv.out, e]; rfl)
      clear hinv e hy
      by_cases hxy : x = y
      · have HF : Hid (R = k) := Lib.hid (by rw [HI.out, if_pos hxy])
        subst hxy
        go_wp2
        go_ret
        exact ⟨by rw [HF.out]; rfl, rfl⟩
      · have HF : Hid (R = idxGo x (xs.drop (k + 1)) (k + 1)) := Lib.hid (by rw [HI.out, if_neg hxy])
        have hne : (x == y) = false := by simp [hxy]
        clear hxy
        go_wp2
        go_round
        case rel => exact ⟨k + 1, by omega, by go_num, rfl, HF⟩
        case measure => simp [intOf]; omega
    · have HF : Hid (R = -1) := Lib.hid (by rw [hinv.out, List.drop_eq_nil_of_le (by have := HN.out; omega)]; rfl)
      go_wp2
      go_ret
      exact ⟨by rw [HF.out]; rfl, rfl⟩

set_option maxHeartbeats 1000000 in
theorem contains_any (F : Nat → Prop) (v : Value) (xs : List Int) (x : Int) (w : World) (hx : Ints F w v xs) (hi : I64 x) :
    Calls Try.prog 22 #[v, .int .i64 x] w fun e w' => e = .returned (.bool (xs.contains x)) ∧ w' = w := by
  have hc := idxGo_nonneg x xs 0
  have hI := index_any F v xs x w hx hi
  obtain ⟨R, hR⟩ : ∃ R, idxGo x xs 0 = R := ⟨_, rfl⟩
  rw [hR] at hc hI
  rw [← hc]
  have HI := Lib.hid hI
  clear hc hR hI
  go_enter Try.func22, Try.ntmps22
  go_wp2_with fail
  refine HI.out.mono ?_
  rintro e w' ⟨rfl, rfl⟩
  go_wp2_with fail
  go_ret
  exact ⟨rfl, rfl⟩

/-- the assignment with the number k -/
def assM (n k : Nat) : List Bool := (List.range n).map fun j => k.testBit (n - 1 - j)
theorem assM_len (n k : Nat) : (assM n k).length = n := by simp [assM]
theorem assM_take (n k j : Nat) (h : j < n) : (assM n k).take (j + 1) = (assM n k).take j ++ [k.testBit (n - 1 - j)] := by
  rw [List.take_succ_eq_append_getElem (by rw [assM_len]; exact h)]
  simp [assM]
theorem bools_oneCell (zs : List Bool) : ∀ u ∈ zs.map Value.bool, u.oneCell' = true := by
  intro u hu
  obtain ⟨b, _, rfl⟩ := List.mem_map.1 hu
  rfl

set_option maxHeartbeats 1000000 in
theorem assign_any (n k : Nat) (w : World) (hn : n ≤ 62) (hk : k < 4611686018427387904) :
    Calls Try.prog 23 #[.int .i64 k, .int .i64 n] w (BoolsPost w (assM n k)) := by
  have hinfo : (Try.prog.info? 4).map (fun i => (i.zero, i.size, i.bytes)) = some (some (.bool false), 1, 1) := by kernel_rfl
  have HI := Lib.hid hinfo
  clear hinfo
  go_enter Try.func23, Try.ntmps23
  go_wp2
  go_loopg [5, 6] (n) (fun g u5 u6 wx => ∃ (j : Nat), j + g = n ∧ u6 = .int .i64 ((g : Int) - 1) ∧ Below w.heap.size w wx ∧ wx.ownsRow w.heap.size 4 1 u5 j (((assM n k).take j).map .bool))
  case atStart => exact ⟨0, by omega, by go_num, Below.refl _ _, World.ownsRow_nil _ _ _ _⟩
  case round =>
    obtain ⟨j, hj, rfl, hB, hown⟩ := hrel
    have HB := Lib.hid hB
    have HO := Lib.hid hown
    have hbs := hB.size
    clear hB hown
    rcases gk with _ | g
    · have hjn : j = n := by omega
      subst hjn
      go_wp2
      go_ret
      have h := HO.out
      rw [List.take_of_length_le (by rw [assM_len]; omega)] at h
      exact ⟨_, rfl, (ownsRow_sl1 h (by omega)).mono fun b hb => hb.1, HB.out⟩
    · have hown := HO.out
      go_wp2_with (at_builtin; go_loud (refine wpList_push1 rfl _ _ 29 rfl 4 (.bool false) 1 Try.underlying29 HI.out rfl w.heap.size u5 j _ wr _ rfl rfl hown rfl (by omega) (by omega) (by omega) ?_); intro g3 cap3 w3 hown3 hg3 hs3 hgb hgl _; have HB3 := Lib.hid (HB.out.grown hg3 (by omega) (fun k hk => (hown.lt k hk).1)); have HO3 := Lib.hid hown3; clear hown3 hg3 hown)
      go_roundg g
      case measure => omega
      case rel =>
        refine ⟨j + 1, by omega, by go_num, HB3.out, ?_⟩
        have h := HO3.out
        rw [assM_take n k j (by omega), List.map_append, show n - 1 - j = g by omega, ← bit_test]
        exact h
end Go.Proofs.Ytljljagkccmogaa
