/- Walks: slices.Clone of ints as a slice that the call owns; slices.Equal of ints. No condition but the length. -/
import Derived.Test.YtihkknploioakaaGreatKa
namespace Go.Proofs.YtihkknploioakaaGreat
open Go.ChangeShapes Go.WideShapes Go.ChangeAt Go.RowKit
set_option linter.unusedVariables false

def OwnPost (W : World) (xs : List Int) (e : Ending) (w' : World) : Prop := ∃ v, e = .returned v ∧ w'.ownsRow W.heap.size 3 1 v xs.length (xs.map (.int .i64)) ∧ Below W.heap.size W w'
set_option maxRecDepth 100000 in
set_option maxHeartbeats 1000000 in
theorem clone_own (F : Nat → Prop) (v : Value) (xs : List Int) (w : World) (hx : Ints F w v xs) (hl : xs.length ≤ 16777216) :
    Calls Tryz.prog 64 #[v] w (OwnPost w xs) := by
  obtain ⟨a, n, c, rfl, HN, hn⟩ := hx.form'
  have hu := Tryz.underlying40
  have hinfo : (Tryz.prog.info? 3).map (fun i => (i.zero, i.size, i.bytes)) = some (some (.int .i64 0), 1, 8) := by kernel_rfl
  have HI := Lib.hid hinfo
  have HX := Lib.hid hx
  have hnil := fun (w : World) => Lib.run_eql_slice_nil w 40 3 a n c 0 0 hu
  have hn2 : n ≤ 16777216 := by rw [HN.out]; exact hl
  clear hinfo hx
  rcases a with _ | ad
  · simp only [Option.isNone_none] at hnil
    have h0 : xs = [] := by
      rcases xs with _ | ⟨u, r⟩
      · rfl
      · obtain ⟨_, _, he, _⟩ := HX.out.at (k := 0) (x := u) rfl
        cases he
    subst h0
    go_enter Tryz.func64, Tryz.ntmps64
    go_wp2
    go_ret
    exact ⟨_, rfl, World.ownsRow_nil _ _ _ _, Below.refl _ _⟩
  · simp only [Option.isNone_some] at hnil
    have hown : (w.alloc (.cells #[] 3)).ownsRow w.heap.size 3 1 (.slice (some ⟨w.heap.size, 0, none⟩) 0 0) 0 [] := by
      simpa using own_new (base := w.heap.size) (w := w) #[] 3 (Nat.le_refl _) (by simp)
    have hb0 : Below w.heap.size w (w.alloc (.cells #[] 3)) := (Below.refl _ _).alloc (Nat.le_refl _) _
    have HS := Lib.hid (HX.out.below hb0).1
    have HB0 := Lib.hid hb0
    clear hb0
    go_enter Tryz.func64, Tryz.ntmps64
    go_wp2_with (at_builtin; go_loud (refine wpList_pushAll rfl _ _ 40 rfl 3 (.int .i64 0) 8 Tryz.underlying40 HI.out rfl w.heap.size (.slice (some ⟨w.heap.size, 0, none⟩) 0 0) 0 [] _ F (some ad) n c _ rfl rfl hown HS.out (ints_oneCell .i64 _) (by omega) (by omega) (by simp) ?_); intro v' w' hown' hg' _; have HO := Lib.hid hown'; have HG := Lib.hid hg'; clear hown' hg' hown)
    go_ret
    have ho := HO.out
    rw [List.nil_append, Nat.zero_add] at ho
    exact ⟨_, rfl, by rw [← HN.out]; exact ho, HB0.out.grown HG.out (by simp) fun k hk => by simp [Value.ownBlock] at hk; omega⟩


set_option maxHeartbeats 2000000 in
theorem equal_any {F G : Nat → Prop} (v u : Value) (xs ys : List Int) (w : World) (hx : Ints F w v xs) (hy : Ints G w u ys) :
    Calls Tryz.prog 48 #[v, u] w (QuietPost w (.bool (xs == ys))) := by
  obtain ⟨a, n, c, rfl, HN, hn⟩ := hx.form'
  obtain ⟨b, m, d, rfl, HM, hm⟩ := hy.form'
  obtain ⟨R, hR⟩ : ∃ R, (xs == ys) = R := ⟨_, rfl⟩
  rw [hR]
  by_cases hnm : n = m
  case neg =>
    have hne : ((n : Int) != (m : Int)) = true := by rw [bne_iff_ne]; omega
    have HR : Hid (R = false) := Lib.hid (by
      rw [← hR, beq_eq_false_iff_ne]
      intro e
      exact hnm (by rw [HN.out, HM.out, e]))
    clear hR hnm
    go_enter Tryz.func48, Tryz.ntmps48
    go_wp2
    go_ret
    exact ⟨by rw [HR.out]; rfl, 0, rfl⟩
  subst hnm
  have hne : ((n : Int) != (n : Int)) = false := by simp
  have HR : Hid (R = (xs.drop 0 == ys.drop 0)) := Lib.hid hR.symm
  clear hR
  go_enter Tryz.func48, Tryz.ntmps48
  go_wp2
  go_loopg [13] n (fun g u13 wx => ∃ (k nq : Nat), k + g = n ∧ u13 = .int .i64 k ∧ wx = w.drewN nq ∧ Hid (R = (xs.drop k == ys.drop k)))
  case atStart => exact ⟨0, 0, by omega, rfl, rfl, HR⟩
  case round =>
  obtain ⟨k, nq, hkg, rfl, rfl, hinv⟩ := hrel
  by_cases hk : k < n
  · obtain ⟨x, hxx⟩ : ∃ y, xs[k]? = some y := ⟨_, List.getElem?_eq_getElem (by have := HN.out; omega)⟩
    obtain ⟨y, hyy⟩ : ∃ y, ys[k]? = some y := ⟨_, List.getElem?_eq_getElem (by have := HM.out; omega)⟩
    obtain ⟨xb, xo, rfl, _, _, hxc, _⟩ := hx.at hxx
    obtain ⟨yb, yo, rfl, _, _, hyc, _⟩ := hy.at hyy
    have ex : xs.drop k = x :: xs.drop (k + 1) := by
      obtain ⟨hlt, he⟩ := List.getElem?_eq_some_iff.1 hxx
      rw [List.drop_eq_getElem_cons hlt, he]
    have ey : ys.drop k = y :: ys.drop (k + 1) := by
      obtain ⟨hlt, he⟩ := List.getElem?_eq_some_iff.1 hyy
      rw [List.drop_eq_getElem_cons hlt, he]
    have hk0 : (0 : Int) ≤ k := by omega
    have hk1 : (k : Int) < n := by omega
    by_cases hxy : x = y
    · have HF : Hid (R = (xs.drop (k + 1) == ys.drop (k + 1))) := Lib.hid (by rw [hinv.out, ex, ey, hxy]; simp)
      have hne2 : (x != y) = false := by simp [hxy]
      clear hinv ex ey hxx hyy hxy
      go_upto_region 6 with fail
      go_quiet (fail)
      go_wp2
      go_roundg (gk - 1)
      case measure => omega
      case rel => exact ⟨k + 1, _, by omega, by go_num, rfl, HF⟩
    · have HF : Hid (R = false) := Lib.hid (by rw [hinv.out, ex, ey]; simp [hxy])
      have hne2 : (x != y) = true := by simp [hxy]
      clear hinv ex ey hxx hyy hxy
      go_upto_region 6 with fail
      go_quiet (fail)
      go_wp2
      go_ret
      exact ⟨by rw [HF.out]; rfl, _, by rw [World.drewN_drewN]⟩
  · have HF : Hid (R = true) := Lib.hid (by rw [hinv.out, List.drop_eq_nil_of_le (by have := HN.out; omega), List.drop_eq_nil_of_le (by have := HM.out; omega)]; rfl)
    clear hinv
    go_wp2
    go_ret
    exact ⟨by rw [HF.out]; rfl, nq, rfl⟩

end Go.Proofs.YtihkknploioakaaGreat
