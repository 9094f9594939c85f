/- (Trace seat) Walks: doubled, equal, canonical, kept, variable, lost of the package trace. No condition but the sizes. -/
import Derived.Test.YtihkknploioakaaVa
import Derived.Test.YtihkknploioakaaQ7
import Derived.Test.YtihkknploioakaaKo
import Derived.Deep.DeepCutAuto
import Derived.Deep.LoopGhost
import Derived.BigQuiet
import Derived.Deep.QuietTactic
import Derived.Deep.RegionHeld3
namespace Go.Proofs.Ytihkknploioakaa
open Go.ChangeShapes Go.WideShapes Go.ChangeAt Go.RowKit
set_option linter.unusedVariables false

theorem dblM_big (t : Nat) (n : Int) (h : 1099511627776 < n) : dblM (t + 1) n = -1 := by rw [dblM, if_pos h]
set_option maxHeartbeats 1000000 in
theorem doubled_any (n : Int) (t : Nat) (w : World) (h0 : 0 ≤ n) (h1 : n ≤ 1099511627776) (ht : t ≤ 100000) :
    Calls Try.prog 45 #[.int .i64 n, .int .i64 t] w fun e w' => e = .returned (.int .i64 (dblM t n)) ∧ w' = w := by
  obtain ⟨R, hR⟩ : ∃ R, dblM t n = R := ⟨_, rfl⟩
  have HR := Lib.hid hR
  rw [hR]
  clear hR
  go_enter Try.func45, Try.ntmps45
  go_wp2
  go_loop [0, 6] (fun u0 u6 => ∃ (k : Nat) (m : Int), k ≤ t ∧ 0 ≤ m ∧ m ≤ 2199023255552 ∧ u0 = .int .i64 m ∧ u6 = .int .i64 k ∧ Hid (dblM (t - k) m = R)) (fun _ u6 => t - (intOf u6).toNat)
  case atStart => exact ⟨0, n, by omega, h0, by omega, rfl, rfl, HR⟩
  case round =>
    obtain ⟨k, m, hk, hm0, hm1, rfl, rfl, HM⟩ := hrel
    by_cases hkt : k < t
    · have hd : decide ((k : Int) < t) = true := by simp; omega
      have hd' : decide (k < t) = true := decide_eq_true hkt
      obtain ⟨j, hj⟩ : ∃ j, t - k = j + 1 := ⟨t - k - 1, by omega⟩
      have hh := HM.out
      rw [hj, dblM] at hh
      by_cases hb : 1099511627776 < m
      · rw [if_pos hb] at hh
        have HH := Lib.hid hh
        have hb' : decide (1099511627776 < m) = true := decide_eq_true hb
        clear hh hj HM
        go_wp2
        go_ret
        exact ⟨by rw [← HH.out]; rfl, rfl⟩
      · rw [if_neg hb, show j = t - (k + 1) by omega] at hh
        have HH := Lib.hid hh
        have hb' : decide (1099511627776 < m) = false := decide_eq_false hb
        clear hh hj HM
        go_wp2
        go_round
        case rel => exact ⟨k + 1, m * 2, by omega, by omega, by omega, rfl, by go_num, HH⟩
        case measure => simp [intOf]; omega
    · have hd : decide ((k : Int) < t) = false := by simp; omega
      have hd' : decide (k < t) = false := decide_eq_false hkt
      have hh := HM.out
      rw [show t - k = 0 by omega, dblM] at hh
      have HH := Lib.hid hh
      clear hh HM
      go_wp2
      go_ret
      exact ⟨by rw [← HH.out]; rfl, rfl⟩

set_option maxHeartbeats 1000000 in
theorem tequal_any {F G : Nat → Prop} (v u : Value) (xs ys : List (List Int)) (w : World) (hx : Clss F w v xs) (hy : Clss G w u ys) :
    Calls Try.prog 13 #[v, u] w (QuietPost w (.bool (xs == ys))) := by
  have H := Lib.hid (equalf_any v u xs ys w hx hy)
  obtain ⟨a, n, c, rfl, _, _⟩ := hx.form'
  obtain ⟨b, m, d, rfl, _, _⟩ := hy.form'
  clear hx hy
  go_enter Try.func13, Try.ntmps13
  go_wp2_with fail
  refine H.out.mono ?_
  rintro e w1 ⟨rfl, n1, rfl⟩
  go_wp2_with fail
  go_ret
  exact ⟨rfl, _, rfl⟩

set_option maxHeartbeats 1000000 in
theorem kept_any (F : Nat → Prop) (b : Nat) (keep : Int) (v : Value) (xs : List Int) (w : World) (hc : w.cell? ⟨b, 0, none⟩ = some (.int .i64 keep)) (hx : Ints F w v xs) (hl : xs.length ≤ 100000) :
    Calls Try.prog 15 #[.pointer (some ⟨b, 0, none⟩), v] w (IntsPost w (keptM keep xs)) := by
  obtain ⟨a, n, c, rfl, HN, hn⟩ := hx.form'
  have hn5 : n ≤ 100000 := by rw [HN.out]; exact hl
  have HI1 := Lib.hid (show (Try.prog.info? 3).map (fun i => (i.zero, i.size, i.bytes)) = some (some (.int .i64 0), 1, 8) by kernel_rfl)
  have hlt := block_lt hc
  have HX := Lib.hid hx.lt
  have HC := Lib.hid hc
  clear hx hl hc
  go_enter Try.func15, Try.ntmps15
  go_wp2_with fail
  go_loopg [5, 10] n (fun gg u5 u10 wx => ∃ (k : Nat) (ys : List Int), k + gg = n ∧ u10 = .int .i64 k ∧ Hid (Below w.heap.size w wx) ∧ Hid (ys = keptM keep (xs.take k)) ∧ ys.length ≤ k ∧ Hid (wx.ownsRow w.heap.size 3 1 u5 ys.length (ys.map (.int .i64))))
  case atStart => exact ⟨0, [], by omega, rfl, Lib.hid (Below.refl _ _), Lib.hid rfl, by simp, Lib.hid (World.ownsRow_nil _ _ _ _)⟩
  case round =>
  obtain ⟨k, ys, hkg, rfl, HB, HY, hyl, HO⟩ := hrel
  have hsz := HB.out.size
  by_cases hk : k < n
  · obtain ⟨x, hxk⟩ : ∃ x, xs[k]? = some x := ⟨_, List.getElem?_eq_getElem (by rw [← HN.out]; exact hk)⟩
    have hxr := HX.out.move (w' := wr) fun b hb hlt => HB.out.block b hb.2
    obtain ⟨xb, xo, rfl, _, hxb, hcx, hxi⟩ := hxr.at hxk
    have hck := below_c HB.out hlt HC.out
    have hdk : decide ((k : Int) < n) = true := by simp; omega
    have hdk' : decide (k < n) = true := decide_eq_true hk
    have HT : Hid (xs.take (k + 1) = xs.take k ++ [x]) := Lib.hid (by rw [List.take_add_one, hxk]; rfl)
    have HXI := Lib.hid hxi
    clear hxr hxk hxi hxb
    by_cases hle : x ≤ keep
    · have hd : decide (x ≤ keep) = true := decide_eq_true hle
      obtain ⟨oa, oc, hov⟩ := own_form HO.out
      subst hov
      obtain ⟨on, hon⟩ : ∃ m, ys.length = m := ⟨_, rfl⟩
      have hown := HO.out
      rw [hon] at hown hyl
      have HON := Lib.hid hon
      rw [hon]
      clear hon
      go_wp2_with (at_builtin; go_loud (refine wpList_push1 rfl _ _ 38 rfl 3 (.int .i64 0) 8 Try.underlying38 HI1.out rfl w.heap.size (.slice oa on oc) on (ys.map (.int .i64)) wr (.int .i64 x) rfl rfl hown rfl (by omega) (by omega) (by omega) ?_); intro g7 cap7 w7 hown7 hg7 hs7 hgb hgl hat; have HB7 := Lib.hid (HB.out.grown hg7 (by omega) (fun k hk => (hown.lt k hk).1)); have HO7 : Hid (w7.ownsRow w.heap.size 3 1 (.slice (some ⟨g7, 0, none⟩) (on + 1) cap7) (ys ++ [x]).length ((ys ++ [x]).map (.int .i64))) := Lib.hid (by simpa [HON.out] using hown7); clear hown7 hg7 hown)
      go_roundg (gk - 1)
      case measure => omega
      case rel => exact ⟨k + 1, ys ++ [x], by omega, by go_num, HB7, Lib.hid (by rw [HT.out, HY.out]; unfold keptM; rw [List.filter_append]; simp [hle]), by have := HON.out; simp; omega, HO7⟩
    · have hd : decide (x ≤ keep) = false := decide_eq_false hle
      go_wp2_with fail
      go_roundg (gk - 1)
      case measure => omega
      case rel => exact ⟨k + 1, ys, by omega, by go_num, HB, Lib.hid (by rw [HT.out, HY.out]; unfold keptM; rw [List.filter_append]; simp [hle]), by omega, HO⟩
  · obtain rfl : k = n := by omega
    have hdk : decide ((k : Int) < k) = false := by simp
    have hdk' : decide (k < k) = false := decide_eq_false (by omega)
    have hF : Ints (fun b => w.heap.size ≤ b) wr u5 (keptM keep xs) := by
      have h := HY.out
      rw [List.take_of_length_le (by rw [HN.out]; exact Nat.le_refl _)] at h
      rw [← h]
      refine ⟨(by
        have := ownsRow_sl1 HO.out (by omega)
        exact this.mono fun b hb => hb.1), fun x hx => ?_⟩
      rw [h] at hx
      exact HX.out.2 x (List.mem_filter.1 hx).1
    have HF := Lib.hid hF
    clear hF
    go_wp2_with fail
    go_ret
    exact ⟨_, rfl, HF.out, HB.out⟩

set_option maxHeartbeats 1000000 in
theorem variable_any (b : Nat) (lit : Int) (v : Value) (xs : List Int) (w : World) (hc : w.cell? ⟨b, 3, none⟩ = some (.int .i64 lit)) (hv : w.cell? ⟨b, 7, none⟩ = some v) (hx : Ints (fun _ => True) w v xs) (hr : ∀ x ∈ xs, 1 ≤ x ∧ x ≤ 20000) :
    Calls Try.prog 42 #[.pointer (some ⟨b, 0, none⟩)] w fun e w' => e = .returned (.int .i64 (varK lit xs)) ∧ w' = w := by
  obtain ⟨a, n, c, rfl, HN, hn⟩ := hx.form'
  obtain ⟨R, hR⟩ : ∃ R, varK lit xs = R := ⟨_, rfl⟩
  have HR : Hid (varK lit (xs.drop 0) = R) := Lib.hid hR
  rw [hR]
  have HX := Lib.hid hx
  have HRG := Lib.hid hr
  clear hR hx hr
  go_enter Try.func42, Try.ntmps42
  go_wp2_with fail
  go_loopg [10] n (fun gg u10 wx => ∃ (k : Nat), k + gg = n ∧ u10 = .int .i64 k ∧ wx = w ∧ Hid (varK lit (xs.drop k) = R))
  case atStart => exact ⟨0, by omega, rfl, rfl, HR⟩
  case round =>
  obtain ⟨k, hkg, rfl, rfl, HM⟩ := hrel
  by_cases hk : k < n
  · obtain ⟨x, hxk, ex⟩ := drop_at (xs := xs) (k := k) (by rw [← HN.out]; exact hk)
    obtain ⟨xb, xo, rfl, _, hxb, hcx, hxi⟩ := HX.out.at hxk
    have hxr := HRG.out x (List.mem_of_getElem? hxk)
    have hdk : decide ((k : Int) < n) = true := by simp; omega
    have hdk' : decide (k < n) = true := decide_eq_true hk
    have hh := HM.out
    rw [ex, varK] at hh
    obtain ⟨hx1, hx2⟩ := hxr
    by_cases h1 : lit = x
    · rw [if_pos (.inl h1)] at hh
      subst h1
      have HH := Lib.hid hh
      clear hh ex hxk HM hxi
      go_wp2_with fail
      go_ret
      exact ⟨by rw [← HH.out]; rfl, rfl⟩
    have e1 : (lit == x) = false := by simp; exact h1
    by_cases h2 : lit = -x
    · rw [if_pos (.inr h2)] at hh
      have e2 : (lit == -x) = true := by simp; exact h2
      have HH := Lib.hid hh
      have hwn : IntKind.i64.wrap (-x) = -x := IntWalk.i64_in _ ⟨by omega, by omega⟩
      clear hh ex hxk HM hxi h2 h1
      go_wp2_with fail
      go_ret
      exact ⟨by rw [← HH.out]; rfl, rfl⟩
    · rw [if_neg (by rintro (h | h); exact h1 h; exact h2 h)] at hh
      have e2 : (lit == -x) = false := by simp; exact h2
      have HH := Lib.hid hh
      have hwn : IntKind.i64.wrap (-x) = -x := IntWalk.i64_in _ ⟨by omega, by omega⟩
      clear hh ex hxk HM hxi h2 h1
      go_wp2_with fail
      go_roundg (gk - 1)
      case measure => omega
      case rel => exact ⟨k + 1, by omega, by go_num, rfl, HH⟩
  · obtain rfl : k = n := by omega
    have hdk : decide ((k : Int) < k) = false := by simp
    have hdk' : decide (k < k) = false := decide_eq_false (by omega)
    have hh := HM.out
    rw [List.drop_eq_nil_of_le (by rw [HN.out]; exact Nat.le_refl _), varK] at hh
    have HH := Lib.hid hh
    clear hh HM
    go_wp2_with fail
    go_ret
    exact ⟨by rw [← HH.out]; rfl, rfl⟩
end Go.Proofs.Ytihkknploioakaa
