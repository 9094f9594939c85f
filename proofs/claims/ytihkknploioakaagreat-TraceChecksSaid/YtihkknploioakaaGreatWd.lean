/- (Trace seat Z) Walks: doubled, size, without of the statement's definitions. No condition but the ranges. -/
import Derived.Test.YtihkknploioakaaGreatWa
namespace Go.Proofs.YtihkknploioakaaGreat
open Go.ChangeShapes Go.WideShapes Go.ChangeAt Go.RowKit
set_option linter.unusedVariables false

/-- n doubled k times, and whether it is at most 2^40 -/
def dblS : Nat → Int → Int × Bool
  | 0, n => (n, true)
  | t + 1, n => if 1099511627776 < n * 2 then (0, false) else dblS t (n * 2)
def PairPost (W : World) (r : Int × Bool) (e : Ending) (w' : World) : Prop := e = .returned (.tuple #[.int .i64 r.1, .bool r.2]) ∧ w' = W
set_option maxRecDepth 100000 in
set_option maxHeartbeats 4000000 in
theorem ldoubled_any (n : Int) (k : Nat) (w : World) (hn : 0 ≤ n ∧ n ≤ 1099511627776) (hk : (k : Int) ≤ 1000000) :
    Calls Tryz.prog 32 #[.int .i64 n, .int .i64 k] w (PairPost w (dblS k n)) := by
  obtain ⟨R, hR⟩ : ∃ R, dblS k n = R := ⟨_, rfl⟩
  rw [hR]
  have HR := Lib.hid hR
  have HN := Lib.hid hn
  clear hR hn
  go_enter Tryz.func32, Tryz.ntmps32
  go_wp2_with fail
  go_loopg [0, 1] k (fun gg u0 u1 wx => ∃ m : Int, u0 = .int .i64 m ∧ u1 = .int .i64 gg ∧ wx = w ∧ Hid (dblS gg m = R) ∧ Hid (0 ≤ m ∧ m ≤ 1099511627776) ∧ gg ≤ k)
  case atStart => exact ⟨n, rfl, rfl, rfl, HR, HN, Nat.le_refl _⟩
  case round =>
  clear HR HN
  obtain ⟨m, rfl, rfl, rfl, HR, HM, hgk⟩ := hrel
  have hR := HR.out
  obtain ⟨hm0, hm1⟩ := HM.out
  by_cases hz : gk = 0
  · subst hz
    have d0 : decide ((0 : Int) < ((0 : Nat) : Int)) = false := by simp
    rw [dblS] at hR
    subst hR
    go_wp2_with fail
    go_ret2
    exact ⟨rfl, rfl⟩
  · obtain ⟨t, rfl⟩ : ∃ t, gk = t + 1 := ⟨gk - 1, by omega⟩
    have d0 : decide ((0 : Int) < ((t + 1 : Nat) : Int)) = true := decide_eq_true (by omega)
    have hw : IntKind.i64.wrap (m * 2) = m * 2 := IntWalk.i64_in _ ⟨by omega, by omega⟩
    rw [dblS] at hR
    by_cases q : 1099511627776 < m * 2
    · have dq : decide (1099511627776 < m * 2) = true := decide_eq_true q
      rw [if_pos q] at hR
      subst hR
      go_wp2_with fail
      go_ret2
      exact ⟨rfl, rfl⟩
    · have dq : decide (1099511627776 < m * 2) = false := decide_eq_false q
      rw [if_neg q] at hR
      have HR2 := Lib.hid hR
      clear hR HR
      go_wp2_with fail
      go_roundg t
      case measure => omega
      case rel => exact ⟨m * 2, by go_num, by go_num, rfl, HR2, Lib.hid ⟨by omega, by omega⟩, by omega⟩
def sizeM (x : Int) : Int := if x < -20000 ∨ 20000 < x then 0 else varM x
set_option maxRecDepth 100000 in
set_option maxHeartbeats 4000000 in
theorem size_any (x : Int) (w : World) (hx : I64 x) : Calls Tryz.prog 58 #[.int .i64 x] w (fun e w' => e = .returned (.int .i64 (sizeM x)) ∧ w' = w) := by
  unfold sizeM
  by_cases q1 : x < -20000
  · have d1 : decide (x < -20000) = true := decide_eq_true q1
    rw [if_pos (.inl q1)]
    go_enter Tryz.func58, Tryz.ntmps58
    go_wp2_with fail
    go_ret
    exact ⟨rfl, rfl⟩
  have d1 : decide (x < -20000) = false := decide_eq_false q1
  by_cases q2 : 20000 < x
  · have d2 : decide (20000 < x) = true := decide_eq_true q2
    rw [if_pos (.inr q2)]
    go_enter Tryz.func58, Tryz.ntmps58
    go_wp2_with fail
    go_ret
    exact ⟨rfl, rfl⟩
  have d2 : decide (20000 < x) = false := decide_eq_false q2
  rw [if_neg (by rintro (h | h); exact q1 h; exact q2 h)]
  have hw : IntKind.i64.wrap (-x) = -x := IntWalk.i64_in _ ⟨by omega, by omega⟩
  have hm : max x (-x) = varM x := by unfold varM; split <;> omega
  go_enter Tryz.func58, Tryz.ntmps58
  go_wp2_with fail
  go_ret
  exact ⟨rfl, rfl⟩
/-- without: an owned list -/
def withoutM (xs : List Int) (x : Int) : List Int := xs.filter fun y => decide (y ≠ x)
set_option maxRecDepth 100000 in
set_option maxHeartbeats 4000000 in
theorem without_any (F : Nat → Prop) (v : Value) (xs : List Int) (x : Int) (w : World) (hx : Ints F w v xs) (hi : I64 x) (hl : xs.length ≤ 1000000) :
    Calls Tryz.prog 60 #[v, .int .i64 x] w (KeptPost w (withoutM xs x)) := by
  obtain ⟨a, n, c, rfl, HN, hn⟩ := hx.form'
  have HI1 := Lib.hid (show (Tryz.prog.info? 3).map (fun i => (i.zero, i.size, i.bytes)) = some (some (.int .i64 0), 1, 8) by kernel_rfl)
  obtain ⟨W1, hW1⟩ : ∃ W, w.alloc (.cells #[] 3) = W := ⟨_, rfl⟩
  have hb1 : Below w.heap.size w W1 := by rw [← hW1]; exact (Below.refl _ _).alloc (Nat.le_refl _) _
  have ho1 : W1.ownsRow w.heap.size 3 1 (.slice (some ⟨w.heap.size, 0, none⟩) 0 0) ([] : List Int).length (([] : List Int).map (.int .i64)) := by rw [← hW1]; simpa using own_new (base := w.heap.size) (w := w) #[] 3 (by omega) (by simp)
  have HB0 := Lib.hid hb1
  have HO0 : Hid (W1.ownsRow w.heap.size 3 1 (.slice (some ⟨w.heap.size, 0, none⟩) 0 0) (withoutM (xs.take 0) x).length ((withoutM (xs.take 0) x).map (.int .i64))) := Lib.hid ho1
  have HX := Lib.hid hx
  have hn2 : n ≤ 1000000 := by rw [HN.out]; exact hl
  clear hx hb1 ho1 hl
  go_enter Tryz.func60, Tryz.ntmps60
  go_wp2_with fail
  try rw [hW1]
  clear hW1
  go_loopg [5, 11] n (fun gg u5 u11 wx => ∃ (k : Nat) (ov : Value), k + gg = n ∧ u11 = .int .i64 k ∧ u5 = ov ∧ Hid (Below w.heap.size w wx) ∧
    Hid (wx.ownsRow w.heap.size 3 1 ov (withoutM (xs.take k) x).length ((withoutM (xs.take k) x).map (.int .i64))))
  case atStart => exact ⟨0, _, by omega, rfl, rfl, HB0, HO0⟩
  case round =>
  clear HB0 HO0
  obtain ⟨k, ov, hkg, rfl, rfl, HB, HO⟩ := hrel
  obtain ⟨pa, pc, hov⟩ := own_form HO.out
  obtain ⟨pn, hpn⟩ : ∃ m, (withoutM (xs.take k) x).length = m := ⟨_, rfl⟩
  have hpk : pn ≤ k := by
    rw [← hpn]
    exact Nat.le_trans (List.length_filter_le _ _) (by rw [List.length_take]; omega)
  rw [hpn] at hov
  subst hov
  have HPN := Lib.hid hpn
  clear hpn
  have hsr := HB.out.size
  by_cases hk : k < n
  case neg =>
    have hd : decide (k < n) = false := decide_eq_false hk
    have hd2 : decide ((k : Int) < n) = false := by simp; omega
    have HF : Hid (KeptPost w (withoutM xs x) (.returned (.slice pa pn pc)) wr) := Lib.hid ⟨_, rfl, HB.out, by
      have := HO.out
      rw [List.take_of_length_le (by rw [← HN.out]; omega)] at this
      exact this⟩
    go_wp2_with fail
    go_ret
    exact HF.out
  have hd : decide (k < n) = true := decide_eq_true hk
  have hd2 : decide ((k : Int) < n) = true := by simp; omega
  obtain ⟨y, hyy, ey⟩ := drop_at (xs := xs) (k := k) (by rw [← HN.out]; exact hk)
  obtain ⟨b, o, rfl, _, hb, hc0, h64⟩ := HX.out.at hyy
  have hc := below_c HB.out hb hc0
  have htk : xs.take (k + 1) = xs.take k ++ [y] := by rw [List.take_add_one, hyy]; rfl
  clear ey hc0
  by_cases q : y = x
  · have hq : (y != x) = false := by simp [q]
    have HT : Hid (withoutM (xs.take (k + 1)) x = withoutM (xs.take k) x) := Lib.hid (by rw [htk]; unfold withoutM; rw [List.filter_append, List.filter_cons, if_neg (by simp [q])]; simp)
    clear htk hyy q
    go_wp2_with fail
    go_roundg (gk - 1)
    case measure => omega
    case rel => exact ⟨k + 1, _, by omega, by go_num, rfl, HB, Lib.hid (by rw [HT.out, HPN.out]; have := HO.out; rw [HPN.out] at this; exact this)⟩
  · have hq : (y != x) = true := by simp; exact q
    have HT : Hid (withoutM (xs.take (k + 1)) x = withoutM (xs.take k) x ++ [y]) := Lib.hid (by rw [htk]; unfold withoutM; rw [List.filter_append, List.filter_cons, if_pos (by simp [q])]; rfl)
    have hown6 := HO.out
    rw [HPN.out] at hown6
    clear htk hyy HO q
    go_wp2_with (at_builtin; go_loud (refine wpList_push1 rfl _ _ 40 rfl 3 (.int .i64 0) 8 Tryz.underlying40 HI1.out rfl w.heap.size (.slice pa pn pc) pn ((withoutM (xs.take k) x).map (.int .i64)) wr (.int .i64 y) rfl rfl hown6 rfl (by omega) (by omega) (by omega) ?_); intro g7 cap7 w7 hown7 hg7 hs7 hgb hgl hat; have HB7 := Lib.hid (HB.out.grown hg7 (by omega) (fun k hk => (hown6.lt k hk).1)); have HO7 := Lib.hid hown7; clear hown7 hg7 hat hgb hgl hs7 hown6)
    go_roundg (gk - 1)
    case measure => omega
    case rel => exact ⟨k + 1, _, by omega, by go_num, rfl, HB7, Lib.hid (by rw [HT.out, List.length_append, HPN.out, List.map_append]; exact HO7.out)⟩

/- (Trace seat Z) Walk: lifted of the statement's definitions. No condition but the sizes and the ranges. -/
open Go.ChangeShapes Go.WideShapes Go.ChangeAt Go.RowKit
set_option linter.unusedVariables false

def lostS (keep : Int) (vs : List Int) (cs : List (List Int)) : Nat := (vs.filter fun v => !(keptM keep (occM cs)).contains v).length
def liftS (keep : Int) (vs : List Int) (c : Claim) : Int × Bool := dblS (lostS keep vs c.cls) c.count
def PairB (W : World) (r : Int × Bool) (e : Ending) (w' : World) : Prop := e = .returned (.tuple #[.int .i64 r.1, .bool r.2]) ∧ Below W.heap.size W w'
set_option maxRecDepth 100000 in
set_option maxHeartbeats 8000000 in
theorem lifted_any (F : Nat → Prop) (keep : Int) (v : Value) (vs : List Int) (r0 r1 r2 r3 r4 : Value) (c : Claim) (w : World) (hx : Ints F w v vs) (hc : ClaimV (fun _ => True) w (r0, r1, r2, r3, r4) c) (hik : I64 keep) (hl : vs.length ≤ 100000) (hz : SzC c) (hn : 0 ≤ c.count ∧ c.count ≤ 1099511627776) :
    Calls Tryz.prog 21 #[v, .int .i64 keep, .agg #[r0, r1, r2, r3, r4]] w (PairB w (liftS keep vs c)) := by
  obtain ⟨a, n, cp, rfl, HN, hn0⟩ := hx.form'
  obtain ⟨⟨hcl, h1, h2, hki, h4⟩, _⟩ := id hc
  have h1 : r1 = _ := h1
  have h2 : r2 = _ := h2
  have h4 : r4 = _ := h4
  subst h1 h2 h4
  have hcl : Clss (fun _ => True) w r0 c.cls := hcl
  have hki : Ints (fun _ => True) w r3 c.kids := hki
  obtain ⟨xa, xn, xc, rfl, _, _⟩ := hcl.form'
  obtain ⟨ka, kn, kc, rfl, _, _⟩ := hki.form'
  obtain ⟨W1, hW1⟩ : ∃ W, w.alloc (.cells #[.slice xa xn xc, .int .i64 c.rule, .int .i64 c.lit, .slice ka kn kc, .int .i64 c.count] 42) = W := ⟨_, rfl⟩
  obtain ⟨bx, hbx⟩ : ∃ b, w.heap.size = b := ⟨_, rfl⟩
  have hb1 : Below w.heap.size w W1 := by rw [← hW1]; exact (Below.refl _ _).alloc (Nat.le_refl _) _
  have hrow : W1.heap[bx]? = some (.cells #[.slice xa xn xc, .int .i64 c.rule, .int .i64 c.lit, .slice ka kn kc, .int .i64 c.count] 42) := by rw [← hW1]; exact new_at' _ _ hbx.symm
  have b0 : W1.cell? ⟨bx, 0, none⟩ = some (.slice xa xn xc) := by rw [cell_of_row _ _ _ _ _ _ hrow]; rfl
  have b4 : W1.cell? ⟨bx, 4, none⟩ = some (.int .i64 c.count) := by rw [cell_of_row _ _ _ _ _ _ hrow]; rfl
  have hs1 : W1.heap.size = bx + 1 := by rw [← hW1]; simp; omega
  have HB1 := Lib.hid hb1
  have HX := Lib.hid (hx.below hb1)
  have HCL := Lib.hid (Clss.below hcl hb1)
  have HIK := Lib.hid hik
  have HZ := Lib.hid hz
  have HCN := Lib.hid hn
  have hn2 : n ≤ 100000 := by rw [HN.out]; exact hl
  have HB0 : Hid (Below W1.heap.size W1 W1) := Lib.hid (Below.refl _ _)
  have HL0 : Hid ((((0 : Nat) : Int)) = ((vs.take 0).filter fun v => !(keptM keep (occM c.cls)).contains v).length) := Lib.hid rfl
  clear hx hc hcl hki hb1 hrow hik hz hn hl
  go_enter Tryz.func21, Tryz.ntmps21
  go_wp2_with fail
  try rw [hW1]
  clear hW1 hbx
  go_loopg [8, 13] n (fun gg u8 u13 wx => ∃ (k m : Nat), k + gg = n ∧ u13 = .int .i64 k ∧ u8 = .int .i64 m ∧ m ≤ k ∧ Hid (Below W1.heap.size W1 wx) ∧ Hid ((m : Int) = ((vs.take k).filter fun v => !(keptM keep (occM c.cls)).contains v).length))
  case atStart => exact ⟨0, 0, by omega, rfl, rfl, Nat.le_refl _, HB0, HL0⟩
  case round =>
  clear HB0 HL0
  obtain ⟨k, m, hkg, rfl, rfl, hmk, HB, HL⟩ := hrel
  have hsr := HB.out.size
  have y0 := below_c HB.out (by omega) b0
  have y4 := below_c HB.out (by omega) b4
  have HBW : Hid (Below w.heap.size w wr) := Lib.hid (HB1.out.trans (HB.out.mono HB1.out.size))
  by_cases hk : k < n
  case neg =>
    have hd : decide (k < n) = false := decide_eq_false hk
    have hd2 : decide ((k : Int) < n) = false := by simp; omega
    have hm : m = lostS keep vs c.cls := by
      have := HL.out
      rw [List.take_of_length_le (by rw [← HN.out]; omega)] at this
      unfold lostS
      omega
    have HD := Lib.hid (ldoubled_any c.count m wr HCN.out (by omega))
    have HE : Hid (dblS m c.count = liftS keep vs c) := Lib.hid (by rw [hm]; rfl)
    rw [HE.out] at HD
    clear hm
    go_wp2_with fail
    refine HD.out.mono ?_
    rintro e w9 ⟨rfl, rfl⟩
    go_wp2_with fail
    go_ret2
    exact ⟨rfl, HBW.out⟩
  have hd : decide (k < n) = true := decide_eq_true hk
  have hd2 : decide ((k : Int) < n) = true := by simp; omega
  obtain ⟨x, hxx, ex⟩ := drop_at (xs := vs) (k := k) (by rw [← HN.out]; exact hk)
  obtain ⟨b, o, rfl, _, hb, hc0, h64⟩ := HX.out.at hxx
  have hcx := below_c HB.out hb hc0
  have htk : vs.take (k + 1) = vs.take k ++ [x] := by rw [List.take_add_one, hxx]; rfl
  have HKE := Lib.hid (lkept_any _ keep _ c.cls wr (Clss.below HCL.out HB.out) HIK.out HZ.out.1 HZ.out.2.1)
  have H64 := Lib.hid h64
  clear ex hc0 hxx h64
  go_wp2_with fail
  refine HKE.out.mono ?_
  rintro e w8 ⟨v8, rfl, hb8, ho8⟩
  obtain ⟨pa, pc, rfl⟩ := own_form ho8
  have HB8 := Lib.hid (HB.out.trans (hb8.mono hsr))
  have hks : (keptM keep (occM c.cls)).length ≤ 20000 := Nat.le_trans (List.length_filter_le _ _) (occ_len_le (cs := []) (occM_strict _) fun x hx => occM_range hx)
  have HCT := Lib.hid (contains_any _ _ (keptM keep (occM c.cls)) x w8 ⟨(ownsRow_sl1 ho8 (by omega)).mono (G := fun _ => True) fun _ _ => trivial, fun y hy => by have := occM_range (List.mem_filter.1 hy).1; unfold I64; omega⟩ H64.out)
  clear hb8 ho8 hks HKE
  obtain ⟨B, hB⟩ : ∃ B, (keptM keep (occM c.cls)).contains x = B := ⟨_, rfl⟩
  rw [hB] at HCT
  have HT : Hid ((((m + if B = true then 0 else 1 : Nat)) : Int) = ((vs.take (k + 1)).filter fun v => !(keptM keep (occM c.cls)).contains v).length) := Lib.hid (by
    have hfl : ([x].filter fun v => !(keptM keep (occM c.cls)).contains v).length = if B = true then 0 else 1 := by
      rw [List.filter_cons, hB]
      rcases B with _ | _ <;> rfl
    rw [htk, List.filter_append, List.length_append, hfl]
    have := HL.out
    rcases B with _ | _
    · simp only [Bool.false_eq_true, if_false]; omega
    · simp only [if_true]; omega)
  clear hB htk
  go_wp2_with fail
  refine HCT.out.mono ?_
  rintro e w9 ⟨rfl, rfl⟩
  rcases bool2 B with rfl | rfl
  · go_wp2_with fail
    go_roundg (gk - 1)
    case measure => omega
    case rel => exact ⟨k + 1, m, by omega, by go_num, rfl, by omega, HB8, HT⟩
  · go_wp2_with fail
    go_roundg (gk - 1)
    case measure => omega
    case rel => exact ⟨k + 1, m + 1, by omega, by go_num, by go_num, by omega, HB8, HT⟩
end Go.Proofs.YtihkknploioakaaGreat
