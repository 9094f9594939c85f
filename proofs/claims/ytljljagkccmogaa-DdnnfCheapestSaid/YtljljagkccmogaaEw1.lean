/- Walks: the cost of free variables. -/
import Derived.Test.YtljljagkccmogaaFw1
import Derived.WalkLawsBesides
namespace Go.Proofs.Ytljljagkccmogaa
open Go.ChangeShapes Go.WideShapes Go.ChangeAt Go.RowKit
set_option linter.unusedVariables false

/-- the cost of variables of a mask, each as cheap as it can be -/
def freeGo (no yes : List Int) (mask : Nat) : Nat → Int
  | 0 => 0
  | n + 1 => freeGo no yes mask n + (if mask.testBit n = true then min (no.getD n 0) (yes.getD n 0) else 0)
def CostOk (V : Nat) (l : List Int) : Prop := l.length = V ∧ ∀ x ∈ l, 0 ≤ x ∧ x ≤ 1048576
theorem CostOk.at {V n : Nat} {l : List Int} (h : CostOk V l) : 0 ≤ l.getD n 0 ∧ l.getD n 0 ≤ 1048576 := by
  rcases hx : l[n]? with _ | x
  · simp [List.getD, hx]
  · simp only [List.getD, hx, Option.getD_some]
    exact h.2 x (List.mem_of_getElem? hx)
theorem freeGo_le {V : Nat} {no yes : List Int} (h1 : CostOk V no) (h2 : CostOk V yes) (mask : Nat) : ∀ n : Nat, 0 ≤ freeGo no yes mask n ∧ freeGo no yes mask n ≤ 1048576 * n
  | 0 => by simp [freeGo]
  | n + 1 => by
    have h := freeGo_le h1 h2 mask n
    have a := h1.at (n := n)
    have b := h2.at (n := n)
    rw [freeGo]
    split <;> omega
theorem u64_low (k g : Nat) (hk : k < 18446744073709551616) : (bits .and .u64 ((k : Int) / 2 ^ g) 1 == 1) = k.testBit g := by
  have e : ((k : Int) / 2 ^ g) = ((k / 2 ^ g : Nat) : Int) := by simp
  have hlt : k / 2 ^ g < 18446744073709551616 := Nat.lt_of_le_of_lt (Nat.div_le_self _ _) hk
  have h := u64_and_nat (k / 2 ^ g) 1 hlt (by decide)
  rw [e, show (1 : Int) = ((1 : Nat) : Int) from rfl, h, Nat.testBit_eq_decide_div_mod_eq, Nat.and_one_is_mod]
  rcases Nat.mod_two_eq_zero_or_one (k / 2 ^ g) with h | h <;> simp [h]

set_option maxRecDepth 100000 in
set_option maxHeartbeats 4000000 in
theorem free_any {F G : Nat → Prop} (V mask : Nat) (nv yv : Value) (no yes : List Int) (b B3 B4 B5 : Nat) (w : World) (hn : Ints F w nv no) (hy : Ints G w yv yes) (h1 : CostOk V no) (h2 : CostOk V yes) (hV : V ≤ 40) (hm : mask < 18446744073709551616)
    (c3 : w.cell? ⟨B3, 0, none⟩ = some (.pointer (some ⟨b, 0, none⟩))) (c4 : w.cell? ⟨B4, 0, none⟩ = some nv) (c5 : w.cell? ⟨B5, 0, none⟩ = some yv) (cf : w.cell? ⟨b, 0, none⟩ = some (.int .i64 V)) :
    Calls Try.prog 54 #[.int .u64 mask, .pointer (some ⟨B3, 0, none⟩), .pointer (some ⟨B4, 0, none⟩), .pointer (some ⟨B5, 0, none⟩)] w (QuietPost w (.int .i64 (freeGo no yes mask V))) := by
  obtain ⟨na, nn, nc, rfl, HNN, _⟩ := hn.form'
  obtain ⟨ya, yn, yc, rfl, HYN, _⟩ := hy.form'
  have hnn : nn = V := by rw [HNN.out]; exact h1.1
  have hyn : yn = V := by rw [HYN.out]; exact h2.1
  subst hnn
  obtain rfl : yn = nn := hyn
  have H1 := Lib.hid h1
  have H2 := Lib.hid h2
  clear h1 h2
  go_enter Try.func54, Try.ntmps54
  go_wp2
  go_loopg [6, 13] yn (fun g u6 u13 wx => ∃ k nq : Nat, k + g = yn ∧ u13 = .int .i64 k ∧ u6 = .int .i64 (freeGo no yes mask k) ∧ wx = w.drewN nq)
  case atStart => exact ⟨0, 0, by omega, rfl, rfl, rfl⟩
  case round =>
  obtain ⟨k, nq, hkg, rfl, rfl, rfl⟩ := hrel
  by_cases hk : k < yn
  case neg =>
    have hky : k = yn := by omega
    subst hky
    go_wp2
    go_ret
    exact ⟨rfl, nq, rfl⟩
  obtain ⟨x, hx⟩ : ∃ x, no[k]? = some x := ⟨_, List.getElem?_eq_getElem (by have := HNN.out; omega)⟩
  obtain ⟨y, hy'⟩ : ∃ x, yes[k]? = some x := ⟨_, List.getElem?_eq_getElem (by have := HYN.out; omega)⟩
  obtain ⟨xb, xo, rfl, _, _, hxc, _⟩ := hn.at hx
  obtain ⟨yb, yo, rfl, _, _, hyc, _⟩ := hy.at hy'
  have hx2 := H1.out.2 x (List.mem_of_getElem? hx)
  have hy2 := H2.out.2 y (List.mem_of_getElem? hy')
  have hfr := freeGo_le H1.out H2.out mask k
  have HST : Hid (freeGo no yes mask (k + 1) = freeGo no yes mask k + (if mask.testBit k = true then min x y else 0)) := Lib.hid (by rw [freeGo]; simp [List.getD, hx, hy'])
  obtain ⟨T, hT⟩ : ∃ T, mask.testBit k = T := ⟨_, rfl⟩
  have HT : Hid ((bits .and .u64 ((mask : Int) / 2 ^ k) 1 == 1) = T) := Lib.hid (by rw [u64_low mask k hm, hT])
  rw [hT] at HST
  generalize freeGo no yes mask k = fr at *
  have hk0 : (0 : Int) ≤ k := by omega
  have hk1 : (k : Int) < yn := by omega
  clear hx hy' hT
  go_upto_if 20 with fail
  rw [HT.out]
  rcases bool2 T with rfl | rfl
  · have HS2 : Hid (freeGo no yes mask (k + 1) = fr + min x y) := Lib.hid (by rw [HST.out, if_pos rfl])
    clear HST HT
    go_upto_region 6 with fail
    go_quiet (fail)
    go_wp2
    all_goals
      go_roundg (gk - 1)
      case measure => omega
      case rel => exact ⟨k + 1, _, by omega, by go_num, by rw [HS2.out]; first | rw [show min x y = x by omega] | rw [show min x y = y by omega], rfl⟩
  · have HS2 : Hid (freeGo no yes mask (k + 1) = fr) := Lib.hid (by rw [HST.out, if_neg (by simp), Int.add_zero])
    clear HST HT
    go_wp2
    go_roundg (gk - 1)
    case measure => omega
    case rel => exact ⟨k + 1, nq, by omega, by go_num, by rw [HS2.out], rfl⟩
end Go.Proofs.Ytljljagkccmogaa
