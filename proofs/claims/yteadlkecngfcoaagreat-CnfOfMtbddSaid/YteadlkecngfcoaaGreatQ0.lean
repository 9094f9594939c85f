/- Walk: the statement's follow. No condition but the sizes, and that references lead back. -/
import Derived.Test.YteadlkecngfcoaaGreatQa
namespace Go.Proofs.YteadlkecngfcoaaGreat
open Go.ChangeShapes Go.WideShapes Go.ChangeAt Go.RowKit
set_option linter.unusedVariables false

/-! ### follow -/
def folV (ns : List Fork) (base : Int) (h : Int → Bool) : Nat → Int → Int
  | 0, r => r
  | k + 1, r => if r < base then r else match ns[(r - base).toNat]? with
    | none => r
    | some f => folV ns base h k (if h f.1 = true then f.2.2 else f.2.1)
def BackB (base : Int) (ns : List Fork) : Prop := ∀ (j : Nat) (f : Fork), ns[j]? = some f → (0 ≤ f.2.1 ∧ f.2.1 < base + j) ∧ (0 ≤ f.2.2 ∧ f.2.2 < base + j)
theorem fol_end {ns : List Fork} {base : Int} (hb : BackB base ns) (h : Int → Bool) : ∀ (k : Nat) (r : Int), 0 ≤ r → r < base + ns.length → r < k → 0 ≤ folV ns base h k r ∧ folV ns base h k r < base
  | 0, r, h0, h1, h2 => by omega
  | k + 1, r, h0, h1, h2 => by
    rw [folV]
    by_cases hr : r < base
    · rw [if_pos hr]; omega
    · rw [if_neg hr]
      by_cases hj : (r - base).toNat < ns.length
      · obtain ⟨f, hf⟩ : ∃ f, ns[(r - base).toNat]? = some f := ⟨_, List.getElem?_eq_getElem hj⟩
        rw [hf]
        have := hb _ f hf
        refine fol_end hb h k _ ?_ ?_ ?_ <;> split <;> omega
      · omega
theorem fol_fuel {ns : List Fork} {base : Int} (hb : BackB base ns) (h : Int → Bool) : ∀ (k m : Nat) (r : Int), 0 ≤ r → r < k → r < m → folV ns base h k r = folV ns base h m r
  | 0, m, r, h0, h1, h2 => by omega
  | k + 1, 0, r, h0, h1, h2 => by omega
  | k + 1, m + 1, r, h0, h1, h2 => by
    rw [folV, folV]
    by_cases hr : r < base
    · rw [if_pos hr, if_pos hr]
    · rw [if_neg hr, if_neg hr]
      rcases hf : ns[(r - base).toNat]? with _ | f
      · rfl
      · have := hb _ f hf
        refine fol_fuel hb h k m _ ?_ ?_ ?_ <;> split <;> omega
theorem fol_congr {ns : List Fork} {base : Int} {h g : Int → Bool} (hg : ∀ f ∈ ns, h f.1 = g f.1) : ∀ (k : Nat) (r : Int), folV ns base h k r = folV ns base g k r
  | 0, r => rfl
  | k + 1, r => by
    rw [folV, folV]
    by_cases hr : r < base
    · rw [if_pos hr, if_pos hr]
    · rw [if_neg hr, if_neg hr]
      rcases hf : ns[(r - base).toNat]? with _ | f
      · rfl
      · simp only
        rw [hg f (List.mem_of_getElem? hf), fol_congr hg k]
set_option maxRecDepth 100000 in
set_option maxHeartbeats 4000000 in
theorem follow_any (F G : Nat → Prop) (nv iv : Value) (ns : List Fork) (inp : List Bool) (base r : Int) (K : Nat) (w : World) (hx : Forks F w nv ns) (hy : Bools G w iv inp) (hb : BackB base ns)
    (hr : 0 ≤ r ∧ r < base + ns.length) (hbs : 0 ≤ base ∧ base ≤ 100000) (hl : ns.length ≤ 100000) (hv : ∀ f ∈ ns, 0 ≤ f.1 ∧ f.1 < inp.length) (hK : r < K) :
    Calls Tryz.prog 9 #[nv, .int .i64 r, .int .i64 base, iv] w fun e w' => e = .returned (.int .i64 (folV ns base (fun v => inp.getD v.toNat false) K r)) ∧ Below w.heap.size w w' := by
  obtain ⟨a, n, c, rfl, HN, hn⟩ := hx.form
  obtain ⟨ia, ic, rfl, hi⟩ := hy.form
  obtain ⟨R, hR⟩ : ∃ R, folV ns base (fun v => inp.getD v.toNat false) K r = R := ⟨_, rfl⟩
  rw [hR]
  have HR := Lib.hid hR.symm
  have HX := Lib.hid hx
  have HY := Lib.hid hy
  have HBK := Lib.hid hb
  have HV := Lib.hid hv
  have HR0 := Lib.hid hr
  have HL := Lib.hid hl
  have HKK := Lib.hid hK
  obtain ⟨m, hm⟩ : ∃ m, inp.length = m := ⟨_, rfl⟩
  have HM := Lib.hid hm
  rw [hm] at hi ⊢
  clear hR hx hy hb hr hl hv hK hm
  go_enter Tryz.func9, Tryz.ntmps9
  go_wp2
  go_loopg [1] K (fun g u1 wx => ∃ q : Int, u1 = .int .i64 q ∧ (0 ≤ q ∧ q < base + ns.length ∧ q < g) ∧ Hid (Below w.heap.size w wx) ∧ Hid (R = folV ns base (fun v => inp.getD v.toNat false) g q))
  case atStart => exact ⟨r, rfl, ⟨HR0.out.1, HR0.out.2, HKK.out⟩, Lib.hid (Below.refl _ _), HR⟩
  case round =>
  clear HR HR0 HKK
  obtain ⟨q, rfl, hq, HB, HR⟩ := hrel
  rcases gk with _ | g
  · omega
  by_cases hqb : base ≤ q
  case neg =>
    have hd : decide (base ≤ q) = false := decide_eq_false hqb
    have HF : Hid (R = q) := Lib.hid (by rw [HR.out, folV, if_pos (by omega)])
    clear HR hq hqb
    go_wp2
    go_ret
    exact ⟨by rw [HF.out]; rfl, HB.out⟩
  have hd : decide (base ≤ q) = true := decide_eq_true hqb
  obtain ⟨j, hj⟩ : ∃ j : Nat, (q - base).toNat = j := ⟨_, rfl⟩
  have hll := HL.out
  have hwq : IntKind.i64.wrap (q - base) = (j : Int) := by rw [IntWalk.i64_in _ ⟨by omega, by omega⟩]; omega
  have hjn : j < ns.length := by omega
  obtain ⟨f, hf⟩ : ∃ f, ns[j]? = some f := ⟨_, List.getElem?_eq_getElem hjn⟩
  have hxs := HX.out.below HB.out
  have hys := HY.out.below HB.out
  obtain ⟨fb, fo, rfl, hFb, hfb, c0, c1, c2, hfo⟩ := hxs.at hf
  have hbk := HBK.out j f hf
  have hvf := HV.out f (List.mem_of_getElem? hf)
  obtain ⟨fv, flo, fhi⟩ := f
  simp only at c0 c1 c2 hbk hvf
  obtain ⟨v, hve⟩ : ∃ v : Nat, fv = v := ⟨fv.toNat, by omega⟩
  subst hve
  have hvm : v < m := by have := HM.out; omega
  obtain ⟨b, hbv⟩ : ∃ b, inp[v]? = some b := ⟨_, List.getElem?_eq_getElem (by have := HM.out; omega)⟩
  obtain ⟨ib, io, rfl, hIb, hib, d0⟩ := hys.at hbv
  have HF : Hid (R = folV ns base (fun v => inp.getD v.toNat false) g (if b = true then fhi else flo)) := Lib.hid (by
    rw [HR.out, folV, if_neg (by omega), hj, hf]
    simp only [Int.toNat_natCast, List.getD_eq_getElem?_getD, hbv, Option.getD_some])
  have hjm : j < n := by have := HN.out; omega
  have hj1 : (j : Int) < n := by omega
  have hj0 : (0 : Int) ≤ j := by omega
  have hv1 : (v : Int) < m := by omega
  have hv0 : (0 : Int) ≤ v := by omega
  have hqr : q < (g : Int) + 1 := by have := hq.2.2; omega
  have hqj : q = base + j := by omega
  have hbk' : (0 ≤ flo ∧ flo < base + j) ∧ (0 ≤ fhi ∧ fhi < base + j) := hbk
  have HBK2 := Lib.hid hbk'
  have hba := HB.out.alloc HB.out.size (.cells #[.int .i64 (v : Int), .int .i64 flo, .int .i64 fhi] 49)
  have HBA := Lib.hid hba
  have d1 := below_c ((Below.refl _ wr).alloc (Nat.le_refl _) (.cells #[.int .i64 (v : Int), .int .i64 flo, .int .i64 fhi] 49)) hib d0
  have HQ := Lib.hid (And.intro hqr hqj)
  have HJ := Lib.hid hjn
  clear HR hq hqb hf hxs hys hbk hbk' hvf hbv hfo hba hj hqr hqj hjn hll
  rcases bool2 b with rfl | rfl
  · go_wp2
    go_roundg g
    case measure => omega
    case rel => exact ⟨fhi, rfl, ⟨HBK2.out.2.1, by have := HBK2.out.2.2; have := HJ.out; omega, by have := HQ.out; have := HBK2.out.2.2; omega⟩, HBA, by rw [HF.out]; exact Lib.hid rfl⟩
  · go_wp2
    go_roundg g
    case measure => omega
    case rel => exact ⟨flo, rfl, ⟨HBK2.out.1.1, by have := HBK2.out.1.2; have := HJ.out; omega, by have := HQ.out; have := HBK2.out.1.2; omega⟩, HBA, by rw [HF.out]; exact Lib.hid rfl⟩
end Go.Proofs.YteadlkecngfcoaaGreat
