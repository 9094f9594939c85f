/- (Trace text seat) Walks: strings.IndexRune at a rune that is not ASCII, strings.IndexAny at any text, for the signs blank and end of line. No condition. -/
import Derived.Test.YtljaegmmfjllkaaGreatDoorTq
import Derived.Test.YtljaegmmfjllkaaGreatDoorBase
import Derived.Shelf.Strings.IndexAnyAll
import Derived.Shelf.Small.Utf8
import Derived.Laws.RangeAny
import Derived.Laws.Runes
import Derived.Deep.LoopGhost
import Derived.Deep.DeepCutAuto
import Derived.WalkMore
import Derived.Lib.OthersKept
import Derived.Deep.QuietTactic
import Derived.BigQuiet
import Derived.Lib.Hide
namespace Go.Proofs.YtljaegmmfjllkaaGreatDoor
open Go.ChangeShapes Go.WideShapes Go.ChangeAt Go.RowKit Go.Lib
set_option linter.unusedVariables false
set_option linter.unusedSimpArgs false

abbrev wSgn : ByteArray := ⟨#[32, 10]⟩
theorem below_drewNR {B : Nat} {w w' : World} (h : Below B w w') (n : Nat) : Below B w (w'.drewN n) := ⟨h.os, h.tape, h.output, h.size, h.block⟩
theorem quiet_add_sameR {P : Program} {f : FuncId} {args : Array Value} {w : World} {a n : Nat} {v : Value}
    (h : Calls P f args (w.drewN (a + n)) fun e w' => e = .returned v ∧ w' = w.drewN (a + n)) :
    Calls P f args (w.drewN (a + n)) fun e w'' => e = .returned v ∧ ∃ m, w'' = w.drewN (a + m) :=
  h.mono fun _ _ ⟨he, hm⟩ => ⟨he, n, hm⟩
def IrPost (W : World) (e : Ending) (w' : World) : Prop := e = .returned (.int .i64 (-1)) ∧ Below W.heap.size W w'
theorem iter_below (w : World) (s : ByteArray) (p : Nat) : Below w.heap.size w (w.iter s p) := (Below.refl _ _).alloc (Nat.le_refl _) _
set_option maxRecDepth 100000 in
set_option maxHeartbeats 4000000 in
theorem idxrune_err (w : World) : Calls Tryz.prog 61 #[.string wSgn, .int .i32 65533] w (IrPost w) := by
  go_enter Tryz.func61, Tryz.ntmps61
  go_wp2_with fail
  go_loopg [5, 6] 2 (fun gg u5 u6 wx => ∃ k : Nat, k + gg = 2 ∧ wx = w.iter wSgn k)
  case atStart => exact ⟨0, by omega, rfl⟩
  case round =>
  obtain ⟨k, hk, rfl⟩ := hrel
  have hsz : wSgn.size = 2 := rfl
  match k, hk with
  | 0, hk =>
    have hnx := fun ty => run_next_ascii (P := Tryz.prog) w wSgn 0 ty (by decide) (by decide)
    go_wp2_with fail
    go_roundg (gk - 1)
    case measure => omega
    case rel => exact ⟨1, by omega, rfl⟩
  | 1, hk =>
    have hnx := fun ty => run_next_ascii (P := Tryz.prog) w wSgn 1 ty (by decide) (by decide)
    go_wp2_with fail
    go_roundg (gk - 1)
    case measure => omega
    case rel => exact ⟨2, by omega, rfl⟩
  | 2, hk =>
    have hnx := fun ty => run_next_end (P := Tryz.prog) w wSgn 2 ty (by decide)
    go_wp2_with fail
    go_ret
    exact ⟨rfl, iter_below _ _ _⟩
  | k + 3, hk => omega
set_option maxRecDepth 100000 in
set_option maxHeartbeats 4000000 in
theorem idxrune_high (c : Int) (w : World) (h0 : 128 ≤ c) (h1 : c ≤ 2147483647) : Calls Tryz.prog 61 #[.string wSgn, .int .i32 c] w (IrPost w) := by
  by_cases he : c = 65533
  · subst he
    exact idxrune_err w
  have hd0 : decide ((0 : Int) ≤ c) = true := decide_eq_true (by omega)
  have hd1 : decide (c < (128 : Int)) = false := decide_eq_false (by omega)
  have hde : (c == (65533 : Int)) = false := beq_eq_false_iff_ne.2 he
  have HV := Lib.hid (fun W => Any.utf8_ValidRune { indexAnyL with } c W)
  have HF := Lib.hid (encode_facts c)
  have HX : Hid (Utf8.valid c = Lib.validRune c) := Lib.hid (by rw [validRune_eq]; rfl)
  clear he
  obtain ⟨vb, hvb⟩ : ∃ b, Lib.validRune c = b := ⟨_, rfl⟩
  rw [hvb] at HV HX
  clear hvb
  go_enter Tryz.func61, Tryz.ntmps61
  go_wp2_with fail
  refine (HV.out _).mono ?_
  rintro e w1 ⟨rfl, rfl⟩
  rcases bool2 vb with rfl | rfl
  · obtain ⟨f1, f2, f3⟩ := HF.out HX.out h0
    obtain ⟨E, hE⟩ : ∃ E, Utf8.encode c = E := ⟨_, rfl⟩
    rw [hE] at f1 f2 f3
    obtain ⟨n, hn⟩ : ∃ n, E.size = n := ⟨_, rfl⟩
    rw [hn] at f1 f2
    obtain ⟨W0, hW0⟩ : ∃ W, W = w1 := ⟨_, rfl⟩
    subst hW0
    by_cases h2 : n = 2
    · subst h2
      have k1 : (1 : Nat) < E.size := by omega
      have k2 : (1 : Int) < E.size := by omega
      obtain ⟨x, hx⟩ : ∃ x : Nat, (E[1]'k1).toNat = x := ⟨_, rfl⟩
      have hx128 : 128 ≤ x := by rw [← hx]; have := f3 (by omega); simpa [hn] using this
      have hne : (((wSgn[1]'(by decide)).toNat : Int) != (x : Int)) = true := by
        have e : (wSgn[1]'(by decide)).toNat = 10 := by decide
        rw [e, bne_iff_ne]
        omega
      have HIB : Hid (∀ W, Calls Tryz.prog 86 #[.string ByteArray.empty, .int .u8 (x : Int)] W fun e w' => e = .returned (.int .i64 (-1)) ∧ w' = W) := Lib.hid (fun W => Any.strings_IndexByte { indexAnyL with } ByteArray.empty (x : Int) W)
      clear hx128 f3 HF HX HV
      go_wp2_with fail
      go_step3
      go_wp2_with fail
      go_loopg [9, 10, 11, 12] 1 (fun gg u9 u10 u11 u12 wx => u9 = .int .i64 1 ∧ wx = W0)
      case atStart => exact ⟨rfl, rfl⟩
      case round =>
      obtain ⟨rfl, rfl⟩ := hrel
      go_wp2_with fail
      go_step3
      go_upto_region 6 with fail
      go_quiet (fail)
      go_upto_region 7 with fail
      go_quiet ((go_at_call 86; exact quiet_add_sameR (HIB.out _)))
      go_wp2_with fail
      go_ret
      exact ⟨rfl, below_drewNR (Below.refl _ _) _⟩
    have g1 : decide (((n : Int) - 1) < 2) = false := decide_eq_false (by omega)
    have g3 : wrap64 ((n : Int) - 1) = (n : Int) - 1 := IntWalk.wrap64_in _ ⟨by omega, by omega⟩
    have g4 : IntKind.i64.wrap ((n : Int) - 1) = (n : Int) - 1 := IntWalk.i64_in _ ⟨by omega, by omega⟩
    clear f3 HF HX HV f1 f2
    go_wp2_with fail
    go_step3
    go_wp2_with fail
    go_loopg [9, 10, 11, 12] 1 (fun gg u9 u10 u11 u12 wx => u9 = .int .i64 ((n : Int) - 1) ∧ wx = W0)
    case atStart => exact ⟨rfl, rfl⟩
    case round =>
    obtain ⟨rfl, rfl⟩ := hrel
    go_wp2_with fail
    go_ret
    exact ⟨rfl, Below.refl _ _⟩
  · go_wp2_with fail
    go_ret
    exact ⟨rfl, Below.refl _ _⟩
theorem idxrune_any (c : Int) (w : World) (h0 : 0 ≤ c) (h1 : c ≤ 2147483647) : Calls Tryz.prog 61 #[.string wSgn, .int .i32 c] w fun e w' => ∃ v : Int, e = .returned (.int .i64 v) ∧ Below w.heap.size w w' := by
  by_cases h : c < 128
  · refine (Any.strings_IndexRune_ascii { indexAnyL with } wSgn c w h0 h).mono ?_
    rintro e w' ⟨rfl, rfl⟩
    exact ⟨_, rfl, Below.refl _ _⟩
  · refine (idxrune_high c w (by omega) h1).mono ?_
    rintro e w' ⟨rfl, hb⟩
    exact ⟨_, rfl, hb⟩
theorem idx_lt (chars : List UInt8) : ∀ l : List UInt8, Lib.indexAny l chars < l.length
  | [] => by rw [Lib.indexAny]; simp
  | b :: l => by
    have ih := idx_lt chars l
    rw [Lib.indexAny, List.length_cons]
    split
    · omega
    · split
      · omega
      · omega
/-- what IndexAny hands back, at any text -/
def IaPost (W : World) (T : ByteArray) (e : Ending) (w' : World) : Prop := ∃ i : Int, e = .returned (.int .i64 i) ∧ -1 ≤ i ∧ i < T.size ∧ Below W.heap.size W w'
theorem setAnyR : (Tryz.prog.info? (indexAnyL_ren.t 116)).map (fun i => (i.zero, i.size)) = some (some (.agg (Array.replicate 256 (.bool false))), 256) := by kernel_rfl
set_option maxRecDepth 100000 in
set_option maxHeartbeats 4000000 in
theorem idxany_short (T : ByteArray) (w : World) (h8 : T.size ≤ 8) : Calls Tryz.prog 42 #[.string T, .string wSgn] w (IaPost w T) := by
  have HSU := Lib.hid (fun n W => Any.strings_shouldUseASCIISet { indexAnyL with } n W)
  have h8z : decide ((8 : Int) < (T.size : Int)) = false := decide_eq_false (by omega)
  obtain ⟨P, hP⟩ : ∃ b, w.heap.size = b := ⟨_, rfl⟩
  have HPP := Lib.hid hP
  have HB0 : Hid (Below w.heap.size w (w.iter T 0)) := Lib.hid (iter_below _ _ _)
  have HI0 : Hid ((w.iter T 0).heap[P]? = some (.stringIter T 0)) := Lib.hid (by rw [← hP]; exact World.iter_heap _ _ _)
  clear hP
  go_enter Tryz.func42, Tryz.ntmps42
  go_wp2_with fail
  refine (HSU.out _ _).mono ?_
  rintro e w1 ⟨rfl, rfl⟩
  rw [h8z]
  go_wp2_with fail
  try rw [HPP.out]
  go_loopg [9, 10] T.size (fun gg u9 u10 wx => ∃ i : Nat, T.size ≤ i + gg ∧ Hid (Below w1.heap.size w1 wx) ∧ Hid (wx.heap[P]? = some (.stringIter T i)))
  case atStart => exact ⟨0, by omega, HB0, HI0⟩
  case round =>
  clear HB0 HI0
  obtain ⟨i, hig, HB, HI⟩ := hrel
  by_cases hi : i < T.size
  · have hnx := fun ty => run_next_any_at (P := Tryz.prog) wr P T i ty HI.out hi
    obtain ⟨c, hc⟩ : ∃ c, (Utf8.decode T i).1 = c := ⟨_, rfl⟩
    obtain ⟨d, hd⟩ : ∃ d, (Utf8.decode T i).2 = d := ⟨_, rfl⟩
    have hcl : c ≤ 2147483647 := by rw [← hc]; exact decode_le T i
    have hd1 : 1 ≤ d := by
      rw [← hd]
      by_cases ha : (T[i]'hi).toNat < 128
      · rw [decode_ascii T i hi ha]
        exact Nat.le_refl _
      · exact (decode_high T i hi (by omega)).2
    rw [hc, hd] at hnx
    obtain ⟨W2, hW2⟩ : ∃ W, wr.iterAt P T (i + d) = W := ⟨_, rfl⟩
    rw [hW2] at hnx
    have HB2 : Hid (Below w1.heap.size w1 W2) := Lib.hid (by rw [← hW2]; exact below_iterAt HB.out (by rw [HPP.out]; exact Nat.le_refl _) _ _)
    have HI2 : Hid (W2.heap[P]? = some (.stringIter T (i + d))) := Lib.hid (by rw [← hW2]; exact iterAt_heap wr P T i _ HI.out)
    have HIR := Lib.hid (idxrune_any (c : Int) W2 (by omega) (by omega))
    have HR : Hid (∀ W', Below W2.heap.size W2 W' → IaPost w1 T (.returned (.int .i64 i)) W') := Lib.hid fun W' hb => ⟨i, rfl, by omega, by omega, HB2.out.trans (hb.mono HB2.out.size)⟩
    have HP2 : Hid (P < W2.heap.size) := Lib.hid (Array.getElem?_eq_some_iff.1 HI2.out).1
    clear hc hd hW2 HB HI
    go_wp2_with fail
    refine HIR.out.mono ?_
    rintro e w3 ⟨v, rfl, hb3⟩
    have HF := Lib.hid (HR.out w3 hb3)
    have HB3 : Hid (Below w1.heap.size w1 w3) := Lib.hid (HB2.out.trans (hb3.mono HB2.out.size))
    have HI3 : Hid (w3.heap[P]? = some (.stringIter T (i + d))) := Lib.hid ((hb3.block P HP2.out).trans HI2.out)
    clear hb3 HIR
    by_cases hv : 0 ≤ v
    · have hv' : decide (0 ≤ v) = true := decide_eq_true hv
      clear hv
      go_wp2_with fail
      go_ret
      exact HF.out
    · have hv' : decide (0 ≤ v) = false := decide_eq_false hv
      clear hv
      go_wp2_with fail
      go_roundg (gk - 1)
      case measure => omega
      case rel => exact ⟨i + d, by omega, HB3, HI3⟩
  · have hnx := fun ty => run_next_end_at (P := Tryz.prog) wr P T i ty HI.out hi
    have HR : Hid (IaPost w1 T (.returned (.int .i64 (-1))) wr) := Lib.hid ⟨-1, rfl, by omega, by omega, HB.out⟩
    clear HB
    go_wp2_with fail
    go_ret
    exact HR.out
theorem idxany_any (T : ByteArray) (w : World) (hT : T.size < 4294967281) : Calls Tryz.prog 42 #[.string T, .string wSgn] w (IaPost w T) := by
  by_cases h8 : T.size ≤ 8
  · exact idxany_short T w h8
  · refine (Any.strings_IndexAny_long indexAnyL (zero_of_info setAnyR).1 (zero_of_info setAnyR).2 T wSgn w (by decide) (by omega) hT (by decide) ?_).mono ?_
    · intro j b hb
      have hm := List.mem_of_getElem? hb
      have hm : b ∈ ([32, 10] : List UInt8) := hm
      rcases List.mem_cons.1 hm with hm | hm
      · subst hm; decide
      · have hm := List.mem_singleton.1 hm
        subst hm; decide
    · rintro e w' ⟨rfl, rfl⟩
      refine ⟨_, rfl, Lib.indexAny_ge _ _, ?_, ((Below.refl _ _).alloc (Nat.le_refl _) _).alloc (by simp) _⟩
      have := idx_lt wSgn.data.toList T.data.toList
      rw [Lib.size_eq]
      exact this
end Go.Proofs.YtljaegmmfjllkaaGreatDoor
