/- (Trace text seat) The listed variables: what a row's condition gives the walks, and that the door's own heap meets it. Condition: the tables and the two errors lie as laid. -/
import Derived.Test.YtljaegmmfjllkaaGreatDoorR3
import Derived.Test.YtljaegmmfjllkaaGreatDoorR6
import Derived.Test.YtljaegmmfjllkaaGreatDoorRows
import Derived.Lib.LaidTab
import Derived.LaidMore
import Derived.LaidSub
import Derived.Stop.LaidErr
import Derived.Stop.Joined
namespace Go.Proofs.YtljaegmmfjllkaaGreatDoor
open Go.ChangeShapes Go.WideShapes Go.ChangeAt Go.RowKit
set_option linter.unusedVariables false

def laid5 : List (String × DataW Unit) := [("math/bits.deBruijn32tab", Rows.laid_math_bits_deBruijn32tab), ("math/bits.deBruijn64tab", Rows.laid_math_bits_deBruijn64tab), ("internal/strconv.uint64pow10", Rows.laid_internal_strconv_uint64pow10), ("strconv.ErrRange", Rows.laid_strconv_ErrRange), ("strconv.ErrSyntax", Rows.laid_strconv_ErrSyntax)]
theorem gPow : Tryz.prog.globalNamed "internal/strconv.uint64pow10" = some 0 := by kernel_rfl
theorem tPow : (Tryz.prog.globals[0]?).map (·.type) = some 145 := by kernel_rfl
theorem gES : Tryz.prog.globalNamed "strconv.ErrSyntax" = some 2 := by kernel_rfl
theorem tES : (Tryz.prog.globals[2]?).map (·.type) = some 55 := by kernel_rfl
theorem gER : Tryz.prog.globalNamed "strconv.ErrRange" = some 3 := by kernel_rfl
theorem tER : (Tryz.prog.globals[3]?).map (·.type) = some 55 := by kernel_rfl
theorem cellsE : Tryz.prog.cellsOf 165 = 1 := by kernel_rfl
theorem cellsStr : Tryz.prog.cellsOf 9 = 1 := by kernel_rfl
theorem starE : "*" ++ "errors.errorString" = "*errors.errorString" := by decide
theorem rowE (u : TypeId) (h : Tryz.prog.typeName? 3 u = some "*errors.errorString") : u = 163 :=
  typeName_ptr_named (nm := "errors.errorString") (by rw [starE]; kernel_rfl) (by kernel_rfl) (by decide) u (by rw [starE]; exact h)
/-- what the condition gives the walks: the table of powers -/
theorem tab_of5 {W : World} (h : laidMetH Tryz.prog laid5 W) : TabT W.heap.size W := by
  have h1 := laidMetH.filter (fun x => x.1 == "internal/strconv.uint64pow10") h
  have e : laid5.filter (fun x => x.1 == "internal/strconv.uint64pow10") = [("internal/strconv.uint64pow10", Lib.tabData .u64 Lib.pow10Tab)] := by rfl
  rw [e] at h1
  rw [MakeChecks.laidMetH_plain _ _ _ (by kernel_rfl)] at h1
  exact Lib.tabBelow_of_tabIs (Lib.tabIs_of_head gPow tPow Tryz.underlying145 Tryz.underlying84 (by kernel_rfl) (by kernel_rfl) h1)
theorem syn_of5 {W : World} (h : laidMetH Tryz.prog laid5 W) : ∃ tp p, ∀ w', Below W.heap.size W w' → w'.var? Tryz.prog "strconv.ErrSyntax" = some #[.iface tp p] := by
  have h1 := laidMetH.filter (fun x => x.1 == "strconv.ErrSyntax") h
  have e : laid5.filter (fun x => x.1 == "strconv.ErrSyntax") = [("strconv.ErrSyntax", .iface "*errors.errorString" (.ptr (.agg [.lit (.string [105, 110, 118, 97, 108, 105, 100, 32, 115, 121, 110, 116, 97, 120])])))] := by rfl
  rw [e] at h1
  rw [MakeChecks.laidMetH_plain _ _ _ (by kernel_rfl)] at h1
  obtain ⟨a0, s0, hv0, -, -, -⟩ := laid_sentinel h1 gES tES Tryz.underlying55 rowE Tryz.underlying163 Tryz.underlying165 rfl rfl Tryz.underlying9 cellsE cellsStr
  refine ⟨163, .pointer (some a0), fun w' hb => ?_⟩
  rw [← hv0]
  unfold World.var? at hv0 ⊢
  simp only [gES, Option.bind_some] at hv0 ⊢
  have hlt : 2 < W.heap.size := by
    rcases Nat.lt_or_ge 2 W.heap.size with h' | h'
    · exact h'
    · rw [Array.getElem?_eq_none h'] at hv0; simp at hv0
  rw [hb.block 2 hlt]
theorem rng_of5 {W : World} (h : laidMetH Tryz.prog laid5 W) : ∃ tp p, ∀ w', Below W.heap.size W w' → w'.var? Tryz.prog "strconv.ErrRange" = some #[.iface tp p] := by
  have h1 := laidMetH.filter (fun x => x.1 == "strconv.ErrRange") h
  have e : laid5.filter (fun x => x.1 == "strconv.ErrRange") = [("strconv.ErrRange", .iface "*errors.errorString" (.ptr (.agg [.lit (.string [118, 97, 108, 117, 101, 32, 111, 117, 116, 32, 111, 102, 32, 114, 97, 110, 103, 101])])))] := by rfl
  rw [e] at h1
  rw [MakeChecks.laidMetH_plain _ _ _ (by kernel_rfl)] at h1
  obtain ⟨a0, s0, hv0, -, -, -⟩ := laid_sentinel h1 gER tER Tryz.underlying55 rowE Tryz.underlying163 Tryz.underlying165 rfl rfl Tryz.underlying9 cellsE cellsStr
  refine ⟨163, .pointer (some a0), fun w' hb => ?_⟩
  rw [← hv0]
  unfold World.var? at hv0 ⊢
  simp only [gER, Option.bind_some] at hv0 ⊢
  have hlt : 3 < W.heap.size := by
    rcases Nat.lt_or_ge 3 W.heap.size with h' | h'
    · exact h'
    · rw [Array.getElem?_eq_none h'] at hv0; simp at hv0
  rw [hb.block 3 hlt]
theorem err_of5 {W : World} (h : laidMetH Tryz.prog laid5 W) : ErrT W.heap.size W := ⟨syn_of5 h, rng_of5 h⟩
/-- the door's own heap meets the condition -/
theorem door_met5 (os : Os) (args : Array Value) : laidMetH Tryz.prog laid5 ((World.doorLaid Tryz.prog 400 os).forCall (fun _ _ => 0) ⟨#[], args, []⟩).memory := by
  rw [MakeChecks.laidMetH_plain _ _ _ (by kernel_rfl)]
  exact laidMet_of_run' 8 (by kernel_rfl) (by kernel_rfl)
end Go.Proofs.YtljaegmmfjllkaaGreatDoor
