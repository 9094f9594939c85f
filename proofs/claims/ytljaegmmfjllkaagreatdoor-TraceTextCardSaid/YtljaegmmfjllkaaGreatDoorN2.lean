/- (Trace text seat) The reader in memory; walk of number, of the reader of the package trace, where a printed number stands. -/
import Derived.Test.YtljaegmmfjllkaaGreatDoorNv
import Derived.Test.YtljaegmmfjllkaaGreatDoorKa
import Derived.Test.YtljaegmmfjllkaaGreatDoorTk
import Derived.Test.YtljaegmmfjllkaaGreatDoorTq
import Derived.Shelf.Strconv.AtoiAll
import Derived.Shelf.Strings.IndexAnyAll
import Derived.Deep.QuietTactic
import Derived.BigQuiet
namespace Go.Proofs.YtljaegmmfjllkaaGreatDoor
open Go.ChangeShapes Go.WideShapes Go.ChangeAt Go.RowKit Go.Lib
set_option linter.unusedVariables false
set_option linter.unusedSimpArgs false

def BA (t : Bts) : ByteArray := ⟨t.toArray⟩
@[simp] theorem ba_list (t : Bts) : (BA t).data.toList = t := by simp [BA]
theorem ba_size (t : Bts) : (BA t).size = t.length := by simp [BA, ByteArray.size]
theorem ba_cut (l m : Bts) : (BA (l ++ m)).extract 0 l.length = BA l := by
  apply ByteArray.ext
  simp [BA, ByteArray.data_extract]
theorem ba_rest (l m : Bts) (s : UInt8) : (BA (l ++ s :: m)).extract (l.length + 1) (BA (l ++ s :: m)).size = BA m := by
  apply ByteArray.ext
  rw [ba_size]
  simp [BA, ByteArray.data_extract]
  exact List.take_of_length_le (by omega)
/-- a reader in block R: what is left of its text; no fault met -/
structure RdT (w : World) (R : Nat) (T : ByteArray) : Prop where
  c0 : w.cell? ⟨R, 0, none⟩ = some (.string T)
  c1 : w.cell? ⟨R, 1, none⟩ = some (.bool false)
  fz : ∀ o, w.frozen? ⟨R, o, none⟩ = false
theorem RdT.same {w w' : World} {R : Nat} {T : ByteArray} (h : RdT w R T) (hm : w'.heap[R]? = w.heap[R]?) : RdT w' R T :=
  ⟨(World.cell?_of_block hm).trans h.c0, (World.cell?_of_block hm).trans h.c1, fun o => (World.frozen?_of_block (a := ⟨R, o, none⟩) hm).trans (h.fz o)⟩
theorem RdT.below {w w' : World} {R : Nat} {T : ByteArray} (h : RdT w R T) (hb : Below w.heap.size w w') : RdT w' R T := h.same (hb.block R (block_lt h.c0))
theorem RdT.setT {w : World} {R : Nat} {T : ByteArray} (h : RdT w R T) (T' : ByteArray) : RdT (w.setCell ⟨R, 0, none⟩ (.string T')) R T' :=
  ⟨set_eq h.c0, set_ne (by omega) h.c1, fun o => by rw [World.frozen?_setCell]; exact h.fz o⟩
/-- only block R was turned, and the world has grown -/
abbrev KpR (R : Nat) (w w' : World) : Prop := w.grownBy w' (some R)
theorem kpr_set (R o : Nat) (v : Value) (w : World) : KpR R w (w.setCell ⟨R, o, none⟩ v) := ⟨rfl, rfl, rfl, by simp, fun k _ hk => Below.heap_setCell _ _ _ _ (fun e => hk (by rw [e]))⟩
theorem kpr_below {R : Nat} {w w' : World} (h : Below w.heap.size w w') : KpR R w w' := ⟨h.os, h.tape, h.output, h.size, fun k hk _ => h.block k hk⟩
theorem kpr_trans {R : Nat} {w w1 w2 : World} (h : KpR R w w1) (h2 : KpR R w1 w2) : KpR R w w2 :=
  ⟨h2.os.trans h.os, h2.tape.trans h.tape, h2.output.trans h.output, Nat.le_trans h.size h2.size, fun k hk hne => (h2.block k (Nat.lt_of_lt_of_le hk h.size) hne).trans (h.block k hk hne)⟩
theorem setAny : (Tryz.prog.info? (indexAnyL_ren.t 116)).map (fun i => (i.zero, i.size)) = some (some (.agg (Array.replicate 256 (.bool false))), 256) := by kernel_rfl
def RnPost (W : World) (R : Nat) (n : Int) (r : Bts) (e : Ending) (w' : World) : Prop := e = .returned (.int .i64 n) ∧ RdT w' R (BA r) ∧ KpR R W w'
set_option maxRecDepth 100000 in
set_option maxHeartbeats 8000000 in
theorem rdnum_any (R : Nat) (T : ByteArray) (n : Int) (s : UInt8) (r : Bts) (w : World) (h : RdT w R T) (hT : T = BA (itoa n ++ s :: r)) (hs : s = 32 ∨ s = 10) (hn : I64 n) (ha : ∀ b ∈ r, b.toNat < 128) (hl : r.length ≤ 4194304) :
    Calls Tryz.prog 24 #[.pointer (some ⟨R, 0, none⟩)] w (RnPost w R n r) := by
  have c0 := h.c0
  have f0 := h.fz 0
  obtain ⟨k, hk⟩ : ∃ k, (itoa n).length = k := ⟨_, rfl⟩
  have hk20 : k ≤ 20 := by rw [← hk]; exact itoa_all20 hn.1 hn.2
  have hsz : T.size = k + 1 + r.length := by rw [hT, ba_size, List.length_append, List.length_cons, hk]; omega
  have htl : T.data.toList = itoa n ++ s :: r := by rw [hT]; simp
  obtain ⟨U, hU⟩ : ∃ U, T.extract 0 k = U := ⟨_, rfl⟩
  obtain ⟨V, hV⟩ : ∃ V, T.extract (k + 1) T.size = V := ⟨_, rfl⟩
  have hUb : U = BA (itoa n) := by rw [← hU, hT, ← hk, ba_cut]
  have HV : Hid (V = BA r) := Lib.hid (by rw [← hV, hT, ← hk, ba_rest])
  have HIA : Hid (Calls Tryz.prog 42 #[.string T, .string ⟨#[32, 10]⟩] w fun e w' => e = .returned (.int .i64 k) ∧ Below w.heap.size w w') := Lib.hid (by
    have hi : Lib.indexAny T.data.toList (⟨#[32, 10]⟩ : ByteArray).data.toList = k := by rw [htl, ← hk]; exact idx_itoa n hs r
    have hc := Any.strings_IndexAny_laid indexAnyL setAny T ⟨#[32, 10]⟩ w (by omega) (by decide) (fun j b hb => by
      have hm := List.mem_of_getElem? hb
      rw [htl] at hm
      rcases List.mem_append.1 hm with hm | hm
      · have := itoa_bytes hm; omega
      · rcases List.mem_cons.1 hm with hm | hm
        · subst hm; rcases hs with rfl | rfl <;> decide
        · exact ha b hm) (fun j b hb => by
      have hm := List.mem_of_getElem? hb
      have hm : b ∈ ([32, 10] : List UInt8) := hm
      rcases List.mem_cons.1 hm with hm | hm
      · subst hm; decide
      · have hm := List.mem_singleton.1 hm
        subst hm; decide)
    rw [hi] at hc
    exact hc)
  have HAT : Hid (∀ W, Calls Tryz.prog 43 #[.string U] W fun e w' => e = .returned (.tuple #[.int .i64 n, .nilIface]) ∧ Below W.heap.size W w') := Lib.hid fun W => by
    refine (Any.strconv_Atoi_ok atoiC U (by rw [hUb, ba_size]; omega) n (by rw [hUb, ba_list]; exact all_itoa hn.1 hn.2) W).mono ?_
    rintro e w' ⟨h1, h2⟩
    refine ⟨h1, ?_⟩
    rcases h2 with rfl | ⟨u, rfl⟩
    · exact Below.refl _ _
    · exact Lib.bytesWorld_below _ _ _
  have hw : wrap64 ((k : Int) + 1) = (k : Int) + 1 := IntWalk.wrap64_in _ ⟨by omega, by omega⟩
  have hw' : IntKind.i64.wrap ((k : Int) + 1) = (k : Int) + 1 := IntWalk.i64_in _ ⟨by omega, by omega⟩
  have hd : decide ((k : Int) < 0) = false := decide_eq_false (by omega)
  have g0 : (0 : Int) ≤ k := by omega
  have g1 : (k : Int) ≤ T.size := by omega
  have g2 : (k : Int) + 1 ≤ T.size := by omega
  have g3 : (0 : Int) ≤ (k : Int) + 1 := by omega
  have g4 : k ≤ T.size := by omega
  have g5 : k + 1 ≤ T.size := by omega
  have HRD := Lib.hid h
  clear h hT hs hn ha hl hk hk20 hsz htl hUb
  go_enter Tryz.func24, Tryz.ntmps24
  go_wp2_with fail
  refine HIA.out.mono ?_
  rintro e w1 ⟨rfl, hb1⟩
  have HR1 := Lib.hid (HRD.out.below hb1)
  have HB1 := Lib.hid hb1
  have c0 := HR1.out.c0
  have f0 := HR1.out.fz 0
  clear hb1 HIA HRD
  go_wp2_with fail
  refine (HAT.out _).mono ?_
  rintro e w2 ⟨rfl, hb2⟩
  have HR2 := Lib.hid (HR1.out.below hb2)
  have HB2 := Lib.hid (HB1.out.trans (hb2.mono HB1.out.size))
  have c0 := HR2.out.c0
  have f0 := HR2.out.fz 0
  clear hb2 HAT HR1 HB1
  go_wp2_with fail
  go_ret
  exact ⟨rfl, by rw [← HV.out]; exact HR2.out.setT V, kpr_trans (kpr_below HB2.out) (kpr_set _ _ _ _)⟩
end Go.Proofs.YtljaegmmfjllkaaGreatDoor
