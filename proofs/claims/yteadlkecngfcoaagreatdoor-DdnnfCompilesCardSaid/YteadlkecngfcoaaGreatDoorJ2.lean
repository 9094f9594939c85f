/- (Ddnnf) Walks: strings.Builder's writing and strconv.Itoa at this program; ddnnf.key. Condition: the table of powers lies as laid. Printed by genj2.py. -/
import Derived.Test.YteadlkecngfcoaaGreatDoorJ1
import Derived.Test.YteadlkecngfcoaaGreatDoorMp
import Derived.Test.YteadlkecngfcoaaGreatDoorTi
import Derived.Test.YteadlkecngfcoaaGreatDoorKf
import Derived.Shelf.Strconv.Itoa3
import Derived.Lib.AppendIntMem
import Derived.Deep.LoopGhost
import Derived.Deep.DeepCutAuto
namespace Go.Proofs.YteadlkecngfcoaaGreatDoor
open Go.ChangeShapes Go.WideShapes Go.ChangeAt Go.RowKit Go.Lib
set_option linter.unusedVariables false
set_option linter.unusedSimpArgs false

def BA (t : Bts) : ByteArray := ⟨t.toArray⟩
@[simp] theorem ba_list (t : Bts) : (BA t).data.toList = t := by simp [BA]
theorem ba_size (t : Bts) : (BA t).size = t.length := by simp [BA, ByteArray.size]
def TxPost (W : World) (l : Bts) (e : Ending) (w' : World) : Prop := ∃ S : ByteArray, e = .returned (.string S) ∧ Hid (S = BA l) ∧ Below W.heap.size W w'
abbrev TabT (B : Nat) (w : World) : Prop := Lib.TabBelow Tryz.prog B w "internal/strconv.uint64pow10" .u64 Lib.pow10Tab
theorem TabT.below {B B' : Nat} {w w' : World} (h : TabT B w) (hb : Below B' w w') (hle : B ≤ B') : TabT B w' := h.on (hb.mono hle)
theorem itoa_any (B : Nat) (n : Int) (w : World) (h : I64 n) (ht : TabT B w) : Calls Tryz.prog 37 #[.int .i64 n] w (TxPost w (itoa n)) := by
  refine (Any.strconv_Itoa itoaL n h.1 h.2 w ht.here).mono ?_
  rintro e w' ⟨rfl, k, os, rfl⟩
  exact ⟨_, rfl, Lib.hid rfl, Lib.below_grow _ w (Nat.le_refl _) k os⟩
theorem bld_below {B b : Nat} {bs : List Value} {w w' : World} (h : Lib.IsBuilder 82 5 B b bs w) (hb : Below w.heap.size w w') : Lib.IsBuilder 82 5 B b bs w' := by
  have key : ∀ p, Lib.BuilderAt 82 5 B b p bs w → Lib.BuilderAt 82 5 B b p bs w' := by
    intro p h
    have hlt := h.lt
    obtain ⟨hB, v, hbk, hown, hne⟩ := h
    exact ⟨hB, v, (hb.block b hlt).trans hbk, own_below hown hb, hne⟩
  exact h.imp (key _) (key _)
theorem bwrite_l (B b : Nat) (l m : Bts) (s : ByteArray) (w : World) (hs : s = BA m) (h : Lib.IsBuilder 82 5 B b (Lib.byteCells l) w) (hlen : l.length + m.length ≤ 140737488355328) (hBw : B ≤ w.heap.size) :
    Calls Tryz.prog 36 #[.pointer (some ⟨b, 0, none⟩), .string s] w fun e w' => e = .returned (.tuple #[.int .i64 s.size, .nilIface]) ∧ Lib.IsBuilder 82 5 B b (Lib.byteCells (l ++ m)) w' ∧ Below B w w' := by
  refine (bwrite_any B b l s w h (by rw [hs, ba_size]; exact hlen) hBw).mono ?_
  rintro e w' ⟨rfl, h1, h2⟩
  subst hs
  refine ⟨rfl, ?_, h2⟩
  have e1 : (BA m).data.toList = m := by simp
  rw [e1] at h1
  exact h1
set_option maxRecDepth 100000 in
set_option maxHeartbeats 2000000 in
theorem bwbyte_any (B b : Nat) (l : Bts) (c : UInt8) (w : World) (h : Lib.IsBuilder 82 5 B b (Lib.byteCells l) w) (hlen : l.length + 1 ≤ 140737488355328) (hBw : B ≤ w.heap.size) :
    Calls Tryz.prog 38 #[.pointer (some ⟨b, 0, none⟩), .int .u8 c.toNat] w fun e w' => e = .returned .nilIface ∧ Lib.IsBuilder 82 5 B b (Lib.byteCells (l ++ [c])) w' ∧ Below B w w' := by
  obtain ⟨i0, hi, hz0, hz1, hz2⟩ := info_parts (show (Tryz.prog.info? 5).map (fun i => (i.zero, i.size, i.bytes)) = some (some (.int .u8 0), 1, 1) by kernel_rfl)
  have HC := Lib.hid (ccheck_any B b _ w h)
  clear h
  go_enter Tryz.func38, Tryz.ntmps38
  go_wp2_with fail
  refine HC.out.mono ?_
  rintro e w1 ⟨rfl, h1, hb1⟩
  obtain ⟨hB, v, hbk, hown, hne⟩ := h1
  have HINB := Lib.hid (show (Tryz.prog.info? 5).map (fun i => (i.zero, i.size, i.bytes)) = some (some (.int .u8 0), 1, 1) by kernel_rfl)
  obtain ⟨nl, hnl⟩ : ∃ n, (Lib.byteCells l).length = n := ⟨_, rfl⟩
  have hlb : nl ≤ 140737488355327 := by rw [← hnl, Lib.byteCells_length]; omega
  rw [hnl] at hown
  obtain ⟨xa, xc, rfl⟩ : ∃ a c, v = .slice a nl c := own_form hown
  have c0 : w1.cell? ⟨b, 0, none⟩ = some (.pointer (some ⟨b, 0, none⟩)) := by rw [Lib.cell_of_heap hbk]; rfl
  have c1 : w1.cell? ⟨b, 1, none⟩ = some (.slice xa nl xc) := by rw [Lib.cell_of_heap hbk]; rfl
  have hBs : B ≤ w1.heap.size := by have := hb1.size; omega
  have HNL := Lib.hid hnl
  clear hnl hlen
  go_wp2_with (at_builtin; go_loud (refine wpList_push1 rfl _ _ 80 rfl 5 (.int .u8 0) 1 Tryz.underlying80 HINB.out rfl B (.slice xa nl xc) nl (Lib.byteCells l) w1 (.int .u8 c.toNat) rfl rfl hown rfl (by omega) (by omega) hBs ?_))
  intro g7 cap7 w2 hown' hgrow hs7 hgb hgl7 hat
  have hlt : b < w1.heap.size := by
    rcases Nat.lt_or_ge b w1.heap.size with h' | h'
    · exact h'
    · simp [Array.getElem?_eq_none h'] at hbk
  have hb2 : w2.heap[b]? = some (.cells #[.pointer (some ⟨b, 0, none⟩), .slice xa nl xc] 82 (0, 0)) := by
    rw [hgrow.block b hlt (fun e => hne e.symm)]
    exact hbk
  have d0 : w2.cell? ⟨b, 0, none⟩ = some (.pointer (some ⟨b, 0, none⟩)) := by rw [Lib.cell_of_heap hb2]; rfl
  have d1 : w2.cell? ⟨b, 1, none⟩ = some (.slice xa nl xc) := by rw [Lib.cell_of_heap hb2]; rfl
  have f1 : w2.frozen? ⟨b, 1, none⟩ = false := Lib.frozen_of_heap hb2 1
  have hbs : Lib.byteCells l ++ [Value.int .u8 c.toNat] = Lib.byteCells (l ++ [c]) := by rw [Lib.byteCells_append]; rfl
  have HR : Hid (Lib.BuilderAt 82 5 B b (.pointer (some ⟨b, 0, none⟩)) (Lib.byteCells (l ++ [c])) (w2.setCell ⟨b, 1, none⟩ (.slice (some ⟨g7, 0, none⟩) (nl + 1) cap7))) := Lib.hid (by
    rw [← hbs]
    exact Lib.BuilderAt.put hB hb2 (by have h := hown'; rw [← HNL.out] at h; simpa [HNL.out] using h) (by decide))
  have HB : Hid (Below B w (w2.setCell ⟨b, 1, none⟩ (.slice (some ⟨g7, 0, none⟩) (nl + 1) cap7))) := Lib.hid ((hb1.grown hgrow (by have := hb1.size; omega) (fun k hk => (hown.lt k hk).1)).setCell (p := ⟨b, 1, none⟩) hB _)
  clear hown' hgrow hbk hown hbs hat hs7 hgb hgl7
  go_wp2
  go_ret
  exact ⟨rfl, .inr HR.out, HB.out⟩

theorem keyK_snoc {c : List Int} {j : Nat} {x : Int} (h : c[j]? = some x) : keyK (c.take (j + 1)) = keyK (c.take j) ++ (itoa x ++ [32]) := by
  rw [List.take_add_one, h]
  simp [keyK]
theorem keyS_snoc {cs : List (List Int)} {k : Nat} {c : List Int} (h : cs[k]? = some c) : keyS (cs.take (k + 1)) = keyS (cs.take k) ++ (keyK c ++ [48]) := by
  rw [List.take_add_one, h, keyS_app]
  rfl
theorem keyS_take (cs : List (List Int)) (k : Nat) : (keyS (cs.take k)).length ≤ (keyS cs).length := by
  have e := congrArg List.length (keyS_app (cs.take k) (cs.drop k))
  rw [List.take_append_drop, List.length_append] at e
  omega
theorem keyK_take (c : List Int) (k : Nat) : (keyK (c.take k)).length ≤ (keyK c).length := by
  have e : keyK (c.take k ++ c.drop k) = keyK (c.take k) ++ keyK (c.drop k) := by unfold keyK; rw [List.flatMap_append]
  rw [List.take_append_drop] at e
  have e := congrArg List.length e
  rw [List.length_append] at e
  omega
set_option maxRecDepth 100000 in
set_option maxHeartbeats 8000000 in
theorem key_any (F : Nat → Prop) (B0 : Nat) (cv : Value) (cs : List (List Int)) (w : World) (hx : Clss F w cv cs) (hL : (keyS cs).length ≤ 4000000) (ht : TabT B0 w) (hB0 : B0 ≤ w.heap.size) :
    Calls Tryz.prog 22 #[cv] w (TxPost w (keyS cs)) := by
  obtain ⟨ca, cn, cc, rfl, HCN, hcnm⟩ := hx.form'
  obtain ⟨b, hb⟩ : ∃ g, w.heap.size = g := ⟨_, rfl⟩
  obtain ⟨W3, hW3⟩ : ∃ W, w.alloc (.cells #[.pointer none, .slice none 0 0] 82) = W := ⟨_, rfl⟩
  have hb3 : Below w.heap.size w W3 := by rw [← hW3]; exact (Below.refl _ _).alloc (Nat.le_refl _) _
  have HBU : Hid (Lib.IsBuilder 82 5 b b (Lib.byteCells (keyS (cs.take 0))) W3) := Lib.hid (by rw [← hW3, ← hb]; exact Lib.fresh_isBuilder _ _ _)
  have HXL : Hid (Clss (fun g => g < b) W3 (.slice ca cn cc) cs) := Lib.hid (by
    rw [← hb]
    obtain ⟨us, h1, h2, h3⟩ := hx
    exact Clss.below ⟨us, h1.lt.mono fun b hb => hb.2, h2, fun j u x hu hx => ((h3 j u x hu hx).lt).mono fun b hb => hb.2⟩ hb3)
  have hs3 : b ≤ W3.heap.size := by rw [← hb]; exact hb3.size
  have HT3 := Lib.hid (ht.below hb3 hB0)
  have HB3 := Lib.hid hb3
  have HBW : Hid (Below b W3 W3) := Lib.hid (Below.refl _ _)
  have HKL := Lib.hid hL
  have HW3 := Lib.hid hW3
  have HBB := Lib.hid hb
  have hB0b : B0 ≤ b := by omega
  clear hx hL ht hb3 hW3 hb hB0
  go_enter Tryz.func22, Tryz.ntmps22
  go_upto_region 2 with fail
  try rw [HW3.out, HBB.out]
  clear HW3
  go_wp2_with fail
  go_loopg [10] cn (fun gg u10 wx => ∃ k : Nat, k + gg = cn ∧ u10 = .int .i64 k ∧ Hid (Lib.IsBuilder 82 5 b b (Lib.byteCells (keyS (cs.take k))) wx) ∧ Hid (Below b W3 wx))
  case atStart => exact ⟨0, by omega, rfl, HBU, HBW⟩
  case round =>
  clear HBU HBW
  obtain ⟨k, hkg, rfl, HBU, HB⟩ := hrel
  have hwz := HB.out.size
  by_cases hk : k < cn
  case neg =>
    obtain rfl : k = cn := by omega
    have hdk : decide ((k : Int) < k) = false := by simp
    have hdk' : decide (k < k) = false := decide_eq_false (by omega)
    have HTX : Hid (keyS (cs.take k) = keyS cs) := Lib.hid (by rw [List.take_of_length_le (by rw [HCN.out]; exact Nat.le_refl _)])
    rw [HTX.out] at HBU
    have HST := Lib.hid (Any.Builder_String_any bString bExtra b b (keyS cs) wr HBU.out (by omega))
    clear HBU
    go_wp2_with fail
    refine HST.out.mono ?_
    rintro e w7 ⟨rfl, hb7⟩
    have HF : Hid (TxPost w (keyS cs) (.returned (.string (BA (keyS cs)))) w7) := Lib.hid ⟨_, rfl, Lib.hid rfl, (HB3.out.trans (HB.out.mono (by rw [HBB.out]; omega))).trans (hb7.mono (by rw [HBB.out]; omega))⟩
    clear hb7 HST
    go_wp2_with fail
    go_ret
    exact HF.out
  obtain ⟨c, hc⟩ : ∃ c, cs[k]? = some c := ⟨_, List.getElem?_eq_getElem (by rw [← HCN.out]; exact hk)⟩
  have hxw : Clss (fun g => g < b) wr (.slice ca cn cc) cs := Rows1.move (fun _ _ _ _ _ h hm => h.move hm) HXL.out fun g hg _ => HB.out.block g hg
  obtain ⟨xb, xo, xv, rfl, hxb', hxb, hxc, hxi⟩ := hxw.at hc
  obtain ⟨xa, xn, xcp, rfl, HXN, _⟩ := hxi.form'
  have hdk : decide ((k : Int) < cn) = true := by simp; omega
  have hdk' : decide (k < cn) = true := decide_eq_true hk
  have HXI := Lib.hid hxi
  have HTK := Lib.hid (keyS_snoc hc)
  have HTL : Hid ((keyS (cs.take k)).length + (keyK c).length + 1 ≤ 4000000) := Lib.hid (by
    have h := keyS_take cs (k + 1)
    rw [HTK.out] at h
    simp only [List.length_append, List.length_singleton] at h
    have := HKL.out
    omega)
  have HC0 : Hid (keyS (cs.take k) = keyS (cs.take k) ++ keyK (c.take 0)) := Lib.hid (by simp [keyK])
  rw [HC0.out] at HBU
  have HBW : Hid (Below b wr wr) := Lib.hid (Below.refl _ _)
  obtain ⟨GK, hGK⟩ : ∃ G, G = gk := ⟨_, rfl⟩
  subst hGK
  obtain ⟨WR, hWR⟩ : ∃ W, W = wr := ⟨_, rfl⟩
  subst hWR
  clear hc hxw hxi HC0
  go_wp2_with fail
  go_loopg [16] xn (fun gg u16 wx => ∃ j : Nat, j + gg = xn ∧ u16 = .int .i64 j ∧ Hid (Lib.IsBuilder 82 5 b b (Lib.byteCells (keyS (cs.take k) ++ keyK (c.take j))) wx) ∧ Hid (Below b WR wx))
  case atStart => exact ⟨0, by omega, rfl, HBU, HBW⟩
  case round =>
  clear HBU HBW
  obtain ⟨j, hjg, rfl, HBU, HBJ⟩ := hrel
  have hwj := HBJ.out.size
  by_cases hj : j < xn
  case neg =>
    obtain rfl : xn = j := by omega
    have hdj : decide ((xn : Int) < xn) = false := by simp
    have hdj' : decide (xn < xn) = false := decide_eq_false (by omega)
    have HWR := Lib.hid (bwbyte_any b b _ 48 wr HBU.out (by
      have := keyK_take c xn
      have := HTL.out
      rw [List.length_append]
      omega) (by omega))
    have HEQ : Hid (keyS (cs.take k) ++ keyK (c.take xn) ++ [48] = keyS (cs.take (k + 1))) := Lib.hid (by
      rw [HTK.out, List.take_of_length_le (l := c) (by rw [HXN.out]; exact Nat.le_refl _)]
      simp)
    rw [HEQ.out] at HWR
    clear HBU
    go_wp2_with fail
    refine HWR.out.mono ?_
    rintro e w6 ⟨rfl, hbu, hb6⟩
    have HBU6 := Lib.hid hbu
    have HB6 := Lib.hid ((HB.out.trans HBJ.out).trans hb6)
    clear hbu hb6 HWR HB HBJ
    go_wp2_with fail
    go_roundg (GK - 1)
    case measure => omega
    case rel => exact ⟨k + 1, by omega, by go_num, HBU6, HB6⟩
  obtain ⟨x, hxj⟩ : ∃ x, c[j]? = some x := ⟨_, List.getElem?_eq_getElem (by rw [← HXN.out]; exact hj)⟩
  obtain ⟨zb, zo, rfl, _, hzb, hzc, hx64⟩ := (HXI.out.move fun g hg _ => HBJ.out.block g hg).at hxj
  have hdj : decide ((j : Int) < xn) = true := by simp; omega
  have hdj' : decide (j < xn) = true := decide_eq_true hj
  have HLJ := Lib.hid (keyK_snoc hxj)
  have HLJ2 : Hid ((keyS (cs.take k) ++ keyK (c.take j) ++ itoa x ++ [32]).length ≤ 4000000) := Lib.hid (by
    have h1 := keyK_take c (j + 1)
    rw [HLJ.out] at h1
    have h2 := HTL.out
    simp only [List.length_append, List.length_singleton] at h1 ⊢
    omega)
  have HIX := Lib.hid (itoa_any B0 x wr hx64 ((HT3.out.on (HB.out.mono hB0b)).on (HBJ.out.mono hB0b)))
  clear hxj hx64
  go_wp2_with fail
  refine HIX.out.mono ?_
  rintro e w6 ⟨D, rfl, HDE, hb6⟩
  have HWR := Lib.hid (bwrite_l b b _ _ _ w6 HDE.out (bld_below HBU.out hb6) (by
    have h1 := HLJ2.out
    simp only [List.length_append, List.length_singleton] at h1 ⊢
    omega) (by have := hb6.size; omega))
  have HB6 := Lib.hid (HBJ.out.trans (hb6.mono (by omega)))
  clear HBU hb6 HDE HIX
  go_wp2_with fail
  refine HWR.out.mono ?_
  rintro e w7 ⟨rfl, hbu, hb7⟩
  have HWB := Lib.hid (bwbyte_any b b _ 32 w7 hbu (by
    have h1 := HLJ2.out
    simp only [List.length_append, List.length_singleton] at h1 ⊢
    omega) (by have := hb7.size; have := HB6.out.size; omega))
  have HEQ : Hid (keyS (cs.take k) ++ keyK (c.take j) ++ itoa x ++ [32] = keyS (cs.take k) ++ keyK (c.take (j + 1))) := Lib.hid (by
    rw [HLJ.out]
    simp)
  rw [HEQ.out] at HWB
  have HB7 := Lib.hid (HB6.out.trans hb7)
  clear hbu hb7 HWR HB6 HBJ
  go_wp2_with fail
  refine HWB.out.mono ?_
  rintro e w8 ⟨rfl, hbu, hb8⟩
  have HBU8 := Lib.hid hbu
  have HB8 := Lib.hid (HB7.out.trans hb8)
  clear hbu hb8 HWB HB7
  go_wp2_with fail
  go_roundg (gk - 1)
  case measure => omega
  case rel => exact ⟨j + 1, by omega, by go_num, HBU8, HB8⟩
end Go.Proofs.YteadlkecngfcoaaGreatDoor
