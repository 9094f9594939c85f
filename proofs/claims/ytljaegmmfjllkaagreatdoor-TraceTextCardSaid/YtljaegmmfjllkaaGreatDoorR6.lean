/- (Trace text seat) Walks: strings.Builder's writing and strconv.Itoa at this program; ContainsFunc at the closure of trace.Print; step laws of append. Condition: the table of powers lies as laid. -/
import Derived.Test.YtljaegmmfjllkaaGreatDoorN4
import Derived.Test.YtljaegmmfjllkaaGreatDoorMp
import Derived.Test.YtljaegmmfjllkaaGreatDoorTi
import Derived.Test.YtljaegmmfjllkaaGreatDoorVz
import Derived.Test.YtljaegmmfjllkaaGreatDoorKx
import Derived.Shelf.Strconv.Itoa3
import Derived.Lib.AppendIntMem
import Derived.Deep.RegionLaw
import Derived.Lib.OthersKept
namespace Go.Proofs.YtljaegmmfjllkaaGreatDoor
open Go.ChangeShapes Go.WideShapes Go.ChangeAt Go.RowKit Go.Lib
set_option linter.unusedVariables false
set_option linter.unusedSimpArgs false

abbrev TabT (B : Nat) (w : World) : Prop := Lib.TabBelow Tryz.prog B w "internal/strconv.uint64pow10" .u64 Lib.pow10Tab
theorem TabT.below {B B' : Nat} {w w' : World} (h : TabT B w) (hb : Below B' w w') (hle : B ≤ B') : TabT B w' := h.on (hb.mono hle)
theorem itoa_any (B : Nat) (n : Int) (w : World) (h : I64 n) (ht : TabT B w) : Calls Tryz.prog 20 #[.int .i64 n] w (TxPost w (itoa n)) := by
  refine (Any.strconv_Itoa itoaL n h.1 h.2 w ht.here).mono ?_
  rintro e w' ⟨rfl, k, os, rfl⟩
  exact ⟨_, rfl, Lib.hid rfl, Lib.below_grow _ w (Nat.le_refl _) k os⟩
theorem bld_below {B b : Nat} {bs : List Value} {w w' : World} (h : Lib.IsBuilder 53 5 B b bs w) (hb : Below w.heap.size w w') : Lib.IsBuilder 53 5 B b bs w' := by
  have key : ∀ p, Lib.BuilderAt 53 5 B b p bs w → Lib.BuilderAt 53 5 B b p bs w' := by
    intro p h
    have hlt := h.lt
    obtain ⟨hB, v, hbk, hown, hne⟩ := h
    exact ⟨hB, v, (hb.block b hlt).trans hbk, own_below hown hb, hne⟩
  exact h.imp (key _) (key _)
theorem bwrite_l (B b : Nat) (l m : Bts) (s : ByteArray) (w : World) (hs : s = BA m) (h : Lib.IsBuilder 53 5 B b (Lib.byteCells l) w) (hlen : l.length + m.length ≤ 140737488355328) (hBw : B ≤ w.heap.size) :
    Calls Tryz.prog 19 #[.pointer (some ⟨b, 0, none⟩), .string s] w fun e w' => e = .returned (.tuple #[.int .i64 s.size, .nilIface]) ∧ Lib.IsBuilder 53 5 B b (Lib.byteCells (l ++ m)) w' ∧ Below B w w' := by
  refine (bwrite_any B b l s w h (by rw [hs, ba_size]; exact hlen) hBw).mono ?_
  rintro e w' ⟨rfl, h1, h2⟩
  subst hs
  refine ⟨rfl, ?_, h2⟩
  have e1 : (BA m).data.toList = m := by simp
  rw [e1] at h1
  exact h1
theorem clss_lt' {F : Nat → Prop} {w : World} {v : Value} {cs : List (List Int)} (h : Clss F w v cs) : Clss (fun b => b < w.heap.size) w v cs := by
  obtain ⟨us, h1, h2, h3⟩ := h
  exact ⟨us, h1.lt.mono fun b hb => hb.2, h2, fun j u x hu hx => ((h3 j u x hu hx).lt).mono fun b hb => hb.2⟩
/-- append of one element onto an owned slice, as one step of a region that draws -/
theorem step_push1 {P : Program} {ops : Array Oper} {o : Oper} {a : Act} {w : World} {K : Act → World → Prop} {Q : Exit → Act → World → Prop} {X : Prop}
    (hgd : o.guard = none) (s x : Operand) (t : TypeId)
    (ho : o.op = .call { callee := .builtin .append, args := #[s, x], argTypes := #[t, t] })
    (E : TypeId) (z : Value) (bytes : Nat) (ht : P.underlying t = some (.slice E)) (hinfo : (P.info? E).map (fun i => (i.zero, i.size, i.bytes)) = some (some z, 1, bytes)) (hz1 : z.cells.size = 1)
    (base : Nat) (v : Value) (n : Nat) (xs : List Value) (B : Nat) (u : Value)
    (hs : a.eval s = v) (hx : a.eval x = .slice (some ⟨B, 0, none⟩) 1 1) (hc : w.cell? ⟨B, 0, none⟩ = some u) (hown : w.ownsRow base E 1 v n xs) (hu : u.oneCell' = true)
    (hn : (n + 1) * bytes ≤ 140737488355328) (hby : 1 ≤ bytes) (hbase : base ≤ w.heap.size)
    (h : ∀ (g cap' : Nat) w', w'.ownsRow base E 1 (.slice (some ⟨g, 0, none⟩) (n + 1) cap') (n + 1) (xs ++ [u]) → w.grownBy w' v.ownBlock → (v.ownBlock = some g ∨ w.heap.size ≤ g) → K (a.put o.dst (.slice (some ⟨g, 0, none⟩) (n + 1) cap')) w') :
    if Region.wanted o (yielded ops a.tmps) = true then Oper.wp P o a w K Q else X := by
  have hw : Region.wanted o (yielded ops a.tmps) = true := by simp [Region.wanted, hgd]
  rw [if_pos hw]
  obtain ⟨i, hi, hz, h1, h2⟩ := info_parts hinfo
  have hle : n + 1 ≤ (n + 1) * bytes := Nat.le_mul_of_pos_right _ hby
  obtain ⟨v', w', hr, k2, k3, k4, k5⟩ := run_append_own_at (P := P) w base t o.type E i z 1 bytes ht hi hz h1 h2 hz1 (by decide) v n xs hown ⟨B, 0, none⟩ 1 1 [u] rfl
    (fun j y hj => by
      match j, hj with
      | 0, hj => simp at hj; subst hj; simpa [Addr.add] using hc)
    (fun y hy => by simp at hy; subst hy; exact hu) (by unfold maxLen; omega) hn hbase
  unfold Oper.wp execOp
  simp only [ho, resolve, invoke, builtin, Sem.run_bind, Sem.run_pure, Result.andThen_ok, List.map_toArray, List.map_cons, List.map_nil, hs, hx, hr]
  rcases k2.2 with ⟨_, h0⟩ | ⟨g, cap', cur, rfl, hb, hh, _⟩
  · omega
  refine h g cap' w' k2 k3 ?_
  rcases k5 with h | h
  · exact .inl h.symm
  · right; simp [Value.ownBlock] at h; omega


/-- append of a whole slice onto an owned slice, as one step of a region that draws -/
theorem step_pushAll {P : Program} {ops : Array Oper} {o : Oper} {a : Act} {w : World} {K : Act → World → Prop} {Q : Exit → Act → World → Prop} {X : Prop}
    (hgd : o.guard = none) (s x : Operand) (t : TypeId)
    (ho : o.op = .call { callee := .builtin .append, args := #[s, x], argTypes := #[t, t] })
    (E : TypeId) (z : Value) (bytes : Nat) (ht : P.underlying t = some (.slice E)) (hinfo : (P.info? E).map (fun i => (i.zero, i.size, i.bytes)) = some (some z, 1, bytes)) (hz1 : z.cells.size = 1)
    (base : Nat) (v : Value) (n : Nat) (xs : List Value) (F : Nat → Prop) (A : Option Addr) (m c : Nat) (us : List Value)
    (hs : a.eval s = v) (hx : a.eval x = .slice A m c) (hown : w.ownsRow base E 1 v n xs) (hr : Sl1 F w (.slice A m c) us) (hu : ∀ u ∈ us, u.oneCell' = true)
    (hm : n + m ≤ 9223372036854775807) (hn : (n + m) * bytes ≤ 140737488355328) (hbase : base ≤ w.heap.size)
    (h : ∀ v' w', w'.ownsRow base E 1 v' (n + m) (xs ++ us) → w.grownBy w' v.ownBlock → (v'.ownBlock = v.ownBlock ∨ v'.ownBlock = some w.heap.size) → K (a.put o.dst v') w') :
    if Region.wanted o (yielded ops a.tmps) = true then Oper.wp P o a w K Q else X := by
  have hw : Region.wanted o (yielded ops a.tmps) = true := by simp [Region.wanted, hgd]
  rw [if_pos hw]
  obtain ⟨i, hi, hz, h1, h2⟩ := info_parts hinfo
  have hl : m = us.length := hr.len.1
  unfold Oper.wp execOp
  rcases A with _ | ad
  · have h0 : us = [] := by
      rcases us with _ | ⟨u, r⟩
      · rfl
      · obtain ⟨_, _, he, _⟩ := hr.at (k := 0) (u := u) rfl
        cases he
    subst h0
    have hm0 : m = 0 := by simpa using hl
    subst hm0
    have hrun : (Builtin.append_ #[t, t] o.type #[v, .slice none 0 c]).run P w = .ok v w := by
      rcases hown.2 with ⟨rfl, rfl⟩ | ⟨g, cap, cur, rfl, _, _, hnc, _⟩
      · simp [Builtin.append_, run_underlying ht, sizeOf, typeInfo, hi, Builtin.lenOf, Builtin.firstCells]
      · simp [Builtin.append_, run_underlying ht, sizeOf, typeInfo, hi, Builtin.lenOf, Builtin.firstCells, hnc, storeCells]
    simp only [ho, resolve, invoke, builtin, Sem.run_bind, Sem.run_pure, Result.andThen_ok, List.map_toArray, List.map_cons, List.map_nil, hs, hx, hrun]
    exact h v w (by simpa using hown) (World.grownBy.refl w _) (.inl rfl)
  · obtain ⟨v', w', hr', k2, k3, k4, k5⟩ := run_append_own_at (P := P) w base t o.type E i z 1 bytes ht hi hz h1 h2 hz1 (by decide) v n xs hown ad m c us (by omega) (sl1_cells hr) hu (by unfold maxLen; omega) hn hbase
    simp only [ho, resolve, invoke, builtin, Sem.run_bind, Sem.run_pure, Result.andThen_ok, List.map_toArray, List.map_cons, List.map_nil, hs, hx, hr']
    exact h v' w' k2 k3 k5
theorem printc_any (F : Nat → Prop) (u : Value) (y : List Int) (w : World) (hy : Ints F w u y) : Calls Tryz.prog 17 #[u] w (QuietPost w (.bool (y.contains 0))) := by
  obtain ⟨ya, yn, yc, rfl, HYN, hyn⟩ := hy.form'
  have hc := contains_any F _ y 0 w hy (by unfold I64; omega)
  obtain ⟨B, hB⟩ : ∃ B, y.contains 0 = B := ⟨_, rfl⟩
  rw [hB] at hc ⊢
  have HC := Lib.hid hc
  clear hy hc hB
  go_enter Tryz.func17, Tryz.ntmps17
  go_wp2_with fail
  refine HC.out.mono ?_
  rintro e w' ⟨rfl, rfl⟩
  go_wp2_with fail
  go_ret
  exact ⟨rfl, 0, rfl⟩
set_option maxHeartbeats 1000000 in
theorem indexfP_any (F : Nat → Prop) (P : List Int → Bool) (v : Value) (xs : List (List Int)) (w : World) (hx : Clss F w v xs)
    (hp : ∀ (nq : Nat) (u : Value) (y : List Int), y ∈ xs → Ints F (w.drewN nq) u y → Calls Tryz.prog 17 #[u] (w.drewN nq) (QuietPost (w.drewN nq) (.bool (P y)))) :
    Calls Tryz.prog 37 #[v, .func (.func 17) #[] #[]] w (QuietPost w (.int .i64 (pGo P xs 0))) := by
  obtain ⟨a, n, c, rfl, HN, hn⟩ := hx.form'
  obtain ⟨R, hR⟩ : ∃ R, pGo P xs 0 = R := ⟨_, rfl⟩
  have HR : Hid (R = pGo P (xs.drop 0) 0) := Lib.hid hR.symm
  rw [hR]
  have HX := Lib.hid hx
  have HP := Lib.hid hp
  clear hR hx hp
  go_enter Tryz.func37, Tryz.ntmps37
  go_wp2
  go_loopg [4, 8] n (fun g u4 u8 wx => ∃ k nq : Nat, k + g = n ∧ u8 = .int .i64 k ∧ u4 = .int .i64 0 ∧ wx = w.drewN nq ∧ Hid (R = pGo P (xs.drop k) k))
  case atStart => exact ⟨0, 0, by omega, rfl, rfl, rfl, HR⟩
  case round =>
    obtain ⟨k, nq, hk, rfl, rfl, rfl, hinv⟩ := hrel
    by_cases hlt : k < n
    · obtain ⟨y, hy, e⟩ := drop_at (xs := xs) (k := k) (by have := HN.out; omega)
      have hxs := HX.out
      obtain ⟨b, off, yv, rfl, _, hb, hc, hyi⟩ := hxs.at hy
      obtain ⟨ya, yn, yc, rfl, HYN, hyn⟩ := hyi.form'
      have HI : Hid (R = if P y = true then (k : Int) else pGo P (xs.drop (k + 1)) (k + 1)) := Lib.hid (by rw [hinv.out, e]; rfl)
      obtain ⟨B, hB⟩ : ∃ B, P y = B := ⟨_, rfl⟩
      have hoc := fun nq => HP.out nq _ y (List.mem_of_getElem? hy) (hyi.drewN nq)
      rw [hB] at HI hoc
      have HOC := Lib.hid hoc
      clear hinv e hy hB hoc hxs hyi
      rcases bool2 B with rfl | rfl
      · have HF : Hid (R = k) := Lib.hid (by rw [HI.out, if_pos rfl])
        go_wp2_with fail
        refine (HOC.out _).mono ?_
        rintro e w' ⟨rfl, n1, rfl⟩
        go_wp2_with fail
        go_ret
        exact ⟨by rw [HF.out]; rfl, _, rfl⟩
      · have HF : Hid (R = pGo P (xs.drop (k + 1)) (k + 1)) := Lib.hid (by rw [HI.out, if_neg (by simp)])
        go_wp2_with fail
        refine (HOC.out _).mono ?_
        rintro e w' ⟨rfl, n1, rfl⟩
        go_wp2_with fail
        go_roundg (gk - 1)
        case measure => omega
        case rel => exact ⟨k + 1, _, by omega, by go_num, rfl, rfl, HF⟩
    · have HF : Hid (R = -1) := Lib.hid (by rw [hinv.out, List.drop_eq_nil_of_le (by have := HN.out; omega)]; rfl)
      clear hinv
      go_wp2
      go_ret
      exact ⟨by rw [HF.out]; rfl, nq, rfl⟩
theorem containsfP_any (F : Nat → Prop) (P : List Int → Bool) (v : Value) (xs : List (List Int)) (w : World) (hx : Clss F w v xs)
    (hp : ∀ (nq : Nat) (u : Value) (y : List Int), y ∈ xs → Ints F (w.drewN nq) u y → Calls Tryz.prog 17 #[u] (w.drewN nq) (QuietPost (w.drewN nq) (.bool (P y)))) :
    Calls Tryz.prog 16 #[v, .func (.func 17) #[] #[]] w (QuietPost w (.bool (xs.any P))) := by
  have hc := pGo_any P xs 0
  have hI := indexfP_any F P v xs w hx hp
  obtain ⟨R, hR⟩ : ∃ R, pGo P xs 0 = R := ⟨_, rfl⟩
  rw [hR] at hc hI
  rw [← hc]
  have HI := Lib.hid hI
  clear hc hR hI hx hp
  go_enter Tryz.func16, Tryz.ntmps16
  go_wp2_with fail
  refine HI.out.mono ?_
  rintro e w' ⟨rfl, n1, rfl⟩
  go_wp2_with fail
  go_ret
  exact ⟨rfl, _, rfl⟩



/- (Trace text seat) Walk: trace.Print. Condition: the table of powers lies as laid. Printed by genpr.py. -/
open Go.ChangeShapes Go.WideShapes Go.ChangeAt Go.RowKit Go.Lib
set_option linter.unusedVariables false
set_option linter.unusedSimpArgs false

set_option maxRecDepth 100000 in
set_option maxHeartbeats 2000000 in
theorem ccheckk_any (B b : Nat) (bs : List Value) (w : World) (h : Lib.IsBuilder 53 5 B b bs w) :
    Calls Tryz.prog 39 #[.pointer (some ⟨b, 0, none⟩)] w fun e w' => e = .returned (.tuple #[]) ∧ Lib.BuilderAt 53 5 B b (.pointer (some ⟨b, 0, none⟩)) bs w' ∧ Below B w w' ∧ Lib.OthersKept 5 (some b) w w' := by
  rcases h with h | h
  · have h0 := h.cell0
    have hsh := h.shape
    have hfz := h.frozen0
    obtain ⟨j, hj, hjs⟩ := Option.map_eq_some_iff.1 (show (Tryz.prog.info? 53).map (·.size) = some 2 by kernel_rfl)
    have HR : Hid (Lib.BuilderAt 53 5 B b (.pointer (some ⟨b, 0, none⟩)) bs (w.setCell ⟨b, 0, none⟩ (.pointer (some ⟨b, 0, none⟩)))) := Lib.hid (h.used _)
    have HB : Hid (Below B w (w.setCell ⟨b, 0, none⟩ (.pointer (some ⟨b, 0, none⟩)))) := Lib.hid ((Below.refl B w).setCell (p := ⟨b, 0, none⟩) h.1 _)
    clear h
    go_enter Tryz.func39, Tryz.ntmps39
    go_wp2
    rw [Lib.run_to_unsafe w ⟨b, 0, none⟩ Tryz.underlying50 Tryz.underlying91 hj (by rw [hjs]; decide) hsh (Nat.zero_lt_succ 1)]
    simp only [Result.andThen]
    rw [Oper.upon_value]
    go_wp2
    rw [run_callFunc_extern Tryz.func58 (by kernel_rfl) (by kernel_rfl) (by kernel_rfl) (e := Extern.AbiNoEscape.same) (by kernel_rfl)]
    rw [Lib.run_noEscape]
    simp only [Result.andThen]
    rw [Oper.upon_value]
    go_wp2
    rw [Lib.run_from_unsafe w ⟨b, 0, none⟩ Tryz.underlying91 Tryz.underlying50 hj hsh (by kernel_rfl)]
    simp only [Result.andThen]
    rw [Oper.upon_value]
    go_wp2
    go_end0
    exact ⟨rfl, HR.out, HB.out, Lib.OthersKept.setCell (b := b) (Lib.OthersKept.refl _ (some b) _) ⟨b, 0, none⟩ rfl _⟩
  · have h0 := h.cell0
    have HR := Lib.hid h
    clear h
    obtain ⟨j, hj, hjs⟩ := Option.map_eq_some_iff.1 (show (Tryz.prog.info? 53).map (·.size) = some 2 by kernel_rfl)
    have hq : ∀ w : World, (binOp .neq 50 (.pointer (some ⟨b, 0, none⟩)) (.pointer (some ⟨b, 0, none⟩))).run Tryz.prog w = .ok (.bool false) w := fun w => Lib.run_neq_ptr_same w _ Tryz.underlying50 hj
    go_enter Tryz.func39, Tryz.ntmps39
    go_wp2
    go_end0
    exact ⟨rfl, HR.out, Below.refl _ _, Lib.OthersKept.refl _ _ _⟩

set_option maxRecDepth 100000 in
set_option maxHeartbeats 2000000 in
theorem bwritek_any (B b : Nat) (l : Bts) (s : ByteArray) (w : World) (h : Lib.IsBuilder 53 5 B b (Lib.byteCells l) w) (hlen : l.length + s.size ≤ 140737488355328) (hBw : B ≤ w.heap.size) :
    Calls Tryz.prog 19 #[.pointer (some ⟨b, 0, none⟩), .string s] w fun e w' => e = .returned (.tuple #[.int .i64 s.size, .nilIface]) ∧ Lib.IsBuilder 53 5 B b (Lib.byteCells (l ++ s.data.toList)) w' ∧ Below B w w' ∧ Lib.OthersKept 5 (some b) w w' := by
  obtain ⟨i0, hi, hz0, hz1, hz2⟩ := info_parts (show (Tryz.prog.info? 5).map (fun i => (i.zero, i.size, i.bytes)) = some (some (.int .u8 0), 1, 1) by kernel_rfl)
  have HC := Lib.hid (ccheckk_any B b _ w h)
  clear h
  go_enter Tryz.func19, Tryz.ntmps19
  go_wp2_with fail
  refine HC.out.mono ?_
  rintro e w1 ⟨rfl, h1, hb1, ho1⟩
  have HO1 := Lib.hid ho1
  clear ho1
  obtain ⟨hB, v, hbk, hown, hne⟩ := h1
  have c0 : w1.cell? ⟨b, 0, none⟩ = some (.pointer (some ⟨b, 0, none⟩)) := by rw [Lib.cell_of_heap hbk]; rfl
  have c1 : w1.cell? ⟨b, 1, none⟩ = some v := by rw [Lib.cell_of_heap hbk]; rfl
  go_wp2_with (at_builtin; go_loud (refine Lib.wpList_append_own_string _ rfl _ _ 51 9 rfl B 5 i0 Tryz.underlying51 Tryz.underlying9 hi hz0 hz1 hz2 _ _ _ rfl hown s rfl ?c3 ?c4 ?c5 ?_))
  case c3 => simp only [Lib.byteCells_length]; unfold maxLen; omega
  case c4 => simp only [Lib.byteCells_length]; omega
  case c5 => have := hb1.size; omega
  intro v' w2 hown' hgrow _
  have hlt : b < w1.heap.size := by
    rcases Nat.lt_or_ge b w1.heap.size with h' | h'
    · exact h'
    · simp [Array.getElem?_eq_none h'] at hbk
  have hb2 : w2.heap[b]? = some (.cells #[.pointer (some ⟨b, 0, none⟩), v] 53 (0, 0)) := by
    rw [hgrow.block b hlt (fun e => hne e.symm)]
    exact hbk
  have d0 : w2.cell? ⟨b, 0, none⟩ = some (.pointer (some ⟨b, 0, none⟩)) := by rw [Lib.cell_of_heap hb2]; rfl
  have d1 : w2.cell? ⟨b, 1, none⟩ = some v := by rw [Lib.cell_of_heap hb2]; rfl
  have f1 : w2.frozen? ⟨b, 1, none⟩ = false := Lib.frozen_of_heap hb2 1
  obtain ⟨ao, n', cap, rfl⟩ : ∃ ao n' cap, v' = .slice ao n' cap := by
    rcases hown'.2 with ⟨hv, _⟩ | ⟨g, cap, cur, hv, _⟩
    · exact ⟨_, _, _, hv⟩
    · exact ⟨_, _, _, hv⟩
  have hbs : Lib.byteCells l ++ Lib.strCells s = Lib.byteCells (l ++ s.data.toList) := by rw [show Lib.strCells s = Lib.byteCells s.data.toList from rfl, ← Lib.byteCells_append]
  have HR : Hid (Lib.BuilderAt 53 5 B b (.pointer (some ⟨b, 0, none⟩)) (Lib.byteCells (l ++ s.data.toList)) (w2.setCell ⟨b, 1, none⟩ (.slice ao n' cap))) := Lib.hid (by
    rw [← hbs]
    exact Lib.BuilderAt.put hB hb2 (by simpa [Lib.strCells_length] using hown') (by decide))
  have HB : Hid (Below B w (w2.setCell ⟨b, 1, none⟩ (.slice ao n' cap))) := Lib.hid ((hb1.grown hgrow (by have := hb1.size; omega) (fun k hk => (hown.lt k hk).1)).setCell (p := ⟨b, 1, none⟩) hB _)
  have HO : Hid (Lib.OthersKept 5 (some b) w (w2.setCell ⟨b, 1, none⟩ (.slice ao n' cap))) := Lib.hid ((HO1.out.grown hgrow (fun g hg => by
    rcases hown.2 with ⟨hv, _⟩ | ⟨g', cap', cur', hv, _, hh, _⟩
    · rw [hv] at hg; simp [Value.ownBlock] at hg
    · rw [hv] at hg; simp [Value.ownBlock] at hg; subst hg; exact ⟨_, _, hh⟩)).setCell ⟨b, 1, none⟩ rfl _)
  clear hown' hgrow hbk hown hbs
  go_wp2
  go_ret2
  exact ⟨rfl, .inr HR.out, HB.out, HO.out⟩

theorem bwritek_l (B b : Nat) (l m : Bts) (s : ByteArray) (w : World) (hs : s = BA m) (h : Lib.IsBuilder 53 5 B b (Lib.byteCells l) w) (hlen : l.length + m.length ≤ 140737488355328) (hBw : B ≤ w.heap.size) :
    Calls Tryz.prog 19 #[.pointer (some ⟨b, 0, none⟩), .string s] w fun e w' => e = .returned (.tuple #[.int .i64 s.size, .nilIface]) ∧ Lib.IsBuilder 53 5 B b (Lib.byteCells (l ++ m)) w' ∧ Below B w w' ∧ Lib.OthersKept 5 (some b) w w' := by
  refine (bwritek_any B b l s w h (by rw [hs, ba_size]; exact hlen) hBw).mono ?_
  rintro e w' ⟨rfl, h1, h2, h3⟩
  subst hs
  refine ⟨rfl, ?_, h2, h3⟩
  have e1 : (BA m).data.toList = m := by simp
  rw [e1] at h1
  exact h1
theorem own_kept {w w' : World} {base b : Nat} {v : Value} {n : Nat} {xs : List Value} (h : w.ownsRow base 3 1 v n xs) (hk : Lib.OthersKept 5 (some b) w w') (hb : ∀ g, v.ownBlock = some g → g ≠ b) : ∀ g, v.ownBlock = some g → w'.heap[g]? = w.heap[g]? := by
  intro g hg
  rcases h.2 with ⟨rfl, h0⟩ | ⟨g', cap, cur, rfl, hb', hh, _⟩
  · simp [Value.ownBlock] at hg
  · have e : g' = g := by simpa [Value.ownBlock] using hg
    subst e
    rw [hh]
    exact hk _ _ hh (fun e => hb g' rfl (by injection e)) (fun c fz e => by injection e with _ e2; exact absurd e2 (by decide))
theorem claims_ltP {F : Nat → Prop} {w : World} {v : Value} {ts : List Claim} (h : Claims F w v ts) : Claims (fun b => b < w.heap.size) w v ts := by
  obtain ⟨us, ⟨a, cp, e1, e2, e3⟩, h2, h3⟩ := h
  refine ⟨us, ⟨a, cp, e1, e2, fun j u hu => ?_⟩, h2, fun j u c hu hc => (h3 j u c hu hc).lt⟩
  obtain ⟨b, off, f1, f2, f3⟩ := e3 j u hu
  exact ⟨b, off, f1, block_lt f3.1, f3⟩
theorem zero_snoc {ts : List Claim} {k : Nat} {c : Claim} (h : ts[k]? = some c) : zeroB (ts.take (k + 1)) = (zeroB (ts.take k) || c.cls.any fun x => x.contains 0) := by
  rw [List.take_add_one, h]
  simp [zeroB]
theorem zero_hit {ts : List Claim} {c : Claim} (h : c ∈ ts) (hz : (c.cls.any fun x => x.contains 0) = true) : zeroB ts = true := by
  unfold zeroB
  exact List.any_eq_true.2 ⟨c, h, hz⟩
def TpPost (W : World) (ts : List Claim) (e : Ending) (w' : World) : Prop :=
  ∃ S : ByteArray, e = .returned (.tuple #[.string S, .int .i64 (if zeroB ts = true then 1 else 0)]) ∧ Hid (S = BA (if zeroB ts = true then [] else trcT ts)) ∧ Below W.heap.size W w'
set_option maxRecDepth 100000 in
set_option maxHeartbeats 32000000 in
theorem tprint_any (B0 : Nat) (tv : Value) (ts : List Claim) (w : World) (hx : Claims (fun _ => True) w tv ts) (hl : zeroB ts = false → (trcT ts).length ≤ 4000000) (hls : ∀ c ∈ ts, (lineM c).length ≤ 100000) (h64 : ∀ c ∈ ts, NumC c) (hn : ts.length ≤ 65536) (ht : TabT B0 w) (hB0 : B0 ≤ w.heap.size) :
    Calls Tryz.prog 7 #[.agg #[tv]] w (TpPost w ts) := by
  obtain ⟨ta, tn, tc, rfl, HTN, htn⟩ := hx.form
  obtain ⟨LB, hLB⟩ : ∃ b, w.heap.size = b := ⟨_, rfl⟩
  obtain ⟨W1, hW1⟩ : ∃ W, w.alloc (.cells #[.slice ta tn tc] 24) = W := ⟨_, rfl⟩
  have hb1 : Below w.heap.size w W1 := by rw [← hW1]; exact (Below.refl _ _).alloc (Nat.le_refl _) _
  have k0 : W1.cell? ⟨LB, 0, none⟩ = some (.slice ta tn tc) := by rw [← hW1, ← hLB]; simp
  have hs1 : W1.heap.size = LB + 1 := by rw [← hW1]; simp; omega
  have HX := Lib.hid hx
  have HB1 : Hid (Below w.heap.size w W1) := Lib.hid hb1
  have HBQ0 : Hid (Below (LB + 1) W1 W1) := Lib.hid (Below.refl _ _)
  have HINI := Lib.hid (show (Tryz.prog.info? 3).map (fun i => (i.zero, i.size, i.bytes)) = some (some (.int .i64 0), 1, 8) by kernel_rfl)
  have HTL := Lib.hid hl
  have HLS := Lib.hid hls
  have H64 := Lib.hid h64
  have HTB := Lib.hid ht
  have hn2 : tn ≤ 65536 := by rw [HTN.out]; exact hn
  have HW1 := Lib.hid hW1
  have HLB := Lib.hid hLB
  have HS1 := Lib.hid hs1
  have HZ0 : Hid (zeroB (ts.take 0) = false) := Lib.hid (by simp [zeroB])
  have HB00 := Lib.hid hB0
  clear hx hb1 hW1 hLB hl hls h64 hn ht hs1 hB0
  go_enter Tryz.func7, Tryz.ntmps7
  go_upto_region 1 with fail
  try rw [HW1.out, HLB.out]
  go_wp2_with fail
  go_loopg [17] tn (fun gg u17 wx => ∃ k : Nat, k + gg = tn ∧ u17 = .int .i64 k ∧ Hid (Below w.heap.size w wx) ∧ Hid (Below (LB + 1) W1 wx) ∧ Hid (zeroB (ts.take k) = false))
  case atStart => exact ⟨0, by omega, rfl, HB1, HBQ0, HZ0⟩
  case round =>
  clear HB1 HBQ0 HZ0
  obtain ⟨k, hkg, rfl, HB, HBQ, HZ⟩ := hrel
  have k0 : wr.cell? ⟨LB, 0, none⟩ = some (.slice ta tn tc) := below_c HBQ.out (by omega) k0
  by_cases hk : k < tn
  case pos =>
    obtain ⟨c, hc⟩ : ∃ c, ts[k]? = some c := ⟨_, List.getElem?_eq_getElem (by rw [← HTN.out]; exact hk)⟩
    have hmem := List.mem_of_getElem? hc
    obtain ⟨xb, xo, xcv, xkv, rfl, _, hxb, j0, j1, j2, j3, j4, ⟨⟨hxc, _, _, hxk, _⟩, hr64, hl64, hc64⟩⟩ := (HX.out.below HB.out).at hc
    have hxc : Clss (fun _ => True) wr xcv c.cls := hxc
    have hxk : Ints (fun _ => True) wr xkv c.kids := hxk
    obtain ⟨xa, xn, xc, rfl, HXN, hxn⟩ := hxc.form'
    obtain ⟨ya, yn, yc, rfl, HYN, hyn⟩ := hxk.form'
    have hdk : decide ((k : Int) < tn) = true := by simp; omega
    have hdk' : decide (k < tn) = true := decide_eq_true hk
    obtain ⟨g1, hg1⟩ : ∃ g, wr.heap.size = g := ⟨_, rfl⟩
    obtain ⟨W2, hW2⟩ : ∃ W, wr.alloc (.cells #[.slice xa xn xc, .int .i64 c.rule, .int .i64 c.lit, .slice ya yn yc, .int .i64 c.count] 45) = W := ⟨_, rfl⟩
    have hb2 : Below wr.heap.size wr W2 := by rw [← hW2]; exact (Below.refl _ _).alloc (Nat.le_refl _) _
    have hr2 : W2.heap[g1]? = some (.cells #[.slice xa xn xc, .int .i64 c.rule, .int .i64 c.lit, .slice ya yn yc, .int .i64 c.count] 45) := by rw [← hW2]; exact new_at' _ _ hg1.symm
    have q0 : W2.cell? ⟨g1, 0, none⟩ = some (.slice xa xn xc) := by rw [cell_of_row _ _ _ _ _ _ hr2]; rfl
    have hxc2 := hxc.below hb2
    have HCF := Lib.hid (containsfP_any (fun _ => True) (fun x => x.contains 0) _ c.cls W2 hxc2 (fun nq u y _ hy => printc_any _ u y _ hy))
    have HBN : Hid (∀ q, Below w.heap.size w (W2.drewN q)) := Lib.hid fun q => below_drewN (HB.out.trans (hb2.mono HB.out.size)) q
    have HBQN : Hid (∀ q, Below (LB + 1) W1 (W2.drewN q)) := Lib.hid fun q => below_drewN (HBQ.out.trans (hb2.mono (by have := HBQ.out.size; have := HS1.out; omega))) q
    obtain ⟨B, hB⟩ : ∃ B, (c.cls.any fun x => x.contains 0) = B := ⟨_, rfl⟩
    rw [hB] at HCF
    have HBB := Lib.hid hB
    have HMEM := Lib.hid hmem
    have HCC := Lib.hid hc
    have HW2 := Lib.hid hW2
    have HG1 := Lib.hid hg1
    clear hc hmem hxc hxk hxc2 hb2 hr2 hB hW2 hg1
    go_upto_region 4 with fail
    try rw [HW2.out, HG1.out]
    go_wp2_with fail
    refine HCF.out.mono ?_
    rintro e w3 ⟨rfl, q, rfl⟩
    rcases bool2 B with rfl | rfl
    · have HF : Hid (TpPost w ts (.returned (.tuple #[.string ⟨#[]⟩, .int .i64 1])) (W2.drewN q)) := Lib.hid (by
        have h1 := zero_hit HMEM.out HBB.out
        exact ⟨⟨#[]⟩, by rw [if_pos h1], Lib.hid (by rw [if_pos h1]; rfl), HBN.out q⟩)
      clear HBN HBQN HB HBQ
      go_wp2_with fail
      go_ret2
      exact HF.out
    · have HZ2 : Hid (zeroB (ts.take (k + 1)) = false) := Lib.hid (by rw [zero_snoc HCC.out, HZ.out, HBB.out]; rfl)
      have HB2 := Lib.hid (HBN.out q)
      have HBQ2 := Lib.hid (HBQN.out q)
      clear HBN HBQN HB HBQ HZ HCF
      go_wp2_with fail
      go_roundg (gk - 1)
      case measure => omega
      case rel => exact ⟨k + 1, by omega, by go_num, HB2, HBQ2, HZ2⟩
  obtain rfl : k = tn := by omega
  have hdk : decide ((k : Int) < k) = false := by simp
  have hdk' : decide (k < k) = false := decide_eq_false (by omega)
  have hzz : zeroB ts = false := by
    have h := HZ.out
    rw [List.take_of_length_le (by rw [← HTN.out]; exact Nat.le_refl _)] at h
    exact h
  have hd65 : decide ((65536 : Int) < k) = false := decide_eq_false (by omega)
  have hd65' : decide (65536 < k) = false := decide_eq_false (by omega)
  have HPP : Hid (∀ S w', S = BA (trcT ts) → Below w.heap.size w w' → TpPost w ts (.returned (.tuple #[.string S, .int .i64 0])) w') := Lib.hid fun S w' h1 h2 => ⟨S, by rw [hzz]; rfl, Lib.hid (by rw [hzz]; exact h1), h2⟩
  have HTL := Lib.hid (HTL.out hzz)
  obtain ⟨WL, hWL⟩ : ∃ W, W = wr := ⟨_, rfl⟩
  subst hWL
  obtain ⟨b, hb⟩ : ∃ g, WL.heap.size = g := ⟨_, rfl⟩
  obtain ⟨W3, hW3⟩ : ∃ W, WL.alloc (.cells #[.pointer none, .slice none 0 0] 53) = W := ⟨_, rfl⟩
  have hb3 : Below WL.heap.size WL W3 := by rw [← hW3]; exact (Below.refl _ _).alloc (Nat.le_refl _) _
  have HBU : Hid (Lib.IsBuilder 53 5 b b (Lib.byteCells []) W3) := Lib.hid (by rw [← hW3, ← hb]; exact Lib.fresh_isBuilder _ _ _)
  have HXL : Hid (Claims (fun g => g < b) W3 (.slice ta k tc) ts) := Lib.hid (by rw [← hb]; exact (claims_ltP (HX.out.below HB.out)).below hb3)
  have HB3 := Lib.hid (HB.out.trans (hb3.mono HB.out.size))
  have hLBb : LB + 1 ≤ b := by have := HBQ.out.size; have := HS1.out; omega
  have HT3 := Lib.hid (HTB.out.below HB3.out HB00.out)
  have k0 := below_c hb3 (by omega) k0
  have hs3 : W3.heap.size = b + 1 := by rw [← hW3]; simp; omega
  have hB0b : B0 ≤ b := by have := HB00.out; have := HLB.out; omega
  have HNUM : Hid (∀ W, Below W3.heap.size W3 W → Calls Tryz.prog 20 #[.int .i64 (k : Int)] W (TxPost W (itoa (k : Int)))) := Lib.hid fun W hW => itoa_any B0 _ W (by unfold I64; omega) (HT3.out.below hW (by omega))
  have HW3 := Lib.hid hW3
  have HBB := Lib.hid hb
  have HS3 := Lib.hid hs3
  clear hb3 hW3 hb HB HBQ HZ hzz HX hs3
  go_upto_region 10 with fail
  try rw [HW3.out, HBB.out]
  clear HW3
  go_wp2_with fail
  refine (HNUM.out _ (Below.refl _ _)).mono ?_
  rintro e w4 ⟨S1, rfl, HS4, hb4⟩
  have hz1 : S1.size ≤ 20 := by rw [HS4.out, ba_size]; exact itoa_all20 (by omega) (by omega)
  have g10 : ¬ 9223372036854775807 < 6 + S1.size := by omega
  have g11 : ¬ 9223372036854775807 < 6 + S1.size + 1 := by omega
  have HH : Hid ((⟨#[116, 114, 97, 99, 101, 32]⟩ : ByteArray) ++ S1 ++ ⟨#[10]⟩ = BA (preT ts 0)) := Lib.hid (by
    rw [HS4.out, HTN.out]
    show BA wTrc ++ BA _ ++ BA [10] = _
    rw [ba_app, ba_app]
    simp [preT, clmsT])
  have HPL0 : Hid ((preT ts 0).length ≤ 4000000) := Lib.hid (by
    have h := HTL.out
    unfold trcT at h
    unfold preT
    simp only [List.length_append, List.length_cons, List.take_zero, clmsT, List.length_nil] at h ⊢
    omega)
  have HWR := Lib.hid (bwrite_l b b [] (preT ts 0) _ w4 HH.out (bld_below HBU.out hb4) (by have := HPL0.out; simp; omega) (by have := hb4.size; have := HS3.out; omega))
  have hB43 : Below b W3 w4 := hb4.mono (by have := HS3.out; omega)
  have HB43 := Lib.hid hB43
  have k0 := below_c hb4 (by have := HS3.out; omega) k0
  clear hb4 hB43 HS4 hz1 HBU HNUM
  go_wp2_with fail
  refine HWR.out.mono ?_
  rintro e w5 ⟨rfl, hbu, hb5⟩
  have HBU5 : Hid (Lib.IsBuilder 53 5 b b (Lib.byteCells (preT ts 0)) w5) := Lib.hid hbu
  have HB5 : Hid (Below b W3 w5) := Lib.hid (HB43.out.trans hb5)
  have k0 := below_c hb5 (by omega) k0
  clear hbu hb5 HWR HB43 HH g10 g11
  go_wp2_with fail
  go_loopg [39] k (fun gg u39 wx => ∃ m : Nat, m + gg = k ∧ u39 = .int .i64 m ∧ Hid (Lib.IsBuilder 53 5 b b (Lib.byteCells (preT ts m)) wx) ∧ Hid (Below b W3 wx))
  case atStart => exact ⟨0, by omega, rfl, HBU5, HB5⟩
  case round =>
  clear HBU5 HB5
  obtain ⟨m, hmg, rfl, HBU, HB⟩ := hrel
  have hwz := HB.out.size
  by_cases hm : m < k
  case neg =>
    obtain rfl : m = k := by omega
    have hdm : decide ((m : Int) < m) = false := by simp
    have hdm' : decide (m < m) = false := decide_eq_false (by omega)
    have HTX : Hid (preT ts m = trcT ts) := Lib.hid (by unfold preT; rw [List.take_of_length_le (by rw [HTN.out]; exact Nat.le_refl _)]; rfl)
    rw [HTX.out] at HBU
    have HST := Lib.hid (Any.Builder_String_any bString bExtra b b (trcT ts) wr HBU.out (by have := HS3.out; omega))
    clear HBU
    go_wp2_with fail
    refine HST.out.mono ?_
    rintro e w7 ⟨rfl, hb7⟩
    have HF := Lib.hid (HPP.out (BA (trcT ts)) w7 rfl ((HB3.out.trans (HB.out.mono (by rw [HLB.out]; omega))).trans (hb7.mono (by have := HS3.out; rw [HLB.out]; omega))))
    clear hb7 HST HB
    go_wp2_with fail
    go_ret2
    exact HF.out
  obtain ⟨c, hc⟩ : ∃ c, ts[m]? = some c := ⟨_, List.getElem?_eq_getElem (by rw [← HTN.out]; exact hm)⟩
  have hmem := List.mem_of_getElem? hc
  have hxw : Claims (fun g => g < b) wr (.slice ta k tc) ts := HXL.out.move fun g hg _ => HB.out.block g hg
  obtain ⟨xb, xo, xcv, xkv, rfl, _, hxb, j0, j1, j2, j3, j4, ⟨⟨hxc, _, _, hxk, _⟩, hr64, hl64, hc64⟩⟩ := hxw.at hc
  have hxc : Clss (fun g => g < b) wr xcv c.cls := hxc
  have hxk : Ints (fun g => g < b) wr xkv c.kids := hxk
  obtain ⟨xa, xn, xc, rfl, HXN, hxn⟩ := hxc.form'
  obtain ⟨ya, yn, yc, rfl, HYN, hyn⟩ := hxk.form'
  have hdk : decide ((m : Int) < k) = true := by simp; omega
  have hdk' : decide (m < k) = true := decide_eq_true hm
  have HPL := Lib.hid (pre_len hc)
  have HPS := Lib.hid (pre_snoc hc)
  have HLN := Lib.hid (HLS.out c hmem)
  have HI64 : Hid (∀ n ∈ lineM c, I64 n) := Lib.hid (H64.out c hmem)
  obtain ⟨g1, hg1⟩ : ∃ g, wr.heap.size = g := ⟨_, rfl⟩
  obtain ⟨W2, hW2⟩ : ∃ W, wr.alloc (.cells #[.slice xa xn xc, .int .i64 c.rule, .int .i64 c.lit, .slice ya yn yc, .int .i64 c.count] 45) = W := ⟨_, rfl⟩
  have hb2 : Below wr.heap.size wr W2 := by rw [← hW2]; exact (Below.refl _ _).alloc (Nat.le_refl _) _
  have hr2 : W2.heap[g1]? = some (.cells #[.slice xa xn xc, .int .i64 c.rule, .int .i64 c.lit, .slice ya yn yc, .int .i64 c.count] 45) := by rw [← hW2]; exact new_at' _ _ hg1.symm
  have hs2 : W2.heap.size = g1 + 1 := by rw [← hW2]; simp; omega
  have q0 : W2.cell? ⟨g1, 0, none⟩ = some (.slice xa xn xc) := by rw [cell_of_row _ _ _ _ _ _ hr2]; rfl
  have q1 : W2.cell? ⟨g1, 1, none⟩ = some (.int .i64 c.rule) := by rw [cell_of_row _ _ _ _ _ _ hr2]; rfl
  have q2 : W2.cell? ⟨g1, 2, none⟩ = some (.int .i64 c.lit) := by rw [cell_of_row _ _ _ _ _ _ hr2]; rfl
  have q3 : W2.cell? ⟨g1, 3, none⟩ = some (.slice ya yn yc) := by rw [cell_of_row _ _ _ _ _ _ hr2]; rfl
  have q4 : W2.cell? ⟨g1, 4, none⟩ = some (.int .i64 c.count) := by rw [cell_of_row _ _ _ _ _ _ hr2]; rfl
  obtain ⟨W4, hW4⟩ : ∃ W, W2.alloc (.cells #[.int .i64 c.rule, .int .i64 c.lit, .int .i64 c.count, .int .i64 yn] 3) = W := ⟨_, rfl⟩
  have hb4 : Below W2.heap.size W2 W4 := by rw [← hW4]; exact (Below.refl _ _).alloc (Nat.le_refl _) _
  have hown4 : W4.ownsRow (g1 + 1) 3 1 (.slice (some ⟨g1 + 1, 0, none⟩) 4 4) 4 [.int .i64 c.rule, .int .i64 c.lit, .int .i64 c.count, .int .i64 yn] := by
    rw [← hW4, ← hs2]
    exact own_new #[.int .i64 c.rule, .int .i64 c.lit, .int .i64 c.count, .int .i64 yn] 3 (by omega) (show 4 ≤ 9223372036854775807 by decide)
  have p0 := below_c hb4 (block_lt q0) q0
  have p3 := below_c hb4 (block_lt q3) q3
  have HXC := Lib.hid (hxc.below hb2)
  have HXK := Lib.hid ((hxk.below hb2).below hb4)
  have HO4 := Lib.hid hown4
  have HBQ : Hid (Below (g1 + 1) W2 W4) := Lib.hid (by rw [← hs2]; exact hb4)
  have hs4 : g1 + 1 ≤ W4.heap.size := by rw [← hs2]; exact hb4.size
  have hbg : b < g1 := by have := HS3.out; omega
  have HW2 := Lib.hid hW2
  have HW4 := Lib.hid hW4
  have HG1 := Lib.hid hg1
  have HS2 := Lib.hid hs2
  have HB2w : Hid (Below wr.heap.size wr W2) := Lib.hid hb2
  clear hc hmem hxc hxk hb2 hb4 hr2 hW2 hW4 hg1 hs2 hown4 hxw p0 p3
  go_upto_region 14 with fail
  try rw [HW2.out, HG1.out]
  go_upto_region 15 with fail
  try rw [HS2.out, HW4.out]
  have hs2' : g1 + 1 ≤ W2.heap.size := by rw [HS2.out]; exact Nat.le_refl _
  have hkn : yn ≤ 100000 := by have h1 := HLN.out; have h2 := HYN.out; unfold lineM at h1; simp at h1; omega
  go_cut [9] (fun u9 wx => ∃ (g9 cap9 : Nat), u9 = .slice (some ⟨g9, 0, none⟩) (4 + yn + 1) cap9 ∧ Hid (Below (g1 + 1) W2 wx) ∧ Hid (wx.ownsRow (g1 + 1) 3 1 (.slice (some ⟨g9, 0, none⟩) (4 + yn + 1) cap9) (4 + yn + 1) ((c.rule :: c.lit :: c.count :: (c.kids.length : Int) :: (c.kids ++ (c.cls.length : Int) :: flatM (c.cls.take 0))).map (.int .i64))))
  case first =>
    have k0 : W4.drew.cell? ⟨g1, 0, none⟩ = some (.slice xa xn xc) := (World.cell?_of_block (HBQ.out.block g1 (by omega))).trans q0
    have k3 : W4.drew.cell? ⟨g1, 3, none⟩ = some (.slice ya yn yc) := (World.cell?_of_block (HBQ.out.block g1 (by omega))).trans q3
    refine wp_region_held_drew (S := fun w' => w'.cell? ⟨g1, 0, none⟩ = some (.slice xa xn xc) ∧ w'.cell? ⟨g1, 3, none⟩ = some (.slice ya yn yc)) (by kernel_rfl) (by exact ⟨k0, k3⟩) (fun hHeld => ?_)
    refine wpAnyH_take (i := 0) (v := ?_) rfl (by kernel_rfl) (by kernel_rfl) (by kernel_rfl) (fun _ _ _ h => h) (Or.inl ⟨by rfl, ?_⟩) (by assumption) ?_
    rotate_left
    · intro w hSw
      try dsimp only at hSw
      go_simp
      try with_reducible rfl
    try simp only [Act.put, List.getElem_toArray, List.getElem_cons_succ, List.getElem_cons_zero, List.setIfInBounds_toArray, List.set_cons_zero, List.set_cons_succ]
    refine wpAnyH_take (i := 1) (v := ?_) rfl (by kernel_rfl) (by kernel_rfl) (by kernel_rfl) (fun _ _ _ h => h) (Or.inl ⟨by rfl, ?_⟩) (by assumption) ?_
    rotate_left
    · intro w hSw
      try dsimp only at hSw
      go_simp
      try with_reducible rfl
    try simp only [Act.put, List.getElem_toArray, List.getElem_cons_succ, List.getElem_cons_zero, List.setIfInBounds_toArray, List.set_cons_zero, List.set_cons_succ]
    refine wpAnyH_take (i := 2) (v := ?_) rfl (by kernel_rfl) (by kernel_rfl) (by kernel_rfl) (fun _ _ _ h => h) (Or.inl ⟨by rfl, ?_⟩) (by assumption) ?_
    rotate_left
    · intro w hSw
      try dsimp only at hSw
      go_simp
      try with_reducible rfl
    try simp only [Act.put, List.getElem_toArray, List.getElem_cons_succ, List.getElem_cons_zero, List.setIfInBounds_toArray, List.set_cons_zero, List.set_cons_succ]
    refine wpAnyH_take (i := 4) (v := ?_) rfl (by kernel_rfl) (by kernel_rfl) (by kernel_rfl) (fun _ _ _ h => h) (Or.inl ⟨by rfl, ?_⟩) (by assumption) ?_
    rotate_left
    · intro w hSw
      try dsimp only at hSw
      go_simp
      try with_reducible rfl
    try simp only [Act.put, List.getElem_toArray, List.getElem_cons_succ, List.getElem_cons_zero, List.setIfInBounds_toArray, List.set_cons_zero, List.set_cons_succ]
    refine wpAnyH_take (i := 5) (v := ?_) rfl (by kernel_rfl) (by kernel_rfl) (by kernel_rfl) (fun _ _ _ h => h) (Or.inl ⟨by rfl, ?_⟩) (by assumption) ?_
    rotate_left
    · intro w hSw
      try dsimp only at hSw
      go_simp
      try with_reducible rfl
    try simp only [Act.put, List.getElem_toArray, List.getElem_cons_succ, List.getElem_cons_zero, List.setIfInBounds_toArray, List.set_cons_zero, List.set_cons_succ]
    refine wpAnyH_take (i := 6) (v := ?_) rfl (by kernel_rfl) (by kernel_rfl) (by kernel_rfl) (fun _ _ _ h => h) (Or.inl ⟨by rfl, ?_⟩) (by assumption) ?_
    rotate_left
    · intro w hSw
      try dsimp only at hSw
      go_simp
      try with_reducible rfl
    try simp only [Act.put, List.getElem_toArray, List.getElem_cons_succ, List.getElem_cons_zero, List.setIfInBounds_toArray, List.set_cons_zero, List.set_cons_succ]
    refine wpAnyH_ready (rs := [3, 7]) (by kernel_rfl) (by simp) ?_
    refine AllReadyH.cons rfl (fun K hK => ?_) (AllReadyH.cons rfl (fun K hK => ?_) AllReadyH.nil)
    · have hownA : W4.drew.ownsRow (g1 + 1) 3 1 (.slice (some ⟨g1 + 1, 0, none⟩) 4 4) 4 [.int .i64 c.rule, .int .i64 c.lit, .int .i64 c.count, .int .i64 yn] := HO4.out
      have hslA : Sl1 (fun g => g < b) W4.drew (.slice ya yn yc) (c.kids.map (.int .i64)) := HXK.out.1
      have hszA : g1 + 1 ≤ (W4.drew).heap.size := hs4
      have HBQA : Hid (Below (g1 + 1) W2 (W4.drew)) := Lib.hid (HBQ.out.drew)
      have HOWA := Lib.hid hownA
      refine step_pushAll rfl _ _ 43 rfl 3 (.int .i64 0) 8 Tryz.underlying43 HINI.out rfl (g1 + 1) (.slice (some ⟨g1 + 1, 0, none⟩) 4 4) 4 _ (fun g => g < b) ya yn yc (c.kids.map (.int .i64)) rfl rfl hownA hslA oneC (by omega) (by omega) hszA ?_
      intro v5 w5 hown5 hg5 hat5
      have HB5 : Hid (Below (g1 + 1) W2 w5) := Lib.hid (below_grown HBQA.out hg5 hs2' (fun g e => (HOWA.out.lt g e).1))
      have k0 : w5.cell? ⟨g1, 0, none⟩ = some (.slice xa xn xc) := (World.cell?_of_block (HB5.out.block g1 (by omega))).trans q0
      have k3 : w5.cell? ⟨g1, 3, none⟩ = some (.slice ya yn yc) := (World.cell?_of_block (HB5.out.block g1 (by omega))).trans q3
      have HO5 := Lib.hid hown5
      clear hown5 hg5 hat5 hownA hslA hszA
      refine hK.out _ _ (by exact ⟨k0, k3⟩) (fun _ => ?_)
      clear hK K
      try simp only [Act.put, List.getElem_toArray, List.getElem_cons_succ, List.getElem_cons_zero, List.setIfInBounds_toArray, List.set_cons_zero, List.set_cons_succ]
      refine wpAnyH_ready (rs := [7]) (by kernel_rfl) (by simp) ?_
      refine AllReadyH.cons rfl (fun K hK => ?_) AllReadyH.nil
      go_simp
      refine hK.out _ _ (by exact ⟨cell_alloc _ k0, cell_alloc _ k3⟩) (fun _ => ?_)
      clear hK K
      try simp only [Act.put, List.getElem_toArray, List.getElem_cons_succ, List.getElem_cons_zero, List.setIfInBounds_toArray, List.set_cons_zero, List.set_cons_succ]
      refine wpAnyH_ready (rs := [8]) (by kernel_rfl) (by simp) ?_
      refine AllReadyH.cons rfl (fun K hK => ?_) AllReadyH.nil
      obtain ⟨W8, hW8⟩ : ∃ W, w5.alloc (.cells #[.int .i64 xn] 3) = W := ⟨_, rfl⟩
      have hb8 : Below w5.heap.size w5 W8 := by rw [← hW8]; exact (Below.refl _ _).alloc (Nat.le_refl _) _
      have hz8 : W8.cell? ⟨w5.heap.size, 0, none⟩ = some (.int .i64 xn) := by rw [← hW8, cell_of_row _ _ _ _ _ _ (new_at _ _)]; rfl
      have ho8 := own_below HO5.out hb8
      have HBQ8 : Hid (Below (g1 + 1) W2 W8) := Lib.hid (HB5.out.trans (hb8.mono (Nat.le_trans hs2' HB5.out.size)))
      have hbb : g1 + 1 ≤ W8.heap.size := Nat.le_trans hs2' HBQ8.out.size
      try rw [hW8]
      clear hW8 hb8
      have HO8 := Lib.hid ho8
      refine step_push1 rfl _ _ 43 rfl 3 (.int .i64 0) 8 Tryz.underlying43 HINI.out rfl (g1 + 1) v5 (4 + yn) _ w5.heap.size (.int .i64 xn) rfl rfl hz8 ho8 rfl (by omega) (by omega) hbb ?_
      intro g9 cap9 w9 hown9 hg9 hat9
      have HB9 : Hid (Below (g1 + 1) W2 w9) := Lib.hid (below_grown HBQ8.out hg9 hs2' (fun g e => (HO8.out.lt g e).1))
      have k0 : w9.cell? ⟨g1, 0, none⟩ = some (.slice xa xn xc) := (World.cell?_of_block (HB9.out.block g1 (by omega))).trans q0
      have k3 : w9.cell? ⟨g1, 3, none⟩ = some (.slice ya yn yc) := (World.cell?_of_block (HB9.out.block g1 (by omega))).trans q3
      have HO9 := Lib.hid hown9
      clear hown9 hg9 hat9 ho8 hz8
      refine hK.out _ _ (by exact ⟨k0, k3⟩) (fun _ => ?_)
      clear hK K
      try simp only [Act.put, List.getElem_toArray, List.getElem_cons_succ, List.getElem_cons_zero, List.setIfInBounds_toArray, List.set_cons_zero, List.set_cons_succ]
      refine wpAnyH_take (i := 9) (v := ?_) rfl (by kernel_rfl) (by kernel_rfl) (by kernel_rfl) (fun _ _ _ h => h) (Or.inl ⟨by rfl, ?_⟩) (by assumption) ?_
      rotate_left
      · intro w hSw
        try dsimp only at hSw
        go_simp
        try with_reducible rfl
      try simp only [Act.put, List.getElem_toArray, List.getElem_cons_succ, List.getElem_cons_zero, List.setIfInBounds_toArray, List.set_cons_zero, List.set_cons_succ]
      refine wpAnyH_done (by kernel_rfl) ?_ _
      have HM0 : Hid (w9.ownsRow (g1 + 1) 3 1 (.slice (some ⟨g9, 0, none⟩) (4 + yn + 1) cap9) (4 + yn + 1) ((c.rule :: c.lit :: c.count :: (c.kids.length : Int) :: (c.kids ++ (c.cls.length : Int) :: flatM (c.cls.take 0))).map (.int .i64))) := Lib.hid (by
        have h := HO9.out
        rw [← HXN.out, ← HYN.out]
        simpa [flatM] using h)
      clear HO9
      go_wp2_with fail
      go_meet
      exact ⟨g9, cap9, rfl, HB9, HM0⟩
    · have hz4 : (W4.drew.alloc (.cells #[.int .i64 xn] 3)).cell? ⟨W4.drew.heap.size, 0, none⟩ = some (.int .i64 xn) := by rw [cell_of_row _ _ _ _ _ _ (new_at _ _)]; rfl
      go_simp
      refine hK.out _ _ (by exact ⟨cell_alloc _ k0, cell_alloc _ k3⟩) (fun _ => ?_)
      clear hK K
      try simp only [Act.put, List.getElem_toArray, List.getElem_cons_succ, List.getElem_cons_zero, List.setIfInBounds_toArray, List.set_cons_zero, List.set_cons_succ]
      refine wpAnyH_ready (rs := [3]) (by kernel_rfl) (by simp) ?_
      refine AllReadyH.cons rfl (fun K hK => ?_) AllReadyH.nil
      have hownA : (W4.drew.alloc (.cells #[.int .i64 xn] 3)).ownsRow (g1 + 1) 3 1 (.slice (some ⟨g1 + 1, 0, none⟩) 4 4) 4 [.int .i64 c.rule, .int .i64 c.lit, .int .i64 c.count, .int .i64 yn] := HO4.out.alloc _
      have hslA : Sl1 (fun g => g < b) (W4.drew.alloc (.cells #[.int .i64 xn] 3)) (.slice ya yn yc) (c.kids.map (.int .i64)) := HXK.out.1.below ((Below.refl _ _).drew.alloc (Nat.le_refl _) _)
      have hszA : g1 + 1 ≤ ((W4.drew.alloc (.cells #[.int .i64 xn] 3))).heap.size := (by have := hs4; simp; omega)
      have HBQA : Hid (Below (g1 + 1) W2 ((W4.drew.alloc (.cells #[.int .i64 xn] 3)))) := Lib.hid (HBQ.out.drew.alloc (by have := hs4; simpa using this) _)
      have HOWA := Lib.hid hownA
      refine step_pushAll rfl _ _ 43 rfl 3 (.int .i64 0) 8 Tryz.underlying43 HINI.out rfl (g1 + 1) (.slice (some ⟨g1 + 1, 0, none⟩) 4 4) 4 _ (fun g => g < b) ya yn yc (c.kids.map (.int .i64)) rfl rfl hownA hslA oneC (by omega) (by omega) hszA ?_
      intro v5 w5 hown5 hg5 hat5
      have HB5 : Hid (Below (g1 + 1) W2 w5) := Lib.hid (below_grown HBQA.out hg5 hs2' (fun g e => (HOWA.out.lt g e).1))
      have k0 : w5.cell? ⟨g1, 0, none⟩ = some (.slice xa xn xc) := (World.cell?_of_block (HB5.out.block g1 (by omega))).trans q0
      have k3 : w5.cell? ⟨g1, 3, none⟩ = some (.slice ya yn yc) := (World.cell?_of_block (HB5.out.block g1 (by omega))).trans q3
      have HO5 := Lib.hid hown5
      have hz5 : w5.cell? ⟨W4.drew.heap.size, 0, none⟩ = some (.int .i64 xn) := (World.cell?_of_block (hg5.block _ (by simp) (fun e => by injection e with e; have h9 := (HO4.out.lt (g1 + 1) rfl).2; simp only [World.size_drew] at e; omega))).trans hz4
      clear hz4
      clear hown5 hg5 hat5 hownA hslA hszA
      refine hK.out _ _ (by exact ⟨k0, k3⟩) (fun _ => ?_)
      clear hK K
      try simp only [Act.put, List.getElem_toArray, List.getElem_cons_succ, List.getElem_cons_zero, List.setIfInBounds_toArray, List.set_cons_zero, List.set_cons_succ]
      refine wpAnyH_ready (rs := [8]) (by kernel_rfl) (by simp) ?_
      refine AllReadyH.cons rfl (fun K hK => ?_) AllReadyH.nil
      have hz8 := hz5
      have ho8 := HO5.out
      have HBQ8 := HB5
      have hbb : g1 + 1 ≤ w5.heap.size := Nat.le_trans hs2' HB5.out.size
      have HO8 := Lib.hid ho8
      refine step_push1 rfl _ _ 43 rfl 3 (.int .i64 0) 8 Tryz.underlying43 HINI.out rfl (g1 + 1) v5 (4 + yn) _ W4.drew.heap.size (.int .i64 xn) rfl rfl hz8 ho8 rfl (by omega) (by omega) hbb ?_
      intro g9 cap9 w9 hown9 hg9 hat9
      have HB9 : Hid (Below (g1 + 1) W2 w9) := Lib.hid (below_grown HBQ8.out hg9 hs2' (fun g e => (HO8.out.lt g e).1))
      have k0 : w9.cell? ⟨g1, 0, none⟩ = some (.slice xa xn xc) := (World.cell?_of_block (HB9.out.block g1 (by omega))).trans q0
      have k3 : w9.cell? ⟨g1, 3, none⟩ = some (.slice ya yn yc) := (World.cell?_of_block (HB9.out.block g1 (by omega))).trans q3
      have HO9 := Lib.hid hown9
      clear hown9 hg9 hat9 ho8 hz8
      refine hK.out _ _ (by exact ⟨k0, k3⟩) (fun _ => ?_)
      clear hK K
      try simp only [Act.put, List.getElem_toArray, List.getElem_cons_succ, List.getElem_cons_zero, List.setIfInBounds_toArray, List.set_cons_zero, List.set_cons_succ]
      refine wpAnyH_take (i := 9) (v := ?_) rfl (by kernel_rfl) (by kernel_rfl) (by kernel_rfl) (fun _ _ _ h => h) (Or.inl ⟨by rfl, ?_⟩) (by assumption) ?_
      rotate_left
      · intro w hSw
        try dsimp only at hSw
        go_simp
        try with_reducible rfl
      try simp only [Act.put, List.getElem_toArray, List.getElem_cons_succ, List.getElem_cons_zero, List.setIfInBounds_toArray, List.set_cons_zero, List.set_cons_succ]
      refine wpAnyH_done (by kernel_rfl) ?_ _
      have HM0 : Hid (w9.ownsRow (g1 + 1) 3 1 (.slice (some ⟨g9, 0, none⟩) (4 + yn + 1) cap9) (4 + yn + 1) ((c.rule :: c.lit :: c.count :: (c.kids.length : Int) :: (c.kids ++ (c.cls.length : Int) :: flatM (c.cls.take 0))).map (.int .i64))) := Lib.hid (by
        have h := HO9.out
        rw [← HXN.out, ← HYN.out]
        simpa [flatM] using h)
      clear HO9
      go_wp2_with fail
      go_meet
      exact ⟨g9, cap9, rfl, HB9, HM0⟩
  case rest =>
  obtain ⟨g9, cap9, rfl, HB7, HM0⟩ := hcut
  have HSW : Hid (g1 ≤ W2.heap.size ∧ W2.heap.size = g1 + 1) := Lib.hid (by have := HS2.out; omega)
  have HBW : Hid (Below wr.heap.size wr wc) := Lib.hid (HB2w.out.trans (HB7.out.mono (by rw [HG1.out]; omega)))
  have HN0 : Hid (4 + yn + 1 = 5 + yn + (flatM (c.cls.take 0)).length) := Lib.hid (by simp [flatM]; omega)
  obtain ⟨WR, hWR⟩ : ∃ W, W = wr := ⟨_, rfl⟩
  subst hWR
  obtain ⟨GK, hGK⟩ : ∃ G, G = gk := ⟨_, rfl⟩
  subst hGK
  have p0 : wc.cell? ⟨g1, 0, none⟩ = some (.slice xa xn xc) := (World.cell?_of_block (HB7.out.block g1 (by omega))).trans q0
  clear HO4
  go_wp2_with fail
  go_loopg [9, 65] xn (fun gg u9 u65 wx => ∃ (i : Nat) (la : Option Addr) (ln lc : Nat), i + gg = xn ∧ u65 = .int .i64 i ∧ u9 = .slice la ln lc ∧ Hid (ln = 5 + yn + (flatM (c.cls.take i)).length) ∧ Hid (Below (g1 + 1) W2 wx) ∧ Hid (wx.ownsRow (g1 + 1) 3 1 (.slice la ln lc) ln ((c.rule :: c.lit :: c.count :: (c.kids.length : Int) :: (c.kids ++ (c.cls.length : Int) :: flatM (c.cls.take i))).map (.int .i64))))
  case atStart => exact ⟨0, _, _, cap9, by omega, rfl, rfl, HN0, HB7, HM0⟩
  case round =>
  clear HN0 HB7 HM0
  obtain ⟨i, la, ln, lc, hig, rfl, rfl, HLNN, HBM, HM⟩ := hrel
  have hlc : (lineM c).length = 5 + yn + (flatM c.cls).length := by have h2 := HYN.out; unfold lineM; simp; omega
  have hlc2 := HLN.out
  by_cases hi : i < xn
  case pos =>
    obtain ⟨x, hxi⟩ : ∃ x, c.cls[i]? = some x := ⟨_, List.getElem?_eq_getElem (by rw [← HXN.out]; exact hi)⟩
    obtain ⟨zb, zo, uv, rfl, _, hzb, hcz, hzi⟩ := (Clss.below HXC.out (by rw [HS2.out]; exact HBM.out)).at hxi
    obtain ⟨ua, un, uc, rfl, HUN, hun⟩ := hzi.form'
    have hdi : decide ((i : Int) < xn) = true := by simp; omega
    have hdi' : decide (i < xn) = true := decide_eq_true hi
    have hfl := flat_le hxi
    have hln : ln + un + 1 ≤ 100000 := by have h1 := HLNN.out; have h2 := HUN.out; omega
    have HFS := Lib.hid (flat_snoc hxi)
    have hrow := HM.out
    have hsx := hzi.1
    have hsw : g1 + 1 ≤ wr.heap.size := by have h1 := HBM.out.size; omega
    clear hxi hzi hfl
    go_wp2_with (at_builtin; go_loud (refine wpList_pushAll rfl _ _ 43 rfl 3 (.int .i64 0) 8 Tryz.underlying43 HINI.out rfl (g1 + 1) (.slice la ln lc) ln _ wr (fun g => g < b) ua un uc (x.map (.int .i64)) rfl rfl hrow hsx oneC (by omega) (by omega) hsw ?_); intro v5 w5 hown5 hg5 hat5; go_loud (have HB5 : Hid (Below (g1 + 1) W2 w5) := Lib.hid (below_grown HBM.out hg5 hs2' (fun g e => (HM.out.lt g e).1))); go_loud (have hs5 : g1 + 1 ≤ w5.heap.size := Nat.le_trans hs2' HB5.out.size); have HO5 := Lib.hid hown5; clear hown5 hg5 hat5; refine Hid.out ?_)
    refine Lib.hid ?_
    have hown6 := HO5.out
    have HPD : Hid (∀ (w7 : World), w5.grownBy w7 v5.ownBlock → Below (g1 + 1) W2 w7) := Lib.hid fun w7 hg7 => below_grown HB5.out hg7 hs2' (fun g e => (HO5.out.lt g e).1)
    go_wp2_with (at_builtin; go_loud (refine wpList_push1 rfl _ _ 43 rfl 3 (.int .i64 0) 8 Tryz.underlying43 HINI.out rfl (g1 + 1) v5 (ln + un) _ w5 (.int .i64 0) rfl rfl hown6 rfl (by omega) (by omega) hs5 ?_); intro g7 cap7 w7 hown7 hg7 hs7 hgb hgl7 hat; have HB7 := Lib.hid (HPD.out w7 hg7); have HO7 := Lib.hid hown7; clear hown7 hg7 hat hgb hgl7 hs7; refine Hid.out ?_)
    refine Lib.hid ?_
    have HMN : Hid (w7.ownsRow (g1 + 1) 3 1 (.slice (some ⟨g7, 0, none⟩) (ln + un + 1) cap7) (ln + un + 1) ((c.rule :: c.lit :: c.count :: (c.kids.length : Int) :: (c.kids ++ (c.cls.length : Int) :: flatM (c.cls.take (i + 1)))).map (.int .i64))) := Lib.hid (by
      have h := HO7.out
      rw [HFS.out]
      simpa using h)
    have HNN : Hid (ln + un + 1 = 5 + yn + (flatM (c.cls.take (i + 1))).length) := Lib.hid (by have h1 := HLNN.out; have h2 := HUN.out; rw [HFS.out, List.length_append, List.length_append]; simp only [List.length_cons, List.length_nil]; omega)
    clear HO7 HO5 HM hown6 hrow hsx HPD
    go_wp2_with fail
    go_roundg (gk - 1)
    case measure => omega
    case rel => exact ⟨i + 1, _, _, cap7, by omega, by go_num, rfl, HNN, HB7, HMN⟩
  have hdi : decide ((i : Int) < xn) = false := by simp; omega
  have hdi' : decide (i < xn) = false := decide_eq_false hi
  have hrow : wr.ownsRow (g1 + 1) 3 1 (.slice la ln lc) ln ((lineM c).map (.int .i64)) := by
    have h := HM.out
    rw [List.take_of_length_le (by rw [← HXN.out]; omega)] at h
    exact h
  have hll : ln = (lineM c).length := by
    have h := HLNN.out
    rw [List.take_of_length_le (by rw [← HXN.out]; omega)] at h
    omega
  have HOWN := Lib.hid hrow
  have HLL := Lib.hid hll
  have hln4 : ln ≤ 100000 := by omega
  have HPP2 : Hid ((preT ts m).length + (lineT (lineM c)).length + 1 ≤ 4000000) := Lib.hid (Nat.le_trans HPL.out HTL.out)
  obtain ⟨WM, hWM⟩ : ∃ W, W = wr := ⟨_, rfl⟩
  subst hWM
  have hBWM : Below WR.heap.size WR WM := HB2w.out.trans (HBM.out.mono (by rw [HG1.out]; omega))
  have HBM3 : Hid (Below b W3 WM) := Lib.hid (HB.out.trans (hBWM.mono (by have := HS3.out; omega)))
  have HBU0 : Hid (Lib.IsBuilder 53 5 b b (Lib.byteCells (preT ts m ++ lineT ((lineM c).take 0))) WM) := Lib.hid (by
    have h := bld_below HBU.out hBWM
    simpa [lineT] using h)
  have HKE0 : Hid (Lib.OthersKept 5 (some b) WM WM) := Lib.hid (Lib.OthersKept.refl _ _ _)
  clear hrow hll HM HLNN hlc hlc2 hBWM HBU
  go_wp2_with fail
  go_loopg [77] ln (fun gg u77 wx => ∃ (j : Nat), j + gg = ln ∧ u77 = .int .i64 j ∧ Hid (Lib.IsBuilder 53 5 b b (Lib.byteCells (preT ts m ++ lineT ((lineM c).take j))) wx) ∧ Hid (Below b W3 wx) ∧ Hid (Lib.OthersKept 5 (some b) WM wx))
  case atStart => exact ⟨0, by omega, rfl, HBU0, HBM3, HKE0⟩
  case round =>
  clear HBU0 HBM3 HKE0
  obtain ⟨j, hjg, rfl, HBU, HBJ, HKE⟩ := hrel
  have hwj := HBJ.out.size
  by_cases hj : j < ln
  case neg =>
    have hdj : decide ((j : Int) < ln) = false := by simp; omega
    have hdj' : decide (j < ln) = false := decide_eq_false hj
    have HWR := Lib.hid (bwrite_l b b _ [10] ⟨#[10]⟩ wr rfl HBU.out (by
      have h1 := line_take (lineM c) j
      have h2 := HPP2.out
      rw [List.length_append, List.length_singleton]
      omega) (by have := HS3.out; omega))
    have HEQ : Hid (preT ts m ++ lineT ((lineM c).take j) ++ [10] = preT ts (m + 1)) := Lib.hid (by
      rw [HPS.out, List.take_of_length_le (by rw [← HLL.out]; omega)]
      simp)
    rw [HEQ.out] at HWR
    clear HBU
    go_wp2_with fail
    refine HWR.out.mono ?_
    rintro e w6 ⟨rfl, hbu, hb6⟩
    have HBU6 := Lib.hid hbu
    have HB6 := Lib.hid (HBJ.out.trans hb6)
    have HLE := Lib.hid (Any.Builder_Len bLen b b _ w6 hbu)
    have hlen : (Lib.byteCells (preT ts (m + 1))).length ≤ 4000000 := by
      have h2 := HPP2.out
      rw [Lib.byteCells_length, HPS.out, List.length_append, List.length_append, List.length_singleton]
      omega
    obtain ⟨NL, hNL⟩ : ∃ n, (Lib.byteCells (preT ts (m + 1))).length = n := ⟨_, rfl⟩
    rw [hNL] at HLE hlen
    have hdN : decide (4194304 < (NL : Int)) = false := decide_eq_false (by omega)
    have hdN' : decide (4194304 < NL) = false := decide_eq_false (by omega)
    clear hbu hb6 HWR HB HBJ hNL HKE
    go_wp2_with fail
    refine HLE.out.mono ?_
    rintro e w7 ⟨rfl, hww⟩
    subst hww
    clear HLE
    go_wp2_with fail
    go_roundg (GK - 1)
    case measure => omega
    case rel => exact ⟨m + 1, by omega, by go_num, HBU6, HB6⟩
  obtain ⟨x, hxj⟩ : ∃ x, (lineM c)[j]? = some x := ⟨_, List.getElem?_eq_getElem (by rw [← HLL.out]; exact hj)⟩
  have hsl : Sl1 (fun g => g1 + 1 ≤ g ∧ (Value.slice la ln lc).ownBlock = some g) wr (.slice la ln lc) ((lineM c).map (.int .i64)) :=
    (ownsRow_sl1 HOWN.out (by omega)).move fun g hg hlt => own_kept HOWN.out HKE.out (fun g' hg' => by have := (HOWN.out.lt g' hg').1; omega) g hg.2
  obtain ⟨lb, lo, rfl, _, hlb, hlcell⟩ := hsl.at (k := j) (u := .int .i64 x) (by simp [hxj])
  have hx64 : I64 x := HI64.out x (List.mem_of_getElem? hxj)
  have hdj : decide ((j : Int) < ln) = true := by simp; omega
  have hdj' : decide (j < ln) = true := decide_eq_true hj
  have HLS2 := Lib.hid (line_snoc hxj)
  have HLT2 : Hid ((preT ts m ++ lineT ((lineM c).take (j + 1))).length ≤ 4000000) := Lib.hid (by
    have h1 := line_take (lineM c) (j + 1)
    have h2 := HPP2.out
    rw [List.length_append]
    omega)
  have hTB : TabT B0 wr := HT3.out.on (HBJ.out.mono hB0b)
  have HNX : Hid (∀ W, Below B0 wr W → Calls Tryz.prog 20 #[.int .i64 x] W (TxPost W (itoa x))) := Lib.hid fun W hW => itoa_any B0 x W hx64 (hTB.on hW)
  have hbw : b ≤ wr.heap.size := by have := HS3.out; omega
  clear hxj hx64 hsl hTB
  by_cases hj0 : j = 0
  · subst hj0
    have hd0 : decide ((0 : Int) < ((0 : Nat) : Int)) = false := by simp
    have hlcell2 := hlcell
    simp only [Nat.add_zero] at hlcell2
    go_wp2_with fail
    refine (HNX.out _ (Below.refl _ _)).mono ?_
    rintro e w6 ⟨D, rfl, HDE, hb6⟩
    have HWR := Lib.hid (bwritek_l b b _ _ _ w6 HDE.out (bld_below HBU.out hb6) (by
      have h1 := HLT2.out
      rw [HLS2.out, if_pos trivial] at h1
      simp only [List.length_append, List.length_nil] at h1 ⊢
      omega) (by have := hb6.size; omega))
    have HEQ : Hid (preT ts m ++ lineT ((lineM c).take 0) ++ itoa x = preT ts m ++ lineT ((lineM c).take (0 + 1))) := Lib.hid (by
      rw [HLS2.out, if_pos trivial]
      simp)
    rw [HEQ.out] at HWR
    have HB6 := Lib.hid (HBJ.out.trans (hb6.mono hbw))
    have HKE6 : Hid (Lib.OthersKept 5 (some b) WM w6) := Lib.hid (HKE.out.trans (fun k o hk _ _ => (hb6.block k (Array.getElem?_eq_some_iff.1 hk).1).trans hk))
    clear HBU hb6 HDE HKE HBJ
    go_wp2_with fail
    refine HWR.out.mono ?_
    rintro e w7 ⟨rfl, hbu, hb7, hk7⟩
    have HBU7 := Lib.hid hbu
    have HB7 := Lib.hid (HB6.out.trans hb7)
    have HKE7 := Lib.hid (HKE6.out.trans hk7)
    clear hbu hb7 HWR HB6 hk7 HKE6
    go_wp2_with fail
    go_roundg (gk - 1)
    case measure => omega
    case rel => exact ⟨0 + 1, by omega, by go_num, HBU7, HB7, HKE7⟩
  · have hd0 : decide ((0 : Int) < (j : Int)) = true := decide_eq_true (by omega)
    have hd0' : decide (0 < j) = true := decide_eq_true (by omega)
    have HWS := Lib.hid (bwritek_l b b _ [32] ⟨#[32]⟩ wr rfl HBU.out (by
      have h1 := HLT2.out
      rw [HLS2.out, if_neg hj0] at h1
      simp only [List.length_append, List.length_singleton] at h1 ⊢
      omega) hbw)
    have HJN := Lib.hid hj0
    clear hj0
    go_wp2_with fail
    refine HWS.out.mono ?_
    rintro e w5 ⟨rfl, hbu5, hb5, hk5⟩
    have hlcell5 : w5.cell? ⟨lb, lo + j, none⟩ = some (.int .i64 x) := by
      have hmv := own_kept HOWN.out (HKE.out.trans hk5) (fun g' hg' => by have := (HOWN.out.lt g' hg').1; omega) lb rfl
      have hmv2 := own_kept HOWN.out HKE.out (fun g' hg' => by have := (HOWN.out.lt g' hg').1; omega) lb rfl
      exact (World.cell?_of_block (hmv.trans hmv2.symm)).trans hlcell
    have HBU5 := Lib.hid hbu5
    have HB5 := Lib.hid (HBJ.out.trans hb5)
    have HKE5 := Lib.hid (HKE.out.trans hk5)
    have hz5 := hb5.size
    have HI5 := Lib.hid (HNX.out w5 (hb5.mono hB0b))
    clear hbu5 hb5 hk5 HWS HBU HBJ HKE
    go_wp2_with fail
    refine HI5.out.mono ?_
    rintro e w6 ⟨D, rfl, HDE, hb6⟩
    have HWR := Lib.hid (bwritek_l b b _ _ _ w6 HDE.out (bld_below HBU5.out hb6) (by
      have h1 := HLT2.out
      rw [HLS2.out, if_neg HJN.out] at h1
      simp only [List.length_append, List.length_singleton] at h1 ⊢
      omega) (by have := hb6.size; omega))
    have HEQ : Hid (preT ts m ++ lineT ((lineM c).take j) ++ [32] ++ itoa x = preT ts m ++ lineT ((lineM c).take (j + 1))) := Lib.hid (by
      rw [HLS2.out, if_neg HJN.out]
      simp)
    rw [HEQ.out] at HWR
    have HB6 := Lib.hid (HB5.out.trans (hb6.mono (by omega)))
    have HKE6 : Hid (Lib.OthersKept 5 (some b) WM w6) := Lib.hid (HKE5.out.trans (fun k o hk _ _ => (hb6.block k (Array.getElem?_eq_some_iff.1 hk).1).trans hk))
    clear HBU5 hb6 HDE HKE5 HB5
    go_wp2_with fail
    refine HWR.out.mono ?_
    rintro e w7 ⟨rfl, hbu, hb7, hk7⟩
    have HBU7 := Lib.hid hbu
    have HB7 := Lib.hid (HB6.out.trans hb7)
    have HKE7 := Lib.hid (HKE6.out.trans hk7)
    clear hbu hb7 HWR HB6 hk7 HKE6
    go_wp2_with fail
    go_roundg (gk - 1)
    case measure => omega
    case rel => exact ⟨j + 1, by omega, by go_num, HBU7, HB7, HKE7⟩
end Go.Proofs.YtljaegmmfjllkaaGreatDoor
