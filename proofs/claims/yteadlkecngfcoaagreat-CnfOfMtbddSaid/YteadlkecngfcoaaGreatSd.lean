/- The data of layer 31 as plain Lean, and what the walked functions compute. No program in sight. -/
import Derived.Test.YteadlkecngfcoaaGreatBase
import Derived.WalkSpells
import Derived.Test.YteadlkecngfcoaaGreatChecked
import Derived.Deep.DeepCutAuto
import Derived.Deep.LoopGhost
namespace Go.Proofs.YteadlkecngfcoaaGreat
open Go.RowKit

/-- a slice of clauses -/
abbrev Clss (F : Nat → Prop) (w : World) (v : Value) (cs : List (List Int)) : Prop := Rows1 Ints F w v cs
theorem Clss.below {F : Nat → Prop} {w w' : World} {v : Value} {cs : List (List Int)} (h : Clss F w v cs) (hb : Below w.heap.size w w') : Clss F w' v cs :=
  h.move (fun _ _ _ _ _ h hm => h.move hm) fun b _ hlt => hb.block b hlt
theorem Clss.form' {F : Nat → Prop} {w : World} {v : Value} {cs : List (List Int)} (h : Clss F w v cs) : ∃ a n cap, v = .slice a n cap ∧ Hid (n = cs.length) ∧ n ≤ 9223372036854775807 := by
  obtain ⟨a, cap, h1, h2⟩ := h.form
  exact ⟨a, _, cap, h1, rfl, h2⟩
/-- the rest of a list from k on, where k is within it -/
theorem drop_at {α : Type} {xs : List α} {k : Nat} (h : k < xs.length) : ∃ x, xs[k]? = some x ∧ xs.drop k = x :: xs.drop (k + 1) :=
  ⟨xs[k], List.getElem?_eq_getElem h, List.drop_eq_getElem_cons h⟩

/-- literal -/
def litB (vars n : Int) : Bool := decide (n ≠ 0) && decide (-vars ≤ n) && decide (n ≤ vars)
/-- variable -/
def varM (n : Int) : Int := if n < 0 then -n else n
/-- short -/
def shortM (cs : List (List Int)) (most : Int) : Bool := cs.all fun x => decide ((x.length : Int) ≤ most + 2)
/-- few -/
def fewM (vars : Int) (cs : List (List Int)) (v n : Int) : Bool := decide (vars ≤ v) && decide ((cs.length : Int) ≤ n) && shortM cs v

/- Append laws of this seat (cut from the Ddnnf seat's XB2: no parts). No condition. -/
open Go.RowKit

theorem add_at {b off : Nat} {n : Nat} : (⟨b, off, none⟩ : Addr).add n = ⟨b, off + n, none⟩ := by
  unfold Addr.add; split <;> simp_all
theorem sl1_cells {F : Nat → Prop} {w : World} {ad : Addr} {n c : Nat} {us : List Value} (h : Sl1 F w (.slice (some ad) n c) us) : ∀ j u, us[j]? = some u → w.cell? (ad.add j) = some u := by
  intro j u hu
  obtain ⟨b, off, he, _, _, hc⟩ := h.at hu
  injection he with he
  subst he
  rw [add_at]; exact hc

theorem own_new {base : Nat} {w : World} (cs : Array Value) (e : TypeId) (hb : base ≤ w.heap.size) (hm : cs.size ≤ 9223372036854775807) :
    (w.alloc (.cells cs e)).ownsRow base e 1 (.slice (some ⟨w.heap.size, 0, none⟩) cs.size cs.size) cs.size cs.toList := by
  refine ⟨by simp, .inr ⟨w.heap.size, cs.size, cs, rfl, hb, new_at _ _, Nat.le_refl _, by unfold maxLen; omega, by simp, by rw [Nat.mul_one, ← Array.length_toList, List.take_length]⟩⟩

section push
variable {P : Program} {ops : Array Oper} {rest : List Oper} {o : Oper} {a : Act} {Q : Exit → Act → World → Prop}

/-- append of a whole slice of one-cell elements onto a slice that the call owns -/
theorem wpList_pushAll (hgd : o.guard = none) (s x : Operand) (t : TypeId)
    (ho : o.op = .call { callee := .builtin .append, args := #[s, x], argTypes := #[t, t] })
    (E : TypeId) (z : Value) (bytes : Nat) (ht : P.underlying t = some (.slice E)) (hinfo : (P.info? E).map (fun i => (i.zero, i.size, i.bytes)) = some (some z, 1, bytes)) (hz1 : z.cells.size = 1)
    (base : Nat) (v : Value) (n : Nat) (xs : List Value) (w : World) (F : Nat → Prop) (A : Option Addr) (m c : Nat) (us : List Value)
    (hs : a.eval s = v) (hx : a.eval x = .slice A m c) (hown : w.ownsRow base E 1 v n xs) (hr : Sl1 F w (.slice A m c) us) (hu : ∀ u ∈ us, u.oneCell' = true)
    (hm : n + m ≤ 9223372036854775807) (hn : (n + m) * bytes ≤ 140737488355328) (hbase : base ≤ w.heap.size)
    (h : ∀ v' w', w'.ownsRow base E 1 v' (n + m) (xs ++ us) → w.grownBy w' v.ownBlock → (v'.ownBlock = v.ownBlock ∨ v'.ownBlock = some w.heap.size) → wpList P ops Q rest (a.put o.dst v') w') :
    wpList P ops Q (o :: rest) a w := by
  obtain ⟨i, hi, hz, h1, h2⟩ := info_parts hinfo
  have hl : m = us.length := hr.len.1
  rcases A with _ | ad
  · have h0 : us = [] := by
      rcases us with _ | ⟨u, r⟩
      · rfl
      · obtain ⟨_, _, he, _⟩ := hr.at (k := 0) (u := u) rfl
        cases he
    subst h0
    have hm0 : m = 0 := by simpa using hl
    subst hm0
    refine wpList_plain hgd fun K hK => ?_
    have hrun : (Builtin.append_ #[t, t] o.type #[v, .slice none 0 c]).run P w = .ok v w := by
      rcases hown.2 with ⟨rfl, rfl⟩ | ⟨g, cap, cur, rfl, _, _, hnc, _⟩
      · simp [Builtin.append_, run_underlying ht, sizeOf, typeInfo, hi, Builtin.lenOf, Builtin.firstCells]
      · simp [Builtin.append_, run_underlying ht, sizeOf, typeInfo, hi, Builtin.lenOf, Builtin.firstCells, hnc, storeCells]
    unfold Oper.wp execOp
    simp only [ho, resolve, invoke, builtin, Sem.run_bind, Sem.run_pure, Result.andThen_ok, List.map_toArray, List.map_cons, List.map_nil, hs, hx, hrun]
    exact hK _ _ (h v w (by simpa using hown) (World.grownBy.refl w _) (.inl rfl))
  · exact wpList_append_own_at w hgd s x t ho base E i z 1 bytes ht hi hz h1 h2 hz1 (by decide) v n xs hs hown ad m c us hx (by omega) (sl1_cells hr) hu (by unfold maxLen; omega) hn hbase fun v' w' h3 h4 _ h6 => h v' w' h3 h4 h6

/-- append of one element of three cells, which has just been laid in a block of its own -/
theorem wpList_push3 (hgd : o.guard = none) (s x : Operand) (t : TypeId)
    (ho : o.op = .call { callee := .builtin .append, args := #[s, x], argTypes := #[t, t] })
    (E : TypeId) (z : Value) (bytes : Nat) (ht : P.underlying t = some (.slice E)) (hinfo : (P.info? E).map (fun i => (i.zero, i.size, i.bytes)) = some (some z, 3, bytes)) (hz1 : z.cells.size = 3)
    (base : Nat) (v : Value) (n : Nat) (xs : List Value) (w0 : World) (u0 u1 u2 : Value)
    (hs : a.eval s = v) (hx : a.eval x = .slice (some ⟨w0.heap.size, 0, none⟩) 1 1) (hown : w0.ownsRow base E 3 v n xs) (hu0 : u0.oneCell' = true) (hu1 : u1.oneCell' = true) (hu2 : u2.oneCell' = true)
    (hn : (n + 1) * bytes ≤ 140737488355328) (hby : 1 ≤ bytes) (hbase : base ≤ w0.heap.size)
    (h : ∀ (g cap' : Nat) w', w'.ownsRow base E 3 (.slice (some ⟨g, 0, none⟩) (n + 1) cap') (n + 1) (xs ++ [u0, u1, u2]) → w0.grownBy w' v.ownBlock → w0.heap.size < w'.heap.size → base ≤ g → g < w'.heap.size → (v.ownBlock = some g ∨ w0.heap.size ≤ g) → wpList P ops Q rest (a.put o.dst (.slice (some ⟨g, 0, none⟩) (n + 1) cap')) w') :
    wpList P ops Q (o :: rest) a (w0.alloc (.cells #[u0, u1, u2] E)) := by
  obtain ⟨i, hi, hz, h1, h2⟩ := info_parts hinfo
  have hle : n + 1 ≤ (n + 1) * bytes := Nat.le_mul_of_pos_right _ hby
  refine wpList_append_own_at _ hgd s x t ho base E i z 3 bytes ht hi hz h1 h2 hz1 (by decide) v n xs hs (hown.alloc _) ⟨w0.heap.size, 0, none⟩ 1 1 [u0, u1, u2] hx rfl ?_ ?_ ?_ hn ?_ ?_
  · intro j y hj
    match j, hj with
    | 0, hj => simp at hj; subst hj; simp [Addr.add]
    | 1, hj => simp at hj; subst hj; simp [Addr.add]
    | 2, hj => simp at hj; subst hj; simp [Addr.add]
  · intro y hy; simp at hy; rcases hy with rfl | rfl | rfl <;> assumption
  · unfold maxLen; omega
  · simp; omega
  · intro v' w' hown' hg _ hat
    rcases hown'.2 with ⟨_, h0⟩ | ⟨g, cap', cur, rfl, hb, hh, _⟩
    · omega
    refine h g cap' w' hown' ⟨hg.os, hg.tape, hg.output, ?_, ?_⟩ ?_ hb (Array.getElem?_eq_some_iff.1 hh).1 ?_
    · have := hg.size; simp at this; omega
    · intro k hk hne
      rw [hg.block k (by simp; omega) hne]
      exact Below.heap_alloc w0 _ k hk
    · have := hg.size; simp at this; omega
    · rcases hat with h | h
      · exact .inl h.symm
      · right; simp [Value.ownBlock] at h; omega
end push
def IntsPost (W : World) (xs : List Int) (e : Ending) (w' : World) : Prop := ∃ v, e = .returned v ∧ Ints (fun b => W.heap.size ≤ b) w' v xs ∧ Below W.heap.size W w'
def BoolsPost (W : World) (xs : List Bool) (e : Ending) (w' : World) : Prop := ∃ v, e = .returned v ∧ Bools (fun b => W.heap.size ≤ b) w' v xs ∧ Below W.heap.size W w'

/- Walks: slices.Clone twice, cmp.Compare, newSearch. -/
open Go.ChangeShapes Go.WideShapes Go.ChangeAt Go.RowKit
set_option linter.unusedVariables false

set_option maxRecDepth 100000 in
set_option maxHeartbeats 1000000 in
theorem clone_any (F : Nat → Prop) (v : Value) (xs : List Int) (w : World) (hx : Ints F w v xs) (hl : xs.length ≤ 16777216) :
    Calls Tryz.prog 42 #[v] w (IntsPost w xs) := by
  obtain ⟨a, n, c, rfl, HN, hn⟩ := hx.form'
  have hu := Tryz.underlying22
  have hinfo : (Tryz.prog.info? 3).map (fun i => (i.zero, i.size, i.bytes)) = some (some (.int .i64 0), 1, 8) := by kernel_rfl
  have HI := Lib.hid hinfo
  have HX := Lib.hid hx
  have hnil := fun (w : World) => Lib.run_eql_slice_nil w 22 3 a n c 0 0 hu
  have hn2 : n ≤ 16777216 := by rw [HN.out]; exact hl
  clear hinfo hx
  rcases a with _ | ad
  · simp only [Option.isNone_none] at hnil
    go_enter Tryz.func42, Tryz.ntmps42
    go_wp2
    go_ret
    have h0 : xs = [] := by
      rcases xs with _ | ⟨u, r⟩
      · rfl
      · obtain ⟨_, _, he, _⟩ := HX.out.at (k := 0) (x := u) rfl
        cases he
    subst h0
    exact ⟨_, rfl, Ints.nil _ _, Below.refl _ _⟩
  · simp only [Option.isNone_some] at hnil
    have hown : (w.alloc (.cells #[] 3)).ownsRow w.heap.size 3 1 (.slice (some ⟨w.heap.size, 0, none⟩) 0 0) 0 [] := by
      simpa using own_new (base := w.heap.size) (w := w) #[] 3 (Nat.le_refl _) (by simp)
    have hb0 : Below w.heap.size w (w.alloc (.cells #[] 3)) := (Below.refl _ _).alloc (Nat.le_refl _) _
    have HS := Lib.hid (HX.out.below hb0).1
    have HB0 := Lib.hid hb0
    clear hb0
    go_enter Tryz.func42, Tryz.ntmps42
    go_wp2_with (at_builtin; go_loud (refine wpList_pushAll rfl _ _ 22 rfl 3 (.int .i64 0) 8 Tryz.underlying22 HI.out rfl w.heap.size (.slice (some ⟨w.heap.size, 0, none⟩) 0 0) 0 [] _ F (some ad) n c _ rfl rfl hown HS.out (ints_oneCell .i64 _) (by omega) (by omega) (by simp) ?_); intro v' w' hown' hg' _; have HO := Lib.hid hown'; have HG := Lib.hid hg'; clear hown' hg' hown)
    go_ret
    have ho := HO.out
    rw [List.nil_append, Nat.zero_add] at ho
    refine ⟨_, rfl, ⟨(ownsRow_sl1 ho hn).mono fun b hb => hb.1, HX.out.2⟩, HB0.out.grown HG.out (by simp) fun k hk => by simp [Value.ownBlock] at hk; omega⟩

theorem nan64_any (x : Int) (w : World) : Calls Tryz.prog 98 #[.int .u64 x] w fun e w' => e = .returned (.bool false) ∧ w' = w := by
  have h : (x != x) = false := by simp
  go_enter Tryz.func98, Tryz.ntmps98
  go_wp2
  go_ret
  exact ⟨rfl, rfl⟩
theorem nan_any (x : Int) (w : World) : Calls Tryz.prog 99 #[.int .i64 x] w fun e w' => e = .returned (.bool false) ∧ w' = w := by
  have h : (x != x) = false := by simp
  go_enter Tryz.func99, Tryz.ntmps99
  go_wp2
  go_ret
  exact ⟨rfl, rfl⟩
/-- cmp.Compare -/
def cmpM (x y : Int) : Int := if x < y then -1 else if y < x then 1 else 0
theorem compare_any (x y : Int) (w : World) : Calls Tryz.prog 73 #[.int .i64 x, .int .i64 y] w fun e w' => e = .returned (.int .i64 (cmpM x y)) ∧ w' = w := by
  rcases Int.lt_trichotomy x y with h | h | h
  · have hd : decide (x < y) = true := decide_eq_true h
    rw [show cmpM x y = -1 by unfold cmpM; rw [if_pos h]]
    go_enter Tryz.func73, Tryz.ntmps73
    go_wp2_with fail
    refine (nan_any _ _).mono ?_
    rintro e w1 ⟨rfl, rfl⟩
    go_wp2_with fail
    refine (nan_any _ _).mono ?_
    rintro e w2 ⟨rfl, rfl⟩
    go_wp2_with fail
    go_ret
    exact ⟨rfl, rfl⟩
  · subst h
    have hd : decide (x < x) = false := by simp
    rw [show cmpM x x = 0 by unfold cmpM; rw [if_neg (by omega), if_neg (by omega)]]
    go_enter Tryz.func73, Tryz.ntmps73
    go_wp2_with fail
    refine (nan_any _ _).mono ?_
    rintro e w1 ⟨rfl, rfl⟩
    go_wp2_with fail
    refine (nan_any _ _).mono ?_
    rintro e w2 ⟨rfl, rfl⟩
    go_wp2_with fail
    go_ret
    exact ⟨rfl, rfl⟩
  · have hd : decide (x < y) = false := decide_eq_false (by omega)
    have hd2 : decide (y < x) = true := decide_eq_true h
    rw [show cmpM x y = 1 by unfold cmpM; rw [if_neg (by omega), if_pos h]]
    go_enter Tryz.func73, Tryz.ntmps73
    go_wp2_with fail
    refine (nan_any _ _).mono ?_
    rintro e w1 ⟨rfl, rfl⟩
    go_wp2_with fail
    refine (nan_any _ _).mono ?_
    rintro e w2 ⟨rfl, rfl⟩
    go_wp2_with fail
    go_ret
    exact ⟨rfl, rfl⟩
end Go.Proofs.YteadlkecngfcoaaGreat
