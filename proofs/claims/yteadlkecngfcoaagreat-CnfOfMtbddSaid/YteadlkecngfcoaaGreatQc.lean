/- Walk: the inner function of bdd.lay. No condition but that its model ends, and sizes. -/
import Derived.Test.YteadlkecngfcoaaGreatQb
import Derived.Test.YteadlkecngfcoaaGreatSd
import Derived.Test.YteadlkecngfcoaaGreatKf
namespace Go.Proofs.YteadlkecngfcoaaGreat
open Go.ChangeShapes Go.WideShapes Go.ChangeAt Go.RowKit
set_option linter.unusedVariables false

/-- a reference's place in the order -/
def plc (o : List Int) (r : Int) : Int := if r < 2 then r else 2 + (o.idxOf r : Int)
/-- visit: the order, and the nodes laid out -/
def layGo (ns : List Fork) : Nat → List Int × List Fork → Int → Option (List Int × List Fork)
  | 0, _, _ => none
  | k + 1, s, r =>
    if r = 0 ∨ r = 1 ∨ r ∈ s.1 then some s
    else if r < 2 then none
    else match ns[(r - 2).toNat]? with
      | none => none
      | some f => match layGo ns k s f.2.1 with
        | none => none
        | some s1 => match layGo ns k s1 f.2.2 with
          | none => none
          | some s2 => if r ∈ s2.1 then none else some (s2.1 ++ [r], s2.2 ++ [(f.1, plc s1.1 f.2.1, plc s2.1 f.2.2)])
theorem layGo_len (ns : List Fork) : ∀ (k : Nat) (s s' : List Int × List Fork) (r : Int), layGo ns k s r = some s' → s.1.length ≤ s'.1.length ∧ (s.1.length = s.2.length → s'.1.length = s'.2.length)
  | 0, s, s', r, h => by cases h
  | k + 1, s, s', r, h => by
    rw [layGo] at h
    split at h
    · cases h; exact ⟨Nat.le_refl _, id⟩
    split at h
    · cases h
    split at h
    · cases h
    split at h
    · cases h
    rename_i h1
    split at h
    · cases h
    rename_i h2
    split at h
    · cases h
    cases h
    have a := layGo_len ns k _ _ _ h1
    have b := layGo_len ns k _ _ _ h2
    refine ⟨?_, fun e => ?_⟩
    · have := a.1; have := b.1; simp; omega
    · have := b.2 (a.2 e); simp; omega
theorem plc_old {o : List Int} {x r : Int} (h : x = 0 ∨ x = 1 ∨ x ∈ o) : plc (o ++ [r]) x = plc o x := by
  unfold plc
  split
  · rfl
  · rw [List.idxOf_append, if_pos]
    rcases h with h | h | h
    · omega
    · omega
    · exact h
theorem plc_new {o : List Int} {r : Int} (h : r ∉ o) (h2 : 2 ≤ r) : plc (o ++ [r]) r = 2 + (o.length : Int) := by
  unfold plc
  rw [if_neg (by omega), List.idxOf_append, if_neg h]
  simp

/-- the map of lay: what is placed, and where -/
def PlaceM (w : World) (mb : Nat) (o : List Int) : Prop :=
  ∃ D : DataW Unit, w.ownsMap Tryz.prog 3 (plainElem Tryz.prog 3) mb (o.length + 2) D ∧ Maps.IsMap D ∧
    ∀ x, I64 x → Maps.has D (.int .i64 x) = decide (x = 0 ∨ x = 1 ∨ x ∈ o) ∧ ((x = 0 ∨ x = 1 ∨ x ∈ o) → D.atKey (.int .i64 x) (.lit (.int .i64 0)) = .lit (.int .i64 (plc o x)))
section place
variable {w w' : World} {mb : Nat} {o : List Int}
theorem PlaceM.lt (h : PlaceM w mb o) : mb < w.heap.size := let ⟨_, h1, _⟩ := h; h1.lt
theorem PlaceM.grown {row : Option Nat} (h : PlaceM w mb o) (hg : w.grownBy w' row) (hne : some mb ≠ row) : PlaceM w' mb o := by
  obtain ⟨D, h1, h2⟩ := h
  exact ⟨D, h1.kept hg hne, h2⟩
theorem PlaceM.below (h : PlaceM w mb o) (hb : Below w.heap.size w w') : PlaceM w' mb o := h.grown (row := none) ⟨hb.os, hb.tape, hb.output, hb.size, fun i hi _ => hb.block i hi⟩ (by simp)
theorem PlaceM.ok {x : Int} (h : PlaceM w mb o) (hx : I64 x) : ∃ c, (Instr.lookup 102 (.map (some mb)) (.int .i64 x) true).run Tryz.prog w = .ok (.tuple #[.int .i64 c, .bool (decide (x = 0 ∨ x = 1 ∨ x ∈ o))]) w ∧ ((x = 0 ∨ x = 1 ∨ x ∈ o) → c = plc o x) := by
  obtain ⟨D, h1, h2, h3⟩ := h
  obtain ⟨v, ps, hrun, hv⟩ := h1.look_ok law_int Tryz.underlying102 (z := .int .i64 0) (by kernel_rfl) (plainElem_int Tryz.underlying3 (by decide)) (keyOf_i hx)
  obtain ⟨c, rfl, hc, _⟩ := plainElem_int_inv Tryz.underlying3 hv
  rw [(h3 x hx).1] at hrun
  refine ⟨c, hrun, fun hin => ?_⟩
  have h4 := (h3 x hx).2 hin
  have h5 := congrArg Prod.fst hc
  simp only at h5
  rw [h4] at h5
  simp at h5
  exact h5.symm
theorem PlaceM.look {x : Int} (h : PlaceM w mb o) (hx : I64 x) (hin : x = 0 ∨ x = 1 ∨ x ∈ o) : (Instr.lookup 102 (.map (some mb)) (.int .i64 x) false).run Tryz.prog w = .ok (.int .i64 (plc o x)) w := by
  obtain ⟨D, h1, h2, h3⟩ := h
  obtain ⟨c, hrun, hc, _⟩ := h1.lookup_int law_int Tryz.underlying102 Tryz.underlying3 (by kernel_rfl) (keyOf_i hx)
  rw [(h3 x hx).2 hin] at hc
  simp at hc
  rw [hc]
  exact hrun
theorem place_put {D : DataW Unit} {r : Int} (hr : I64 r) (h2r : 2 ≤ r) (hno : r ∉ o)
    (h1 : w'.ownsMap Tryz.prog 3 (plainElem Tryz.prog 3) mb (o.length + 2 + 1) (D.put (.int .i64 r) (.lit (.int .i64 (2 + o.length))))) (h2 : Maps.IsMap D)
    (h3 : ∀ x, I64 x → Maps.has D (.int .i64 x) = decide (x = 0 ∨ x = 1 ∨ x ∈ o) ∧ ((x = 0 ∨ x = 1 ∨ x ∈ o) → D.atKey (.int .i64 x) (.lit (.int .i64 0)) = .lit (.int .i64 (plc o x)))) : PlaceM w' mb (o ++ [r]) := by
  refine ⟨_, by simpa [Nat.add_right_comm, Nat.add_assoc] using h1, h2.put _ _, fun x hx => ?_⟩
  by_cases e : x = r
  · subst e
    rw [Maps.has_put_same h2 (by trivial), Maps.atKey_put_same h2 (by trivial)]
    exact ⟨by simp, fun _ => by rw [plc_new hno h2r]⟩
  · have hne : (Lit.int .i64 x) ≠ Lit.int .i64 r := by simpa using e
    rw [Maps.has_put_other hne, Maps.atKey_put_other hne, (h3 x hx).1]
    refine ⟨by simp [e], fun hin => ?_⟩
    have hin2 : x = 0 ∨ x = 1 ∨ x ∈ o := by simpa [e] using hin
    rw [(h3 x hx).2 hin2, plc_old hin2]
end place

def forkV (f : Fork) : List Value := [.int .i64 f.1, .int .i64 f.2.1, .int .i64 f.2.2]
/-- the captured variables of visit, and what they lead to -/
def LayS (pb nb vb ob mb B : Nat) (c0 c2 nv : Value) (w : World) (o : List Int) (t : List Fork) (lv : Value) : Prop :=
  w.cell? ⟨pb, 0, none⟩ = some (.map (some mb)) ∧ w.cell? ⟨nb, 0, none⟩ = some nv ∧
  w.cell? ⟨vb, 0, none⟩ = some (.func (.func 75) #[] #[.pointer (some ⟨pb, 0, none⟩), .pointer (some ⟨nb, 0, none⟩), .pointer (some ⟨vb, 0, none⟩), .pointer (some ⟨ob, 0, none⟩)]) ∧
  w.cell? ⟨ob, 0, none⟩ = some c0 ∧ w.cell? ⟨ob, 1, none⟩ = some lv ∧ w.cell? ⟨ob, 2, none⟩ = some c2 ∧ (∀ o, w.frozen? ⟨ob, o, none⟩ = false) ∧
  PlaceM w mb o ∧ w.ownsRow B 49 3 lv t.length (t.flatMap forkV) ∧ B ≤ w.heap.size
/-- what visit leaves alone -/
def LayFr (ob mb : Nat) (lv : Value) (W w' : World) : Prop :=
  w'.os = W.os ∧ w'.tape = W.tape ∧ w'.output = W.output ∧ W.heap.size ≤ w'.heap.size ∧ ∀ k, k < W.heap.size → k ≠ ob → k ≠ mb → lv.ownBlock ≠ some k → w'.heap[k]? = W.heap[k]?
theorem LayS.below {pb nb vb ob mb B : Nat} {c0 c2 nv lv : Value} {w w' : World} {o : List Int} {t : List Fork} (h : LayS pb nb vb ob mb B c0 c2 nv w o t lv) (hb : Below w.heap.size w w') : LayS pb nb vb ob mb B c0 c2 nv w' o t lv := by
  obtain ⟨h1, h2, h3, h4, h5, h6, h7, h8, h9, h10⟩ := h
  exact ⟨below_c hb (block_lt h1) h1, below_c hb (block_lt h2) h2, below_c hb (block_lt h3) h3, below_c hb (block_lt h4) h4, below_c hb (block_lt h5) h5, below_c hb (block_lt h6) h6, fun o => below_z hb (block_lt h5) (h7 o), h8.below hb, own_below h9 hb, Nat.le_trans h10 hb.size⟩
theorem LayFr.cell {ob mb b o : Nat} {lv v : Value} {W w' : World} (h : LayFr ob mb lv W w') (h1 : b ≠ ob) (h2 : b ≠ mb) (h3 : lv.ownBlock ≠ some b) (hc : W.cell? ⟨b, o, none⟩ = some v) : w'.cell? ⟨b, o, none⟩ = some v :=
  (World.cell?_of_block (h.2.2.2.2 b (block_lt hc) h1 h2 h3)).trans hc
theorem LayFr.refl (ob mb : Nat) (lv : Value) (w : World) : LayFr ob mb lv w w := ⟨rfl, rfl, rfl, Nat.le_refl _, fun _ _ _ _ _ => rfl⟩
theorem LayFr.trans {ob mb : Nat} {lv lv1 : Value} {W w1 w2 : World} (h : LayFr ob mb lv W w1) (h' : LayFr ob mb lv1 w1 w2) (hl : lv1.ownBlock = lv.ownBlock ∨ ∀ b, lv1.ownBlock = some b → W.heap.size ≤ b) : LayFr ob mb lv W w2 := by
  obtain ⟨a1, a2, a3, a4, a5⟩ := h
  obtain ⟨b1, b2, b3, b4, b5⟩ := h'
  refine ⟨b1.trans a1, b2.trans a2, b3.trans a3, Nat.le_trans a4 b4, fun k hk e1 e2 e3 => ?_⟩
  rw [b5 k (Nat.lt_of_lt_of_le hk a4) e1 e2, a5 k hk e1 e2 e3]
  rcases hl with hl | hl
  · rw [hl]; exact e3
  · intro e
    have := hl k e
    omega
theorem LayFr.below {ob mb B : Nat} {lv : Value} {W w' : World} (h : LayFr ob mb lv W w') (h1 : ob < mb) (h2 : ob < B) (h3 : ∀ b, lv.ownBlock = some b → B ≤ b) (h4 : ob ≤ W.heap.size) : Below ob W w' :=
  ⟨h.1, h.2.1, h.2.2.1, h.2.2.2.1, fun k hk => h.2.2.2.2 k (by omega) (by omega) (by omega) fun e => by have := h3 k e; omega⟩
theorem grown_cell {w w' : World} {row : Option Nat} {b o : Nat} {v : Value} (h : w.grownBy w' row) (hb : some b ≠ row) (hc : w.cell? ⟨b, o, none⟩ = some v) : w'.cell? ⟨b, o, none⟩ = some v :=
  (World.cell?_of_block (h.block b (block_lt hc) hb)).trans hc
theorem grown_froz {w w' : World} {row : Option Nat} {b o : Nat} {x : Bool} (h : w.grownBy w' row) (hb : some b ≠ row) (hlt : b < w.heap.size) (hc : w.frozen? ⟨b, o, none⟩ = x) : w'.frozen? ⟨b, o, none⟩ = x := by
  rw [← hc]
  simp only [World.frozen?]
  rw [h.block b hlt hb]
/-- what visit hands back -/
def VisPost (pb nb vb ob mb B : Nat) (c0 c2 nv lv : Value) (W : World) (r : Int) (o' : List Int) (t' : List Fork) (e : Ending) (w' : World) : Prop :=
  e = .returned (.int .i64 (plc o' r)) ∧ LayFr ob mb lv W w' ∧ ∃ lv', LayS pb nb vb ob mb B c0 c2 nv w' o' t' lv' ∧ (lv'.ownBlock = lv.ownBlock ∨ ∀ b, lv'.ownBlock = some b → W.heap.size ≤ b)

set_option maxRecDepth 100000 in
set_option maxHeartbeats 4000000 in
theorem visit_any (pb nb vb ob mb B : Nat) (c0 c2 nv : Value) (ns : List Fork) (h1 : nb < ob) (h2 : ob < mb) (h3 : mb < pb) (h4 : pb < vb) (h5 : vb < B) (hl : ns.length ≤ 4096) : ∀ (k : Nat) (r : Int) (s s' : List Int × List Fork) (lv : Value) (w : World),
    I64 r → layGo ns k s r = some s' → s.1.length = s.2.length → s'.1.length ≤ 100000 → Forks (fun b => b < ob) w nv ns → LayS pb nb vb ob mb B c0 c2 nv w s.1 s.2 lv →
    Calls Tryz.prog 75 #[.int .i64 r, .pointer (some ⟨pb, 0, none⟩), .pointer (some ⟨nb, 0, none⟩), .pointer (some ⟨vb, 0, none⟩), .pointer (some ⟨ob, 0, none⟩)] w (VisPost pb nb vb ob mb B c0 c2 nv lv w r s'.1 s'.2)
  | 0, r, s, s', lv, w, _, hg, _, _, _, _ => by cases hg
  | k + 1, r, s, s', lv, w, hr, hg, hst, hs', hf, hS => by
    have ih := visit_any pb nb vb ob mb B c0 c2 nv ns h1 h2 h3 h4 h5 hl k
    obtain ⟨o, t⟩ := s
    obtain ⟨o', t'⟩ := s'
    simp only at hst hs' hS
    obtain ⟨k1, k2, k3, k4, k5, k6, k7, hP, hO, hB⟩ := hS
    have HS : Hid (LayS pb nb vb ob mb B c0 c2 nv w o t lv) := Lib.hid ⟨k1, k2, k3, k4, k5, k6, k7, hP, hO, hB⟩
    obtain ⟨c, hrun, hc⟩ := hP.ok hr
    rw [layGo] at hg
    simp only at hg
    by_cases hin : r = 0 ∨ r = 1 ∨ r ∈ o
    · rw [if_pos hin] at hg
      simp only [Option.some.injEq, Prod.mk.injEq] at hg
      obtain ⟨rfl, rfl⟩ := hg
      have hcc := hc hin
      rw [decide_eq_true hin] at hrun
      subst hcc
      clear hin ih hc hf
      go_enter Tryz.func75, Tryz.ntmps75
      go_wp2
      go_ret
      exact ⟨rfl, LayFr.refl _ _ _ _, lv, HS.out, .inl rfl⟩
    rw [if_neg hin] at hg
    rw [decide_eq_false hin] at hrun
    split at hg
    · cases hg
    rename_i hr2
    obtain ⟨j, hj⟩ : ∃ j : Nat, (r - 2).toNat = j := ⟨_, rfl⟩
    rw [hj] at hg
    rcases hfj : ns[j]? with _ | f
    · rw [hfj] at hg; cases hg
    rw [hfj] at hg
    simp only at hg
    rcases hg1 : layGo ns k (o, t) f.2.1 with _ | s1
    · rw [hg1] at hg; cases hg
    rw [hg1] at hg
    simp only at hg
    rcases hg2 : layGo ns k s1 f.2.2 with _ | s2
    · rw [hg2] at hg; cases hg
    rw [hg2] at hg
    simp only at hg
    split at hg
    · cases hg
    rename_i hno
    simp only [Option.some.injEq, Prod.mk.injEq] at hg
    obtain ⟨rfl, rfl⟩ := hg
    obtain ⟨fv, flo, fhi⟩ := f
    simp only at hg1 hg2 hs' ⊢
    have l1 := layGo_len ns k _ _ _ hg1
    have l2 := layGo_len ns k _ _ _ hg2
    simp only [List.length_append, List.length_singleton] at hs'
    have hs1 : s1.1.length ≤ 100000 := by have := l2.1; omega
    have hs2 : s2.1.length ≤ 100000 := by omega
    have ht2 : s2.1.length = s2.2.length := l2.2 (l1.2 hst)
    have hrj : r = (j : Int) + 2 := by omega
    obtain ⟨a, n, cp, rfl, HN, hn⟩ := hf.form
    have hjn : j < n := by have := (List.getElem?_eq_some_iff.1 hfj).1; have := HN.out; omega
    obtain ⟨fb, fo, rfl, hfb, hfs, e0, e1, e2, hfo⟩ := hf.at hfj
    simp only at e0 e1 e2
    obtain ⟨hfv, hflo, hfhi⟩ := hfo
    simp only at hfv hflo hfhi
    have hb0 : Below w.heap.size w (w.alloc (.cells #[.int .i64 fv, .int .i64 flo, .int .i64 fhi] 49)) := (Below.refl _ _).alloc (Nat.le_refl _) _
    have HC1 := Lib.hid (ih flo (o, t) s1 lv _ hflo hg1 hst hs1 (hf.below hb0) (HS.out.below hb0))
    have HIH := Lib.hid (fun w lv => ih fhi s1 s2 lv w hfhi hg2 (l1.2 hst) hs2)
    have HF := Lib.hid hf
    have HO : Hid (∀ b, lv.ownBlock = some b → B ≤ b ∧ b < w.heap.size) := Lib.hid hO.lt
    have hw1 : IntKind.i64.wrap (r - 2) = (j : Int) := by rw [IntWalk.i64_in _ ⟨by have := hr.1; omega, by have := hr.2; omega⟩]; omega
    have hj0 : (0 : Int) ≤ j := by omega
    have hj1 : (j : Int) < n := by omega
    have HRR := Lib.hid hr
    have HNO := Lib.hid hno
    have HR2 : Hid (2 ≤ r) := Lib.hid (by omega)
    have HT2 := Lib.hid ht2
    clear hb0 hg1 hg2 ih hf hP hO l1 l2 hc hst ht2 hr hno hs1 hr2 hin hj hrj hfj
    go_enter Tryz.func75, Tryz.ntmps75
    have q1 : pb < w.heap.size := block_lt k1
    have q2 : nb < w.heap.size := block_lt k2
    have q3 : vb < w.heap.size := block_lt k3
    have q4 : ob < w.heap.size := block_lt k4
    have q5 : B ≤ w.heap.size := hB
    go_wp2_with fail
    refine HC1.out.mono ?_
    rintro e w1 ⟨rfl, hfr1, lv1, hS1, hat1⟩
    have hz1 : w.heap.size + 1 ≤ w1.heap.size := by have := hfr1.2.2.2.1; simpa using this
    have m0 : w1.cell? ⟨w.heap.size, 0, none⟩ = some (.int .i64 fv) := hfr1.cell (by omega) (by omega) (fun e => by have := HO.out _ e; omega) (by simp)
    have m1 : w1.cell? ⟨w.heap.size, 1, none⟩ = some (.int .i64 flo) := hfr1.cell (by omega) (by omega) (fun e => by have := HO.out _ e; omega) (by simp)
    have m2 : w1.cell? ⟨w.heap.size, 2, none⟩ = some (.int .i64 fhi) := hfr1.cell (by omega) (by omega) (fun e => by have := HO.out _ e; omega) (by simp)
    have hF1 := HF.out.move (w' := w1) fun b hb hlt => (hfr1.2.2.2.2 b (by simp; omega) (by omega) (by omega) (fun e => by have := HO.out _ e; omega)).trans (Below.heap_alloc w _ b hlt)
    have HFR1 : Hid (LayFr ob mb lv w w1) := Lib.hid ((show LayFr ob mb lv w (w.alloc (.cells #[.int .i64 fv, .int .i64 flo, .int .i64 fhi] 49)) from ⟨rfl, rfl, rfl, by simp, fun k hk _ _ _ => Below.heap_alloc w _ k hk⟩).trans hfr1 (.inl rfl))
    have HA1 : Hid (lv1.ownBlock = lv.ownBlock ∨ ∀ b, lv1.ownBlock = some b → w.heap.size + 1 ≤ b) := Lib.hid (by simpa using hat1)
    have HC2 := Lib.hid (HIH.out w1 lv1 hF1 hS1)
    have HF1 := Lib.hid hF1
    have r3 := hS1.2.2.1
    clear hS1 hfr1 hF1 hat1 HC1 HIH k1 k2 k3 k4 k5 k6 k7 e0 e1 e2 hrun
    generalize plc s1.1 flo = pl at *
    have hinfo : (Tryz.prog.info? 49).map (fun i => (i.zero, i.size, i.bytes)) = some (some (.agg #[.int .i64 0, .int .i64 0, .int .i64 0]), 3, 24) := by kernel_rfl
    have HI := Lib.hid hinfo
    clear hinfo
    go_wp2_with fail
    refine HC2.out.mono ?_
    rintro e w2 ⟨rfl, hfr2, lv2, hS2, hat2⟩
    have hz2 : w1.heap.size ≤ w2.heap.size := hfr2.2.2.2.1
    have hl1 : ∀ b, lv1.ownBlock = some b → B ≤ b ∧ b ≠ w.heap.size := fun b e => by
      rcases HA1.out with h | h
      · rw [h] at e; have := HO.out b e; omega
      · have := h b e; omega
    have n0 : w2.cell? ⟨w.heap.size, 0, none⟩ = some (.int .i64 fv) := hfr2.cell (by omega) (by omega) (fun e => (hl1 _ e).2 rfl) m0
    have HFR2 : Hid (LayFr ob mb lv w w2) := Lib.hid (HFR1.out.trans hfr2 (HA1.out.imp id fun h b hb => by have := h b hb; omega))
    have HA2 : Hid (lv2.ownBlock = lv.ownBlock ∨ ∀ b, lv2.ownBlock = some b → w.heap.size + 1 ≤ b) := Lib.hid (by
      rcases hat2 with h | h
      · rw [h]; exact HA1.out
      · exact .inr fun b hb => by have := h b hb; omega)
    obtain ⟨k1, k2, k3, k4, k5, k6, k7, hP, hO, hB2⟩ := hS2
    obtain ⟨o2, t2⟩ := s2
    simp only at hs' hs2 HNO HT2 k1 k2 k3 k4 k5 k6 k7 hP hO hB2 ⊢
    have hl2 : ∀ b, lv2.ownBlock = some b → B ≤ b ∧ b ≠ w.heap.size := fun b e => by
      rcases HA2.out with h | h
      · rw [h] at e; have := HO.out b e; omega
      · have := h b e; omega
    have HL2 := Lib.hid hl2
    obtain ⟨N, hN⟩ : ∃ N, t2.length = N := ⟨_, rfl⟩
    rw [hN] at hO
    obtain ⟨la, lc, hlv2⟩ := own_form hO
    have HLV2 := Lib.hid hlv2
    have HN2 : Hid (o2.length = N) := Lib.hid (by rw [HT2.out, hN])
    have HNT := Lib.hid hN
    have hN5 : N + 1 ≤ 100000 := by rw [← hN, ← HT2.out]; exact hs'
    obtain ⟨D, hD1, hD2, hD3⟩ := hP
    rw [HN2.out] at hD1
    have HD1 := Lib.hid hD1
    have HD2 := Lib.hid hD2
    have HD3 := Lib.hid hD3
    clear hfr2 hat2 HC2 HFR1 HA1 hl1 hl2 m0 m1 m2 r3 hN hs' hs2 hD1 hD2 hD3
    subst hlv2
    generalize plc o2 fhi = ph at *
    go_wp2_with (first | (at_builtin; go_loud (refine wpList_push3 rfl _ _ 23 rfl 49 (.agg #[.int .i64 0, .int .i64 0, .int .i64 0]) 24 Tryz.underlying23 HI.out rfl B (.slice la N lc) N _ w2 _ _ _ rfl rfl hO rfl rfl rfl (by omega) (by omega) (by omega) ?_); intro g3 cap3 w3 hown3 hg3 hs3 hgb hgl hat; have y0 := grown_cell hg3 (fun e => by have := (HL2.out _ e.symm).1; omega) k1; have y4 := grown_cell hg3 (fun e => by have := (HL2.out _ e.symm).1; omega) k4; have y5 := grown_cell hg3 (fun e => by have := (HL2.out _ e.symm).1; omega) k5; have y6 := grown_cell hg3 (fun e => by have := (HL2.out _ e.symm).1; omega) k6; have yf := fun o => grown_froz hg3 (fun e => by have := (HL2.out _ e.symm).1; omega) (block_lt k5) (k7 o); have y2 := grown_cell hg3 (fun e => by have := (HL2.out _ e.symm).1; omega) k2; have y3 := grown_cell hg3 (fun e => by have := (HL2.out _ e.symm).1; omega) k3; have HO3 := Lib.hid hown3; have HG3 := Lib.hid hg3; have HAT := Lib.hid hat; clear hown3 hg3 hat hO k1 k2 k3 k4 k5 k6 k7) | (at_mapUpdate; have hmu := (HD1.out.kept HG3.out (fun e => by have := (HL2.out _ e.symm).1; omega)).setCell (a := ⟨ob, 1, none⟩) (by show mb ≠ ob; omega) (.slice (some ⟨g3, 0, none⟩) (N + 1) cap3); refine wpList_mapUpdate_own _ rfl _ _ _ 102 rfl 3 3 law_int Tryz.underlying102 (plainElem Tryz.prog 3) mb (N + 2) D rfl hmu (by unfold maxLen; omega) _ _ (.int .i64 r) rfl rfl (keyOf_i HRR.out) (.lit (.int .i64 (2 + ((N : Int) + 1) - 1))) [] (plainElem_int Tryz.underlying3 (I64_wf ⟨by omega, by omega⟩)) ?_; intro w4 hown4 hgrow4; have hP4 : PlaceM w4 mb (o2 ++ [r]) := place_put HRR.out HR2.out HNO.out (by rw [HN2.out]; rw [show (2 + ((N : Int) + 1) - 1) = 2 + N by omega] at hown4; exact hown4) HD2.out HD3.out; have hlk4 := hP4.look HRR.out (.inr (.inr (by simp))); have HP4 := Lib.hid hP4; have HG4 := Lib.hid hgrow4; have z0 := grown_cell hgrow4 (o := 0) (b := pb) (fun e => by injection e with e; omega) (set_ne (by omega) y0); clear hown4 hgrow4 hmu hP4) | go_in)
    go_ret
    have hg4 := HG4.out
    have hsc : w3.grownBy (w3.setCell ⟨ob, 1, none⟩ (.slice (some ⟨g3, 0, none⟩) (N + 1) cap3)) (some ob) := ⟨rfl, rfl, rfl, by simp, fun k _ hk => Below.heap_setCell _ _ _ _ (fun e => hk (by rw [e]))⟩
    have hsz : w3.heap.size ≤ (w3.setCell ⟨ob, 1, none⟩ (.slice (some ⟨g3, 0, none⟩) (N + 1) cap3)).heap.size := by simp
    have hobm : some ob ≠ some mb := fun e => by injection e with e; omega
    have hown4 : w4.ownsRow B 49 3 (.slice (some ⟨g3, 0, none⟩) (N + 1) cap3) (t2 ++ [(fv, pl, ph)]).length ((t2 ++ [(fv, pl, ph)]).flatMap forkV) := by
      have := (HO3.out.kept hsc (.inr fun e => by simp [Value.ownBlock] at e; omega)).kept hg4 (.inr fun e => by simp [Value.ownBlock] at e; omega)
      simpa [HNT.out, forkV] using this
    have hfr : LayFr ob mb (.slice la N lc) w2 w4 := by
      refine ⟨hg4.os.trans HG3.out.os, hg4.tape.trans HG3.out.tape, hg4.output.trans HG3.out.output, ?_, fun k hk e1 e2 e3 => ?_⟩
      · have := hg4.size; omega
      · rw [hg4.block k (by omega) (fun e => by injection e with e; exact e2 e), hsc.block k (by omega) (fun e => by injection e with e; exact e1 e), HG3.out.block k hk (fun e => e3 e.symm)]
    refine ⟨rfl, HFR2.out.trans hfr (HA2.out.imp id fun h b hb => by have := h b hb; omega), _, ⟨z0, grown_cell hg4 (fun e => by injection e with e; omega) (set_ne (by omega) y2), grown_cell hg4 (fun e => by injection e with e; omega) (set_ne (by omega) y3), grown_cell hg4 hobm (set_ne (by omega) y4), grown_cell hg4 hobm (set_eq y5), grown_cell hg4 hobm (set_ne (by omega) y6), fun o => grown_froz hg4 hobm (by have := block_lt y5; omega) (by rw [World.frozen?_setCell]; exact yf o), HP4.out, hown4, ?_⟩, ?_⟩
    · have := hg4.size; omega
    · have ha2 := HA2.out
      rcases HAT.out with h | h
      · rcases ha2 with h' | h'
        · left; rw [← h']; simp only [Value.ownBlock] at h ⊢; exact h.symm
        · right; intro b hb
          have := h' b (by rw [h]; simpa [Value.ownBlock] using hb)
          omega
      · right; intro b hb
        simp [Value.ownBlock] at hb
        omega
end Go.Proofs.YteadlkecngfcoaaGreat
