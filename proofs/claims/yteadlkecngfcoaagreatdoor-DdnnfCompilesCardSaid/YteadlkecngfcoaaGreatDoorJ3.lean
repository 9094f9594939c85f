/- (Ddnnf) The compiler's state in memory; walk: over. No condition but the sizes. -/
import Derived.Test.YteadlkecngfcoaaGreatDoorJ2
import Derived.Test.YteadlkecngfcoaaGreatDoorKx
namespace Go.Proofs.YteadlkecngfcoaaGreatDoor
open Go.ChangeShapes Go.WideShapes Go.ChangeAt Go.RowKit Go.Lib
set_option linter.unusedVariables false
set_option linter.unusedSimpArgs false

/-- blocks that the compiler does not turn -/
def Apart (pb mb : Nat) (cv : Value) (b : Nat) : Prop := b ≠ pb ∧ b ≠ mb ∧ cv.ownBlock ≠ some b
/-- the same, made by the compiler's caller or later -/
def ApartB (B pb mb : Nat) (cv : Value) (b : Nat) : Prop := b ≠ pb ∧ b ≠ mb ∧ cv.ownBlock ≠ some b ∧ B ≤ b
/-- how the world goes on: only the compiler's block, its map and its row of parts are turned -/
structure Grw (pb mb : Nat) (cv : Value) (w : World) (cv' : Value) (w' : World) : Prop where
  os : w'.os = w.os
  tape : w'.tape = w.tape
  output : w'.output = w.output
  size : w.heap.size ≤ w'.heap.size
  block : ∀ b, b < w.heap.size → Apart pb mb cv b → w'.heap[b]? = w.heap[b]?
  own : ∀ b, cv'.ownBlock = some b → cv.ownBlock = some b ∨ w.heap.size ≤ b
section grw
variable {pb mb : Nat} {cv cv' cv2 : Value} {w w' w2 : World}
theorem Grw.trans (h : Grw pb mb cv w cv' w') (h2 : Grw pb mb cv' w' cv2 w2) : Grw pb mb cv w cv2 w2 :=
  ⟨h2.os.trans h.os, h2.tape.trans h.tape, h2.output.trans h.output, Nat.le_trans h.size h2.size, fun b hb ha => (h2.block b (Nat.lt_of_lt_of_le hb h.size) ⟨ha.1, ha.2.1, fun e => by
    rcases h.own b e with h1 | h1
    · exact ha.2.2 h1
    · omega⟩).trans (h.block b hb ha), fun b hb => by
    rcases h2.own b hb with h1 | h1
    · exact h.own b h1
    · exact .inr (Nat.le_trans h.size h1)⟩
theorem Grw.of_below (h : Below w.heap.size w w') : Grw pb mb cv w cv w' := ⟨h.os, h.tape, h.output, h.size, fun b hb _ => h.block b hb, fun b hb => .inl hb⟩
theorem Grw.below {B : Nat} (h : Grw pb mb cv w cv' w') (hp : B ≤ pb) (hm : B ≤ mb) (hc : ∀ b, cv.ownBlock = some b → B ≤ b) (hB : B ≤ w.heap.size) : Below B w w' :=
  ⟨h.os, h.tape, h.output, h.size, fun b hb => h.block b (by omega) ⟨by omega, by omega, fun e => by have := hc b e; omega⟩⟩
end grw
theorem clss_and {F : Nat → Prop} {w : World} {v : Value} {cs : List (List Int)} (h : Clss F w v cs) : Clss (fun b => b < w.heap.size ∧ F b) w v cs := by
  obtain ⟨us, h1, h2, h3⟩ := h
  exact ⟨us, h1.lt.mono fun b hb => ⟨hb.2, hb.1⟩, h2, fun j u x hu hx => ((h3 j u x hu hx).lt).mono fun b hb => ⟨hb.2, hb.1⟩⟩
theorem clss_mono {F G : Nat → Prop} {w : World} {v : Value} {cs : List (List Int)} (h : Clss F w v cs) (hg : ∀ b, F b → G b) : Clss G w v cs := Rows1.mono (fun _ _ _ _ _ h hg => h.mono hg) h hg
theorem clss_move {F : Nat → Prop} {w w' : World} {v : Value} {cs : List (List Int)} (h : Clss F w v cs) (hm : ∀ b, F b → b < w.heap.size → w'.heap[b]? = w.heap[b]?) : Clss F w' v cs := Rows1.move (fun _ _ _ _ _ h hm => h.move hm) h hm
theorem clss_grw {pb mb : Nat} {pv pv' v : Value} {w w' : World} {cs : List (List Int)} (h : Clss (Apart pb mb pv) w v cs) (hg : Grw pb mb pv w pv' w') : Clss (Apart pb mb pv') w' v cs :=
  clss_mono (clss_move (clss_and h) fun b hb _ => hg.block b hb.1 hb.2) fun b hb => ⟨hb.2.1, hb.2.2.1, fun e => by
    rcases hg.own b e with h1 | h1
    · exact hb.2.2.2 h1
    · have := hb.1; omega⟩
theorem set_heap {w : World} {b o i : Nat} {v : Value} (h : i ≠ b) : (w.setCell ⟨b, o, none⟩ v).heap[i]? = w.heap[i]? := Below.heap_setCell _ _ _ _ h
theorem set_grown (w : World) (b o : Nat) (v : Value) : w.grownBy (w.setCell ⟨b, o, none⟩ v) (some b) := ⟨rfl, rfl, rfl, by simp, fun k hk hne => set_heap (fun e => hne (by rw [e]))⟩
theorem grown_c2 {w w' : World} {row : Option Nat} {b o : Nat} {v : Value} (h : w.grownBy w' row) (hb : some b ≠ row) (hc : w.cell? ⟨b, o, none⟩ = some v) : w'.cell? ⟨b, o, none⟩ = some v :=
  (World.cell?_of_block (h.block b (block_lt hc) hb)).trans hc
/-! ### what is known -/
theorem law_str : Maps.Keyed Tryz.prog 9 := Maps.string_keyed Tryz.underlying9
/-- a map from keys to parts -/
def KnownC (V : Nat) (w : World) (mb n : Nat) (ps : List Part) : Prop :=
  ∃ D : DataW Unit, w.ownsMap Tryz.prog 9 (plainElem Tryz.prog 3) mb n D ∧ Maps.IsMap D ∧
    ∀ l : List (List Int), NZ l → Maps.has D (.string (keyS l)) = true → ∃ j : Nat, Meets V ps l j ∧ D.atKey (.string (keyS l)) (.lit (.int .i64 0)) = .lit (.int .i64 j)
theorem KnownC.kept {V : Nat} {w w' : World} {mb n : Nat} {ps : List Part} {row : Option Nat} (h : KnownC V w mb n ps) (hg : w.grownBy w' row) (hne : some mb ≠ row) : KnownC V w' mb n ps := by
  obtain ⟨D, h1, h2⟩ := h
  exact ⟨D, h1.kept hg hne, h2⟩
theorem KnownC.more {V : Nat} {w : World} {mb n : Nat} {ps qs : List Part} (h : KnownC V w mb n ps) (ho : PsOk V ps) (ho2 : PsOk V (ps ++ qs)) : KnownC V w mb n (ps ++ qs) := by
  obtain ⟨D, h1, h2, h3⟩ := h
  refine ⟨D, h1, h2, fun l hz hl => ?_⟩
  obtain ⟨j, hj, e⟩ := h3 l hz hl
  exact ⟨j, hj.more ho ho2, e⟩
theorem KnownC.lt {V : Nat} {w : World} {mb n : Nat} {ps : List Part} (h : KnownC V w mb n ps) : mb < w.heap.size := by obtain ⟨D, h1, _⟩ := h; exact h1.lt
theorem keyOf_s {l : List (List Int)} (h : (keyS l).length ≤ 4000000) : keyOf Tryz.prog 9 (.string (BA (keyS l))) = some (.string (keyS l)) := by
  have := WideMaps.keyOf_string_mk (P := Tryz.prog) Tryz.underlying9 (s := BA (keyS l)) (by show (keyS l).toArray.size ≤ maxLen; unfold maxLen; simp; omega)
  simpa using this
theorem KnownC.look {V : Nat} {w : World} {mb n : Nat} {ps : List Part} {l : List (List Int)} (h : KnownC V w mb n ps) (hl : (keyS l).length ≤ 4000000) (hz : NZ l) (hn : ps.length ≤ 100000) :
    ∃ (c : Int) (E : Bool), (Instr.lookup 47 (.map (some mb)) (.string (BA (keyS l))) true).run Tryz.prog w = .ok (.tuple #[.int .i64 c, .bool E]) w ∧ (E = true → ∃ j : Nat, c = j ∧ Meets V ps l j) := by
  obtain ⟨D, h1, h2, h3⟩ := h
  obtain ⟨v, qs, hrun, hv⟩ := h1.look_ok law_str Tryz.underlying47 (z := .int .i64 0) (by kernel_rfl) (plainElem_int Tryz.underlying3 (by decide)) (keyOf_s hl)
  obtain ⟨c, rfl, hc, _⟩ := plainElem_int_inv Tryz.underlying3 hv
  refine ⟨c, _, hrun, fun hE => ?_⟩
  obtain ⟨j, hj, e2⟩ := h3 l hz hE
  have h5 := congrArg Prod.fst hc
  simp only at h5
  rw [e2] at h5
  simp at h5
  exact ⟨j, by omega, hj⟩
theorem known_put {V : Nat} {w' : World} {mb n i : Nat} {ps : List Part} {l : List (List Int)} {D : DataW Unit} (hi : Meets V ps l i) (hz : NZ l)
    (h1 : w'.ownsMap Tryz.prog 9 (plainElem Tryz.prog 3) mb (n + 1) (D.put (.string (keyS l)) (.lit (.int .i64 i)))) (h2 : Maps.IsMap D)
    (h3 : ∀ l : List (List Int), NZ l → Maps.has D (.string (keyS l)) = true → ∃ j : Nat, Meets V ps l j ∧ D.atKey (.string (keyS l)) (.lit (.int .i64 0)) = .lit (.int .i64 j)) : KnownC V w' mb (n + 1) ps := by
  refine ⟨_, h1, h2.put _ _, fun m hzm hm => ?_⟩
  by_cases e : m = l
  · subst e
    exact ⟨i, hi, Maps.atKey_put_same h2 (by trivial) _ _⟩
  · have hne : (Lit.string (keyS m)) ≠ Lit.string (keyS l) := fun q => e (key_inj hzm hz (by injection q))
    rw [Maps.has_put_other hne] at hm
    rw [Maps.atKey_put_other hne]
    exact h3 m hzm hm
/-! ### the state -/
def cells3 (us : List (Value × Value × Value)) : List Value := us.flatMap fun u => [u.1, u.2.1, u.2.2]
theorem cells3_get : ∀ (us : List (Value × Value × Value)) (j : Nat) (u : Value × Value × Value), us[j]? = some u → (cells3 us)[j * 3]? = some u.1 ∧ (cells3 us)[j * 3 + 1]? = some u.2.1 ∧ (cells3 us)[j * 3 + 2]? = some u.2.2
  | [], j, u, h => by simp at h
  | x :: r, 0, u, h => by simp at h; subst h; simp [cells3]
  | x :: r, j + 1, u, h => by
    have := cells3_get r j u (by simpa using h)
    simp only [cells3, List.flatMap_cons] at this ⊢
    rw [show (j + 1) * 3 = j * 3 + 3 by omega]
    simpa [List.getElem?_append_right] using this
theorem cells3_snoc (us : List (Value × Value × Value)) (u : Value × Value × Value) : cells3 (us ++ [u]) = cells3 us ++ [u.1, u.2.1, u.2.2] := by simp [cells3]
theorem cells3_len (us : List (Value × Value × Value)) : (cells3 us).length = us.length * 3 := by
  induction us with
  | nil => rfl
  | cons u r ih => simp only [cells3, List.flatMap_cons, List.length_append, List.length_cons, List.length_nil] at ih ⊢; omega

def PartV (F : Nat → Prop) (w : World) (u : Value × Value × Value) (p : Part) : Prop := u.1 = .int .i64 p.kind ∧ u.2.1 = .int .i64 p.lit ∧ Ints F w u.2.2 p.kids ∧ I64 p.kind ∧ I64 p.lit
theorem PartV.mono {F G : Nat → Prop} {w : World} {u : Value × Value × Value} {p : Part} (h : PartV F w u p) (hg : ∀ b, F b → G b) : PartV G w u p := ⟨h.1, h.2.1, h.2.2.1.mono hg, h.2.2.2⟩
theorem PartV.move {F : Nat → Prop} {w w' : World} {u : Value × Value × Value} {p : Part} (h : PartV F w u p) (hm : ∀ b, F b → b < w.heap.size → w'.heap[b]? = w.heap[b]?) : PartV F w' u p := ⟨h.1, h.2.1, h.2.2.1.move hm, h.2.2.2⟩
structure CoS (V B : Nat) (w : World) (pb mb : Nat) (pv : Value) (ps : List Part) (cn n : Nat) : Prop where
  c0 : w.cell? ⟨pb, 0, none⟩ = some pv
  c1 : w.cell? ⟨pb, 1, none⟩ = some (.map (some mb))
  c2 : w.cell? ⟨pb, 2, none⟩ = some (.int .i64 cn)
  free : ∀ o, w.frozen? ⟨pb, o, none⟩ = false
  rows : ∃ us : List (Value × Value × Value), w.ownsRow B 43 3 pv ps.length (cells3 us) ∧ us.length = ps.length ∧ ∀ (j : Nat) u p, us[j]? = some u → ps[j]? = some p → PartV (fun b => b < w.heap.size ∧ ApartB B pb mb pv b) w u p
  known : KnownC V w mb n ps
  diff : pb ≠ mb ∧ pv.ownBlock ≠ some pb ∧ pv.ownBlock ≠ some mb
  low : B ≤ pb ∧ B ≤ mb ∧ B ≤ w.heap.size
  ok : PsOk V ps
section cos
variable {V B pb mb cn n : Nat} {w w' : World} {pv : Value} {ps : List Part}
theorem CoS.below (h : CoS V B w pb mb pv ps cn n) (hb : Below w.heap.size w w') : CoS V B w' pb mb pv ps cn n := by
  have hlt := block_lt h.c0
  obtain ⟨us, r1, r2, r3⟩ := h.rows
  exact ⟨below_c hb hlt h.c0, below_c hb hlt h.c1, below_c hb hlt h.c2, fun o => below_z hb hlt (h.free o),
    ⟨us, own_below r1 hb, r2, fun j u c hu hc => ((r3 j u c hu hc).move fun b hbb hl => hb.block b hl).mono fun b hbb => ⟨Nat.lt_of_lt_of_le hbb.1 hb.size, hbb.2⟩⟩,
    h.known.kept (row := none) ⟨hb.os, hb.tape, hb.output, hb.size, fun i hi _ => hb.block i hi⟩ (by simp), h.diff, ⟨h.low.1, h.low.2.1, Nat.le_trans h.low.2.2 hb.size⟩, h.ok⟩
theorem CoS.set2 (h : CoS V B w pb mb pv ps cn n) (cn' : Nat) : CoS V B (w.setCell ⟨pb, 2, none⟩ (.int .i64 cn')) pb mb pv ps cn' n := by
  obtain ⟨us, r1, r2, r3⟩ := h.rows
  exact ⟨set_ne (.inr (by omega)) h.c0, set_ne (.inr (by omega)) h.c1, set_eq h.c2, fun o => by rw [World.frozen?_setCell]; exact h.free o,
    ⟨us, own_same r1 fun k hk => set_heap (fun e => h.diff.2.1 (by rw [hk, e])), r2, fun j u c hu hc => ((r3 j u c hu hc).move fun b hb _ => set_heap hb.2.1).mono fun b hb => ⟨by simpa using hb.1, hb.2⟩⟩,
    h.known.kept (set_grown _ _ _ _) (fun e => h.diff.1 (by injection e with e; exact e.symm)), h.diff, ⟨h.low.1, h.low.2.1, by simpa using h.low.2.2⟩, h.ok⟩
theorem Grw.set (w : World) (o : Nat) (v : Value) : Grw pb mb pv w pv (w.setCell ⟨pb, o, none⟩ v) := ⟨rfl, rfl, rfl, by simp, fun b _ ha => set_heap ha.1, fun b hb => .inl hb⟩
theorem CoS.own (h : CoS V B w pb mb pv ps cn n) : ∀ b, pv.ownBlock = some b → B ≤ b ∧ b < w.heap.size := by
  obtain ⟨us, r1, _⟩ := h.rows
  exact r1.lt
theorem CoS.form (h : CoS V B w pb mb pv ps cn n) : ∃ a c, pv = .slice a ps.length c := by
  obtain ⟨us, r1, _⟩ := h.rows
  exact own_form r1
theorem CoS.under (h : CoS V B w pb mb pv ps cn n) {pv' : Value} (hg : Grw pb mb pv w pv' w') : Below B w w' := hg.below h.low.1 h.low.2.1 (fun b hb => (h.own b hb).1) h.low.2.2
/-- the map is turned -/
theorem CoS.put (h : CoS V B w pb mb pv ps cn n) {n' : Nat} (hg : w.grownBy w' (some mb)) (hk : KnownC V w' mb n' ps) : CoS V B w' pb mb pv ps cn n' ∧ Grw pb mb pv w pv w' := by
  have hpm : some pb ≠ some mb := fun e => h.diff.1 (by injection e)
  obtain ⟨us5, r1, r2, r3⟩ := h.rows
  refine ⟨⟨grown_c2 hg hpm h.c0, grown_c2 hg hpm h.c1, grown_c2 hg hpm h.c2, fun o => (World.frozen?_of_block (a := ⟨pb, o, none⟩) (hg.block pb (block_lt h.c0) hpm)).trans (h.free o), ⟨us5, r1.kept hg (by
        rcases hq : pv.ownBlock with _ | b
        · exact .inl rfl
        · exact .inr (fun e => h.diff.2.2 (by rw [hq, e]))), r2, fun j u c hu hc => ((r3 j u c hu hc).move fun b hb _ => hg.block b hb.1 (fun e => hb.2.2.1 (by injection e))).mono fun b hb => ⟨Nat.lt_of_lt_of_le hb.1 hg.size, hb.2⟩⟩, hk, h.diff, ⟨h.low.1, h.low.2.1, Nat.le_trans h.low.2.2 hg.size⟩, h.ok⟩, ⟨hg.os, hg.tape, hg.output, hg.size, fun b hb ha => hg.block b hb (fun e => ha.2.1 (by injection e)), fun b hb => .inl hb⟩⟩
end cos
set_option maxRecDepth 100000 in
set_option maxHeartbeats 2000000 in
theorem over_any (V B pb mb : Nat) (pv : Value) (ps : List Part) (cn n : Nat) (w : World) (h : CoS V B w pb mb pv ps cn n) (hc : cn ≤ 65536) (hp : ps.length ≤ 16384) :
    Calls Tryz.prog 15 #[.pointer (some ⟨pb, 0, none⟩)] w fun e w' => e = .returned (.bool false) ∧ w' = w := by
  obtain ⟨pa, pc, rfl⟩ := h.form
  obtain ⟨k, hk⟩ : ∃ k, ps.length = k := ⟨_, rfl⟩
  have c0 := h.c0
  have c2 := h.c2
  rw [hk] at c0
  have d1 : decide ((65536 : Int) < cn) = false := decide_eq_false (by omega)
  have d1' : decide (65536 < cn) = false := decide_eq_false (by omega)
  have d2 : decide ((16384 : Int) < k) = false := decide_eq_false (by omega)
  have d2' : decide (16384 < k) = false := decide_eq_false (by omega)
  clear h hc hp hk
  go_enter Tryz.func15, Tryz.ntmps15
  go_wp2_with fail
  go_ret
  exact ⟨rfl, rfl⟩
end Go.Proofs.YteadlkecngfcoaaGreatDoor
