/- Walks: mtbdd's builder: leaf, node, where the value and the fork are new. No condition but sizes. -/
import Derived.Test.YteadlkecngfcoaaGreatO2
import Derived.BigQuiet
import Derived.Deep.QuietTactic
import Derived.StillTailTactics
namespace Go.Proofs.YteadlkecngfcoaaGreat
open Go.ChangeShapes Go.WideShapes Go.ChangeAt Go.RowKit
set_option linter.unusedVariables false
set_option linter.unusedSimpArgs false

/-- nothing but the blocks of X has changed -/
def Fr (X : Nat → Prop) (W w' : World) : Prop :=
  w'.os = W.os ∧ w'.tape = W.tape ∧ w'.output = W.output ∧ W.heap.size ≤ w'.heap.size ∧ ∀ k, k < W.heap.size → ¬ X k → w'.heap[k]? = W.heap[k]?
section fr
variable {X Y : Nat → Prop} {W w1 w2 : World}
theorem Fr.refl (X : Nat → Prop) (W : World) : Fr X W W := ⟨rfl, rfl, rfl, Nat.le_refl _, fun _ _ _ => rfl⟩
theorem Fr.trans (h : Fr X W w1) (h' : Fr Y w1 w2) (hY : ∀ k, k < W.heap.size → Y k → X k) : Fr X W w2 := by
  obtain ⟨a1, a2, a3, a4, a5⟩ := h
  obtain ⟨b1, b2, b3, b4, b5⟩ := h'
  exact ⟨b1.trans a1, b2.trans a2, b3.trans a3, Nat.le_trans a4 b4, fun k hk hx => (b5 k (Nat.lt_of_lt_of_le hk a4) (fun hy => hx (hY k hk hy))).trans (a5 k hk hx)⟩
theorem Fr.grown {row : Option Nat} (h : Fr X W w1) (hg : w1.grownBy w2 row) (hr : ∀ k, k < W.heap.size → some k = row → X k) : Fr X W w2 := by
  obtain ⟨a1, a2, a3, a4, a5⟩ := h
  exact ⟨hg.os.trans a1, hg.tape.trans a2, hg.output.trans a3, Nat.le_trans a4 hg.size, fun k hk hx => (hg.block k (Nat.lt_of_lt_of_le hk a4) (fun e => hx (hr k hk e))).trans (a5 k hk hx)⟩
theorem Fr.set {b o : Nat} {u : Value} (h : Fr X W w1) (hb : b < W.heap.size → X b) : Fr X W (w1.setCell ⟨b, o, none⟩ u) :=
  h.grown (row := some b) ⟨rfl, rfl, rfl, by simp, fun k _ hk => Below.heap_setCell _ _ _ _ (fun e => hk (by rw [e]))⟩ fun k hk e => by injection e with e; subst e; exact hb hk
theorem Fr.alloc (h : Fr X W w1) (o : Obj) : Fr X W (w1.alloc o) :=
  h.grown (row := none) ⟨rfl, rfl, rfl, by simp, fun k hk _ => Below.heap_alloc _ _ k hk⟩ fun k _ e => by cases e
theorem Fr.mono (h : Fr X W w1) (hX : ∀ k, k < W.heap.size → X k → Y k) : Fr Y W w1 := ⟨h.1, h.2.1, h.2.2.1, h.2.2.2.1, fun k hk hy => h.2.2.2.2 k hk fun hx => hy (hX k hk hx)⟩
theorem Fr.below {B : Nat} (h : Fr X W w1) (hB : B ≤ W.heap.size) (hX : ∀ k, k < B → ¬ X k) : Below B W w1 :=
  ⟨h.1, h.2.1, h.2.2.1, h.2.2.2.1, fun k hk => h.2.2.2.2 k (by omega) (hX k hk)⟩
theorem Fr.of_below (h : Below W.heap.size W w1) : Fr X W w1 := ⟨h.os, h.tape, h.output, h.size, fun k hk _ => h.block k hk⟩
theorem Fr.cell {b o : Nat} {v : Value} (h : Fr X W w1) (hb : ¬ X b) (hc : W.cell? ⟨b, o, none⟩ = some v) : w1.cell? ⟨b, o, none⟩ = some v :=
  (World.cell?_of_block (h.2.2.2.2 b (block_lt hc) hb)).trans hc
theorem Fr.size (h : Fr X W w1) : W.heap.size ≤ w1.heap.size := h.2.2.2.1
theorem Fr.drew (h : Fr X W w1) : Fr X W w1.drew := h
theorem Fr.drewN (h : Fr X W w1) (n : Nat) : Fr X W (w1.drewN n) := by
  refine ⟨?_, ?_, ?_, ?_, ?_⟩ <;> simp [World.drewN] <;> first | exact h.1 | exact h.2.1 | exact h.2.2.1 | exact h.2.2.2.1 | exact h.2.2.2.2
end fr
theorem IMap.same {K : Type} {kt : TypeId} {lit : K → Lit} {okk : K → Prop} {w w' : World} {mb n : Nat} {G : K → Bool} {V : K → Int} (h : IMap kt lit okk w mb n G V) (hb : w'.heap[mb]? = w.heap[mb]?) : IMap kt lit okk w' mb n G V := by
  obtain ⟨D, ⟨es, clock, h1, h2⟩, h3⟩ := h
  exact ⟨D, ⟨es, clock, hb.trans h1, h2⟩, h3⟩
theorem row_same {w w' : World} {base : Nat} {e : TypeId} {size : Nat} {v : Value} {n : Nat} {xs : List Value} (h : w.ownsRow base e size v n xs) (hb : ∀ b, v.ownBlock = some b → w'.heap[b]? = w.heap[b]?) : w'.ownsRow base e size v n xs := by
  refine ⟨h.1, ?_⟩
  rcases h.2 with hn | ⟨g, cap, cur, rfl, hg, hgg, rest⟩
  · exact .inl hn
  · exact .inr ⟨g, cap, cur, rfl, hg, (hb g rfl).trans hgg, rest⟩

/-- the builder, whose leaves and nodes are vs and fs -/
def BuS (bb lm nm B : Nat) (w : World) (lv kv : Value) (vs : List Int) (fs : List Fork) : Prop :=
  w.heap[bb]? = some (.cells #[lv, kv, .map (some lm), .map (some nm), .bool false] 128 (0, 0)) ∧
  (∃ V, IntMap w lm vs.length (fun x => decide (x ∈ vs)) V) ∧ (∃ V, ForkMap w nm fs.length (fun x => decide (x ∈ fs)) V) ∧
  w.ownsRow B 3 1 lv vs.length (vs.map (.int .i64)) ∧ w.ownsRow B 49 3 kv fs.length (fs.flatMap forkV) ∧
  (∀ b, lv.ownBlock = some b → kv.ownBlock ≠ some b) ∧ B ≤ w.heap.size
/-- its blocks -/
def BuX (bb lm nm : Nat) (lv kv : Value) (k : Nat) : Prop := k = bb ∨ k = lm ∨ k = nm ∨ lv.ownBlock = some k ∨ kv.ownBlock = some k
theorem BuS.same {bb lm nm B : Nat} {w w' : World} {lv kv : Value} {vs : List Int} {fs : List Fork} (h : BuS bb lm nm B w lv kv vs fs) (hs : w.heap.size ≤ w'.heap.size) (hb : ∀ k, k < w.heap.size → BuX bb lm nm lv kv k → w'.heap[k]? = w.heap[k]?) : BuS bb lm nm B w' lv kv vs fs := by
  obtain ⟨h1, ⟨V1, h2⟩, ⟨V2, h3⟩, h4, h5, h6, h7⟩ := h
  have e1 := (Array.getElem?_eq_some_iff.1 h1).1
  exact ⟨(hb _ e1 (.inl rfl)).trans h1, ⟨V1, h2.same (hb _ h2.lt (.inr (.inl rfl)))⟩, ⟨V2, h3.same (hb _ h3.lt (.inr (.inr (.inl rfl))))⟩,
    row_same h4 fun b e => hb _ (h4.lt b e).2 (.inr (.inr (.inr (.inl e)))), row_same h5 fun b e => hb _ (h5.lt b e).2 (.inr (.inr (.inr (.inr e)))), h6, Nat.le_trans h7 hs⟩
theorem BuS.below {bb lm nm B : Nat} {w w' : World} {lv kv : Value} {vs : List Int} {fs : List Fork} (h : BuS bb lm nm B w lv kv vs fs) (hb : Below w.heap.size w w') : BuS bb lm nm B w' lv kv vs fs := h.same hb.size fun k hk _ => hb.block k hk
theorem BuS.fr {X : Nat → Prop} {bb lm nm B : Nat} {w w' : World} {lv kv : Value} {vs : List Int} {fs : List Fork} (h : BuS bb lm nm B w lv kv vs fs) (hb : Fr X w w') (hX : ∀ k, k < w.heap.size → BuX bb lm nm lv kv k → ¬ X k) : BuS bb lm nm B w' lv kv vs fs :=
  h.same hb.size fun k hk hx => hb.2.2.2.2 k hk (hX k hk hx)
/-- what leaf and node hand back -/
def BuPost (bb lm nm B : Nat) (lv kv : Value) (W : World) (vs : List Int) (fs : List Fork) (r : Int) (e : Ending) (w' : World) : Prop :=
  e = .returned (.int .i64 r) ∧ Fr (BuX bb lm nm lv kv) W w' ∧ ∃ lv' kv', BuS bb lm nm B w' lv' kv' vs fs ∧ ∀ b, BuX bb lm nm lv' kv' b → BuX bb lm nm lv kv b ∨ W.heap.size ≤ b

theorem heap_set {w : World} {b o : Nat} {arr : Array Value} {T : TypeId} {fr : Nat × Nat} (u : Value) (h : w.heap[b]? = some (.cells arr T fr)) : (w.setCell ⟨b, o, none⟩ u).heap[b]? = some (.cells (arr.set! o u) T fr) := by
  simp [World.setCell, Array.getElem?_modify, h]
theorem cell_of {w : World} {b o : Nat} {arr : Array Value} {T : TypeId} {fr : Nat × Nat} {v : Value} (h : w.heap[b]? = some (.cells arr T fr)) (hv : arr[o]? = some v) : w.cell? ⟨b, o, none⟩ = some v := by
  simp [World.cell?, h, hv]
theorem froz_of {w : World} {b : Nat} {arr : Array Value} {T : TypeId} (h : w.heap[b]? = some (.cells arr T (0, 0))) (o : Nat) : w.frozen? ⟨b, o, none⟩ = false := by
  simp [World.frozen?, h]

theorem alloc3_0 (w : World) (a b c : Value) (T : TypeId) : (w.alloc (.cells #[a, b, c] T)).cell? ⟨w.heap.size, 0, none⟩ = some a := by simp
theorem alloc3_1 (w : World) (a b c : Value) (T : TypeId) : (w.alloc (.cells #[a, b, c] T)).cell? ⟨w.heap.size, 1, none⟩ = some b := by simp
theorem alloc3_2 (w : World) (a b c : Value) (T : TypeId) : (w.alloc (.cells #[a, b, c] T)).cell? ⟨w.heap.size, 2, none⟩ = some c := by simp
theorem step_push3 {P : Program} {ops : Array Oper} {o : Oper} {a : Act} {w : World} {K : Act → World → Prop} {Q : Exit → Act → World → Prop} {X : Prop}
    (hgd : o.guard = none) (s x : Operand) (t : TypeId)
    (ho : o.op = .call { callee := .builtin .append, args := #[s, x], argTypes := #[t, t] })
    (E : TypeId) (z : Value) (bytes : Nat) (ht : P.underlying t = some (.slice E)) (hinfo : (P.info? E).map (fun i => (i.zero, i.size, i.bytes)) = some (some z, 3, bytes)) (hz1 : z.cells.size = 3)
    (base : Nat) (v : Value) (n : Nat) (xs : List Value) (B : Nat) (u0 u1 u2 : Value)
    (hs : a.eval s = v) (hx : a.eval x = .slice (some ⟨B, 0, none⟩) 1 1) (hc0 : w.cell? ⟨B, 0, none⟩ = some u0) (hc1 : w.cell? ⟨B, 1, none⟩ = some u1) (hc2 : w.cell? ⟨B, 2, none⟩ = some u2) (hown : w.ownsRow base E 3 v n xs) (hu0 : u0.oneCell' = true) (hu1 : u1.oneCell' = true) (hu2 : u2.oneCell' = true)
    (hn : (n + 1) * bytes ≤ 140737488355328) (hby : 1 ≤ bytes) (hbase : base ≤ w.heap.size)
    (h : ∀ (g cap' : Nat) w', w'.ownsRow base E 3 (.slice (some ⟨g, 0, none⟩) (n + 1) cap') (n + 1) (xs ++ [u0, u1, u2]) → w.grownBy w' v.ownBlock → (v.ownBlock = some g ∨ w.heap.size ≤ g) → K (a.put o.dst (.slice (some ⟨g, 0, none⟩) (n + 1) cap')) w') :
    if Region.wanted o (yielded ops a.tmps) = true then Oper.wp P o a w K Q else X := by
  have hw : Region.wanted o (yielded ops a.tmps) = true := by simp [Region.wanted, hgd]
  rw [if_pos hw]
  obtain ⟨i, hi, hz, h1, h2⟩ := info_parts hinfo
  have hle : n + 1 ≤ (n + 1) * bytes := Nat.le_mul_of_pos_right _ hby
  obtain ⟨v', w', hr, k2, k3, k4, k5⟩ := run_append_own_at (P := P) w base t o.type E i z 3 bytes ht hi hz h1 h2 hz1 (by decide) v n xs hown ⟨B, 0, none⟩ 1 1 [u0, u1, u2] rfl
    (fun j y hj => by
      match j, hj with
      | 0, hj => simp at hj; subst hj; simpa [Addr.add] using hc0
      | 1, hj => simp at hj; subst hj; simpa [Addr.add] using hc1
      | 2, hj => simp at hj; subst hj; simpa [Addr.add] using hc2)
    (fun y hy => by simp at hy; rcases hy with rfl | rfl | rfl <;> assumption) (by unfold maxLen; omega) hn hbase
  unfold Oper.wp execOp
  simp only [ho, resolve, invoke, builtin, Sem.run_bind, Sem.run_pure, Result.andThen_ok, List.map_toArray, List.map_cons, List.map_nil, hs, hx, hr]
  rcases k2.2 with ⟨_, h0⟩ | ⟨g, cap', cur, rfl, hb, hh, _⟩
  · omega
  refine h g cap' w' k2 k3 ?_
  rcases k5 with h | h
  · exact .inl h.symm
  · right; simp [Value.ownBlock] at h; omega

set_option maxRecDepth 100000 in
set_option maxHeartbeats 4000000 in
theorem leaf_any (bb lm nm B : Nat) (lv kv : Value) (vs : List Int) (fs : List Fork) (v : Int) (w : World) (h1 : lm < nm) (h2 : nm < bb) (h3 : bb < B) (hS : BuS bb lm nm B w lv kv vs fs) (hv : v ∉ vs) (hr : rngM v = true) (hl : vs.length ≤ 1000000) :
    Calls Tryz.prog 102 #[.pointer (some ⟨bb, 0, none⟩), .int .i64 v] w (BuPost bb lm nm B lv kv w (vs ++ [v]) fs (2 * (vs.length : Int))) := by
  have hI : I64 v := by
    unfold rngM at hr
    simp only [Bool.and_eq_true, decide_eq_true_eq] at hr
    exact ⟨by omega, by omega⟩
  obtain ⟨hb, ⟨V1, hM⟩, ⟨V2, hN⟩, hO, hK, hd, hB⟩ := hS
  have HR := Lib.hid (fun w => hr ▸ range_any v w)
  obtain ⟨c, hrun, _⟩ := hM.ok law_int Tryz.underlying102 (kv := .int .i64 v) (keyOf_i hI) hI
  simp only [decide_eq_false hv] at hrun
  obtain ⟨N, hNn⟩ : ∃ N, vs.length = N := ⟨_, rfl⟩
  rw [hNn] at hM hO hl ⊢
  obtain ⟨la, lc, hlv⟩ := own_form hO
  subst hlv
  have k0 : w.cell? ⟨bb, 0, none⟩ = some (.slice la N lc) := cell_of (o := 0) hb rfl
  have k2 : w.cell? ⟨bb, 2, none⟩ = some (.map (some lm)) := cell_of (o := 2) hb rfl
  have k4 : w.cell? ⟨bb, 4, none⟩ = some (.bool false) := cell_of (o := 4) hb rfl
  have hbl : bb < w.heap.size := block_lt k0
  have hf := froz_of hb
  obtain ⟨D, hD1, hD2, hD3⟩ := hM
  have HB := Lib.hid hb
  have HO := Lib.hid hO
  have HK := Lib.hid hK
  have HN := Lib.hid hN
  have HD1 := Lib.hid hD1
  have HD2 := Lib.hid hD2
  have HD3 := Lib.hid hD3
  have HD := Lib.hid hd
  have HI := Lib.hid hI
  have HV := Lib.hid hv
  have HL := Lib.hid hNn
  have HOB : Hid (∀ b, (Value.slice la N lc).ownBlock = some b → B ≤ b ∧ b < w.heap.size) := Lib.hid hO.lt
  have HKB : Hid (∀ b, kv.ownBlock = some b → B ≤ b ∧ b < w.heap.size) := Lib.hid hK.lt
  have hinfo : (Tryz.prog.info? 3).map (fun i => (i.zero, i.size, i.bytes)) = some (some (.int .i64 0), 1, 8) := by kernel_rfl
  have HIN := Lib.hid hinfo
  have hw2 : IntKind.i64.wrap (2 * (N : Int)) = 2 * N := IntWalk.i64_in _ ⟨by omega, by omega⟩
  clear hb hO hK hN hD1 hD2 hD3 hd hv hNn hinfo hr hI
  go_enter Tryz.func102, Tryz.ntmps102
  go_wp2_with (first
    | (at_mapUpdate; go_loud (refine wpList_mapUpdate_own _ rfl _ _ _ 102 rfl 3 3 law_int Tryz.underlying102 (plainElem Tryz.prog 3) lm N D rfl HD1.out (by unfold maxLen; omega) _ _ (.int .i64 v) rfl rfl (keyOf_i HI.out) (.lit (.int .i64 N)) [] (plainElem_int Tryz.underlying3 (I64_wf ⟨by omega, by omega⟩)) ?_); intro w4 hown4 hgrow4;
       have hob4 : w4.ownsRow B 3 1 (.slice la N lc) N (vs.map (.int .i64)) := HO.out.kept hgrow4 (.inr fun e => by have := (HOB.out _ e).1; omega);
       have y0 := grown_cell hgrow4 (o := 0) (b := bb) (fun e => by injection e with e; omega) k0; have y4 := grown_cell hgrow4 (o := 4) (b := bb) (fun e => by injection e with e; omega) k4;
       have yf := fun o => grown_froz hgrow4 (b := bb) (fun e => by injection e with e; omega) hbl (hf o);
       have hs4 : w.heap.size ≤ w4.heap.size := hgrow4.size;
       have HG4 := Lib.hid hgrow4; have HO4 := Lib.hid hown4; clear hown4 hgrow4 k0 k2 k4 hf hrun)
    | (at_builtin; go_loud (refine wpList_push1 rfl _ _ 22 rfl 3 (.int .i64 0) 8 Tryz.underlying22 HIN.out rfl B (.slice la N lc) N _ w4 (.int .i64 v) rfl rfl hob4 rfl (by omega) (by omega) (by omega) ?_); intro g3 cap3 w3 hown3 hg3 hs3 hgb hgl hat;
       have z4 := grown_cell hg3 (fun e => by have := (HOB.out _ e.symm).1; omega) y4;
       have zf := fun o => grown_froz hg3 (fun e => by have := (HOB.out _ e.symm).1; omega) (block_lt y0) (yf o);
       have z0 := grown_cell hg3 (fun e => by have := (HOB.out _ e.symm).1; omega) y0;
       have HG3 := Lib.hid hg3; have HO3 := Lib.hid hown3; have HAT := Lib.hid hat; clear hown3 hg3 hat hob4 y0 y4 yf)
    | fail)
  refine (HR.out _).mono ?_
  rintro e w5 ⟨rfl, rfl⟩
  go_wp2
  go_ret
  have hsz3 := HG3.out.size
  have e3 : w3.heap[bb]? = some (.cells #[.slice la N lc, kv, .map (some lm), .map (some nm), .bool false] 128 (0, 0)) :=
    (HG3.out.block bb (by omega) (fun e => by have := (HOB.out _ e.symm).1; omega)).trans ((HG4.out.block bb hbl (fun e => by injection e with e; omega)).trans HB.out)
  have old : ∀ k, k < w.heap.size → k ≠ bb → k ≠ lm → (Value.slice la N lc).ownBlock ≠ some k → ((w3.setCell ⟨bb, 0, none⟩ (.slice (some ⟨g3, 0, none⟩) (N + 1) cap3)).setCell ⟨bb, 4, none⟩ (.bool false)).heap[k]? = w.heap[k]? := fun k hk n1 n2 n3 => by
    rw [Below.heap_setCell _ _ _ _ (by simpa using n1), Below.heap_setCell _ _ _ _ (by simpa using n1), HG3.out.block k (by omega) (fun e => n3 e.symm), HG4.out.block k hk (fun e => n2 (by injection e))]
  have new : ∀ k, k ≠ bb → ((w3.setCell ⟨bb, 0, none⟩ (.slice (some ⟨g3, 0, none⟩) (N + 1) cap3)).setCell ⟨bb, 4, none⟩ (.bool false)).heap[k]? = w3.heap[k]? := fun k n1 => by
    rw [Below.heap_setCell _ _ _ _ (by simpa using n1), Below.heap_setCell _ _ _ _ (by simpa using n1)]
  refine ⟨rfl, ⟨HG3.out.os.trans HG4.out.os, HG3.out.tape.trans HG4.out.tape, HG3.out.output.trans HG4.out.output, by simp; omega, fun k hk hx => old k hk (fun e => hx (.inl e)) (fun e => hx (.inr (.inl e))) (fun e => hx (.inr (.inr (.inr (.inl e)))))⟩, .slice (some ⟨g3, 0, none⟩) (N + 1) cap3, kv, ⟨?_, ?_, ?_, ?_, ?_, ?_, ?_⟩, ?_⟩
  · rw [heap_set _ (heap_set _ e3)]; rfl
  · refine ⟨fun x => if x = v then N else V1 x, ?_⟩
    have := (imap_put (K := Int) (lit := litI) (okk := I64) (G := fun x => decide (x ∈ vs)) (V := V1) HI.out trivial (fun x _ h => by injection h) HO4.out HD2.out HD3.out).same (w' := (w3.setCell ⟨bb, 0, none⟩ (.slice (some ⟨g3, 0, none⟩) (N + 1) cap3)).setCell ⟨bb, 4, none⟩ (.bool false)) ((new lm (by omega)).trans (HG3.out.block lm (by have := HO4.out.lt; omega) (fun e => by have := (HOB.out _ e.symm).1; omega)))
    exact this.congr (by simp [HL.out]) (fun x _ => by simp [Bool.decide_or]) (fun _ _ _ => rfl)
  · exact ⟨V2, HN.out.same (old nm HN.out.lt (by omega) (by omega) (fun e => by have := (HOB.out _ e).1; omega))⟩
  · have := row_same HO3.out (w' := (w3.setCell ⟨bb, 0, none⟩ (.slice (some ⟨g3, 0, none⟩) (N + 1) cap3)).setCell ⟨bb, 4, none⟩ (.bool false)) (fun b e => new b (by simp [Value.ownBlock] at e; omega))
    simpa [HL.out] using this
  · exact row_same HK.out fun b e => old b (HKB.out b e).2 (by have := (HKB.out b e).1; omega) (by have := (HKB.out b e).1; omega) (fun e' => HD.out _ e' e)
  · intro b e e'
    simp [Value.ownBlock] at e
    subst e
    rcases HAT.out with h | h
    · exact HD.out _ h e'
    · have := (HKB.out _ e').2; omega
  · have := hs4; simp; omega
  · intro b hx
    rcases hx with h | h | h | h | h
    · exact .inl (.inl h)
    · exact .inl (.inr (.inl h))
    · exact .inl (.inr (.inr (.inl h)))
    · simp [Value.ownBlock] at h
      subst h
      rcases HAT.out with h | h
      · exact .inl (.inr (.inr (.inr (.inl h))))
      · exact .inr (by omega)
    · exact .inl (.inr (.inr (.inr (.inr h))))

theorem node_end {bb lm nm B N lc g cap : Nat} {la : Option Addr} {lv : Value} {vs : List Int} {fs : List Fork} {v lo hi : Int} {D : DataW Unit} {V2 : Fork → Int} {w w2 w4 w5 w3 : World} (h1 : lm < nm) (h2 : nm < bb) (h3 : bb < B) (hS : BuS bb lm nm B w lv (.slice la N lc) vs fs) (hN : fs.length = N) (hok : ForkOk (v, lo, hi))
    (hb2 : Below w.heap.size w w2) (hg4 : w2.drew.grownBy w4 (some nm)) (hb5 : Below w4.heap.size w4 w5) (hg3 : w5.grownBy w3 (Value.slice la N lc).ownBlock)
    (hD2 : Maps.IsMap D) (hD3 : ∀ x, ForkOk x → Maps.has D (forkL x) = decide (x ∈ fs) ∧ (decide (x ∈ fs) = true → D.atKey (forkL x) (.lit (.int .i64 0)) = .lit (.int .i64 (V2 x))))
    (ho4 : w4.ownsMap Tryz.prog 49 (plainElem Tryz.prog 3) nm (N + 1) (D.put (forkL (v, lo, hi)) (.lit (.int .i64 N))))
    (ho3 : w3.ownsRow B 49 3 (.slice (some ⟨g, 0, none⟩) (N + 1) cap) (N + 1) (fs.flatMap forkV ++ [.int .i64 v, .int .i64 lo, .int .i64 hi]))
    (hat : (Value.slice la N lc).ownBlock = some g ∨ w5.heap.size ≤ g) :
    BuPost bb lm nm B lv (.slice la N lc) w vs (fs ++ [(v, lo, hi)]) (2 * (N : Int) + 1) (.returned (.int .i64 (2 * (N : Int) + 1))) (w3.setCell ⟨bb, 1, none⟩ (.slice (some ⟨g, 0, none⟩) (N + 1) cap)) := by
  obtain ⟨hb, ⟨V1, hM⟩, ⟨_, hNM⟩, hO, hK, hd, hB⟩ := hS
  have hbl : bb < w.heap.size := (Array.getElem?_eq_some_iff.1 hb).1
  have hnl := hNM.lt
  have s2 := hb2.size
  have s4 : w2.heap.size ≤ w4.heap.size := hg4.size
  have s5 := hb5.size
  have s3 := hg3.size
  have hKB := hK.lt
  have keep : ∀ k, k < w.heap.size → k ≠ nm → (Value.slice la N lc).ownBlock ≠ some k → w3.heap[k]? = w.heap[k]? := fun k hk n2 n3 => by
    rw [hg3.block k (by omega) (fun e => n3 e.symm), hb5.block k (by omega), hg4.block k (show k < w2.heap.size by omega) (fun e => n2 (by injection e))]
    exact hb2.block k hk
  have new : ∀ k, k ≠ bb → (w3.setCell ⟨bb, 1, none⟩ (.slice (some ⟨g, 0, none⟩) (N + 1) cap)).heap[k]? = w3.heap[k]? := fun k n1 => Below.heap_setCell _ _ _ _ (by simpa using n1)
  have e3 := (keep bb hbl (by omega) (fun e => by have := (hKB _ e).1; omega)).trans hb
  refine ⟨rfl, ⟨?_, ?_, ?_, by simp; omega, fun k hk hx => ?_⟩, lv, .slice (some ⟨g, 0, none⟩) (N + 1) cap, ⟨?_, ?_, ?_, ?_, ?_, ?_, ?_⟩, ?_⟩
  · exact hg3.os.trans (hb5.os.trans (hg4.os.trans hb2.os))
  · exact hg3.tape.trans (hb5.tape.trans (hg4.tape.trans hb2.tape))
  · exact hg3.output.trans (hb5.output.trans (hg4.output.trans hb2.output))
  · rw [new k (fun e => hx (.inl e))]
    exact keep k hk (fun e => hx (.inr (.inr (.inl e)))) (fun e => hx (.inr (.inr (.inr (.inr e)))))
  · rw [heap_set _ e3]; rfl
  · exact ⟨V1, hM.same ((new lm (by omega)).trans (keep lm hM.lt (by omega) (fun e => by have := (hKB _ e).1; omega)))⟩
  · refine ⟨fun x => if x = (v, lo, hi) then N else V2 x, ?_⟩
    have hn4 := ho4.lt
    have := (imap_put (K := Fork) (lit := forkL) (okk := ForkOk) (G := fun x => decide (x ∈ fs)) (V := V2) hok trivial (fun x hx h => forkL_inj hx hok h) ho4 hD2 hD3).same (w' := w3.setCell ⟨bb, 1, none⟩ (.slice (some ⟨g, 0, none⟩) (N + 1) cap)) ((new nm (by omega)).trans ((hg3.block nm (by omega) (fun e => by have := (hKB _ e.symm).1; omega)).trans (hb5.block nm hn4)))
    exact this.congr (by simp [hN]) (fun x _ => by simp [Bool.decide_or]) (fun _ _ _ => rfl)
  · exact row_same hO fun b e => (new b (by have := (hO.lt b e).1; omega)).trans (keep b (hO.lt b e).2 (by have := (hO.lt b e).1; omega) (hd b e))
  · have := row_same ho3 (w' := w3.setCell ⟨bb, 1, none⟩ (.slice (some ⟨g, 0, none⟩) (N + 1) cap)) (fun b e => new b (by
      rcases hat with h | h
      · simp [Value.ownBlock] at e; subst e; have := (hKB _ h).1; omega
      · simp [Value.ownBlock] at e; omega))
    simpa [hN, forkV] using this
  · intro b e e'
    simp [Value.ownBlock] at e'
    subst e'
    rcases hat with h | h
    · exact hd _ e h
    · have := (hO.lt _ e).2; omega
  · simp; omega
  · intro b hx
    rcases hx with h | h | h | h | h
    · exact .inl (.inl h)
    · exact .inl (.inr (.inl h))
    · exact .inl (.inr (.inr (.inl h)))
    · exact .inl (.inr (.inr (.inr (.inl h))))
    · simp [Value.ownBlock] at h
      subst h
      rcases hat with h | h
      · exact .inl (.inr (.inr (.inr (.inr h))))
      · exact .inr (by omega)

set_option maxRecDepth 100000 in
set_option maxHeartbeats 4000000 in
theorem node_any (bb lm nm B : Nat) (lv kv : Value) (vs : List Int) (fs : List Fork) (v lo hi : Int) (w : World) (h1 : lm < nm) (h2 : nm < bb) (h3 : bb < B) (hS : BuS bb lm nm B w lv kv vs fs) (hv : (v, lo, hi) ∉ fs) (hne : lo ≠ hi) (hok : ForkOk (v, lo, hi)) (hl : fs.length ≤ 1000000) :
    Calls Tryz.prog 104 #[.pointer (some ⟨bb, 0, none⟩), .int .i64 v, .int .i64 lo, .int .i64 hi] w (BuPost bb lm nm B lv kv w vs (fs ++ [(v, lo, hi)]) (2 * (fs.length : Int) + 1)) := by
  have HS0 := Lib.hid hS
  obtain ⟨hb, ⟨V1, hM⟩, ⟨V2, hN⟩, hO, hK, hd, hB⟩ := hS
  have hb1 : Below w.heap.size w (w.alloc (.cells #[.int .i64 v, .int .i64 lo, .int .i64 hi] 49)) := (Below.refl _ _).alloc (Nat.le_refl _) _
  obtain ⟨w1, hw1⟩ : ∃ W, w.alloc (.cells #[.int .i64 v, .int .i64 lo, .int .i64 hi] 49) = W := ⟨_, rfl⟩
  have hsz1 : w1.heap.size = w.heap.size + 1 := by rw [← hw1]; simp
  have hN1 := hN.below (hw1 ▸ hb1)
  have hK1 := own_below hK (hw1 ▸ hb1)
  obtain ⟨c, hrunA, _⟩ := hN1.okAll fork_law Tryz.underlying126 (kv := .agg #[.int .i64 v, .int .i64 lo, .int .i64 hi]) (keyOf_fork hok) hok
  simp only [decide_eq_false hv] at hrunA
  have hrun : ∀ n, (Instr.lookup 126 (.map (some nm)) (.agg #[.int .i64 v, .int .i64 lo, .int .i64 hi]) true).run Tryz.prog (w1.drewN n) = .ok (.tuple #[.int .i64 c, .bool false]) (w1.drewN n) := fun n => hrunA _ rfl
  clear hrunA
  obtain ⟨N, hNn⟩ : ∃ N, fs.length = N := ⟨_, rfl⟩
  rw [hNn] at hN1 hK hK1 hl ⊢
  obtain ⟨la, lc, hkv⟩ := own_form hK
  subst hkv
  have k1' : w.cell? ⟨bb, 1, none⟩ = some (.slice la N lc) := cell_of (o := 1) hb rfl
  have k3' : w.cell? ⟨bb, 3, none⟩ = some (.map (some nm)) := cell_of (o := 3) hb rfl
  have hbl : bb < w.heap.size := block_lt k1'
  have k1 := below_c (hw1 ▸ hb1) hbl k1'
  have k3 := below_c (hw1 ▸ hb1) hbl k3'
  have hf : ∀ o, w1.frozen? ⟨bb, o, none⟩ = false := fun o => below_z (hw1 ▸ hb1) hbl (froz_of hb o)
  have c0 : w1.cell? ⟨w.heap.size, 0, none⟩ = some (.int .i64 v) := by rw [← hw1]; simp
  have c1 : w1.cell? ⟨w.heap.size, 1, none⟩ = some (.int .i64 lo) := by rw [← hw1]; simp
  have c2 : w1.cell? ⟨w.heap.size, 2, none⟩ = some (.int .i64 hi) := by rw [← hw1]; simp
  obtain ⟨D, hD1, hD2, hD3⟩ := hN1
  have HB1 := Lib.hid (hw1 ▸ hb1)
  have HB := Lib.hid hb
  have HO := Lib.hid hO
  have HK := Lib.hid hK
  have HK1 := Lib.hid hK1
  have HM := Lib.hid hM
  have HD1 := Lib.hid hD1
  have HD2 := Lib.hid hD2
  have HD3 := Lib.hid hD3
  have HD := Lib.hid hd
  have HOK := Lib.hid hok
  have HV := Lib.hid hv
  have HL := Lib.hid hNn
  have HW1 := Lib.hid hw1
  have HOB : Hid (∀ b, (Value.slice la N lc).ownBlock = some b → B ≤ b ∧ b < w.heap.size) := Lib.hid hK.lt
  have HLB : Hid (∀ b, lv.ownBlock = some b → B ≤ b ∧ b < w.heap.size) := Lib.hid hO.lt
  have hinfo : (Tryz.prog.info? 49).map (fun i => (i.zero, i.size, i.bytes)) = some (some (.agg #[.int .i64 0, .int .i64 0, .int .i64 0]), 3, 24) := by kernel_rfl
  have HIN := Lib.hid hinfo
  have hw2 : IntKind.i64.wrap (2 * (N : Int)) = 2 * N := IntWalk.i64_in _ ⟨by omega, by omega⟩
  have hw3 : IntKind.i64.wrap (2 * (N : Int) + 1) = 2 * N + 1 := IntWalk.i64_in _ ⟨by omega, by omega⟩
  have hlh : (lo == hi) = false := by simp [hne]
  clear hb hO hK hK1 hM hN hD1 hD2 hD3 hd hv hNn hinfo hok hne hb1 hw1 k1' k3'
  go_enter Tryz.func104, Tryz.ntmps104
  go_upto_region 4 with fail
  rw [HW1.out]
  go_quiet (fail)
  obtain ⟨w2, hw2⟩ : ∃ W, w1.drewN nq = W := ⟨_, rfl⟩
  have HB2 : Hid (Below w.heap.size w w2) := Lib.hid (by rw [← hw2]; exact below_drewN HB1.out _)
  have HK2 : Hid (w2.ownsRow B 49 3 (.slice la N lc) N (fs.flatMap forkV)) := Lib.hid (by rw [← hw2]; exact row_same HK1.out fun _ _ => rfl)
  have HD2w : Hid (w2.ownsMap Tryz.prog 49 (plainElem Tryz.prog 3) nm N D) := Lib.hid (by rw [← hw2]; exact HD1.out)
  replace k1 : w2.cell? ⟨bb, 1, none⟩ = some (.slice la N lc) := by rw [← hw2]; exact k1
  replace k3 : w2.cell? ⟨bb, 3, none⟩ = some (.map (some nm)) := by rw [← hw2]; exact k3
  replace c0 : w2.cell? ⟨w.heap.size, 0, none⟩ = some (.int .i64 v) := by rw [← hw2]; exact c0
  replace c1 : w2.cell? ⟨w.heap.size, 1, none⟩ = some (.int .i64 lo) := by rw [← hw2]; exact c1
  replace c2 : w2.cell? ⟨w.heap.size, 2, none⟩ = some (.int .i64 hi) := by rw [← hw2]; exact c2
  replace hf : ∀ o, w2.frozen? ⟨bb, o, none⟩ = false := by rw [← hw2]; exact hf
  have hsz2 : w2.heap.size = w.heap.size + 1 := by rw [← hw2]; exact hsz1
  rw [hw2]
  clear hrun hw2 HW1 HB1 HK1 HD1
  go_upto_region 7 with fail
  go_still_tail 6, (by kernel_rfl)
  change wpList _ _ _ _ _ w2.drew
  go_upto_region 8 with (at_mapUpdate; go_loud (refine wpList_mapUpdate_own w2.drew rfl _ _ _ 126 rfl 49 3 fork_law Tryz.underlying126 (plainElem Tryz.prog 3) nm N D rfl HD2w.out (by unfold maxLen; omega) _ _ (forkL (v, lo, hi)) rfl rfl (keyOf_fork HOK.out) (.lit (.int .i64 N)) [] (plainElem_int Tryz.underlying3 (I64_wf ⟨by omega, by omega⟩)) ?_); intro w4 hown4 hgrow4)
  have hob4 : w4.ownsRow B 49 3 (.slice la N lc) N (fs.flatMap forkV) := World.ownsRow.kept (w := w2.drew) HK2.out hgrow4 (.inr fun e => by have := (HOB.out _ e).1; omega)
  have y1 : w4.cell? ⟨bb, 1, none⟩ = some (.slice la N lc) := grown_cell hgrow4 (o := 1) (b := bb) (fun e => by injection e with e; omega) k1
  have yc0 : w4.cell? ⟨w.heap.size, 0, none⟩ = some (.int .i64 v) := grown_cell hgrow4 (o := 0) (b := w.heap.size) (fun e => by injection e with e; omega) c0
  have yc1 : w4.cell? ⟨w.heap.size, 1, none⟩ = some (.int .i64 lo) := grown_cell hgrow4 (o := 1) (b := w.heap.size) (fun e => by injection e with e; omega) c1
  have yc2 : w4.cell? ⟨w.heap.size, 2, none⟩ = some (.int .i64 hi) := grown_cell hgrow4 (o := 2) (b := w.heap.size) (fun e => by injection e with e; omega) c2
  have yf : ∀ o, w4.frozen? ⟨bb, o, none⟩ = false := fun o => grown_froz hgrow4 (b := bb) (fun e => by injection e with e; omega) (block_lt k1) (hf o)
  have hs4 : w.heap.size + 1 ≤ w4.heap.size := by
    have h := hgrow4.size
    rw [← hsz2]; exact h
  have HG4 := Lib.hid hgrow4
  have HO4 := Lib.hid hown4
  have HOB4 := Lib.hid hob4
  clear hown4 hgrow4 k1 k3 c0 c1 c2 hf hob4
  refine wp_region_held_drew (S := fun w' => w'.cell? ⟨w.heap.size, 0, none⟩ = some (.int .i64 v) ∧ w'.cell? ⟨w.heap.size, 1, none⟩ = some (.int .i64 lo) ∧ w'.cell? ⟨w.heap.size, 2, none⟩ = some (.int .i64 hi)) (by kernel_rfl) (by exact ⟨yc0, yc1, yc2⟩) (fun hHeld => ?_)
  refine wpAnyH_take (i := 0) (v := ?_) rfl (by kernel_rfl) (by kernel_rfl) (by kernel_rfl) (fun _ _ _ h => h) (Or.inl ⟨by rfl, ?_⟩) (by assumption) ?_
  rotate_left
  · intro w hSw
    try dsimp only at hSw
    go_simp
    try with_reducible rfl
  try simp only [Act.put, List.getElem_toArray, List.getElem_cons_succ, List.getElem_cons_zero, List.setIfInBounds_toArray, List.set_cons_zero, List.set_cons_succ]
  refine wpAnyH_take (i := 1) (v := ?_) rfl (by kernel_rfl) (by kernel_rfl) (by kernel_rfl) (fun _ _ _ h => h) (Or.inl ⟨by rfl, ?_⟩) (by assumption) ?_
  rotate_left
  · intro w hSw
    try dsimp only at hSw
    go_simp
    try with_reducible rfl
  try simp only [Act.put, List.getElem_toArray, List.getElem_cons_succ, List.getElem_cons_zero, List.setIfInBounds_toArray, List.set_cons_zero, List.set_cons_succ]
  refine wpAnyH_take (i := 2) (v := ?_) rfl (by kernel_rfl) (by kernel_rfl) (by kernel_rfl) (fun _ _ _ h => h) (Or.inl ⟨by rfl, ?_⟩) (by assumption) ?_
  rotate_left
  · intro w hSw
    try dsimp only at hSw
    go_simp
    try with_reducible rfl
  try simp only [Act.put, List.getElem_toArray, List.getElem_cons_succ, List.getElem_cons_zero, List.setIfInBounds_toArray, List.set_cons_zero, List.set_cons_succ]
  refine wpAnyH_take (i := 3) (v := ?_) rfl (by kernel_rfl) (by kernel_rfl) (by kernel_rfl) (fun _ _ _ h => h) (Or.inl ⟨by rfl, ?_⟩) (by assumption) ?_
  rotate_left
  · intro w hSw
    try dsimp only at hSw
    go_simp
    try with_reducible rfl
  try simp only [Act.put, List.getElem_toArray, List.getElem_cons_succ, List.getElem_cons_zero, List.setIfInBounds_toArray, List.set_cons_zero, List.set_cons_succ]
  refine wpAnyH_take (i := 5) (v := ?_) rfl (by kernel_rfl) (by kernel_rfl) (by kernel_rfl) (fun _ _ _ h => h) (Or.inl ⟨by rfl, ?_⟩) (by assumption) ?_
  rotate_left
  · intro w hSw
    try dsimp only at hSw
    go_simp
    try with_reducible rfl
  try simp only [Act.put, List.getElem_toArray, List.getElem_cons_succ, List.getElem_cons_zero, List.setIfInBounds_toArray, List.set_cons_zero, List.set_cons_succ]
  refine wpAnyH_ready (rs := [4, 6]) (by kernel_rfl) (by simp) ?_
  refine AllReadyH.cons rfl (fun K hK => ?_) (AllReadyH.cons rfl (fun K hK => ?_) AllReadyH.nil)
  · go_simp
    refine hK.out _ _ (by exact ⟨yc0, yc1, yc2⟩) (fun _ => ?_)
    clear hK K
    try simp only [Act.put, List.getElem_toArray, List.getElem_cons_succ, List.getElem_cons_zero, List.setIfInBounds_toArray, List.set_cons_zero, List.set_cons_succ]
    refine wpAnyH_ready (rs := [6]) (by kernel_rfl) (by simp) ?_
    refine AllReadyH.cons rfl (fun K hK => ?_) AllReadyH.nil
    go_simp
    obtain ⟨w5, hw5⟩ : ∃ W, (w4.alloc (.cells #[.int .i64 v, .int .i64 lo, .int .i64 hi] 49)).drew = W := ⟨_, rfl⟩
    have hb5 : Below w4.heap.size w4 w5 := by rw [← hw5]; exact ((Below.refl _ _).alloc (Nat.le_refl _) _).drew
    have hsz5 : w5.heap.size = w4.heap.size + 1 := by rw [← hw5]; exact World.size_alloc _ _
    have x0 : w5.cell? ⟨w4.heap.size, 0, none⟩ = some (.int .i64 v) := by rw [← hw5]; exact alloc3_0 w4 _ _ _ _
    have x1 : w5.cell? ⟨w4.heap.size, 1, none⟩ = some (.int .i64 lo) := by rw [← hw5]; exact alloc3_1 w4 _ _ _ _
    have x2 : w5.cell? ⟨w4.heap.size, 2, none⟩ = some (.int .i64 hi) := by rw [← hw5]; exact alloc3_2 w4 _ _ _ _
    have z1 := below_c hb5 (block_lt y1) y1
    have zc0 := below_c hb5 (block_lt yc0) yc0
    have zc1 := below_c hb5 (block_lt yc1) yc1
    have zc2 := below_c hb5 (block_lt yc2) yc2
    have zf : ∀ o, w5.frozen? ⟨bb, o, none⟩ = false := fun o => below_z hb5 (block_lt y1) (yf o)
    have hrow5 := own_below HOB4.out hb5
    have HB5 := Lib.hid hb5
    have hB5 : B ≤ w5.heap.size := by omega
    try rw [hw5]
    clear hb5 hw5
    refine hK.out _ _ (by exact ⟨zc0, zc1, zc2⟩) (fun _ => ?_)
    clear hK K
    try simp only [Act.put, List.getElem_toArray, List.getElem_cons_succ, List.getElem_cons_zero, List.setIfInBounds_toArray, List.set_cons_zero, List.set_cons_succ]
    refine wpAnyH_ready (rs := [7]) (by kernel_rfl) (by simp) ?_
    refine AllReadyH.cons rfl (fun K hK => ?_) AllReadyH.nil
    refine step_push3 rfl _ _ 23 rfl 49 (.agg #[.int .i64 0, .int .i64 0, .int .i64 0]) 24 Tryz.underlying23 HIN.out rfl B (.slice la N lc) N (fs.flatMap forkV) w4.heap.size (.int .i64 v) (.int .i64 lo) (.int .i64 hi) rfl rfl x0 x1 x2 hrow5 rfl rfl rfl (by omega) (by omega) hB5 ?_
    intro g3 cap3 w3 hown3 hg3 hat
    have v1 : w3.cell? ⟨bb, 1, none⟩ = some (.slice la N lc) := grown_cell hg3 (fun e => by have := (HOB.out _ e.symm).1; omega) z1
    have vc0 : w3.cell? ⟨w.heap.size, 0, none⟩ = some (.int .i64 v) := grown_cell hg3 (fun e => by have := (HOB.out _ e.symm).2; omega) zc0
    have vc1 : w3.cell? ⟨w.heap.size, 1, none⟩ = some (.int .i64 lo) := grown_cell hg3 (fun e => by have := (HOB.out _ e.symm).2; omega) zc1
    have vc2 : w3.cell? ⟨w.heap.size, 2, none⟩ = some (.int .i64 hi) := grown_cell hg3 (fun e => by have := (HOB.out _ e.symm).2; omega) zc2
    have vf : ∀ o, w3.frozen? ⟨bb, o, none⟩ = false := fun o => grown_froz hg3 (fun e => by have := (HOB.out _ e.symm).1; omega) (block_lt z1) (zf o)
    have HG3 := Lib.hid hg3
    have HO3 := Lib.hid hown3
    have HAT := Lib.hid hat
    clear hown3 hg3 hat
    refine hK.out _ _ (by exact ⟨vc0, vc1, vc2⟩) (fun _ => ?_)
    clear hK K
    try simp only [Act.put, List.getElem_toArray, List.getElem_cons_succ, List.getElem_cons_zero, List.setIfInBounds_toArray, List.set_cons_zero, List.set_cons_succ]
    refine wpAnyH_take (i := 8) (v := ?_) rfl (by kernel_rfl) (by kernel_rfl) (by kernel_rfl) (fun _ _ _ h => h) (Or.inl ⟨by rfl, ?_⟩) (by assumption) ?_
    rotate_left
    · intro w hSw
      try dsimp only at hSw
      go_simp
      try with_reducible rfl
    try simp only [Act.put, List.getElem_toArray, List.getElem_cons_succ, List.getElem_cons_zero, List.setIfInBounds_toArray, List.set_cons_zero, List.set_cons_succ]
    refine wpAnyH_take (i := 9) (v := ?_) rfl (by kernel_rfl) (by kernel_rfl) (by kernel_rfl) (fun _ _ _ h => h) (Or.inl ⟨by rfl, ?_⟩) (by assumption) ?_
    rotate_left
    · intro w hSw
      try dsimp only at hSw
      go_simp
      try with_reducible rfl
    try simp only [Act.put, List.getElem_toArray, List.getElem_cons_succ, List.getElem_cons_zero, List.setIfInBounds_toArray, List.set_cons_zero, List.set_cons_succ]
    refine wpAnyH_ready (rs := [10]) (by kernel_rfl) (by simp) ?_
    refine AllReadyH.cons rfl (fun K hK => ?_) AllReadyH.nil
    go_simp
    refine hK.out _ _ (by exact ⟨set_ne (by omega) vc0, set_ne (by omega) vc1, set_ne (by omega) vc2⟩) (fun _ => ?_)
    clear hK K
    try simp only [Act.put, List.getElem_toArray, List.getElem_cons_succ, List.getElem_cons_zero, List.setIfInBounds_toArray, List.set_cons_zero, List.set_cons_succ]
    refine wpAnyH_done (by kernel_rfl) ?_ _
    go_wp2
    go_ret
    exact node_end h1 h2 h3 HS0.out HL.out HOK.out HB2.out HG4.out HB5.out HG3.out HD2.out HD3.out HO4.out HO3.out HAT.out
  · go_simp
    obtain ⟨w5, hw5⟩ : ∃ W, (w4.alloc (.cells #[.int .i64 v, .int .i64 lo, .int .i64 hi] 49)).drew = W := ⟨_, rfl⟩
    have hb5 : Below w4.heap.size w4 w5 := by rw [← hw5]; exact ((Below.refl _ _).alloc (Nat.le_refl _) _).drew
    have hsz5 : w5.heap.size = w4.heap.size + 1 := by rw [← hw5]; exact World.size_alloc _ _
    have x0 : w5.cell? ⟨w4.heap.size, 0, none⟩ = some (.int .i64 v) := by rw [← hw5]; exact alloc3_0 w4 _ _ _ _
    have x1 : w5.cell? ⟨w4.heap.size, 1, none⟩ = some (.int .i64 lo) := by rw [← hw5]; exact alloc3_1 w4 _ _ _ _
    have x2 : w5.cell? ⟨w4.heap.size, 2, none⟩ = some (.int .i64 hi) := by rw [← hw5]; exact alloc3_2 w4 _ _ _ _
    have z1 := below_c hb5 (block_lt y1) y1
    have zc0 := below_c hb5 (block_lt yc0) yc0
    have zc1 := below_c hb5 (block_lt yc1) yc1
    have zc2 := below_c hb5 (block_lt yc2) yc2
    have zf : ∀ o, w5.frozen? ⟨bb, o, none⟩ = false := fun o => below_z hb5 (block_lt y1) (yf o)
    have hrow5 := own_below HOB4.out hb5
    have HB5 := Lib.hid hb5
    have hB5 : B ≤ w5.heap.size := by omega
    try rw [hw5]
    clear hb5 hw5
    refine hK.out _ _ (by exact ⟨zc0, zc1, zc2⟩) (fun _ => ?_)
    clear hK K
    try simp only [Act.put, List.getElem_toArray, List.getElem_cons_succ, List.getElem_cons_zero, List.setIfInBounds_toArray, List.set_cons_zero, List.set_cons_succ]
    refine wpAnyH_ready (rs := [4]) (by kernel_rfl) (by simp) ?_
    refine AllReadyH.cons rfl (fun K hK => ?_) AllReadyH.nil
    go_simp
    refine hK.out _ _ (by exact ⟨zc0, zc1, zc2⟩) (fun _ => ?_)
    clear hK K
    try simp only [Act.put, List.getElem_toArray, List.getElem_cons_succ, List.getElem_cons_zero, List.setIfInBounds_toArray, List.set_cons_zero, List.set_cons_succ]
    refine wpAnyH_ready (rs := [7]) (by kernel_rfl) (by simp) ?_
    refine AllReadyH.cons rfl (fun K hK => ?_) AllReadyH.nil
    refine step_push3 rfl _ _ 23 rfl 49 (.agg #[.int .i64 0, .int .i64 0, .int .i64 0]) 24 Tryz.underlying23 HIN.out rfl B (.slice la N lc) N (fs.flatMap forkV) w4.heap.size (.int .i64 v) (.int .i64 lo) (.int .i64 hi) rfl rfl x0 x1 x2 hrow5 rfl rfl rfl (by omega) (by omega) hB5 ?_
    intro g3 cap3 w3 hown3 hg3 hat
    have v1 : w3.cell? ⟨bb, 1, none⟩ = some (.slice la N lc) := grown_cell hg3 (fun e => by have := (HOB.out _ e.symm).1; omega) z1
    have vc0 : w3.cell? ⟨w.heap.size, 0, none⟩ = some (.int .i64 v) := grown_cell hg3 (fun e => by have := (HOB.out _ e.symm).2; omega) zc0
    have vc1 : w3.cell? ⟨w.heap.size, 1, none⟩ = some (.int .i64 lo) := grown_cell hg3 (fun e => by have := (HOB.out _ e.symm).2; omega) zc1
    have vc2 : w3.cell? ⟨w.heap.size, 2, none⟩ = some (.int .i64 hi) := grown_cell hg3 (fun e => by have := (HOB.out _ e.symm).2; omega) zc2
    have vf : ∀ o, w3.frozen? ⟨bb, o, none⟩ = false := fun o => grown_froz hg3 (fun e => by have := (HOB.out _ e.symm).1; omega) (block_lt z1) (zf o)
    have HG3 := Lib.hid hg3
    have HO3 := Lib.hid hown3
    have HAT := Lib.hid hat
    clear hown3 hg3 hat
    refine hK.out _ _ (by exact ⟨vc0, vc1, vc2⟩) (fun _ => ?_)
    clear hK K
    try simp only [Act.put, List.getElem_toArray, List.getElem_cons_succ, List.getElem_cons_zero, List.setIfInBounds_toArray, List.set_cons_zero, List.set_cons_succ]
    refine wpAnyH_take (i := 8) (v := ?_) rfl (by kernel_rfl) (by kernel_rfl) (by kernel_rfl) (fun _ _ _ h => h) (Or.inl ⟨by rfl, ?_⟩) (by assumption) ?_
    rotate_left
    · intro w hSw
      try dsimp only at hSw
      go_simp
      try with_reducible rfl
    try simp only [Act.put, List.getElem_toArray, List.getElem_cons_succ, List.getElem_cons_zero, List.setIfInBounds_toArray, List.set_cons_zero, List.set_cons_succ]
    refine wpAnyH_take (i := 9) (v := ?_) rfl (by kernel_rfl) (by kernel_rfl) (by kernel_rfl) (fun _ _ _ h => h) (Or.inl ⟨by rfl, ?_⟩) (by assumption) ?_
    rotate_left
    · intro w hSw
      try dsimp only at hSw
      go_simp
      try with_reducible rfl
    try simp only [Act.put, List.getElem_toArray, List.getElem_cons_succ, List.getElem_cons_zero, List.setIfInBounds_toArray, List.set_cons_zero, List.set_cons_succ]
    refine wpAnyH_ready (rs := [10]) (by kernel_rfl) (by simp) ?_
    refine AllReadyH.cons rfl (fun K hK => ?_) AllReadyH.nil
    go_simp
    refine hK.out _ _ (by exact ⟨set_ne (by omega) vc0, set_ne (by omega) vc1, set_ne (by omega) vc2⟩) (fun _ => ?_)
    clear hK K
    try simp only [Act.put, List.getElem_toArray, List.getElem_cons_succ, List.getElem_cons_zero, List.setIfInBounds_toArray, List.set_cons_zero, List.set_cons_succ]
    refine wpAnyH_done (by kernel_rfl) ?_ _
    go_wp2
    go_ret
    exact node_end h1 h2 h3 HS0.out HL.out HOK.out HB2.out HG4.out HB5.out HG3.out HD2.out HD3.out HO4.out HO3.out HAT.out
end Go.Proofs.YteadlkecngfcoaaGreat
