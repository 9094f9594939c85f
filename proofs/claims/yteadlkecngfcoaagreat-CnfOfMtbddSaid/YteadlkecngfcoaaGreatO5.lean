/- Walk: mtbdd's order. No condition but sizes. -/
import Derived.Test.YteadlkecngfcoaaGreatO4
import Derived.Test.YteadlkecngfcoaaGreatKd
namespace Go.Proofs.YteadlkecngfcoaaGreat
open Go.ChangeShapes Go.WideShapes Go.ChangeAt Go.RowKit
set_option linter.unusedVariables false
set_option linter.unusedSimpArgs false

/-- a map that the call made, from int to bool: which keys it has with true -/
def SMap (w : World) (mb n : Nat) (G : Int → Bool) : Prop :=
  ∃ D : DataW Unit, w.ownsMap Tryz.prog 3 (plainElem Tryz.prog 4) mb n D ∧ Maps.IsMap D ∧ ∀ x, I64 x → D.atKey (.int .i64 x) (.lit (.bool false)) = .lit (.bool (G x))
section smap
variable {w w' : World} {mb n : Nat} {G : Int → Bool}
theorem SMap.lt (h : SMap w mb n G) : mb < w.heap.size := let ⟨_, h1, _⟩ := h; h1.lt
theorem SMap.same (h : SMap w mb n G) (hb : w'.heap[mb]? = w.heap[mb]?) : SMap w' mb n G := by
  obtain ⟨D, ⟨es, clock, h1, h2⟩, h3⟩ := h
  exact ⟨D, ⟨es, clock, hb.trans h1, h2⟩, h3⟩
theorem SMap.made (w : World) : SMap (w.alloc (.map #[] 0)) w.heap.size 0 (fun _ => false) :=
  ⟨_, World.ownsMap_made _ _ _ _, Maps.isMap_empty, fun x _ => by simp [DataW.atKey]⟩
theorem SMap.look {x : Int} (h : SMap w mb n G) (hx : I64 x) : (Instr.lookup 142 (.map (some mb)) (.int .i64 x) false).run Tryz.prog w = .ok (.bool (G x)) w := by
  obtain ⟨D, h1, h2, h3⟩ := h
  obtain ⟨v, ps, hrun, hv⟩ := h1.lookup law_int Tryz.underlying142 (z := .bool false) (by kernel_rfl) (plainElem_bool Tryz.underlying4 false) (keyOf_i hx)
  rw [h3 x hx] at hv
  obtain ⟨y, rfl, hy⟩ := plainElem_bool_inv Tryz.underlying4 hv
  simp only [Prod.mk.injEq, DataW.lit.injEq, Lit.bool.injEq] at hy
  rw [hy.1]
  exact hrun
theorem smap_put {D : DataW Unit} {r : Int} (hr : I64 r) (h1 : w'.ownsMap Tryz.prog 3 (plainElem Tryz.prog 4) mb (n + 1) (D.put (.int .i64 r) (.lit (.bool true)))) (h2 : Maps.IsMap D)
    (h3 : ∀ x, I64 x → D.atKey (.int .i64 x) (.lit (.bool false)) = .lit (.bool (G x))) : SMap w' mb (n + 1) (fun x => G x || decide (x = r)) := by
  refine ⟨_, h1, h2.put _ _, fun x hx => ?_⟩
  by_cases e : x = r
  · subst e
    rw [Maps.atKey_put_same h2 (by trivial)]
    simp
  · have hne : (Lit.int .i64 x) ≠ Lit.int .i64 r := by simpa using e
    rw [Maps.atKey_put_other hne, h3 x hx]
    simp [e]
theorem SMap.congr {G' : Int → Bool} {m : Nat} (h : SMap w mb n G) (hn : n = m) (hG : ∀ x, I64 x → G x = G' x) : SMap w mb m G' := by
  obtain ⟨D, h1, h2, h3⟩ := h
  subst hn
  exact ⟨D, h1, h2, fun x hx => by rw [h3 x hx, hG x hx]⟩
end smap

def ixL (L : Nat) (O p : List Int) : List Int := (lfs L p).map fun r => ((lfs L O).idxOf r : Int)
def ixN (L : Nat) (O p : List Int) : List Int := (nds L p).map fun r => ((nds L O).idxOf r : Int)
/-- which blocks the walk of order has -/
structure OrB where
  bb : Nat
  tb : Nat
  nb : Nat
  lb : Nat
  sm : Nat
  sv : Nat
  wv : Nat
def OrB.ok (c : OrB) : Prop := c.bb < c.tb ∧ c.tb < c.nb ∧ c.nb < c.lb ∧ c.lb < c.sm ∧ c.sm < c.sv ∧ c.sv < c.wv
structure OrS (c : OrB) (L : Nat) (O : List Int) (kvB : Value) (fs : List Fork) (w : World) (p A : List Int) (lv kv : Value) : Prop where
  sc : w.cell? ⟨c.sv, 0, none⟩ = some (.map (some c.sm))
  tc : w.cell? ⟨c.tb, 0, none⟩ = some (.pointer (some ⟨c.bb, 0, none⟩))
  wc : w.cell? ⟨c.wv, 0, none⟩ = some (.func (.func 113) #[] #[.pointer (some ⟨c.sv, 0, none⟩), .pointer (some ⟨c.lb, 0, none⟩), .pointer (some ⟨c.tb, 0, none⟩), .pointer (some ⟨c.wv, 0, none⟩), .pointer (some ⟨c.nb, 0, none⟩)])
  b1 : w.cell? ⟨c.bb, 1, none⟩ = some kvB
  fk : Forks (fun b => b < c.tb) w kvB fs
  lc : w.heap[c.lb]? = some (.cells #[lv] 22)
  nc : w.heap[c.nb]? = some (.cells #[kv] 22)
  sm : SMap w c.sm (p.length + A.length) (fun x => decide (x ∈ p.map (bref L O)) || decide (x ∈ A.map (bref L O)))
  lo : w.ownsRow (c.wv + 1) 3 1 lv (lfs L p).length ((ixL L O p).map (.int .i64))
  ko : w.ownsRow (c.wv + 1) 3 1 kv (nds L p).length ((ixN L O p).map (.int .i64))
  ne : ∀ b, lv.ownBlock = some b → kv.ownBlock ≠ some b
def OrX (c : OrB) (lv kv : Value) (k : Nat) : Prop := k = c.nb ∨ k = c.lb ∨ k = c.sm ∨ lv.ownBlock = some k ∨ kv.ownBlock = some k
theorem OrS.below {c : OrB} {L : Nat} {O p A : List Int} {kvB lv kv : Value} {fs : List Fork} {w w' : World} (h : OrS c L O kvB fs w p A lv kv) (hb : Below w.heap.size w w') : OrS c L O kvB fs w' p A lv kv := by
  have blk : ∀ {k : Nat} {o : Obj}, w.heap[k]? = some o → w'.heap[k]? = some o := fun hk => (hb.block _ (Array.getElem?_eq_some_iff.1 hk).1).trans hk
  exact ⟨below_c hb (block_lt h.sc) h.sc, below_c hb (block_lt h.tc) h.tc, below_c hb (block_lt h.wc) h.wc, below_c hb (block_lt h.b1) h.b1, h.fk.below hb, blk h.lc, blk h.nc, h.sm.same (hb.block _ h.sm.lt), own_below h.lo hb, own_below h.ko hb, h.ne⟩
theorem OrS.nox {c : OrB} {L : Nat} {O p A : List Int} {kvB lv kv : Value} {fs : List Fork} {w : World} (ok : c.ok) (h : OrS c L O kvB fs w p A lv kv) (k : Nat) (hk : (k < c.wv + 1 ∧ k ≠ c.nb ∧ k ≠ c.lb ∧ k ≠ c.sm) ∨ w.heap.size ≤ k) : ¬ OrX c lv kv k := fun hx => by
  obtain ⟨k1, k2, k3, k4, k5, k6⟩ := ok
  have hvb := block_lt h.wc
  rcases hx with e | e | e | e | e
  · omega
  · omega
  · omega
  · have := h.lo.lt _ e; omega
  · have := h.ko.lt _ e; omega
def OrPost (c : OrB) (L : Nat) (O : List Int) (kvB : Value) (fs : List Fork) (lv kv : Value) (W : World) (p' A : List Int) (e : Ending) (w' : World) : Prop :=
  e = .returned (.tuple #[]) ∧ Fr (OrX c lv kv) W w' ∧ ∃ lv' kv', OrS c L O kvB fs w' p' A lv' kv' ∧ ∀ b, OrX c lv' kv' b → OrX c lv kv b ∨ W.heap.size ≤ b

set_option maxRecDepth 100000 in
set_option maxHeartbeats 4000000 in
theorem or_hit (c : OrB) (L : Nat) (O p A : List Int) (kvB lv kv : Value) (fs : List Fork) (X : Int) (w : World) (hx : I64 X) (hin : X ∈ p.map (bref L O)) (hS : OrS c L O kvB fs w p A lv kv) :
    Calls Tryz.prog 113 #[.int .i64 X, .pointer (some ⟨c.sv, 0, none⟩), .pointer (some ⟨c.lb, 0, none⟩), .pointer (some ⟨c.tb, 0, none⟩), .pointer (some ⟨c.wv, 0, none⟩), .pointer (some ⟨c.nb, 0, none⟩)] w (OrPost c L O kvB fs lv kv w p A) := by
  have HS := Lib.hid hS
  have hrun := hS.sm.look hx
  rw [decide_eq_true hin, Bool.true_or] at hrun
  have p1 := hS.sc
  clear hS hin
  go_enter Tryz.func113, Tryz.ntmps113
  go_wp2
  refine bodyPost_ret (v := .tuple #[]) (results_none rfl _ _ _) rfl ?_
  exact ⟨rfl, Fr.refl _ _, lv, kv, HS.out, fun b h => .inl h⟩

theorem even_mod (i : Nat) : (2 * (i : Int)).tmod 2 = 0 := by rw [Int.tmod_eq_emod_of_nonneg (by omega)]; omega
theorem even_div (i : Nat) : (2 * (i : Int)).tdiv 2 = i := by rw [Int.tdiv_eq_ediv_of_nonneg (by omega)]; omega
theorem odd_mod (i : Nat) : (2 * (i : Int) + 1).tmod 2 = 1 := by rw [Int.tmod_eq_emod_of_nonneg (by omega)]; omega
theorem odd_div (i : Nat) : (2 * (i : Int) + 1).tdiv 2 = i := by rw [Int.tdiv_eq_ediv_of_nonneg (by omega)]; omega
set_option maxRecDepth 100000 in
set_option maxHeartbeats 4000000 in
theorem or_leaf (c : OrB) (ok : c.ok) (L : Nat) (O p A : List Int) (kvB lv kv : Value) (fs : List Fork) (r : Int) (i : Nat) (w : World) (hi : (lfs L O).idxOf r = i) (hil : i ≤ 1000000) (hrL : r < L) (hpl : p.length + A.length ≤ 2000000) (hout : 2 * (i : Int) ∉ p.map (bref L O) ∧ 2 * (i : Int) ∉ A.map (bref L O)) (hS : OrS c L O kvB fs w p A lv kv) :
    Calls Tryz.prog 113 #[.int .i64 (2 * (i : Int)), .pointer (some ⟨c.sv, 0, none⟩), .pointer (some ⟨c.lb, 0, none⟩), .pointer (some ⟨c.tb, 0, none⟩), .pointer (some ⟨c.wv, 0, none⟩), .pointer (some ⟨c.nb, 0, none⟩)] w (OrPost c L O kvB fs lv kv w (p ++ [r]) A) := by
  have HS := Lib.hid hS
  have hx : I64 (2 * (i : Int)) := ⟨by omega, by omega⟩
  have hrun := hS.sm.look hx
  rw [decide_eq_false hout.1, decide_eq_false hout.2] at hrun
  simp only [Bool.or_false] at hrun
  have p1 := hS.sc
  obtain ⟨N, hN⟩ : ∃ N, (lfs L p).length = N := ⟨_, rfl⟩
  have hO := hS.lo
  rw [hN] at hO
  obtain ⟨la, lcp, hlv⟩ := own_form hO
  subst hlv
  have l1 : w.cell? ⟨c.lb, 0, none⟩ = some (.slice la N lcp) := cell_of hS.lc rfl
  have lf : ∀ o, w.frozen? ⟨c.lb, o, none⟩ = false := froz_of hS.lc
  obtain ⟨D, hD1, hD2, hD3⟩ := hS.sm
  obtain ⟨M, hM⟩ : ∃ M, p.length + A.length = M := ⟨_, rfl⟩
  rw [hM] at hD1 hpl
  have hNl : N ≤ 2000000 := by have := len_split L p; omega
  have HI := Lib.hid hi
  have HN := Lib.hid hN
  have HM := Lib.hid hM
  have HD1 := Lib.hid hD1
  have HD2 := Lib.hid hD2
  have HD3 := Lib.hid hD3
  have HO := Lib.hid hO
  have HX := Lib.hid hx
  have HRL := Lib.hid hrL
  have HOB : Hid (∀ b, (Value.slice la N lcp).ownBlock = some b → c.wv + 1 ≤ b ∧ b < w.heap.size) := Lib.hid hO.lt
  have hwv := block_lt hS.wc
  obtain ⟨o1, o2, o3, o4, o5, o6⟩ := ok
  have hlb := block_lt l1
  have HIN := Lib.hid (show (Tryz.prog.info? 3).map (fun i => (i.zero, i.size, i.bytes)) = some (some (.int .i64 0), 1, 8) by kernel_rfl)
  have m1 := even_mod i
  have m2 := even_div i
  clear hS hout hN hM hi hD1 hD2 hD3 hO hx hrL
  go_enter Tryz.func113, Tryz.ntmps113
  go_wp2_with (first
    | (at_mapUpdate; go_loud (refine wpList_mapUpdate_own _ rfl _ _ _ 142 rfl 3 4 law_int Tryz.underlying142 (plainElem Tryz.prog 4) c.sm M D rfl HD1.out (by unfold maxLen; omega) _ _ (.int .i64 (2 * (i : Int))) rfl rfl (keyOf_i HX.out) (.lit (.bool true)) [] (plainElem_bool Tryz.underlying4 true) ?_); intro w4 hown4 hgrow4;
       have hob4 : w4.ownsRow (c.wv + 1) 3 1 (.slice la N lcp) N ((ixL L O p).map (.int .i64)) := HO.out.kept hgrow4 (.inr fun e => by have := (HOB.out _ e).1; omega);
       have y1 := grown_cell hgrow4 (o := 0) (b := c.lb) (fun e => by injection e with e; omega) l1;
       have yf := fun o => grown_froz hgrow4 (b := c.lb) (fun e => by injection e with e; omega) hlb (lf o);
       have hs4 : w.heap.size ≤ w4.heap.size := hgrow4.size;
       have HG4 := Lib.hid hgrow4; have HO4 := Lib.hid hown4; clear hown4 hgrow4 l1 lf hrun p1)
    | (at_builtin; go_loud (refine wpList_push1 rfl _ _ 22 rfl 3 (.int .i64 0) 8 Tryz.underlying22 HIN.out rfl (c.wv + 1) (.slice la N lcp) N _ w4 (.int .i64 i) rfl rfl hob4 rfl (by omega) (by omega) (by omega) ?_); intro g3 cap3 w3 hown3 hg3 hs3 hgb hgl hat;
       have zf := fun o => grown_froz hg3 (fun e => by have := (HOB.out _ e.symm).1; omega) (block_lt y1) (yf o);
       have z1 := grown_cell hg3 (fun e => by have := (HOB.out _ e.symm).1; omega) y1;
       have HG3 := Lib.hid hg3; have HO3 := Lib.hid hown3; have HAT := Lib.hid hat; clear hown3 hg3 hat hob4 y1 yf)
    | fail)
  refine bodyPost_ret (v := .tuple #[]) (results_none rfl _ _ _) rfl ?_
  have hb3 : w3.heap[c.lb]? = some (.cells #[.slice la N lcp] 22) := (HG3.out.block c.lb (by omega) (fun e => by have := (HOB.out _ e.symm).1; omega)).trans ((HG4.out.block c.lb hlb (fun e => by injection e with e; omega)).trans HS.out.lc)
  have keep : ∀ k, k < w.heap.size → k ≠ c.sm → k ≠ c.lb → (Value.slice la N lcp).ownBlock ≠ some k → (w3.setCell ⟨c.lb, 0, none⟩ (.slice (some ⟨g3, 0, none⟩) (N + 1) cap3)).heap[k]? = w.heap[k]? := fun k hk n1 n2 n3 => by
    rw [Below.heap_setCell _ _ _ _ (by simpa using n2), HG3.out.block k (by omega) (fun e => n3 e.symm), HG4.out.block k hk (fun e => n1 (by injection e))]
  have new : ∀ k, k ≠ c.lb → (w3.setCell ⟨c.lb, 0, none⟩ (.slice (some ⟨g3, 0, none⟩) (N + 1) cap3)).heap[k]? = w3.heap[k]? := fun k n1 => Below.heap_setCell _ _ _ _ (by simpa using n1)
  have cc : ∀ {b o : Nat} {v : Value}, (b < c.wv + 1 ∧ b ≠ c.lb ∧ b ≠ c.sm) → w.cell? ⟨b, o, none⟩ = some v → (w3.setCell ⟨c.lb, 0, none⟩ (.slice (some ⟨g3, 0, none⟩) (N + 1) cap3)).cell? ⟨b, o, none⟩ = some v := by
    intro b o v hb hc
    exact (World.cell?_of_block (keep b (block_lt hc) hb.2.2 hb.2.1 (fun e => by have := (HOB.out _ e).1; omega))).trans hc
  have hsz : (w3.setCell ⟨c.lb, 0, none⟩ (.slice (some ⟨g3, 0, none⟩) (N + 1) cap3)).heap.size = w3.heap.size := by simp
  have hkl := HS.out.ko.lt
  have hbr : bref L O r = 2 * (i : Int) := by rw [bref, if_pos HRL.out, HI.out]
  refine ⟨rfl, ⟨HG3.out.os.trans HG4.out.os, HG3.out.tape.trans HG4.out.tape, HG3.out.output.trans HG4.out.output, by rw [hsz]; omega, fun k hk hx => keep k hk (fun e => hx (.inr (.inr (.inl e)))) (fun e => hx (.inr (.inl e))) (fun e => hx (.inr (.inr (.inr (.inl e)))))⟩, .slice (some ⟨g3, 0, none⟩) (N + 1) cap3, kv,
    ⟨cc (by omega) HS.out.sc, cc (by omega) HS.out.tc, cc (by omega) HS.out.wc, cc (by omega) HS.out.b1, ?_, ?_, ?_, ?_, ?_, ?_, ?_⟩, ?_⟩
  · exact HS.out.fk.move fun b hb hbl => keep b hbl (by omega) (by omega) (fun e => by have := (HOB.out _ e).1; omega)
  · rw [heap_set _ hb3]; rfl
  · exact (keep c.nb (Array.getElem?_eq_some_iff.1 HS.out.nc).1 (by omega) (by omega) (fun e => by have := (HOB.out _ e).1; omega)).trans HS.out.nc
  · have := (smap_put (G := fun x => decide (x ∈ p.map (bref L O)) || decide (x ∈ A.map (bref L O))) HX.out HO4.out HD2.out HD3.out).same (w' := w3.setCell ⟨c.lb, 0, none⟩ (.slice (some ⟨g3, 0, none⟩) (N + 1) cap3)) ((new c.sm (by omega)).trans (HG3.out.block c.sm (by have := HO4.out.lt; omega) (fun e => by have := (HOB.out _ e.symm).1; omega)))
    refine this.congr (by rw [← HM.out]; simp; omega) (fun x _ => ?_)
    simp only [List.map_append, List.map_singleton, List.mem_append, List.mem_singleton, hbr, Bool.decide_or]
    cases decide (x ∈ p.map (bref L O)) <;> cases decide (x ∈ A.map (bref L O)) <;> simp
  · have h1 : (lfs L (p ++ [r])).length = N + 1 := by rw [lfs_app, (lfs_leaf HRL.out).1, List.length_append, HN.out]; rfl
    have h2 : ixL L O (p ++ [r]) = ixL L O p ++ [(i : Int)] := by unfold ixL; rw [lfs_app, (lfs_leaf HRL.out).1, List.map_append, List.map_singleton, HI.out]
    rw [h1, h2, List.map_append]
    exact row_same HO3.out fun b e => new b (by simp [Value.ownBlock] at e; omega)
  · have h1 : nds L (p ++ [r]) = nds L p := by rw [nds_app, (lfs_leaf HRL.out).2, List.append_nil]
    unfold ixN
    rw [h1]
    exact row_same HS.out.ko fun b e => keep b (hkl b e).2 (by have := (hkl b e).1; omega) (by have := (hkl b e).1; omega) (fun e' => HS.out.ne b e' e)
  · intro b e e'
    simp [Value.ownBlock] at e
    subst e
    rcases HAT.out with h | h
    · exact HS.out.ne _ h e'
    · have := (hkl _ e').2; omega
  · intro b hx
    rcases hx with h | h | h | h | h
    · exact .inl (.inl h)
    · exact .inl (.inr (.inl h))
    · exact .inl (.inr (.inr (.inl h)))
    · simp [Value.ownBlock] at h
      subst h
      rcases HAT.out with h | h
      · exact .inl (.inr (.inr (.inr (.inl h))))
      · exact .inr (by omega)
    · exact .inl (.inr (.inr (.inr (.inr h))))

theorem or_push {c : OrB} {L : Nat} {O p A : List Int} {kvB lv kv : Value} {fs : List Fork} {w w4 : World} {r X : Int} {M : Nat} {D : DataW Unit} (ok : c.ok) (hS : OrS c L O kvB fs w p A lv kv) (hX : bref L O r = X) (hx : I64 X) (hM : p.length + A.length = M)
    (hD2 : Maps.IsMap D) (hD3 : ∀ x, I64 x → D.atKey (.int .i64 x) (.lit (.bool false)) = .lit (.bool (decide (x ∈ p.map (bref L O)) || decide (x ∈ A.map (bref L O)))))
    (ho4 : w4.ownsMap Tryz.prog 3 (plainElem Tryz.prog 4) c.sm (M + 1) (D.put (.int .i64 X) (.lit (.bool true)))) (hg4 : w.grownBy w4 (some c.sm)) : OrS c L O kvB fs w4 p (r :: A) lv kv := by
  obtain ⟨o1, o2, o3, o4, o5, o6⟩ := ok
  have cc : ∀ {b o : Nat} {v : Value}, b ≠ c.sm → w.cell? ⟨b, o, none⟩ = some v → w4.cell? ⟨b, o, none⟩ = some v := fun hb hc => grown_cell hg4 (fun e => by injection e with e; exact hb e) hc
  have bk : ∀ k, k < w.heap.size → k ≠ c.sm → w4.heap[k]? = w.heap[k]? := fun k hk n => hg4.block k hk (fun e => n (by injection e))
  have hl := hS.lo.lt
  have hk := hS.ko.lt
  refine ⟨cc (by omega) hS.sc, cc (by omega) hS.tc, cc (by omega) hS.wc, cc (by omega) hS.b1, hS.fk.move fun b hb hbl => bk b hbl (by omega), (bk _ (Array.getElem?_eq_some_iff.1 hS.lc).1 (by omega)).trans hS.lc, (bk _ (Array.getElem?_eq_some_iff.1 hS.nc).1 (by omega)).trans hS.nc, ?_, row_same hS.lo fun b e => bk b (hl b e).2 (by have := (hl b e).1; omega), row_same hS.ko fun b e => bk b (hk b e).2 (by have := (hk b e).1; omega), hS.ne⟩
  refine (smap_put (G := fun x => decide (x ∈ p.map (bref L O)) || decide (x ∈ A.map (bref L O))) hx ho4 hD2 hD3).congr (by simp; omega) (fun x _ => ?_)
  simp only [List.map_cons, List.mem_cons, hX, Bool.decide_or]
  cases decide (x ∈ p.map (bref L O)) <;> cases decide (x ∈ A.map (bref L O)) <;> simp
set_option maxRecDepth 100000 in
set_option maxHeartbeats 4000000 in
theorem or_node (c : OrB) (ok : c.ok) (L : Nat) (O p p1 p2 A : List Int) (kvB lv kv : Value) (fs : List Fork) (r : Int) (i : Nat) (f : Fork) (w : World) (hi : (nds L O).idxOf r = i) (hil : i ≤ 1000000) (hrL : (L : Int) ≤ r) (hpl : p.length + A.length ≤ 2000000) (hpl2 : p2.length ≤ 2000000) (hf : fs[i]? = some f) (hout : 2 * (i : Int) + 1 ∉ p.map (bref L O) ∧ 2 * (i : Int) + 1 ∉ A.map (bref L O)) (hS : OrS c L O kvB fs w p A lv kv)
    (IH1 : ∀ (W : World) lv kv, OrS c L O kvB fs W p (r :: A) lv kv → Calls Tryz.prog 113 #[.int .i64 f.2.1, .pointer (some ⟨c.sv, 0, none⟩), .pointer (some ⟨c.lb, 0, none⟩), .pointer (some ⟨c.tb, 0, none⟩), .pointer (some ⟨c.wv, 0, none⟩), .pointer (some ⟨c.nb, 0, none⟩)] W (OrPost c L O kvB fs lv kv W p1 (r :: A)))
    (IH2 : ∀ (W : World) lv kv, OrS c L O kvB fs W p1 (r :: A) lv kv → Calls Tryz.prog 113 #[.int .i64 f.2.2, .pointer (some ⟨c.sv, 0, none⟩), .pointer (some ⟨c.lb, 0, none⟩), .pointer (some ⟨c.tb, 0, none⟩), .pointer (some ⟨c.wv, 0, none⟩), .pointer (some ⟨c.nb, 0, none⟩)] W (OrPost c L O kvB fs lv kv W p2 (r :: A))) :
    Calls Tryz.prog 113 #[.int .i64 (2 * (i : Int) + 1), .pointer (some ⟨c.sv, 0, none⟩), .pointer (some ⟨c.lb, 0, none⟩), .pointer (some ⟨c.tb, 0, none⟩), .pointer (some ⟨c.wv, 0, none⟩), .pointer (some ⟨c.nb, 0, none⟩)] w (OrPost c L O kvB fs lv kv w (p2 ++ [r]) A) := by
  have HS := Lib.hid hS
  have hx : I64 (2 * (i : Int) + 1) := ⟨by omega, by omega⟩
  have hrun := hS.sm.look hx
  rw [decide_eq_false hout.1, decide_eq_false hout.2] at hrun
  simp only [Bool.or_false] at hrun
  have p1' := hS.sc
  obtain ⟨D, hD1, hD2, hD3⟩ := hS.sm
  obtain ⟨M, hM⟩ : ∃ M, p.length + A.length = M := ⟨_, rfl⟩
  rw [hM] at hD1 hpl
  have HI := Lib.hid hi
  have HM := Lib.hid hM
  have HD1 := Lib.hid hD1
  have HD2 := Lib.hid hD2
  have HD3 := Lib.hid hD3
  have HX := Lib.hid hx
  have HRL := Lib.hid hrL
  have HF := Lib.hid hf
  have HI1 := Lib.hid IH1
  have HI2 := Lib.hid IH2
  have HPL := Lib.hid hpl2
  have hbr : bref L O r = 2 * (i : Int) + 1 := by rw [bref, if_neg (by omega), hi]
  have HBR := Lib.hid hbr
  have HOK := Lib.hid ok
  have hwv := block_lt hS.wc
  obtain ⟨o1, o2, o3, o4, o5, o6⟩ := ok
  obtain ⟨fv, flo, fhi⟩ := f
  have m1 := odd_mod i
  have m2 := odd_div i
  have m3 : ((1 : Int) == 0) = false := rfl
  clear hS hout hM hi hD1 hD2 hD3 hx hrL hf IH1 IH2 hbr hpl2
  go_enter Tryz.func113, Tryz.ntmps113
  go_upto_region 2 with (at_mapUpdate; go_loud (refine wpList_mapUpdate_own _ rfl _ _ _ 142 rfl 3 4 law_int Tryz.underlying142 (plainElem Tryz.prog 4) c.sm M D rfl HD1.out (by unfold maxLen; omega) _ _ (.int .i64 (2 * (i : Int) + 1)) rfl rfl (keyOf_i HX.out) (.lit (.bool true)) [] (plainElem_bool Tryz.underlying4 true) ?_); intro w4 hown4 hgrow4)
  have hs4 : w.heap.size ≤ w4.heap.size := hgrow4.size
  have hS4 := or_push HOK.out HS.out HBR.out HX.out HM.out HD2.out HD3.out hown4 hgrow4
  have HS4 := Lib.hid hS4
  have HFR4 : Hid (Fr (OrX c lv kv) w w4) := Lib.hid ((Fr.refl _ _).grown hgrow4 fun k _ e => .inr (.inr (.inl (by injection e))))
  obtain ⟨ka, kn, kc, hkv, HKN, _⟩ := hS4.fk.form
  obtain ⟨fb, fo, rfl, hfb, hfs, e0, e1, e2, hfo⟩ := (show Forks (fun b => b < c.tb) w4 (.slice ka kn kc) fs from hkv ▸ hS4.fk).at HF.out
  have hb1 := hS4.b1
  rw [hkv] at hb1
  have htc := hS4.tc
  have hin : i < kn := by have := (List.getElem?_eq_some_iff.1 HF.out).1; have := HKN.out; omega
  have hi0 : (0 : Int) ≤ i := by omega
  have hi1 : (i : Int) < kn := by omega
  simp only at e0 e1 e2
  clear hown4 hgrow4 hS4 hrun p1' hkv hfo
  go_upto_region 5 with fail
  obtain ⟨w5, hw5⟩ : ∃ W, w4.alloc (.cells #[.int .i64 fv, .int .i64 flo, .int .i64 fhi] 49) = W := ⟨_, rfl⟩
  have hb5 : Below w4.heap.size w4 w5 := by rw [← hw5]; exact (Below.refl _ _).alloc (Nat.le_refl _) _
  have hs5 : w5.heap.size = w4.heap.size + 1 := by rw [← hw5, World.size_alloc]
  have x1 : w5.cell? ⟨w4.heap.size, 1, none⟩ = some (.int .i64 flo) := by rw [← hw5]; simp
  have x2 : w5.cell? ⟨w4.heap.size, 2, none⟩ = some (.int .i64 fhi) := by rw [← hw5]; simp
  have hS5 := HS4.out.below hb5
  have HC1 := Lib.hid (HI1.out w5 lv kv hS5)
  have HFR5 : Hid (Fr (OrX c lv kv) w w5) := Lib.hid (HFR4.out.trans (Fr.of_below hb5) (fun _ _ h => h))
  have y4 := hS5.wc
  have HNX5 : Hid (∀ k, k < w5.heap.size → w.heap.size ≤ k → ¬ OrX c lv kv k) := Lib.hid fun k _ h => HS.out.nox HOK.out k (.inr h)
  have HW5 := Lib.hid hw5
  clear hw5 hb5 hS5 e0 e1 e2 hb1 htc
  rw [HW5.out]
  go_wp2_with fail
  refine HC1.out.mono ?_
  rintro e w6 ⟨rfl, hfr6, lv1, kv1, hS6, hat6⟩
  have hs6 : w5.heap.size ≤ w6.heap.size := hfr6.size
  have x2 := hfr6.cell (HNX5.out _ (by omega) (by omega)) x2
  have y4 := hS6.wc
  have HFR6 : Hid (Fr (OrX c lv kv) w w6) := Lib.hid (HFR5.out.trans hfr6 (fun _ _ h => h))
  have HC2 := Lib.hid (HI2.out w6 lv1 kv1 hS6)
  have HAT6 : Hid (∀ b, OrX c lv1 kv1 b → OrX c lv kv b ∨ w5.heap.size ≤ b) := Lib.hid hat6
  clear hfr6 hat6 hS6 HC1
  go_wp2_with fail
  refine HC2.out.mono ?_
  rintro e w7 ⟨rfl, hfr7, lv2, kv2, hS7, hat7⟩
  have hs7 : w6.heap.size ≤ w7.heap.size := hfr7.size
  have HFR7 : Hid (Fr (OrX c lv kv) w w7) := Lib.hid (HFR6.out.trans hfr7 fun q hq hx => (HAT6.out q hx).resolve_right (by omega))
  have HAT7 : Hid (∀ b, OrX c lv2 kv2 b → OrX c lv kv b ∨ w.heap.size ≤ b) := Lib.hid fun b hb => by
    rcases hat7 b hb with h | h
    · exact (HAT6.out b h).imp id fun h => by omega
    · exact .inr (by omega)
  have HS7 := Lib.hid hS7
  obtain ⟨N, hN⟩ : ∃ N, (nds L p2).length = N := ⟨_, rfl⟩
  have hO := hS7.ko
  rw [hN] at hO
  obtain ⟨la, lcp, hlv⟩ := own_form hO
  subst hlv
  have l1 : w7.cell? ⟨c.nb, 0, none⟩ = some (.slice la N lcp) := cell_of hS7.nc rfl
  have lf : ∀ o, w7.frozen? ⟨c.nb, o, none⟩ = false := froz_of hS7.nc
  have hNl : N ≤ 2000000 := by have := len_split L p2; have := HPL.out; omega
  have HN := Lib.hid hN
  have HO := Lib.hid hO
  have hob4 := hO
  have HOB : Hid (∀ b, (Value.slice la N lcp).ownBlock = some b → c.wv + 1 ≤ b ∧ b < w7.heap.size) := Lib.hid hO.lt
  have hwv7 := block_lt hS7.wc
  have hnb := block_lt l1
  have HIN := Lib.hid (show (Tryz.prog.info? 3).map (fun i => (i.zero, i.size, i.bytes)) = some (some (.int .i64 0), 1, 8) by kernel_rfl)
  clear hfr7 hat7 hS7 HC2 hN hO
  go_wp2_with (first
    | (at_builtin; go_loud (refine wpList_push1 rfl _ _ 22 rfl 3 (.int .i64 0) 8 Tryz.underlying22 HIN.out rfl (c.wv + 1) (.slice la N lcp) N _ w7 (.int .i64 i) rfl rfl hob4 rfl (by omega) (by omega) (by omega) ?_); intro g3 cap3 w3 hown3 hg3 hs3 hgb hgl hat;
       have zf := fun o => grown_froz hg3 (fun e => by have := (HOB.out _ e.symm).1; omega) (block_lt l1) (lf o);
       have z1 := grown_cell hg3 (fun e => by have := (HOB.out _ e.symm).1; omega) l1;
       have HG3 := Lib.hid hg3; have HO3 := Lib.hid hown3; have HAT := Lib.hid hat; clear hown3 hg3 hat hob4 l1 lf)
    | fail)
  first | refine bodyPost_ret (v := .tuple #[]) (results_none rfl _ _ _) rfl ?_ | refine bodyPost_end (v := .tuple #[]) (results_none rfl _ _ _) rfl ?_
  have hb3 : w3.heap[c.nb]? = some (.cells #[.slice la N lcp] 22) := (HG3.out.block c.nb hnb (fun e => by have := (HOB.out _ e.symm).1; omega)).trans HS7.out.nc
  have keep : ∀ k, k < w7.heap.size → k ≠ c.nb → (Value.slice la N lcp).ownBlock ≠ some k → (w3.setCell ⟨c.nb, 0, none⟩ (.slice (some ⟨g3, 0, none⟩) (N + 1) cap3)).heap[k]? = w7.heap[k]? := fun k hk n2 n3 => by
    rw [Below.heap_setCell _ _ _ _ (by simpa using n2), HG3.out.block k (by omega) (fun e => n3 e.symm)]
  have new : ∀ k, k ≠ c.nb → (w3.setCell ⟨c.nb, 0, none⟩ (.slice (some ⟨g3, 0, none⟩) (N + 1) cap3)).heap[k]? = w3.heap[k]? := fun k n1 => Below.heap_setCell _ _ _ _ (by simpa using n1)
  have cc : ∀ {b o : Nat} {v : Value}, (b < c.wv + 1 ∧ b ≠ c.nb) → w7.cell? ⟨b, o, none⟩ = some v → (w3.setCell ⟨c.nb, 0, none⟩ (.slice (some ⟨g3, 0, none⟩) (N + 1) cap3)).cell? ⟨b, o, none⟩ = some v := by
    intro b o v hb hc
    exact (World.cell?_of_block (keep b (block_lt hc) hb.2 (fun e => by have := (HOB.out _ e).1; omega))).trans hc
  have hsz : (w3.setCell ⟨c.nb, 0, none⟩ (.slice (some ⟨g3, 0, none⟩) (N + 1) cap3)).heap.size = w3.heap.size := by simp
  have hkl := HS7.out.lo.lt
  have s0 := HFR7.out.size
  refine ⟨rfl, HFR7.out.trans (Y := OrX c lv2 (.slice la N lcp)) ⟨HG3.out.os, HG3.out.tape, HG3.out.output, by rw [hsz]; omega, fun k hk hx => keep k hk (fun e => hx (.inl e)) (fun e => hx (.inr (.inr (.inr (.inr e)))))⟩ (fun q hq hx => (HAT7.out q hx).resolve_right (by omega)), lv2, .slice (some ⟨g3, 0, none⟩) (N + 1) cap3,
    ⟨cc (by omega) HS7.out.sc, cc (by omega) HS7.out.tc, cc (by omega) HS7.out.wc, cc (by omega) HS7.out.b1, ?_, ?_, ?_, ?_, ?_, ?_, ?_⟩, ?_⟩
  · exact HS7.out.fk.move fun b hb hbl => keep b hbl (by omega) (fun e => by have := (HOB.out _ e).1; omega)
  · exact (keep c.lb (Array.getElem?_eq_some_iff.1 HS7.out.lc).1 (by omega) (fun e => by have := (HOB.out _ e).1; omega)).trans HS7.out.lc
  · rw [heap_set _ hb3]; rfl
  · have := HS7.out.sm.same (w' := w3.setCell ⟨c.nb, 0, none⟩ (.slice (some ⟨g3, 0, none⟩) (N + 1) cap3)) (keep c.sm HS7.out.sm.lt (by omega) (fun e => by have := (HOB.out _ e).1; omega))
    refine this.congr (by simp; omega) (fun x _ => ?_)
    simp only [List.map_append, List.map_cons, List.map_nil, List.mem_append, List.mem_cons, List.mem_singleton, List.not_mem_nil, or_false, Bool.decide_or, Bool.or_assoc]
  · have h1 : lfs L (p2 ++ [r]) = lfs L p2 := by rw [lfs_app, (lfs_node HRL.out).1, List.append_nil]
    unfold ixL
    rw [h1]
    exact row_same HS7.out.lo fun b e => keep b (hkl b e).2 (by have := (hkl b e).1; omega) (fun e' => HS7.out.ne b e e')
  · have h1 : (nds L (p2 ++ [r])).length = N + 1 := by rw [nds_app, (lfs_node HRL.out).2, List.length_append, HN.out]; rfl
    have h2 : ixN L O (p2 ++ [r]) = ixN L O p2 ++ [(i : Int)] := by unfold ixN; rw [nds_app, (lfs_node HRL.out).2, List.map_append, List.map_singleton, HI.out]
    rw [h1, h2, List.map_append]
    exact row_same HO3.out fun b e => new b (by simp [Value.ownBlock] at e; omega)
  · intro b e e'
    simp [Value.ownBlock] at e'
    subst e'
    rcases HAT.out with h | h
    · exact HS7.out.ne _ e h
    · have := (hkl _ e).2; omega
  · intro b hx
    rcases hx with h | h | h | h | h
    · exact .inl (.inl h)
    · exact .inl (.inr (.inl h))
    · exact .inl (.inr (.inr (.inl h)))
    · exact HAT7.out b (.inr (.inr (.inr (.inl h))))
    · simp [Value.ownBlock] at h
      subst h
      rcases HAT.out with h | h
      · exact HAT7.out _ (.inr (.inr (.inr (.inr h))))
      · exact .inr (by omega)

end Go.Proofs.YteadlkecngfcoaaGreat
