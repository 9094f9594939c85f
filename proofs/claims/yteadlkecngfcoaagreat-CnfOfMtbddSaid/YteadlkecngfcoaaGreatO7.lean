/- Walk: mtbdd's finish. No condition but sizes. -/
import Derived.Test.YteadlkecngfcoaaGreatO6
namespace Go.Proofs.YteadlkecngfcoaaGreat
open Go.ChangeShapes Go.WideShapes Go.ChangeAt Go.RowKit
set_option linter.unusedVariables false
set_option linter.unusedSimpArgs false

/-- append of one element onto an owned slice, as one step of a region that draws -/
theorem step_push1 {P : Program} {ops : Array Oper} {o : Oper} {a : Act} {w : World} {K : Act → World → Prop} {Q : Exit → Act → World → Prop} {X : Prop}
    (hgd : o.guard = none) (s x : Operand) (t : TypeId)
    (ho : o.op = .call { callee := .builtin .append, args := #[s, x], argTypes := #[t, t] })
    (E : TypeId) (z : Value) (bytes : Nat) (ht : P.underlying t = some (.slice E)) (hinfo : (P.info? E).map (fun i => (i.zero, i.size, i.bytes)) = some (some z, 1, bytes)) (hz1 : z.cells.size = 1)
    (base : Nat) (v : Value) (n : Nat) (xs : List Value) (B : Nat) (u : Value)
    (hs : a.eval s = v) (hx : a.eval x = .slice (some ⟨B, 0, none⟩) 1 1) (hc : w.cell? ⟨B, 0, none⟩ = some u) (hown : w.ownsRow base E 1 v n xs) (hu : u.oneCell' = true)
    (hn : (n + 1) * bytes ≤ 140737488355328) (hby : 1 ≤ bytes) (hbase : base ≤ w.heap.size)
    (h : ∀ (g cap' : Nat) w', w'.ownsRow base E 1 (.slice (some ⟨g, 0, none⟩) (n + 1) cap') (n + 1) (xs ++ [u]) → w.grownBy w' v.ownBlock → (v.ownBlock = some g ∨ w.heap.size ≤ g) → K (a.put o.dst (.slice (some ⟨g, 0, none⟩) (n + 1) cap')) w') :
    if Region.wanted o (yielded ops a.tmps) = true then Oper.wp P o a w K Q else X := by
  have hw : Region.wanted o (yielded ops a.tmps) = true := by simp [Region.wanted, hgd]
  rw [if_pos hw]
  obtain ⟨i, hi, hz, h1, h2⟩ := info_parts hinfo
  have hle : n + 1 ≤ (n + 1) * bytes := Nat.le_mul_of_pos_right _ hby
  obtain ⟨v', w', hr, k2, k3, k4, k5⟩ := run_append_own_at (P := P) w base t o.type E i z 1 bytes ht hi hz h1 h2 hz1 (by decide) v n xs hown ⟨B, 0, none⟩ 1 1 [u] rfl
    (fun j y hj => by
      match j, hj with
      | 0, hj => simp at hj; subst hj; simpa [Addr.add] using hc)
    (fun y hy => by simp at hy; subst hy; exact hu) (by unfold maxLen; omega) hn hbase
  unfold Oper.wp execOp
  simp only [ho, resolve, invoke, builtin, Sem.run_bind, Sem.run_pure, Result.andThen_ok, List.map_toArray, List.map_cons, List.map_nil, hs, hx, hr]
  rcases k2.2 with ⟨_, h0⟩ | ⟨g, cap', cur, rfl, hb, hh, _⟩
  · omega
  refine h g cap' w' k2 k3 ?_
  rcases k5 with h | h
  · exact .inl h.symm
  · right; simp [Value.ownBlock] at h; omega


/-- the final number of a builder's reference -/
def numM (ls : List Nat) (x : Int) : Int := if x % 2 = 0 then (ls.idxOf (x / 2).toNat : Int) else ls.length + x / 2
def evM (ls : List Nat) : List Int := ls.map fun i : Nat => 2 * (i : Int)
def finV (ls : List Nat) (vals : List Int) : List Int := ls.map fun i => vals.getD i 0
def finN (ls : List Nat) (fs : List Fork) : List Fork := fs.map fun f => (f.1, numM ls f.2.1, numM ls f.2.2)
/-- the diagram that finish makes -/
structure FinS (W0 : World) (T mb : Nat) (vars : Int) (w : World) (lv nv : Value) (xs : List Int) (fs : List Fork) (n : Nat) (G : Int → Bool) (V : Int → Int) : Prop where
  row : w.heap[T]? = some (.cells #[.int .i64 vars, lv, nv, .int .i64 0] 25)
  mp : IntMap w mb n G V
  lo : w.ownsRow (T + 1) 3 1 lv xs.length (xs.map (.int .i64))
  no : w.ownsRow (T + 1) 49 3 nv fs.length (fs.flatMap forkV)
  ne : ∀ b, lv.ownBlock = some b → nv.ownBlock ≠ some b
  bl : Below W0.heap.size W0 w
  lt : W0.heap.size ≤ mb ∧ mb < T
theorem FinS.put {W0 : World} {T mb : Nat} {vars : Int} {w w' : World} {lv nv : Value} {xs : List Int} {fs : List Fork} {n : Nat} {G : Int → Bool} {V : Int → Int} {D : DataW Unit} {r v : Int} (h : FinS W0 T mb vars w lv nv xs fs n G V) (hr : I64 r) (h2 : Maps.IsMap D)
    (h3 : ∀ x, I64 x → Maps.has D (litI x) = G x ∧ (G x = true → D.atKey (litI x) (.lit (.int .i64 0)) = .lit (.int .i64 (V x))))
    (h1 : w'.ownsMap Tryz.prog 3 (plainElem Tryz.prog 3) mb (n + 1) (D.put (litI r) (.lit (.int .i64 v)))) (hg : w.grownBy w' (some mb)) :
    FinS W0 T mb vars w' lv nv xs fs (n + 1) (fun x => G x || decide (x = r)) (fun x => if x = r then v else V x) := by
  have hT := (Array.getElem?_eq_some_iff.1 h.row).1
  have l1 := h.lo.lt
  have l2 := h.no.lt
  have k := h.lt
  have bk : ∀ k, k < w.heap.size → k ≠ mb → w'.heap[k]? = w.heap[k]? := fun k hk n => hg.block k hk (fun e => n (by injection e))
  exact ⟨(bk T hT (by omega)).trans h.row, imap_put hr trivial (fun x _ e => by injection e) h1 h2 h3, row_same h.lo fun b e => bk b (l1 b e).2 (by have := (l1 b e).1; omega), row_same h.no fun b e => bk b (l2 b e).2 (by have := (l2 b e).1; omega), h.ne, h.bl.grown hg h.bl.size (fun k e => by injection e with e; omega), h.lt⟩
theorem FinS.congr {W0 : World} {T mb : Nat} {vars : Int} {w : World} {lv nv : Value} {xs : List Int} {fs : List Fork} {n m : Nat} {G G' : Int → Bool} {V V' : Int → Int} (h : FinS W0 T mb vars w lv nv xs fs n G V) (hn : n = m) (hG : ∀ x, I64 x → G x = G' x) (hV : ∀ x, I64 x → G x = true → V x = V' x) : FinS W0 T mb vars w lv nv xs fs m G' V' :=
  ⟨h.row, h.mp.congr hn hG hV, h.lo, h.no, h.ne, h.bl, h.lt⟩
theorem FinS.below {W0 : World} {T mb : Nat} {vars : Int} {w w' : World} {lv nv : Value} {xs : List Int} {fs : List Fork} {n : Nat} {G : Int → Bool} {V : Int → Int} (h : FinS W0 T mb vars w lv nv xs fs n G V) (hb : Below w.heap.size w w') : FinS W0 T mb vars w' lv nv xs fs n G V :=
  ⟨(hb.block _ (Array.getElem?_eq_some_iff.1 h.row).1).trans h.row, h.mp.below hb, own_below h.lo hb, own_below h.no hb, h.ne, h.bl.trans (hb.mono h.bl.size), h.lt⟩
theorem FinS.pushL {W0 : World} {T mb : Nat} {vars : Int} {w w3 : World} {la : Option Addr} {N lc g cap : Nat} {nv : Value} {xs : List Int} {fs : List Fork} {n : Nat} {G : Int → Bool} {V : Int → Int} {u : Int} (h : FinS W0 T mb vars w (.slice la N lc) nv xs fs n G V) (hN : xs.length = N)
    (hg : w.grownBy w3 (Value.slice la N lc).ownBlock) (ho : w3.ownsRow (T + 1) 3 1 (.slice (some ⟨g, 0, none⟩) (N + 1) cap) (N + 1) (xs.map (.int .i64) ++ [.int .i64 u])) (hat : (Value.slice la N lc).ownBlock = some g ∨ w.heap.size ≤ g) :
    FinS W0 T mb vars (w3.setCell ⟨T, 1, none⟩ (.slice (some ⟨g, 0, none⟩) (N + 1) cap)) (.slice (some ⟨g, 0, none⟩) (N + 1) cap) nv (xs ++ [u]) fs n G V := by
  have hT := (Array.getElem?_eq_some_iff.1 h.row).1
  have l1 := h.lo.lt
  have l2 := h.no.lt
  have hm := h.mp.lt
  have k := h.lt
  have s0 := h.bl.size
  have keep : ∀ k, k < w.heap.size → k ≠ T → (Value.slice la N lc).ownBlock ≠ some k → (w3.setCell ⟨T, 1, none⟩ (.slice (some ⟨g, 0, none⟩) (N + 1) cap)).heap[k]? = w.heap[k]? := fun k hk n1 n2 => by
    rw [Below.heap_setCell _ _ _ _ (by simpa using n1), hg.block k hk (fun e => n2 e.symm)]
  have hgT : T + 1 ≤ g := by
    rcases hat with h | h
    · exact (l1 g h).1
    · omega
  refine ⟨?_, h.mp.same (keep mb hm (by omega) (fun e => by have := (l1 _ e).1; omega)), ?_, row_same h.no fun b e => keep b (l2 b e).2 (by have := (l2 b e).1; omega) (fun e' => h.ne b e' e), fun b e e' => ?_, ?_, h.lt⟩
  · rw [heap_set _ ((hg.block T hT (fun e => by have := (l1 _ e.symm).1; omega)).trans h.row)]; rfl
  · have := row_same ho (w' := w3.setCell ⟨T, 1, none⟩ (.slice (some ⟨g, 0, none⟩) (N + 1) cap)) fun b e => Below.heap_setCell _ _ _ _ (by simp [Value.ownBlock] at e; show b ≠ T; omega)
    simpa [hN] using this
  · simp [Value.ownBlock] at e
    subst e
    rcases hat with h' | h'
    · exact h.ne _ h' e'
    · have := (l2 _ e').2; omega
  · exact (h.bl.grown hg s0 (fun b e => by have := (l1 b e).1; omega)).setCell (by show W0.heap.size ≤ T; omega) _
theorem FinS.pushN {W0 : World} {T mb : Nat} {vars : Int} {w w3 : World} {la : Option Addr} {N lc g cap : Nat} {lv : Value} {xs : List Int} {fs : List Fork} {n : Nat} {G : Int → Bool} {V : Int → Int} {u : Fork} (h : FinS W0 T mb vars w lv (.slice la N lc) xs fs n G V) (hN : fs.length = N)
    (hg : w.grownBy w3 (Value.slice la N lc).ownBlock) (ho : w3.ownsRow (T + 1) 49 3 (.slice (some ⟨g, 0, none⟩) (N + 1) cap) (N + 1) (fs.flatMap forkV ++ [.int .i64 u.1, .int .i64 u.2.1, .int .i64 u.2.2])) (hat : (Value.slice la N lc).ownBlock = some g ∨ w.heap.size ≤ g) :
    FinS W0 T mb vars (w3.setCell ⟨T, 2, none⟩ (.slice (some ⟨g, 0, none⟩) (N + 1) cap)) lv (.slice (some ⟨g, 0, none⟩) (N + 1) cap) xs (fs ++ [u]) n G V := by
  have hT := (Array.getElem?_eq_some_iff.1 h.row).1
  have l1 := h.lo.lt
  have l2 := h.no.lt
  have hm := h.mp.lt
  have k := h.lt
  have s0 := h.bl.size
  have keep : ∀ k, k < w.heap.size → k ≠ T → (Value.slice la N lc).ownBlock ≠ some k → (w3.setCell ⟨T, 2, none⟩ (.slice (some ⟨g, 0, none⟩) (N + 1) cap)).heap[k]? = w.heap[k]? := fun k hk n1 n2 => by
    rw [Below.heap_setCell _ _ _ _ (by simpa using n1), hg.block k hk (fun e => n2 e.symm)]
  have hgT : T + 1 ≤ g := by
    rcases hat with h | h
    · exact (l2 g h).1
    · omega
  refine ⟨?_, h.mp.same (keep mb hm (by omega) (fun e => by have := (l2 _ e).1; omega)), row_same h.lo fun b e => keep b (l1 b e).2 (by have := (l1 b e).1; omega) (h.ne b e), ?_, fun b e e' => ?_, ?_, h.lt⟩
  · rw [heap_set _ ((hg.block T hT (fun e => by have := (l2 _ e.symm).1; omega)).trans h.row)]; rfl
  · have := row_same ho (w' := w3.setCell ⟨T, 2, none⟩ (.slice (some ⟨g, 0, none⟩) (N + 1) cap)) fun b e => Below.heap_setCell _ _ _ _ (by simp [Value.ownBlock] at e; show b ≠ T; omega)
    simpa [hN, forkV] using this
  · simp [Value.ownBlock] at e'
    subst e'
    rcases hat with h' | h'
    · exact h.ne _ e h'
    · have := (l1 _ e).2; omega
  · exact (h.bl.grown hg s0 (fun b e => by have := (l2 b e).1; omega)).setCell (by show W0.heap.size ≤ T; omega) _
theorem fin_x {ls : List Nat} {vals xs : List Int} {k j : Nat} {u : Int} (h : xs = finV (ls.take k) vals) (hj : ls[k]? = some j) (hu : vals[j]? = some u) : xs ++ [u] = finV (ls.take (k + 1)) vals := by
  rw [List.take_add_one, hj, h]
  simp [finV, List.getD_eq_getElem?_getD, hu]
theorem numM_ev {ls : List Nat} {k j m : Nat} (hj : ls[k]? = some j) (hp : ls.Perm (List.range m)) : numM ls (2 * (j : Int)) = k := by
  have hn : ls.Nodup := hp.nodup_iff.2 List.nodup_range
  unfold numM
  rw [if_pos (by omega), show (2 * (j : Int) / 2).toNat = j by omega]
  obtain ⟨hk, e⟩ := List.getElem?_eq_some_iff.1 hj
  rw [← e, hn.idxOf_getElem k hk]
theorem fin_f {W0 : World} {T mb : Nat} {vars : Int} {w : World} {lv nv : Value} {xs : List Int} {fs : List Fork} {ls : List Nat} {k j m : Nat} (hj : ls[k]? = some j) (hp : ls.Perm (List.range m))
    (h : FinS W0 T mb vars w lv nv xs fs (k + 1) (fun x => decide (x ∈ evM (ls.take k)) || decide (x = 2 * (j : Int))) (fun x => if x = 2 * (j : Int) then (k : Int) else numM ls x)) :
    FinS W0 T mb vars w lv nv xs fs (k + 1) (fun x => decide (x ∈ evM (ls.take (k + 1)))) (numM ls) := by
  refine h.congr rfl (fun x _ => ?_) (fun x _ _ => ?_)
  · rw [List.take_add_one, hj]
    simp [evM, Bool.decide_or]
  · split
    · rename_i e; rw [e, numM_ev hj hp]
    · rfl
def odM (k : Nat) : List Int := (List.range k).map fun i : Nat => 2 * (i : Int) + 1
theorem mem_ev {ls : List Nat} {m i : Nat} (hp : ls.Perm (List.range m)) (hi : i < m) : 2 * (i : Int) ∈ evM ls := List.mem_map.2 ⟨i, hp.mem_iff.2 (by simpa using hi), rfl⟩
theorem mem_od {k i : Nat} (hi : i < k) : 2 * (i : Int) + 1 ∈ odM k := List.mem_map.2 ⟨i, by simpa using hi, rfl⟩
theorem fin_ref {L : Nat} {O : List Int} {ls : List Nat} {x : Int} {k : Nat} (hp : ls.Perm (List.range (lfs L O).length)) (hx : x ∈ O) (h : (L : Int) ≤ x → bref L O x < 2 * (k : Int) + 1) : bref L O x ∈ evM ls ∨ bref L O x ∈ odM k := by
  by_cases hl : x < L
  · left
    rw [bref, if_pos hl]
    exact mem_ev hp (List.idxOf_lt_length_of_mem (mem_lfs.2 ⟨hx, hl⟩))
  · right
    have h := h (by omega)
    rw [bref, if_neg hl] at h ⊢
    exact mem_od (by omega)
theorem fin_kids {L : Nat} {ns : List Fork} {O : List Int} {ls : List Nat} {k : Nat} {f : Fork} (hI : VisI L ns O) (hp : ls.Perm (List.range (lfs L O).length)) (hf : (ndO L ns O)[k]? = some f) : (f.2.1 ∈ evM ls ∨ f.2.1 ∈ odM k) ∧ (f.2.2 ∈ evM ls ∨ f.2.2 ∈ odM k) := by
  unfold ndO at hf
  rw [List.getElem?_map] at hf
  rcases hr : (nds L O)[k]? with _ | r
  · rw [hr] at hf; cases hf
  rw [hr] at hf
  simp only [Option.map_some, Option.some.injEq] at hf
  subst hf
  obtain ⟨hrO, hrL⟩ := mem_nds.1 (List.mem_of_getElem? hr)
  obtain ⟨⟨c1, d1⟩, c3, d3⟩ := hI.2.2 r hrO hrL
  have hbr : bref L O r = 2 * (k : Int) + 1 := by
    obtain ⟨hk, e⟩ := List.getElem?_eq_some_iff.1 hr
    have hnd : (nds L O).Nodup := hI.1.filter _
    rw [bref, if_neg (by omega), ← e, hnd.idxOf_getElem k hk]
  rw [hbr] at d1 d3
  exact ⟨fin_ref hp c1 d1, fin_ref hp c3 d3⟩
theorem numM_od {ls : List Nat} (k : Nat) : numM ls (2 * (k : Int) + 1) = ls.length + k := by
  unfold numM
  rw [if_neg (by omega)]
  omega
theorem fin_g {W0 : World} {T mb : Nat} {vars : Int} {w : World} {lv nv : Value} {xs : List Int} {fs : List Fork} {ls : List Nat} {k m : Nat} (hl : ls.length = m)
    (h : FinS W0 T mb vars w lv nv xs fs (m + k + 1) (fun x => (decide (x ∈ evM ls) || decide (x ∈ odM k)) || decide (x = 2 * (k : Int) + 1)) (fun x => if x = 2 * (k : Int) + 1 then (m : Int) + k else numM ls x)) :
    FinS W0 T mb vars w lv nv xs fs (m + (k + 1)) (fun x => decide (x ∈ evM ls) || decide (x ∈ odM (k + 1))) (numM ls) := by
  refine h.congr (by omega) (fun x _ => ?_) (fun x _ _ => ?_)
  · unfold odM
    rw [List.range_succ]
    simp [Bool.decide_or, Bool.or_assoc]
  · split
    · rename_i e; rw [e, numM_od, hl]
    · rfl
theorem fin_n {ls : List Nat} {fs gs : List Fork} {k : Nat} {f : Fork} (h : gs = finN ls (fs.take k)) (hf : fs[k]? = some f) : gs ++ [(f.1, numM ls f.2.1, numM ls f.2.2)] = finN ls (fs.take (k + 1)) := by
  rw [List.take_add_one, hf, h]
  simp [finN]
theorem numM_bound {ls : List Nat} {x : Int} (h0 : 0 ≤ x) (hx : x ≤ 1000000) (hl : ls.length ≤ 4096) : 0 ≤ numM ls x ∧ numM ls x ≤ 2000000 := by
  unfold numM
  split
  · have := List.idxOf_le_length (l := ls) (a := (x / 2).toNat); omega
  · omega
/-- what finish hands back -/
def FinPost (W : World) (vars root : Int) (vals : List Int) (fs : List Fork) (m : Nat) (e : Ending) (w' : World) : Prop :=
  ∃ (ls : List Nat) (lv nv : Value), ls.Perm (List.range m) ∧ (finV ls vals).Pairwise (· ≤ ·) ∧ e = .returned (.tuple #[.agg #[.int .i64 vars, lv, nv, .int .i64 (numM ls root)], .int .i64 0]) ∧ Ints (fun b => W.heap.size ≤ b) w' lv (finV ls vals) ∧ Forks (fun b => W.heap.size ≤ b) w' nv (finN ls fs) ∧ Below W.heap.size W w'
set_option maxRecDepth 100000 in
set_option maxHeartbeats 8000000 in
theorem finish_any (bb L : Nat) (vars : Int) (lvs : List Int) (ns : List Fork) (O : List Int) (root : Int) (lvB kvB : Value) (w : World) (hk : O = vis L ns (L + ns.length + 1) [] root) (h0 : 0 ≤ root) (hr : root < L + ns.length) (hb : BackB L ns) (hL : L ≤ 4096) (hn : ns.length ≤ 4096)
    (hlen : lvs.length = L) (hrng : ∀ v ∈ lvs, rngM v = true) (hb0 : w.cell? ⟨bb, 0, none⟩ = some lvB) (hb1 : w.cell? ⟨bb, 1, none⟩ = some kvB) (hb4 : w.cell? ⟨bb, 4, none⟩ = some (.bool false)) (hlv : Ints (fun _ => True) w lvB (lvO L lvs O)) (hkv : Forks (fun _ => True) w kvB (ndO L ns O)) :
    Calls Tryz.prog 77 #[.pointer (some ⟨bb, 0, none⟩), .int .i64 vars, .int .i64 (bref L O root)] w (FinPost w vars (bref L O root) (lvO L lvs O) (ndO L ns O) (lfs L O).length) := by
  obtain ⟨hI, _, hm, _⟩ := vis_I hb (L + ns.length + 1) [] root (VisI.nil L ns) h0 hr (by omega)
  rw [← hk] at hI hm
  obtain ⟨w1, hw1⟩ : ∃ W, w.alloc (.cells #[.int .i64 0, .slice none 0 0, .slice none 0 0, .int .i64 0] 25) = W := ⟨_, rfl⟩
  have hb1w : Below w.heap.size w w1 := by rw [← hw1]; exact (Below.refl _ _).alloc (Nat.le_refl _) _
  have b0 := below_c hb1w (block_lt hb0) hb0
  have b1 := below_c hb1w (block_lt hb1) hb1
  have b4 := below_c hb1w (block_lt hb4) hb4
  have hs1 : w1.heap.size = w.heap.size + 1 := by rw [← hw1, World.size_alloc]
  have R0 : w1.heap[w.heap.size]? = some (.cells #[.int .i64 0, .slice none 0 0, .slice none 0 0, .int .i64 0] 25) := by rw [← hw1]; exact new_at _ _
  have HORD := Lib.hid (order_any bb L lvs ns O root lvB kvB w1 hk h0 hr hb (by omega) (by omega) hlen hrng b0 b1 (hlv.below hb1w) (hkv.below hb1w))
  have HI := Lib.hid hI
  have HM := Lib.hid hm
  have HK := Lib.hid hk
  have HLV := Lib.hid hlv
  have HKV := Lib.hid hkv
  have HB := Lib.hid hb
  have HW1 := Lib.hid hw1
  have HB1 := Lib.hid hb1w
  have HR0 := Lib.hid R0
  have hbl : bb < w.heap.size := block_lt hb0
  obtain ⟨m, hmm⟩ : ∃ m, (lfs L O).length = m := ⟨_, rfl⟩
  obtain ⟨n, hnn⟩ : ∃ n, (nds L O).length = n := ⟨_, rfl⟩
  rw [hmm, hnn] at HORD
  rw [hmm]
  have hm4 : m ≤ 4096 := by have := hI.split.1; omega
  have hn4 : n ≤ 4096 := by have := hI.split.2; omega
  have HMM := Lib.hid hmm
  have HNN := Lib.hid hnn
  obtain ⟨X, hX⟩ : ∃ X, bref L O root = X := ⟨_, rfl⟩
  rw [hX] at HORD ⊢
  have HX := Lib.hid hX
  have hmk := @run_makeMap Tryz.prog
  clear hI hm hk hlv hkv hb hw1 hb1w hb0 hb1 hb4 hrng R0 hmm hnn hX
  go_enter Tryz.func77, Tryz.ntmps77
  go_upto_region 1 with fail
  rw [HW1.out]
  go_wp2_with fail
  refine HORD.out.mono ?_
  rintro e w2 ⟨nv0, lv0, ls, rfl, hnv, hlv, hp, hpw, hb2⟩
  obtain ⟨na, nl, nc, rfl, HNL, _⟩ := hnv.form'
  obtain ⟨la, ll, lc, rfl, HLL, _⟩ := hlv.form'
  have hnl : nl = n := by have := HNL.out; simpa using this
  have hll : ll = m := by have := HLL.out; have h2 := hp.length_eq; simp at this h2; omega
  subst hnl hll
  have b0 := below_c hb2 (block_lt b0) b0
  have b1 := below_c hb2 (block_lt b1) b1
  have d1 : decide ((4096 : Int) < ll) = false := decide_eq_false (by omega)
  have d2 : decide ((4096 : Int) < nl) = false := decide_eq_false (by omega)
  go_upto_region 8 with fail
  obtain ⟨vals, hvals⟩ : ∃ v, lvO L lvs O = v := ⟨_, rfl⟩
  obtain ⟨s, hs⟩ : ∃ b, w2.heap.size = b := ⟨_, rfl⟩
  obtain ⟨W3, hW3⟩ : ∃ W, (w2.alloc (.map #[] 0)).alloc (.cells #[.int .i64 vars, .slice none 0 0, .slice none 0 0, .int .i64 0] 25) = W := ⟨_, rfl⟩
  have hsm : (w2.alloc (.map #[] 0)).heap.size = s + 1 := by rw [World.size_alloc, hs]
  have hb3 : Below w2.heap.size w2 W3 := by rw [← hW3]; exact ((Below.refl _ _).alloc (Nat.le_refl _) _).alloc (by rw [hsm]; omega) _
  have hF0 : FinS w2 (s + 1) s vars W3 (.slice none 0 0) (.slice none 0 0) [] [] 0 (fun x => decide (x ∈ evM (ls.take 0))) (numM ls) := by
    refine ⟨by rw [← hW3, ← hsm]; exact new_at _ _, ?_, World.ownsRow_nil _ _ _ _, World.ownsRow_nil _ _ _ _, (fun b e => by cases e), hb3, by omega⟩
    have h := IMap.made (kt := 3) (lit := litI) (okk := I64) (V := numM ls) w2
    rw [hs] at h
    exact (h.same (w' := W3) (by rw [← hW3]; exact (old_at _ _ _ (new_at' _ _ hs.symm)).trans (new_at' _ _ hs.symm).symm)).congr rfl (fun x _ => by simp [evM]) (fun x _ h => by simp at h)
  have HF0 := Lib.hid hF0
  have hB0 := below_c hb3 (block_lt b0) b0
  have hB1 := below_c hb3 (block_lt b1) b1
  have HB2 := Lib.hid hb2
  have HB3 := Lib.hid hb3
  have HNV := Lib.hid hnv
  have HLS := Lib.hid hlv
  have HP := Lib.hid hp
  have HPW := Lib.hid hpw
  have HVL := Lib.hid hvals
  have HW3 := Lib.hid hW3
  have HSS := Lib.hid hs
  obtain ⟨ea, el, ec, rfl, HEL, _⟩ := HLV.out.form'
  have hel : el = ll := by rw [HEL.out, lvO_len]; exact HMM.out
  subst hel
  obtain ⟨fa, fl, fc, rfl, HFL, _⟩ := HKV.out.form
  have hfl : fl = nl := by rw [HFL.out, ndO_len]; exact HNN.out
  subst hfl
  clear hnv hlv hp hpw hb2 hb3 hvals hW3 hs hsm hF0 d1 d2 HORD
  rw [HVL.out]
  rw [HSS.out, HW3.out]
  have hIN := Lib.hid (show (Tryz.prog.info? 3).map (fun i => (i.zero, i.size, i.bytes)) = some (some (.int .i64 0), 1, 8) by kernel_rfl)
  have hIF := Lib.hid (show (Tryz.prog.info? 49).map (fun i => (i.zero, i.size, i.bytes)) = some (some (.agg #[.int .i64 0, .int .i64 0, .int .i64 0]), 3, 24) by kernel_rfl)
  go_wp2_with fail
  go_loopg [42] el (fun gg u42 wx => ∃ (k : Nat) (oa : Option Addr) (oc : Nat) (xs : List Int), k + gg = el ∧ u42 = .int .i64 k ∧ Hid (xs = finV (ls.take k) vals) ∧ Hid (FinS w2 (s + 1) s vars wx (.slice oa k oc) (.slice none 0 0) xs [] k (fun x => decide (x ∈ evM (ls.take k))) (numM ls)))
  case atStart => exact ⟨0, none, 0, [], by omega, rfl, Lib.hid (by simp [finV]), HF0⟩
  case round =>
  obtain ⟨k, oa, oc, xs, hkg, rfl, HXS, HF⟩ := hrel
  by_cases hk : k < el
  case neg =>
    obtain rfl : k = el := by omega
    have hdk : decide ((k : Int) < k) = false := by simp
    have hdk' : decide (k < k) = false := decide_eq_false (by omega)
    have hxs : xs = finV ls vals := by rw [HXS.out, List.take_of_length_le (by rw [HP.out.length_eq]; simp)]
    have htk : ls.take k = ls := List.take_of_length_le (by rw [HP.out.length_eq]; simp)
    have hF1 := HF.out
    rw [htk] at hF1
    have HF1 : Hid (FinS w2 (s + 1) s vars wr (.slice oa k oc) (.slice none 0 0) xs [] (k + 0) (fun x => decide (x ∈ evM ls) || decide (x ∈ odM 0)) (numM ls)) := Lib.hid (hF1.congr rfl (fun x _ => by simp [odM]) (fun _ _ _ => rfl))
    have HXV := Lib.hid hxs
    have hls := HSS.out
    have hsz2 : w.heap.size ≤ s := by have := HB2.out.size; omega
    clear hF1 htk hxs HF HXS HF0 hdk
    go_wp2_with fail
    go_loopg [66] fl (fun gg u66 wx => ∃ (q : Nat) (na : Option Addr) (nc : Nat) (gs : List Fork), q + gg = fl ∧ u66 = .int .i64 q ∧ Hid (gs = finN ls ((ndO L ns O).take q)) ∧ Hid (FinS w2 (s + 1) s vars wx (.slice oa k oc) (.slice na q nc) xs gs (k + q) (fun x => decide (x ∈ evM ls) || decide (x ∈ odM q)) (numM ls)))
    case atStart => exact ⟨0, none, 0, [], by omega, rfl, Lib.hid (by simp [finN]), HF1⟩
    case round =>
    clear HF1
    obtain ⟨q, pa, pc, gs, hqg, rfl, HGS, HF⟩ := hrel
    by_cases hq : q < fl
    case neg =>
      obtain rfl : q = fl := by omega
      have hdq : decide ((q : Int) < q) = false := by simp
      have hdq' : decide (q < q) = false := decide_eq_false (by omega)
      have hgs : gs = finN ls (ndO L ns O) := by rw [HGS.out, List.take_of_length_le (by rw [← HFL.out]; exact Nat.le_refl _)]
      have hXin : X ∈ evM ls ∨ X ∈ odM q := by
        rw [← HX.out]
        refine fin_ref (by rw [HMM.out]; exact HP.out) HM.out fun h => ?_
        have := List.idxOf_lt_length_of_mem (mem_nds.2 ⟨HM.out, h⟩)
        rw [bref, if_neg (by omega)]
        have := HNN.out
        omega
      have hXb : 0 ≤ X ∧ X ≤ 100000 := by
        rw [← HX.out]
        have := bref_bound (L := L) (o := O) root
        have := HI.out.len
        omega
      have hlk := HF.out.mp.look law_int Tryz.underlying102 (kv := .int .i64 X) (keyOf_i ⟨by omega, by omega⟩) ⟨by omega, by omega⟩ (by simpa using hXin)
      obtain ⟨Y, hY⟩ : ∃ y, numM ls X = y := ⟨_, rfl⟩
      rw [hY] at hlk
      have t0 := cell_of (o := 0) HF.out.row rfl
      have t1 := cell_of (o := 1) HF.out.row rfl
      have t2 := cell_of (o := 2) HF.out.row rfl
      have t3 := cell_of (o := 3) HF.out.row rfl
      have tf := froz_of HF.out.row
      have hbl3 := HF.out.bl
      have hz1 : w1.heap.size ≤ w2.heap.size := HB2.out.size
      have hR3 : wr.heap[w.heap.size]? = some (.cells #[.int .i64 0, .slice none 0 0, .slice none 0 0, .int .i64 0] 25) := (hbl3.block _ (by omega)).trans ((HB2.out.block _ (by omega)).trans HR0.out)
      have r0 := cell_of (o := 0) hR3 rfl
      have r1 := cell_of (o := 1) hR3 rfl
      have r2 := cell_of (o := 2) hR3 rfl
      have r3 := cell_of (o := 3) hR3 rfl
      have rf := froz_of hR3
      have hTl : s + 1 < wr.heap.size := block_lt t0
      have HG := Lib.hid hgs
      have HY := Lib.hid hY
      have HBL := Lib.hid hbl3
      obtain ⟨w8, hw8⟩ : ∃ W, wr.setCell ⟨s + 1, 3, none⟩ (.int .i64 Y) = W := ⟨_, rfl⟩
      have u0 : w8.cell? ⟨s + 1, 0, none⟩ = some (.int .i64 vars) := by rw [← hw8]; exact set_ne (by simp) t0
      have u1 : w8.cell? ⟨s + 1, 1, none⟩ = some (.slice oa k oc) := by rw [← hw8]; exact set_ne (by simp) t1
      have u2 : w8.cell? ⟨s + 1, 2, none⟩ = some (.slice pa q pc) := by rw [← hw8]; exact set_ne (by simp) t2
      have u3 : w8.cell? ⟨s + 1, 3, none⟩ = some (.int .i64 Y) := by rw [← hw8]; exact set_eq t3
      have hR8 : w8.heap[w.heap.size]? = some (.cells #[.int .i64 0, .slice none 0 0, .slice none 0 0, .int .i64 0] 25) := by rw [← hw8, Below.heap_setCell _ _ _ _ (by show w.heap.size ≠ s + 1; omega)]; exact hR3
      have v0 := cell_of (o := 0) hR8 rfl
      have v1 := cell_of (o := 1) hR8 rfl
      have v2 := cell_of (o := 2) hR8 rfl
      have v3 := cell_of (o := 3) hR8 rfl
      have vf := froz_of hR8
      have HW8 := Lib.hid hw8
      have HR8 := Lib.hid hR8
      have hs8 : w8.heap.size = wr.heap.size := by rw [← hw8]; simp
      clear hw8 hR8 hR3 hbl3 hgs hXin hXb hY r0 r1 r2 r3 rf
      go_upto_region 22 with fail
      rw [HW8.out]
      clear t0 t1 t2 t3 tf
      go_wp2_with fail
      obtain ⟨w9, hw9⟩ : ∃ W, (((w8.setCell ⟨w.heap.size, 0, none⟩ (.int .i64 vars)).setCell ⟨w.heap.size, 1, none⟩ (.slice oa k oc)).setCell ⟨w.heap.size, 2, none⟩ (.slice pa q pc)).setCell ⟨w.heap.size, 3, none⟩ (.int .i64 Y) = W := ⟨_, rfl⟩
      have x0 : w9.cell? ⟨w.heap.size, 0, none⟩ = some (.int .i64 vars) := by rw [← hw9]; exact set_ne (by simp) (set_ne (by simp) (set_ne (by simp) (set_eq v0)))
      have x1 : w9.cell? ⟨w.heap.size, 1, none⟩ = some (.slice oa k oc) := by rw [← hw9]; exact set_ne (by simp) (set_ne (by simp) (set_eq (set_ne (by simp) v1)))
      have x2 : w9.cell? ⟨w.heap.size, 2, none⟩ = some (.slice pa q pc) := by rw [← hw9]; exact set_ne (by simp) (set_eq (set_ne (by simp) (set_ne (by simp) v2)))
      have x3 : w9.cell? ⟨w.heap.size, 3, none⟩ = some (.int .i64 Y) := by rw [← hw9]; exact set_eq (set_ne (by simp) (set_ne (by simp) (set_ne (by simp) v3)))
      have hbk : ∀ j, j ≠ w.heap.size → j ≠ s + 1 → w9.heap[j]? = wr.heap[j]? := fun j h1 h2 => by
        rw [← hw9, Below.heap_setCell _ _ _ _ h1, Below.heap_setCell _ _ _ _ h1, Below.heap_setCell _ _ _ _ h1, Below.heap_setCell _ _ _ _ h1, ← HW8.out, Below.heap_setCell _ _ _ _ h2]
      have HB9 : Hid (Below w.heap.size w w9) := Lib.hid (by
        have h1 : Below w.heap.size w wr := HB1.out.trans ((HB2.out.trans (HBL.out.mono HB2.out.size)).mono (by omega))
        rw [← hw9, ← HW8.out]
        exact ((((h1.setCell (by show w.heap.size ≤ s + 1; omega) _).setCell (Nat.le_refl _) _).setCell (Nat.le_refl _) _).setCell (Nat.le_refl _) _).setCell (Nat.le_refl _) _)
      have HBK := Lib.hid hbk
      have HW9 := Lib.hid hw9
      clear hw9 hbk v0 v1 v2 v3
      rw [HW9.out]
      have hres : Tryz.f77.results = #[.cell 6 25, .tmp 7] := rfl
      refine bodyPost_ret (v := .tuple #[.agg #[.int .i64 vars, .slice oa k oc, .slice pa q pc, .int .i64 Y], .int .i64 0]) (by simp only [results, hres]; go_simp) rfl ?_
      have hlo := row_same HF.out.lo fun b e => HBK.out b (by have := (HF.out.lo.lt b e).1; omega) (by have := (HF.out.lo.lt b e).1; omega)
      have hno := row_same HF.out.no fun b e => HBK.out b (by have := (HF.out.no.lt b e).1; omega) (by have := (HF.out.no.lt b e).1; omega)
      have hxl : xs.length = k := by rw [HXV.out]; unfold finV; rw [List.length_map, HP.out.length_eq, List.length_range]
      have hgl : gs.length = q := by rw [HG.out]; unfold finN; rw [List.length_map]; exact HFL.out.symm
      rw [HVL.out]
      refine ⟨ls, .slice oa k oc, .slice pa q pc, HP.out, by rw [← HVL.out]; exact HPW.out, by rw [HY.out], ?_, ?_, HB9.out⟩
      · rw [← HXV.out]
        rw [hxl] at hlo
        refine ⟨(ownsRow_sl1 hlo (by omega)).mono fun b hb => by have := hb.1; omega, fun x hx => ?_⟩
        rw [HXV.out] at hx
        obtain ⟨i, hi, rfl⟩ := List.mem_map.1 hx
        have hi := HP.out.mem_iff.1 hi
        obtain ⟨u, hu⟩ : ∃ u, vals[i]? = some u := ⟨_, List.getElem?_eq_getElem (by have := HEL.out; rw [HVL.out] at this; simp at hi; omega)⟩
        simp only [getD_some hu]
        exact HLV.out.2 u (by rw [HVL.out]; exact List.mem_of_getElem? hu)
      · rw [← HG.out]
        refine (own_forks hno (by omega) fun f hf => ?_).mono fun b hb => by omega
        rw [HG.out] at hf
        obtain ⟨g, hg, rfl⟩ := List.mem_map.1 hf
        have hgo := HKV.out.2 g hg
        have hll : ls.length = k := by rw [HP.out.length_eq, List.length_range]
        obtain ⟨r, hr, rfl⟩ := List.mem_map.1 hg
        have hOl := HI.out.len
        have m1 := bref_bound (L := L) (o := O) (frk L ns r).2.1
        have m2 := bref_bound (L := L) (o := O) (frk L ns r).2.2
        have n1 := numM_bound (ls := ls) m1.1 (by omega) (by omega)
        have n2 := numM_bound (ls := ls) m2.1 (by omega) (by omega)
        exact ⟨hgo.1, ⟨by simp only; omega, by simp only; omega⟩, ⟨by simp only; omega, by simp only; omega⟩⟩
    have hdq : decide ((q : Int) < fl) = true := by simp; omega
    have hdq' : decide (q < fl) = true := decide_eq_true hq
    have hq0 : (0 : Int) ≤ q := by omega
    have hqn : (q : Int) < fl := by omega
    obtain ⟨f, hf⟩ : ∃ f, (ndO L ns O)[q]? = some f := ⟨_, List.getElem?_eq_getElem (by have := HFL.out; omega)⟩
    obtain ⟨hk1, hk2⟩ := fin_kids (ls := ls) HI.out (by rw [HMM.out]; exact HP.out) hf
    obtain ⟨fv, xlo, xhi⟩ := f
    have hbl3 := HF.out.bl
    have hnv3 := HNV.out.below hbl3
    obtain ⟨lb, lo, rfl, _, hlbl, lc0, _⟩ := hnv3.at (k := q) (x := (q : Int)) (by rw [List.getElem?_map, List.getElem?_range hq]; rfl)
    have hbB : Below w.heap.size w wr := HB1.out.trans ((HB2.out.trans (hbl3.mono HB2.out.size)).mono (by omega))
    obtain ⟨fb, fo, rfl, _, hfbl, f0, f1, f2, hfok⟩ := HKV.out.at hf
    simp only at f0 f1 f2 hk1 hk2
    have f0 := below_c hbB hfbl f0
    have f1 := below_c hbB hfbl f1
    have f2 := below_c hbB hfbl f2
    have c1 := below_c hbl3 (block_lt b1) b1
    obtain ⟨w5, hw5⟩ : ∃ W, wr.alloc (.cells #[.int .i64 fv, .int .i64 xlo, .int .i64 xhi] 49) = W := ⟨_, rfl⟩
    have hb5 : Below wr.heap.size wr w5 := by rw [← hw5]; exact (Below.refl _ _).alloc (Nat.le_refl _) _
    have hF5 := HF.out.below hb5
    have g0 : w5.cell? ⟨wr.heap.size, 0, none⟩ = some (.int .i64 fv) := by rw [← hw5]; exact cell_of (new_at _ _) rfl
    have g1 : w5.cell? ⟨wr.heap.size, 1, none⟩ = some (.int .i64 xlo) := by rw [← hw5]; exact cell_of (new_at _ _) rfl
    have g2 : w5.cell? ⟨wr.heap.size, 2, none⟩ = some (.int .i64 xhi) := by rw [← hw5]; exact cell_of (new_at _ _) rfl
    have hr1 := hF5.mp.look law_int Tryz.underlying102 (kv := .int .i64 xlo) (keyOf_i hfok.2.1) hfok.2.1 (by simpa using hk1)
    have hr2 := hF5.mp.look law_int Tryz.underlying102 (kv := .int .i64 xhi) (keyOf_i hfok.2.2) hfok.2.2 (by simpa using hk2)
    have hT5 := cell_of (o := 2) hF5.row rfl
    have hTf5 := froz_of hF5.row
    have hTl : s + 1 < w5.heap.size := block_lt hT5
    have hno5 := hF5.no
    have hgl : gs.length = q := by rw [HGS.out]; unfold finN; rw [List.length_map, List.length_take]; have := HFL.out; omega
    rw [hgl] at hno5
    have HOB : Hid (∀ b, (Value.slice pa q pc).ownBlock = some b → s + 1 + 1 ≤ b ∧ b < w5.heap.size) := Lib.hid hno5.lt
    have HF5 := Lib.hid hF5
    have HGL := Lib.hid hgl
    have HW5 := Lib.hid hw5
    have HFF := Lib.hid hf
    have HFR := Lib.hid hF5.row
    have HX64 : Hid (I64 (2 * (q : Int) + 1)) := Lib.hid ⟨by omega, by omega⟩
    have hm1 : IntKind.i64.wrap (2 * (q : Int)) = 2 * q := IntWalk.i64_in _ ⟨by omega, by omega⟩
    have hm2 : IntKind.i64.wrap (2 * (q : Int) + 1) = 2 * q + 1 := IntWalk.i64_in _ ⟨by omega, by omega⟩
    have hm3 : IntKind.i64.wrap ((k : Int) + q) = k + q := IntWalk.i64_in _ ⟨by omega, by omega⟩
    obtain ⟨n1, hn1⟩ : ∃ x, numM ls xlo = x := ⟨_, rfl⟩
    obtain ⟨n2, hn2⟩ : ∃ x, numM ls xhi = x := ⟨_, rfl⟩
    rw [hn1] at hr1
    rw [hn2] at hr2
    have HN1 := Lib.hid hn1
    have HN2 := Lib.hid hn2
    clear hf hk1 hk2 hbl3 hnv3 hbB hfok hb5 hF5 hgl hw5 hn1 hn2 HF
    go_upto_region 18 with fail
    rw [HW5.out]
    go_wp2_with (first
      | (at_builtin; go_loud (refine wpList_push3 rfl _ _ 23 rfl 49 (.agg #[.int .i64 0, .int .i64 0, .int .i64 0]) 24 Tryz.underlying23 hIF.out rfl (s + 1 + 1) (.slice pa q pc) q _ w5 _ _ _ rfl rfl hno5 rfl rfl rfl (by omega) (by omega) (by omega) ?_); intro g3 cap3 w3 hown3 hg3 hs3 hgb hgl hat; have zT := grown_cell hg3 (fun e => by have := (HOB.out _ e.symm).1; omega) hT5; have zTf : ∀ o, w3.frozen? ⟨s + 1, o, none⟩ = false := (fun o => grown_froz hg3 (fun e => by have := (HOB.out _ e.symm).1; omega) hTl (hTf5 o)); have HF3 := Lib.hid (HF5.out.pushN (u := (fv, n1, n2)) HGL.out hg3 hown3 hat); obtain ⟨D, hD1, hD2, hD3⟩ := HF3.out.mp; have HD1 := Lib.hid hD1; have HD2 := Lib.hid hD2; have HD3 := Lib.hid hD3; clear hown3 hg3 hat hno5 hT5 hTf5 hr1 hr2 g0 g1 g2 hD1 hD2 hD3)
      | (at_mapUpdate; go_loud (refine wpList_mapUpdate_own _ rfl _ _ _ 102 rfl 3 3 law_int Tryz.underlying102 (plainElem Tryz.prog 3) s (k + q) D rfl HD1.out (by unfold maxLen; omega) _ _ (litI (2 * (q : Int) + 1)) rfl rfl (keyOf_i HX64.out) (.lit (.int .i64 ((k : Int) + q))) [] (plainElem_int Tryz.underlying3 (I64_wf ⟨by omega, by omega⟩)) ?_); intro w6 hown6 hgrow6; have HF6 := Lib.hid (HF3.out.put HX64.out HD2.out HD3.out hown6 hgrow6); clear hown6 hgrow6)
      | fail)
    go_roundg (gk - 1)
    case measure => omega
    case rel => exact ⟨q + 1, _, _, _, by omega, by go_num, Lib.hid (by rw [← HN1.out, ← HN2.out]; exact fin_n HGS.out HFF.out), Lib.hid (fin_g (by rw [HP.out.length_eq]; simp) HF6.out)⟩
  have hdk : decide ((k : Int) < el) = true := by simp; omega
  have hdk' : decide (k < el) = true := decide_eq_true hk
  have hk0 : (0 : Int) ≤ k := by omega
  have hkn : (k : Int) < el := by omega
  obtain ⟨j, hj⟩ : ∃ j, ls[k]? = some j := ⟨_, List.getElem?_eq_getElem (by rw [HP.out.length_eq]; simpa using hk)⟩
  have hjm : j < el := by have := HP.out.mem_iff.1 (List.mem_of_getElem? hj); simpa using this
  have hbl3 := (HF.out.bl)
  have hls3 := HLS.out.below hbl3
  obtain ⟨lb, lo, rfl, _, hlbl, lc0, _⟩ := hls3.at (k := k) (x := (j : Int)) (by rw [List.getElem?_map, hj]; rfl)
  obtain ⟨u, hu⟩ : ∃ u, vals[j]? = some u := ⟨_, List.getElem?_eq_getElem (by have := HEL.out; rw [HVL.out] at this; omega)⟩
  have hbB : Below w.heap.size w wr := HB1.out.trans ((HB2.out.trans (hbl3.mono HB2.out.size)).mono (by omega))
  obtain ⟨xb, xo, rfl, _, hxbl, xc0, _⟩ := (HVL.out ▸ HLV.out).at hu
  have xc0 := below_c hbB hxbl xc0
  have c0 := below_c hbl3 (block_lt b0) b0
  have hj0 : (0 : Int) ≤ j := by omega
  have hjn : (j : Int) < el := by omega
  have hjw : IntKind.i64.wrap (2 * (j : Int)) = 2 * j := IntWalk.i64_in _ ⟨by omega, by omega⟩
  have hjw0 : wrap64 (2 * (j : Int)) = 2 * j := IntWalk.wrap64_in _ ⟨by omega, by omega⟩
  have HX64 : Hid (I64 (2 * (j : Int))) := Lib.hid ⟨by omega, by omega⟩
  obtain ⟨D, hD1, hD2, hD3⟩ := HF.out.mp
  have HD1 := Lib.hid hD1
  have HD2 := Lib.hid hD2
  have HD3 := Lib.hid hD3
  have HJ := Lib.hid hj
  have HU := Lib.hid hu
  have HBB := Lib.hid hbB
  clear hj hu hbl3 hls3 hbB hD1 hD2 hD3
  go_upto_region 12 with (at_mapUpdate; go_loud (refine wpList_mapUpdate_own _ rfl _ _ _ 102 rfl 3 3 law_int Tryz.underlying102 (plainElem Tryz.prog 3) s k D rfl HD1.out (by unfold maxLen; omega) _ _ (litI (2 * (j : Int))) rfl rfl (keyOf_i HX64.out) (.lit (.int .i64 k)) [] (plainElem_int Tryz.underlying3 (I64_wf ⟨by omega, by omega⟩)) ?_); intro w4 hown4 hgrow4)
  have hF4 := HF.out.put HX64.out HD2.out HD3.out hown4 hgrow4
  have hT4 := cell_of (o := 1) hF4.row rfl
  have hTf := froz_of hF4.row
  have hb4 : Below w2.heap.size w2 w4 := hF4.bl
  have c0 := grown_cell hgrow4 (fun e => by injection e with e; have := block_lt b0; have := HSS.out; have := HF.out.lt; omega) c0
  have hls := HSS.out
  have hsz2 : w.heap.size ≤ s := by have := HB2.out.size; omega
  have xc0 := grown_cell hgrow4 (fun e => by injection e with e; omega) xc0
  have hown4' := hF4.lo
  have hTl : s + 1 < w4.heap.size := block_lt hT4
  have hlo4 := hF4.lo.lt
  have HF4 := Lib.hid hF4
  have HRU := Lib.hid HF
  clear hF4 hown4 hgrow4 HF
  have hxl : xs.length = k := by rw [HXS.out]; unfold finV; rw [List.length_map, List.length_take, HP.out.length_eq, List.length_range]; omega
  rw [hxl] at hown4'
  have HXL := Lib.hid hxl
  have HOB : Hid (∀ b, (Value.slice oa k oc).ownBlock = some b → s + 1 + 1 ≤ b ∧ b < w4.heap.size) := Lib.hid hlo4
  have HOW4 := Lib.hid hown4'
  clear hxl hown4' hlo4
  refine wp_region_held_drew (S := fun w' => w'.cell? ⟨bb, 0, none⟩ = some (.slice (some ⟨xb, xo, none⟩) el ec) ∧ w'.cell? ⟨xb, xo + j, none⟩ = some (.int .i64 u)) (by kernel_rfl) (by exact ⟨c0, xc0⟩) (fun hHeld => ?_)
  refine wpAnyH_take (i := 0) (v := ?_) rfl (by kernel_rfl) (by kernel_rfl) (by kernel_rfl) (fun _ _ _ h => h) (Or.inl ⟨by rfl, ?_⟩) (by assumption) ?_
  rotate_left
  · intro w hSw
    try dsimp only at hSw
    go_simp
    try with_reducible rfl
  try simp only [Act.put, List.getElem_toArray, List.getElem_cons_succ, List.getElem_cons_zero, List.setIfInBounds_toArray, List.set_cons_zero, List.set_cons_succ]
  refine wpAnyH_take (i := 2) (v := ?_) rfl (by kernel_rfl) (by kernel_rfl) (by kernel_rfl) (fun _ _ _ h => h) (Or.inl ⟨by rfl, ?_⟩) (by assumption) ?_
  rotate_left
  · intro w hSw
    try dsimp only at hSw
    go_simp
    try with_reducible rfl
  try simp only [Act.put, List.getElem_toArray, List.getElem_cons_succ, List.getElem_cons_zero, List.setIfInBounds_toArray, List.set_cons_zero, List.set_cons_succ]
  refine wpAnyH_take (i := 3) (v := ?_) rfl (by kernel_rfl) (by kernel_rfl) (by kernel_rfl) (fun _ _ _ h => h) (Or.inl ⟨by rfl, ?_⟩) (by assumption) ?_
  rotate_left
  · intro w hSw
    try dsimp only at hSw
    go_simp
    try with_reducible rfl
  try simp only [Act.put, List.getElem_toArray, List.getElem_cons_succ, List.getElem_cons_zero, List.setIfInBounds_toArray, List.set_cons_zero, List.set_cons_succ]
  refine wpAnyH_take (i := 4) (v := ?_) rfl (by kernel_rfl) (by kernel_rfl) (by kernel_rfl) (fun _ _ _ h => h) (Or.inl ⟨by rfl, ?_⟩) (by assumption) ?_
  rotate_left
  · intro w hSw
    try dsimp only at hSw
    go_simp
    try with_reducible rfl
  try simp only [Act.put, List.getElem_toArray, List.getElem_cons_succ, List.getElem_cons_zero, List.setIfInBounds_toArray, List.set_cons_zero, List.set_cons_succ]
  refine wpAnyH_take (i := 5) (v := ?_) rfl (by kernel_rfl) (by kernel_rfl) (by kernel_rfl) (fun _ _ _ h => h) (Or.inl ⟨by rfl, ?_⟩) (by assumption) ?_
  rotate_left
  · intro w hSw
    try dsimp only at hSw
    go_simp
    try with_reducible rfl
  try simp only [Act.put, List.getElem_toArray, List.getElem_cons_succ, List.getElem_cons_zero, List.setIfInBounds_toArray, List.set_cons_zero, List.set_cons_succ]
  refine wpAnyH_take (i := 6) (v := ?_) rfl (by kernel_rfl) (by kernel_rfl) (by kernel_rfl) (fun _ _ _ h => h) (Or.inl ⟨by rfl, ?_⟩) (by assumption) ?_
  rotate_left
  · intro w hSw
    try dsimp only at hSw
    go_simp
    try with_reducible rfl
  try simp only [Act.put, List.getElem_toArray, List.getElem_cons_succ, List.getElem_cons_zero, List.setIfInBounds_toArray, List.set_cons_zero, List.set_cons_succ]
  refine wpAnyH_take (i := 7) (v := ?_) rfl (by kernel_rfl) (by kernel_rfl) (by kernel_rfl) (fun _ _ _ h => h) (Or.inl ⟨by rfl, ?_⟩) (by assumption) ?_
  rotate_left
  · intro w hSw
    try dsimp only at hSw
    go_simp
    try with_reducible rfl
  try simp only [Act.put, List.getElem_toArray, List.getElem_cons_succ, List.getElem_cons_zero, List.setIfInBounds_toArray, List.set_cons_zero, List.set_cons_succ]
  refine wpAnyH_take (i := 8) (v := ?_) rfl (by kernel_rfl) (by kernel_rfl) (by kernel_rfl) (fun _ _ _ h => h) (Or.inl ⟨by rfl, ?_⟩) (by assumption) ?_
  rotate_left
  · intro w hSw
    try dsimp only at hSw
    go_simp
    try with_reducible rfl
  try simp only [Act.put, List.getElem_toArray, List.getElem_cons_succ, List.getElem_cons_zero, List.setIfInBounds_toArray, List.set_cons_zero, List.set_cons_succ]
  refine wpAnyH_ready (rs := [1, 9]) (by kernel_rfl) (by simp) ?_
  refine AllReadyH.cons rfl (fun K hK => ?_) (AllReadyH.cons rfl (fun K hK => ?_) AllReadyH.nil)
  · go_simp
    refine hK.out _ _ (by exact ⟨c0, xc0⟩) (fun _ => ?_)
    clear hK K
    try simp only [Act.put, List.getElem_toArray, List.getElem_cons_succ, List.getElem_cons_zero, List.setIfInBounds_toArray, List.set_cons_zero, List.set_cons_succ]
    refine wpAnyH_ready (rs := [9]) (by kernel_rfl) (by simp) ?_
    refine AllReadyH.cons rfl (fun K hK => ?_) AllReadyH.nil
    go_simp
    obtain ⟨w5, hw5⟩ : ∃ W, (w4.alloc (.cells #[.int .i64 u] 3)).drew = W := ⟨_, rfl⟩
    have hb5 : Below w4.heap.size w4 w5 := by rw [← hw5]; exact ((Below.refl _ _).alloc (Nat.le_refl _) _).drew
    have hsz5 : w5.heap.size = w4.heap.size + 1 := by rw [← hw5]; exact World.size_alloc _ _
    have e0 : w5.cell? ⟨w4.heap.size, 0, none⟩ = some (.int .i64 u) := by rw [← hw5]; exact cell_of (w := w4.alloc _) (new_at _ _) rfl
    have y0 := below_c hb5 (block_lt c0) c0
    have y1 := below_c hb5 (block_lt xc0) xc0
    have hT5 := below_c hb5 (block_lt hT4) hT4
    have hTf5 := fun o => below_z hb5 (block_lt hT4) (hTf o)
    have hrow5 := own_below HOW4.out hb5
    have HF5 := Lib.hid (HF4.out.below hb5)
    have hB5 : s + 1 + 1 ≤ w5.heap.size := by omega
    try rw [hw5]
    clear hb5 hw5
    refine hK.out _ _ (by exact ⟨y0, y1⟩) (fun _ => ?_)
    clear hK K
    try simp only [Act.put, List.getElem_toArray, List.getElem_cons_succ, List.getElem_cons_zero, List.setIfInBounds_toArray, List.set_cons_zero, List.set_cons_succ]
    refine wpAnyH_ready (rs := [10]) (by kernel_rfl) (by simp) ?_
    refine AllReadyH.cons rfl (fun K hK => ?_) AllReadyH.nil
    refine step_push1 rfl _ _ 22 rfl 3 (.int .i64 0) 8 Tryz.underlying22 hIN.out rfl (s + 1 + 1) (.slice oa k oc) k (xs.map (.int .i64)) w4.heap.size (.int .i64 u) rfl rfl e0 hrow5 rfl (by omega) (by omega) hB5 ?_
    intro g3 cap3 w3 hown3 hg3 hat
    have z0 := grown_cell hg3 (fun e => by have := (HOB.out _ e.symm).1; omega) y0
    have z1 := grown_cell hg3 (fun e => by have := (HOB.out _ e.symm).1; omega) y1
    have zT := grown_cell hg3 (fun e => by have := (HOB.out _ e.symm).1; omega) hT5
    have zTf : ∀ o, w3.frozen? ⟨s + 1, o, none⟩ = false := fun o => grown_froz hg3 (fun e => by have := (HOB.out _ e.symm).1; omega) (block_lt hT5) (hTf5 o)
    have HF3 := Lib.hid (HF5.out.pushL HXL.out hg3 hown3 hat)
    clear hown3 hg3 hat
    refine hK.out _ _ (by exact ⟨z0, z1⟩) (fun _ => ?_)
    clear hK K
    try simp only [Act.put, List.getElem_toArray, List.getElem_cons_succ, List.getElem_cons_zero, List.setIfInBounds_toArray, List.set_cons_zero, List.set_cons_succ]
    refine wpAnyH_take (i := 11) (v := ?_) rfl (by kernel_rfl) (by kernel_rfl) (by kernel_rfl) (fun _ _ _ h => h) (Or.inl ⟨by rfl, ?_⟩) (by assumption) ?_
    rotate_left
    · intro w hSw
      try dsimp only at hSw
      go_simp
      try with_reducible rfl
    try simp only [Act.put, List.getElem_toArray, List.getElem_cons_succ, List.getElem_cons_zero, List.setIfInBounds_toArray, List.set_cons_zero, List.set_cons_succ]
    refine wpAnyH_ready (rs := [12]) (by kernel_rfl) (by simp) ?_
    refine AllReadyH.cons rfl (fun K hK => ?_) AllReadyH.nil
    go_simp
    refine hK.out _ _ (by exact ⟨set_ne (by omega) z0, set_ne (by omega) z1⟩) (fun _ => ?_)
    clear hK K
    try simp only [Act.put, List.getElem_toArray, List.getElem_cons_succ, List.getElem_cons_zero, List.setIfInBounds_toArray, List.set_cons_zero, List.set_cons_succ]
    refine wpAnyH_done (by kernel_rfl) ?_ _
    go_wp2_with fail
    go_roundg (gk - 1)
    case measure => omega
    case rel => exact ⟨k + 1, _, _, _, by omega, by go_num, Lib.hid (fin_x HXS.out HJ.out HU.out), Lib.hid (fin_f HJ.out HP.out HF3.out)⟩
  · go_simp
    obtain ⟨w5, hw5⟩ : ∃ W, (w4.alloc (.cells #[.int .i64 u] 3)).drew = W := ⟨_, rfl⟩
    have hb5 : Below w4.heap.size w4 w5 := by rw [← hw5]; exact ((Below.refl _ _).alloc (Nat.le_refl _) _).drew
    have hsz5 : w5.heap.size = w4.heap.size + 1 := by rw [← hw5]; exact World.size_alloc _ _
    have e0 : w5.cell? ⟨w4.heap.size, 0, none⟩ = some (.int .i64 u) := by rw [← hw5]; exact cell_of (w := w4.alloc _) (new_at _ _) rfl
    have y0 := below_c hb5 (block_lt c0) c0
    have y1 := below_c hb5 (block_lt xc0) xc0
    have hT5 := below_c hb5 (block_lt hT4) hT4
    have hTf5 := fun o => below_z hb5 (block_lt hT4) (hTf o)
    have hrow5 := own_below HOW4.out hb5
    have HF5 := Lib.hid (HF4.out.below hb5)
    have hB5 : s + 1 + 1 ≤ w5.heap.size := by omega
    try rw [hw5]
    clear hb5 hw5
    refine hK.out _ _ (by exact ⟨y0, y1⟩) (fun _ => ?_)
    clear hK K
    try simp only [Act.put, List.getElem_toArray, List.getElem_cons_succ, List.getElem_cons_zero, List.setIfInBounds_toArray, List.set_cons_zero, List.set_cons_succ]
    refine wpAnyH_ready (rs := [1]) (by kernel_rfl) (by simp) ?_
    refine AllReadyH.cons rfl (fun K hK => ?_) AllReadyH.nil
    go_simp
    refine hK.out _ _ (by exact ⟨y0, y1⟩) (fun _ => ?_)
    clear hK K
    try simp only [Act.put, List.getElem_toArray, List.getElem_cons_succ, List.getElem_cons_zero, List.setIfInBounds_toArray, List.set_cons_zero, List.set_cons_succ]
    refine wpAnyH_ready (rs := [10]) (by kernel_rfl) (by simp) ?_
    refine AllReadyH.cons rfl (fun K hK => ?_) AllReadyH.nil
    refine step_push1 rfl _ _ 22 rfl 3 (.int .i64 0) 8 Tryz.underlying22 hIN.out rfl (s + 1 + 1) (.slice oa k oc) k (xs.map (.int .i64)) w4.heap.size (.int .i64 u) rfl rfl e0 hrow5 rfl (by omega) (by omega) hB5 ?_
    intro g3 cap3 w3 hown3 hg3 hat
    have z0 := grown_cell hg3 (fun e => by have := (HOB.out _ e.symm).1; omega) y0
    have z1 := grown_cell hg3 (fun e => by have := (HOB.out _ e.symm).1; omega) y1
    have zT := grown_cell hg3 (fun e => by have := (HOB.out _ e.symm).1; omega) hT5
    have zTf : ∀ o, w3.frozen? ⟨s + 1, o, none⟩ = false := fun o => grown_froz hg3 (fun e => by have := (HOB.out _ e.symm).1; omega) (block_lt hT5) (hTf5 o)
    have HF3 := Lib.hid (HF5.out.pushL HXL.out hg3 hown3 hat)
    clear hown3 hg3 hat
    refine hK.out _ _ (by exact ⟨z0, z1⟩) (fun _ => ?_)
    clear hK K
    try simp only [Act.put, List.getElem_toArray, List.getElem_cons_succ, List.getElem_cons_zero, List.setIfInBounds_toArray, List.set_cons_zero, List.set_cons_succ]
    refine wpAnyH_take (i := 11) (v := ?_) rfl (by kernel_rfl) (by kernel_rfl) (by kernel_rfl) (fun _ _ _ h => h) (Or.inl ⟨by rfl, ?_⟩) (by assumption) ?_
    rotate_left
    · intro w hSw
      try dsimp only at hSw
      go_simp
      try with_reducible rfl
    try simp only [Act.put, List.getElem_toArray, List.getElem_cons_succ, List.getElem_cons_zero, List.setIfInBounds_toArray, List.set_cons_zero, List.set_cons_succ]
    refine wpAnyH_ready (rs := [12]) (by kernel_rfl) (by simp) ?_
    refine AllReadyH.cons rfl (fun K hK => ?_) AllReadyH.nil
    go_simp
    refine hK.out _ _ (by exact ⟨set_ne (by omega) z0, set_ne (by omega) z1⟩) (fun _ => ?_)
    clear hK K
    try simp only [Act.put, List.getElem_toArray, List.getElem_cons_succ, List.getElem_cons_zero, List.setIfInBounds_toArray, List.set_cons_zero, List.set_cons_succ]
    refine wpAnyH_done (by kernel_rfl) ?_ _
    go_wp2_with fail
    go_roundg (gk - 1)
    case measure => omega
    case rel => exact ⟨k + 1, _, _, _, by omega, by go_num, Lib.hid (fin_x HXS.out HJ.out HU.out), Lib.hid (fin_f HJ.out HP.out HF3.out)⟩

end Go.Proofs.YteadlkecngfcoaaGreat
