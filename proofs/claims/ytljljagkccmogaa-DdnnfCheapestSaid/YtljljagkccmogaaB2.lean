/- More laws for slices that a call makes itself: an append of a whole slice, an append of an element of three cells, slices of parts. No condition. -/
import Derived.Test.YtljljagkccmogaaDd
import Derived.WalkSpells
namespace Go.Proofs.Ytljljagkccmogaa
open Go.RowKit

theorem add_at {b off : Nat} {n : Nat} : (⟨b, off, none⟩ : Addr).add n = ⟨b, off + n, none⟩ := by
  unfold Addr.add; split <;> simp_all
theorem sl1_cells {F : Nat → Prop} {w : World} {ad : Addr} {n c : Nat} {us : List Value} (h : Sl1 F w (.slice (some ad) n c) us) : ∀ j u, us[j]? = some u → w.cell? (ad.add j) = some u := by
  intro j u hu
  obtain ⟨b, off, he, _, _, hc⟩ := h.at hu
  injection he with he
  subst he
  rw [add_at]; exact hc

theorem own_new {base : Nat} {w : World} (cs : Array Value) (e : TypeId) (hb : base ≤ w.heap.size) (hm : cs.size ≤ 9223372036854775807) :
    (w.alloc (.cells cs e)).ownsRow base e 1 (.slice (some ⟨w.heap.size, 0, none⟩) cs.size cs.size) cs.size cs.toList := by
  refine ⟨by simp, .inr ⟨w.heap.size, cs.size, cs, rfl, hb, new_at _ _, Nat.le_refl _, by unfold maxLen; omega, by simp, by rw [Nat.mul_one, ← Array.length_toList, List.take_length]⟩⟩

section push
variable {P : Program} {ops : Array Oper} {rest : List Oper} {o : Oper} {a : Act} {Q : Exit → Act → World → Prop}

/-- append of a whole slice of one-cell elements onto a slice that the call owns -/
theorem wpList_pushAll (hgd : o.guard = none) (s x : Operand) (t : TypeId)
    (ho : o.op = .call { callee := .builtin .append, args := #[s, x], argTypes := #[t, t] })
    (E : TypeId) (z : Value) (bytes : Nat) (ht : P.underlying t = some (.slice E)) (hinfo : (P.info? E).map (fun i => (i.zero, i.size, i.bytes)) = some (some z, 1, bytes)) (hz1 : z.cells.size = 1)
    (base : Nat) (v : Value) (n : Nat) (xs : List Value) (w : World) (F : Nat → Prop) (A : Option Addr) (m c : Nat) (us : List Value)
    (hs : a.eval s = v) (hx : a.eval x = .slice A m c) (hown : w.ownsRow base E 1 v n xs) (hr : Sl1 F w (.slice A m c) us) (hu : ∀ u ∈ us, u.oneCell' = true)
    (hm : n + m ≤ 9223372036854775807) (hn : (n + m) * bytes ≤ 140737488355328) (hbase : base ≤ w.heap.size)
    (h : ∀ v' w', w'.ownsRow base E 1 v' (n + m) (xs ++ us) → w.grownBy w' v.ownBlock → (v'.ownBlock = v.ownBlock ∨ v'.ownBlock = some w.heap.size) → wpList P ops Q rest (a.put o.dst v') w') :
    wpList P ops Q (o :: rest) a w := by
  obtain ⟨i, hi, hz, h1, h2⟩ := info_parts hinfo
  have hl : m = us.length := hr.len.1
  rcases A with _ | ad
  · have h0 : us = [] := by
      rcases us with _ | ⟨u, r⟩
      · rfl
      · obtain ⟨_, _, he, _⟩ := hr.at (k := 0) (u := u) rfl
        cases he
    subst h0
    have hm0 : m = 0 := by simpa using hl
    subst hm0
    refine wpList_plain hgd fun K hK => ?_
    have hrun : (Builtin.append_ #[t, t] o.type #[v, .slice none 0 c]).run P w = .ok v w := by
      rcases hown.2 with ⟨rfl, rfl⟩ | ⟨g, cap, cur, rfl, _, _, hnc, _⟩
      · simp [Builtin.append_, run_underlying ht, sizeOf, typeInfo, hi, Builtin.lenOf, Builtin.firstCells]
      · simp [Builtin.append_, run_underlying ht, sizeOf, typeInfo, hi, Builtin.lenOf, Builtin.firstCells, hnc, storeCells]
    unfold Oper.wp execOp
    simp only [ho, resolve, invoke, builtin, Sem.run_bind, Sem.run_pure, Result.andThen_ok, List.map_toArray, List.map_cons, List.map_nil, hs, hx, hrun]
    exact hK _ _ (h v w (by simpa using hown) (World.grownBy.refl w _) (.inl rfl))
  · exact wpList_append_own_at w hgd s x t ho base E i z 1 bytes ht hi hz h1 h2 hz1 (by decide) v n xs hs hown ad m c us hx (by omega) (sl1_cells hr) hu (by unfold maxLen; omega) hn hbase fun v' w' h3 h4 _ h6 => h v' w' h3 h4 h6

/-- append of one element of three cells, which has just been laid in a block of its own -/
theorem wpList_push3 (hgd : o.guard = none) (s x : Operand) (t : TypeId)
    (ho : o.op = .call { callee := .builtin .append, args := #[s, x], argTypes := #[t, t] })
    (E : TypeId) (z : Value) (bytes : Nat) (ht : P.underlying t = some (.slice E)) (hinfo : (P.info? E).map (fun i => (i.zero, i.size, i.bytes)) = some (some z, 3, bytes)) (hz1 : z.cells.size = 3)
    (base : Nat) (v : Value) (n : Nat) (xs : List Value) (w0 : World) (u0 u1 u2 : Value)
    (hs : a.eval s = v) (hx : a.eval x = .slice (some ⟨w0.heap.size, 0, none⟩) 1 1) (hown : w0.ownsRow base E 3 v n xs) (hu0 : u0.oneCell' = true) (hu1 : u1.oneCell' = true) (hu2 : u2.oneCell' = true)
    (hn : (n + 1) * bytes ≤ 140737488355328) (hby : 1 ≤ bytes) (hbase : base ≤ w0.heap.size)
    (h : ∀ (g cap' : Nat) w', w'.ownsRow base E 3 (.slice (some ⟨g, 0, none⟩) (n + 1) cap') (n + 1) (xs ++ [u0, u1, u2]) → w0.grownBy w' v.ownBlock → w0.heap.size < w'.heap.size → base ≤ g → g < w'.heap.size → (v.ownBlock = some g ∨ w0.heap.size ≤ g) → wpList P ops Q rest (a.put o.dst (.slice (some ⟨g, 0, none⟩) (n + 1) cap')) w') :
    wpList P ops Q (o :: rest) a (w0.alloc (.cells #[u0, u1, u2] E)) := by
  obtain ⟨i, hi, hz, h1, h2⟩ := info_parts hinfo
  have hle : n + 1 ≤ (n + 1) * bytes := Nat.le_mul_of_pos_right _ hby
  refine wpList_append_own_at _ hgd s x t ho base E i z 3 bytes ht hi hz h1 h2 hz1 (by decide) v n xs hs (hown.alloc _) ⟨w0.heap.size, 0, none⟩ 1 1 [u0, u1, u2] hx rfl ?_ ?_ ?_ hn ?_ ?_
  · intro j y hj
    match j, hj with
    | 0, hj => simp at hj; subst hj; simp [Addr.add]
    | 1, hj => simp at hj; subst hj; simp [Addr.add]
    | 2, hj => simp at hj; subst hj; simp [Addr.add]
  · intro y hy; simp at hy; rcases hy with rfl | rfl | rfl <;> assumption
  · unfold maxLen; omega
  · simp; omega
  · intro v' w' hown' hg _ hat
    rcases hown'.2 with ⟨_, h0⟩ | ⟨g, cap', cur, rfl, hb, hh, _⟩
    · omega
    refine h g cap' w' hown' ⟨hg.os, hg.tape, hg.output, ?_, ?_⟩ ?_ hb (Array.getElem?_eq_some_iff.1 hh).1 ?_
    · have := hg.size; simp at this; omega
    · intro k hk hne
      rw [hg.block k (by simp; omega) hne]
      exact Below.heap_alloc w0 _ k hk
    · have := hg.size; simp at this; omega
    · rcases hat with h | h
      · exact .inl h.symm
      · right; simp [Value.ownBlock] at h; omega
end push

/-! ### slices of parts that the call owns -/
def cells3 (us : List (Value × Value × Value)) : List Value := us.flatMap fun u => [u.1, u.2.1, u.2.2]
theorem cells3_get : ∀ (us : List (Value × Value × Value)) (j : Nat) (u : Value × Value × Value), us[j]? = some u → (cells3 us)[j * 3]? = some u.1 ∧ (cells3 us)[j * 3 + 1]? = some u.2.1 ∧ (cells3 us)[j * 3 + 2]? = some u.2.2
  | [], j, u, h => by simp at h
  | x :: r, 0, u, h => by simp at h; subst h; simp [cells3]
  | x :: r, j + 1, u, h => by
    have := cells3_get r j u (by simpa using h)
    simp only [cells3, List.flatMap_cons] at this ⊢
    rw [show (j + 1) * 3 = j * 3 + 3 by omega]
    simpa [List.getElem?_append_right] using this
theorem cells3_snoc (us : List (Value × Value × Value)) (u : Value × Value × Value) : cells3 (us ++ [u]) = cells3 us ++ [u.1, u.2.1, u.2.2] := by simp [cells3]
theorem cells3_len (us : List (Value × Value × Value)) : (cells3 us).length = us.length * 3 := by
  induction us with
  | nil => rfl
  | cons u r ih => simp only [cells3, List.flatMap_cons, List.length_append, List.length_cons, List.length_nil] at ih ⊢; omega

/-- a slice of parts that the call owns: the kids lie elsewhere -/
def PartsOwn (w : World) (base : Nat) (E : TypeId) (v : Value) (ps : List Part) : Prop :=
  ∃ us, w.ownsRow base E 3 v ps.length (cells3 us) ∧ us.length = ps.length ∧ ∀ (j : Nat) u p, us[j]? = some u → ps[j]? = some p →
    u.1 = .int .i64 p.kind ∧ u.2.1 = .int .i64 p.lit ∧ Ints (fun b => base ≤ b ∧ v.ownBlock ≠ some b) w u.2.2 p.kids ∧ I64 p.kind ∧ I64 p.lit
theorem PartsOwn.nil (w : World) (base : Nat) (E : TypeId) : PartsOwn w base E (.slice none 0 0) [] := ⟨[], World.ownsRow_nil _ _ _ _, rfl, by simp⟩
theorem PartsOwn.below {w w' : World} {base : Nat} {E : TypeId} {v : Value} {ps : List Part} (h : PartsOwn w base E v ps) (hb : Below w.heap.size w w') : PartsOwn w' base E v ps := by
  obtain ⟨us, h1, h2, h3⟩ := h
  exact ⟨us, own_below h1 hb, h2, fun j u p hu hp => let ⟨a, b, c, d⟩ := h3 j u p hu hp; ⟨a, b, c.below hb, d⟩⟩
theorem PartsOwn.lt {w : World} {base : Nat} {E : TypeId} {v : Value} {ps : List Part} (h : PartsOwn w base E v ps) : ∀ k, v.ownBlock = some k → base ≤ k ∧ k < w.heap.size := by
  obtain ⟨us, h1, _⟩ := h
  exact h1.lt
theorem PartsOwn.move {w w' : World} {base : Nat} {E : TypeId} {v : Value} {ps : List Part} (h : PartsOwn w base E v ps) (hm : ∀ b, base ≤ b → b < w.heap.size → w'.heap[b]? = w.heap[b]?) : PartsOwn w' base E v ps := by
  obtain ⟨us, h1, h2, h3⟩ := h
  refine ⟨us, ?_, h2, fun j u p hu hp => let ⟨a, b, c, d⟩ := h3 j u p hu hp; ⟨a, b, c.move fun b hb hlt => hm b hb.1 hlt, d⟩⟩
  refine ⟨h1.1, ?_⟩
  rcases h1.2 with h0 | ⟨g, cap, cur, e1, e2, e3, e4⟩
  · exact .inl h0
  · exact .inr ⟨g, cap, cur, e1, e2, (hm g e2 (Array.getElem?_eq_some_iff.1 e3).1).trans e3, e4⟩
theorem PartsOwn.parts {w : World} {base : Nat} {E : TypeId} {v : Value} {ps : List Part} (h : PartsOwn w base E v ps) (hn : ps.length ≤ 9223372036854775807) : Parts (fun b => base ≤ b) w v ps := by
  obtain ⟨us, h1, h2, h3⟩ := h
  refine ⟨us, ?_, h2, fun j u p hu hp => let ⟨a, b, c, d⟩ := h3 j u p hu hp; ⟨a, b, c.mono fun _ h => h.1, d⟩⟩
  rcases h1.2 with ⟨rfl, h0⟩ | ⟨g, cap, cur, rfl, hb, _⟩
  · have : us = [] := List.eq_nil_of_length_eq_zero (by omega)
    subst this
    exact Sl3.nil _ _
  · refine ⟨some ⟨g, 0, none⟩, cap, by rw [h2], by omega, fun j u hu => ⟨g, 0, rfl, hb, ?_⟩⟩
    have hc := h1.cells (g := g) rfl
    obtain ⟨e1, e2, e3⟩ := cells3_get us j u hu
    have f1 := hc _ _ e1
    have f2 := hc _ _ e2
    have f3 := hc _ _ e3
    rw [add_at] at f1 f2 f3
    rw [Nat.zero_add] at f1 f2 f3 ⊢
    exact ⟨f1, f2, f3⟩
theorem PartsOwn.push {w w' : World} {base : Nat} {E : TypeId} {v : Value} {g cap : Nat} {ps : List Part} {us : List (Value × Value × Value)} {kv : Value} {p : Part}
    (h2 : us.length = ps.length) (h3 : ∀ (j : Nat) u p, us[j]? = some u → ps[j]? = some p → u.1 = .int .i64 p.kind ∧ u.2.1 = .int .i64 p.lit ∧ Ints (fun b => base ≤ b ∧ v.ownBlock ≠ some b) w u.2.2 p.kids ∧ I64 p.kind ∧ I64 p.lit)
    (hr : Ints (fun b => base ≤ b ∧ v.ownBlock ≠ some b) w kv p.kids) (i1 : I64 p.kind) (i2 : I64 p.lit)
    (hown : w'.ownsRow base E 3 (.slice (some ⟨g, 0, none⟩) (ps.length + 1) cap) (ps.length + 1) (cells3 us ++ [.int .i64 p.kind, .int .i64 p.lit, kv])) (hg : w.grownBy w' v.ownBlock) (hat : v.ownBlock = some g ∨ w.heap.size ≤ g) :
    PartsOwn w' base E (.slice (some ⟨g, 0, none⟩) (ps.length + 1) cap) (ps ++ [p]) := by
  have mv : ∀ u m, Ints (fun b => base ≤ b ∧ v.ownBlock ≠ some b) w u m → Ints (fun b => base ≤ b ∧ (Value.slice (some ⟨g, 0, none⟩) (ps.length + 1) cap).ownBlock ≠ some b) w' u m := by
    intro u m hu
    refine (hu.lt.move (w' := w') fun b hb hlt => hg.block b hlt (fun e => hb.1.2 e.symm)).mono fun b hb => ⟨hb.1.1, ?_⟩
    simp only [Value.ownBlock]
    intro e
    injection e with e
    subst e
    rcases hat with h | h
    · exact hb.1.2 h
    · omega
  refine ⟨us ++ [(.int .i64 p.kind, .int .i64 p.lit, kv)], by rw [cells3_snoc]; simpa using hown, by simp [h2], fun j u x hu hx => ?_⟩
  rcases Nat.lt_or_ge j us.length with hj | hj
  · rw [List.getElem?_append_left hj] at hu
    rw [List.getElem?_append_left (by omega)] at hx
    obtain ⟨a, b, c, d⟩ := h3 j u x hu hx
    exact ⟨a, b, mv _ _ c, d⟩
  · rw [List.getElem?_append_right hj] at hu
    rw [List.getElem?_append_right (by omega)] at hx
    rw [h2] at hu
    rcases hk : j - ps.length with _ | k
    · rw [hk] at hu hx
      simp at hu hx
      subst hu hx
      exact ⟨rfl, rfl, mv _ _ hr, i1, i2⟩
    · rw [hk] at hu
      simp at hu

/-! ### bits of an int -/
theorem i64_low (n : Int) : bits .and .i64 n 1 = n % 2 := by
  have h1 : (BitVec.ofInt 64 n &&& BitVec.ofInt 64 1).toNat = (n % ((2 ^ 64 : Nat) : Int)).toNat % 2 := by
    rw [BitVec.toNat_and, BitVec.toNat_ofInt, show (BitVec.ofInt 64 1).toNat = 2 ^ 1 - 1 by decide, Nat.and_two_pow_sub_one_eq_mod]
  show IntKind.i64.wrap ((BitVec.ofInt 64 n &&& BitVec.ofInt 64 1).toNat : Nat) = n % 2
  rw [h1, IntKind.wrap_i64]
  omega
theorem bit_test (k g : Nat) : (bits .and .i64 ((k : Int) / 2 ^ g) 1 == 1) = k.testBit g := by
  rw [i64_low, show ((k : Int) / 2 ^ g) = ((k / 2 ^ g : Nat) : Int) by simp, Nat.testBit_eq_decide_div_mod_eq]
  rcases Nat.mod_two_eq_zero_or_one (k / 2 ^ g) with h | h
  · rw [show ((k / 2 ^ g : Nat) : Int) % 2 = 0 by omega, h]; rfl
  · rw [show ((k / 2 ^ g : Nat) : Int) % 2 = 1 by omega, h]; rfl

/-! ### what a call answers -/
def IntsPost (W : World) (xs : List Int) (e : Ending) (w' : World) : Prop := ∃ v, e = .returned v ∧ Ints (fun b => W.heap.size ≤ b) w' v xs ∧ Below W.heap.size W w'
def BoolsPost (W : World) (xs : List Bool) (e : Ending) (w' : World) : Prop := ∃ v, e = .returned v ∧ Bools (fun b => W.heap.size ≤ b) w' v xs ∧ Below W.heap.size W w'
end Go.Proofs.Ytljljagkccmogaa
