/- Walk: the least cost of a model. -/
import Derived.Test.YtljljagkccmogaaEd
import Derived.Deep.RegionLaw
import Derived.StillTailTactics
namespace Go.Proofs.Ytljljagkccmogaa
open Go.ChangeShapes Go.WideShapes Go.ChangeAt Go.RowKit
set_option linter.unusedVariables false

theorem new_cell (w : World) (cs : Array Value) (T : TypeId) (i : Nat) {n : Nat} (h : n = w.heap.size) : (w.alloc (.cells cs T)).cell? ⟨n, i, none⟩ = cs[i]? := cell_of_row _ _ _ _ _ _ (new_at' w _ h)

section push2
variable {P : Program} {ops : Array Oper} {rest : List Oper} {o : Oper} {a : Act} {Q : Exit → Act → World → Prop}
/-- append of one element of two cells, which has just been laid in a block of its own -/
theorem wpList_push2 (hgd : o.guard = none) (s x : Operand) (t : TypeId)
    (ho : o.op = .call { callee := .builtin .append, args := #[s, x], argTypes := #[t, t] })
    (E : TypeId) (z : Value) (bytes : Nat) (ht : P.underlying t = some (.slice E)) (hinfo : (P.info? E).map (fun i => (i.zero, i.size, i.bytes)) = some (some z, 2, bytes)) (hz1 : z.cells.size = 2)
    (base : Nat) (v : Value) (n : Nat) (xs : List Value) (w0 : World) (u0 u1 : Value)
    (hs : a.eval s = v) (hx : a.eval x = .slice (some ⟨w0.heap.size, 0, none⟩) 1 1) (hown : w0.ownsRow base E 2 v n xs) (hu0 : u0.oneCell' = true) (hu1 : u1.oneCell' = true)
    (hn : (n + 1) * bytes ≤ 140737488355328) (hby : 1 ≤ bytes) (hbase : base ≤ w0.heap.size)
    (h : ∀ (g cap' : Nat) w', w'.ownsRow base E 2 (.slice (some ⟨g, 0, none⟩) (n + 1) cap') (n + 1) (xs ++ [u0, u1]) → w0.grownBy w' v.ownBlock → w0.heap.size < w'.heap.size → base ≤ g → g < w'.heap.size → (v.ownBlock = some g ∨ w0.heap.size ≤ g) → wpList P ops Q rest (a.put o.dst (.slice (some ⟨g, 0, none⟩) (n + 1) cap')) w') :
    wpList P ops Q (o :: rest) a (w0.alloc (.cells #[u0, u1] E)) := by
  obtain ⟨i, hi, hz, h1, h2⟩ := info_parts hinfo
  have hle : n + 1 ≤ (n + 1) * bytes := Nat.le_mul_of_pos_right _ hby
  refine wpList_append_own_at _ hgd s x t ho base E i z 2 bytes ht hi hz h1 h2 hz1 (by decide) v n xs hs (hown.alloc _) ⟨w0.heap.size, 0, none⟩ 1 1 [u0, u1] hx rfl ?_ ?_ ?_ hn ?_ ?_
  · intro j y hj
    match j, hj with
    | 0, hj => simp at hj; subst hj; simp [Addr.add]
    | 1, hj => simp at hj; subst hj; simp [Addr.add]
  · intro y hy; simp at hy; rcases hy with rfl | rfl <;> assumption
  · unfold maxLen; omega
  · simp; omega
  · intro v' w' hown' hg _ hat
    rcases hown'.2 with ⟨_, h0⟩ | ⟨g, cap', cur, rfl, hb, hh, _⟩
    · omega
    refine h g cap' w' hown' ⟨hg.os, hg.tape, hg.output, ?_, ?_⟩ ?_ hb (Array.getElem?_eq_some_iff.1 hh).1 ?_
    · have := hg.size; simp at this; omega
    · intro k hk hne
      rw [hg.block k (by simp; omega) hne]
      exact Below.heap_alloc w0 _ k hk
    · have := hg.size; simp at this; omega
    · rcases hat with h | h
      · exact .inl h.symm
      · right; simp [Value.ownBlock] at h; omega
end push2
def cells2 (bs : List Best) : List Value := bs.flatMap fun b => [.int .i64 b.1, .bool b.2]
theorem cells2_get : ∀ (bs : List Best) (j : Nat) (b : Best), bs[j]? = some b → (cells2 bs)[j * 2]? = some (.int .i64 b.1) ∧ (cells2 bs)[j * 2 + 1]? = some (.bool b.2)
  | [], j, u, h => by simp at h
  | x :: r, 0, u, h => by simp at h; subst h; simp [cells2]
  | x :: r, j + 1, u, h => by
    have := cells2_get r j u (by simpa using h)
    simp only [cells2, List.flatMap_cons] at this ⊢
    rw [show (j + 1) * 2 = j * 2 + 2 by omega]
    simpa [List.getElem?_append_right] using this
theorem cells2_snoc (bs : List Best) (b : Best) : cells2 (bs ++ [b]) = cells2 bs ++ [.int .i64 b.1, .bool b.2] := by simp [cells2]
/-- a place of the costs that the call owns -/
theorem bests_at {w : World} {base : Nat} {E : TypeId} {v : Value} {n k : Nat} {bs : List Best} (h : w.ownsRow base E 2 v n (cells2 bs)) (hl : bs.length = n) (hk : k < n) :
    ∃ g cap b, v = .slice (some ⟨g, 0, none⟩) n cap ∧ bs[k]? = some b ∧ w.cell? ⟨g, k * 2, none⟩ = some (.int .i64 b.1) ∧ w.cell? ⟨g, k * 2 + 1, none⟩ = some (.bool b.2) ∧ base ≤ g ∧ g < w.heap.size := by
  have hlt := h.lt
  have hc := fun g hg => h.cells (g := g) hg
  rcases h.2 with ⟨_, h0⟩ | ⟨g, cap, cur, rfl, hb, _⟩
  · omega
  obtain ⟨b, hb'⟩ : ∃ b, bs[k]? = some b := ⟨_, List.getElem?_eq_getElem (by omega)⟩
  obtain ⟨e1, e2⟩ := cells2_get bs k b hb'
  have f1 := hc g rfl _ _ e1
  have f2 := hc g rfl _ _ e2
  rw [add_at, Nat.zero_add] at f1 f2
  exact ⟨g, cap, b, rfl, hb', f1, f2, hb, (hlt g rfl).2⟩

set_option maxRecDepth 100000 in
set_option maxHeartbeats 8000000 in
theorem cheap_any {F G G1 G2 : Nat → Prop} (V : Nat) (pv mv nv yv : Value) (ps : List Part) (ms : List Nat) (no yes : List Int) (b : Nat) (w : World) (hp : Parts F w pv ps) (hms : Nats G w mv ms)
    (f0 : w.cell? ⟨b, 0, none⟩ = some (.int .i64 V)) (f1 : w.cell? ⟨b, 1, none⟩ = some pv) (f2 : w.cell? ⟨b, 2, none⟩ = some mv) (hn : Ints G1 w nv no) (hy : Ints G2 w yv yes) (hno : CostOk V no) (hye : CostOk V yes) (hV : V ≤ 40)
    (hlen : ms.length = ps.length) (h0 : 0 < ps.length) (hps : ps.length ≤ 16384) (hs : cheapS no yes V ms ps []) :
    Calls Try.prog 44 #[.pointer (some ⟨b, 0, none⟩), nv, yv] w fun e w' => e = .returned (.tuple #[.int .i64 (cheapM no yes V ps ms).1, .bool (cheapM no yes V ps ms).2]) ∧ Below w.heap.size w w' := by
  obtain ⟨pa, pn, pc, rfl, HPN, hpn⟩ : ∃ a n c, pv = .slice a n c ∧ Hid (n = ps.length) ∧ n ≤ 16384 := by
    obtain ⟨a, c, h1, h2⟩ := hp.form
    exact ⟨a, _, c, h1, rfl, hps⟩
  obtain ⟨na, nn, nc, rfl, HNN, _⟩ := hn.form'
  obtain ⟨ya, yn, yc, rfl, HYN, _⟩ := hy.form'
  obtain ⟨ma, ml, mc, rfl, hml⟩ : ∃ a n c, mv = .slice a n c ∧ Hid (n = ms.length) := by
    obtain ⟨a, c, h1, h2⟩ := hms.form
    exact ⟨a, _, c, h1, rfl⟩
  have hmlp : ml = pn := by rw [hml.out, hlen, HPN.out]
  subst hmlp
  have hinfo : (Try.prog.info? 103).map (fun i => (i.zero, i.size, i.bytes)) = some (some (.agg #[.int .i64 0, .bool false]), 2, 16) := by kernel_rfl
  have HI := Lib.hid hinfo
  have hbb := block_lt f0
  obtain ⟨C, hC⟩ : ∃ C, cheapGo no yes V ms ps [] = C := ⟨_, rfl⟩
  have HC : Hid (C = cheapGo no yes V ms (ps.drop 0) []) := Lib.hid hC.symm
  have HCM : Hid (cheapM no yes V ps ms = ((C.getD (ps.length - 1) (0, false)).1 + freeGo no yes ((2 ^ V - 1) &&& (18446744073709551615 - ms.getD (ps.length - 1) 0)) V, (C.getD (ps.length - 1) (0, false)).2)) := Lib.hid (by rw [← hC]; rfl)
  obtain ⟨R, hR⟩ : ∃ R, cheapM no yes V ps ms = R := ⟨_, rfl⟩
  rw [hR] at HCM ⊢
  have HS : Hid (cheapS no yes V ms (ps.drop 0) []) := Lib.hid hs
  have HLEN := Lib.hid hlen
  have HNO := Lib.hid hno
  have HYE := Lib.hid hye
  obtain ⟨W1, hW1⟩ : ∃ W1, ((w.alloc (.cells #[.pointer (some ⟨b, 0, none⟩)] 66)).alloc (.cells #[.slice na nn nc] 35)).alloc (.cells #[.slice ya yn yc] 35) = W1 := ⟨_, rfl⟩
  have hb1 : Below w.heap.size w W1 := by rw [← hW1]; exact (((Below.refl _ _).alloc (Nat.le_refl _) _).alloc (by simp) _).alloc (by simp; omega) _
  have a3 : W1.cell? ⟨w.heap.size, 0, none⟩ = some (.pointer (some ⟨b, 0, none⟩)) := by rw [← hW1]; exact cell_alloc _ (cell_alloc _ (new_cell _ _ _ 0 rfl))
  have a4 : W1.cell? ⟨w.heap.size + 1, 0, none⟩ = some (.slice na nn nc) := by rw [← hW1]; exact cell_alloc _ (new_cell _ _ _ 0 (by simp))
  have a5 : W1.cell? ⟨w.heap.size + 1 + 1, 0, none⟩ = some (.slice ya yn yc) := by rw [← hW1]; exact new_cell _ _ _ 0 (by simp)
  have hs1 : W1.heap.size = w.heap.size + 3 := by rw [← hW1]; simp
  have g0 := below_c hb1 hbb f0
  have g1 := below_c hb1 hbb f1
  have g2 := below_c hb1 hbb f2
  have HB1 := Lib.hid hb1
  have hs1a : w.heap.size + 3 ≤ W1.heap.size ∧ W1.heap.size ≤ w.heap.size + 3 := by omega
  have HP1 := Lib.hid (hp.below hb1)
  have HM1 := Lib.hid (hms.below hb1)
  have HN1 := Lib.hid (hn.below hb1)
  have HY1 := Lib.hid (hy.below hb1)
  have HW1 := Lib.hid hW1
  clear hinfo hC hR hs hlen hno hye hW1 hb1 hs1 hp hms hn hy hml
  go_enter Try.func44, Try.ntmps44
  go_upto_region 2 with fail
  rw [HW1.out]
  clear HW1 f0 f1 f2
  go_wp2
  go_loopg [9, 28] ml (fun g u9 u28 wx => ∃ (k : Nat) (bs : List Best), k + g = ml ∧ u28 = .int .i64 k ∧ Hid (C = cheapGo no yes V ms (ps.drop k) bs) ∧ Hid (cheapS no yes V ms (ps.drop k) bs) ∧ Hid (bs.length = k) ∧
    Hid (wx.ownsRow (w.heap.size + 3) 103 2 u9 k (cells2 bs)) ∧ Hid (Below (w.heap.size + 3) W1 wx) ∧ Hid (∀ b ∈ bs, Small b.1))
  case atStart => exact ⟨0, [], by omega, rfl, HC, HS, Lib.hid rfl, Lib.hid (World.ownsRow_nil _ _ _ _), Lib.hid (Below.refl _ _), Lib.hid (by simp)⟩
  case round =>
  obtain ⟨GK, hGK⟩ : ∃ G, G = gk := ⟨_, rfl⟩
  subst hGK
  obtain ⟨k, bs, hkg, rfl, hinv, hsafe, hbl, HOW, HBX, hsm⟩ := hrel
  have hsx := HBX.out.size
  have q0 := below_c HBX.out (by omega) g0
  have q1 := below_c HBX.out (by omega) g1
  have q2 := below_c HBX.out (by omega) g2
  have q3 := below_c HBX.out (by omega) a3
  have q4 := below_c HBX.out (by omega) a4
  have q5 := below_c HBX.out (by omega) a5
  have HBW : Hid (Below w.heap.size w wr) := Lib.hid (HB1.out.trans (HBX.out.mono (by omega)))
  have hbw1 : Below W1.heap.size W1 wr := HBX.out.mono (by omega)
  have HPR := Lib.hid (HP1.out.below hbw1)
  have HMR := Lib.hid (HM1.out.below hbw1)
  have HNR := Lib.hid (HN1.out.below hbw1)
  have HYR := Lib.hid (HY1.out.below hbw1)
  have hbr : b < wr.heap.size := block_lt q0
  have hbr3 : w.heap.size + 1 + 1 < wr.heap.size := block_lt q5
  clear g0 g1 g2 a3 a4 a5 hbw1
  by_cases hk : k < ml
  case neg =>
    have hkm : k = ml := by omega
    have HCC : Hid (C = bs) := Lib.hid (by rw [hinv.out, List.drop_eq_nil_of_le (by have := HPN.out; omega)]; rfl)
    obtain ⟨L, hL⟩ : ∃ L, k = L + 1 := ⟨k - 1, by have := HPN.out; omega⟩
    have hLk : L < k := by omega
    obtain ⟨g, cap, q, rfl, hq, hq0, hq1, hg3, hg4⟩ := bests_at HOW.out hbl.out hLk
    obtain ⟨qc, qo⟩ := q
    obtain ⟨m, hm⟩ : ∃ m, ms[L]? = some m := ⟨_, List.getElem?_eq_getElem (by have := HLEN.out; have := HPN.out; omega)⟩
    have hmr := HMR.out
    obtain ⟨mb, moff, rfl, _, hmb, hcm, hml2⟩ := hmr.at hm
    have hpl1 : ps.length - 1 = L := by have := HPN.out; omega
    have HRR : Hid (R = (qc + freeGo no yes ((2 ^ V - 1) &&& (18446744073709551615 - m)) V, qo)) := Lib.hid (by
      rw [HCM.out, HCC.out, hpl1]
      have e1 : bs.getD L (0, false) = (qc, qo) := by simp [List.getD, hq]
      have e2 : ms.getD L 0 = m := by simp [List.getD, hm]
      rw [e1, e2])
    have hqs := hsm.out _ (List.mem_of_getElem? hq)
    unfold Small at hqs
    simp only at hqs hq0 hq1
    obtain ⟨K, hK⟩ : ∃ K : Nat, 2 ^ V = K := ⟨_, rfl⟩
    have hK1 : 1 ≤ K ∧ K ≤ 1099511627776 := by
      rw [← hK]
      refine ⟨Nat.two_pow_pos _, ?_⟩
      rw [show (1099511627776 : Nat) = 2 ^ 40 by decide]
      exact Nat.pow_le_pow_right (by decide) hV
    have hsh : IntKind.u64.wrap ((2 : Int) ^ V) = (K : Int) := by
      rw [show (2 : Int) ^ V = ((2 ^ V : Nat) : Int) by simp, hK]
      exact IntWalk.u64_in _ ⟨by omega, by omega⟩
    have hsb : IntKind.u64.wrap ((K : Int) - 1) = ((K - 1 : Nat) : Int) := by rw [IntWalk.u64_in _ ⟨by omega, by omega⟩]; omega
    rw [hK] at HRR
    have hean := u64_andNot_nat (K - 1) m (by omega) (by omega)
    have hfl : (K - 1) &&& (18446744073709551615 - m) < 18446744073709551616 := Nat.lt_of_le_of_lt Nat.and_le_left (by omega)
    have hfb := freeGo_le HNO.out HYE.out ((K - 1) &&& (18446744073709551615 - m)) V
    have hfree : ∀ nq, Calls Try.prog 54 #[.int .u64 (((K - 1) &&& (18446744073709551615 - m) : Nat) : Int), .pointer (some ⟨w.heap.size, 0, none⟩), .pointer (some ⟨w.heap.size + 1, 0, none⟩), .pointer (some ⟨w.heap.size + 1 + 1, 0, none⟩)] (wr.drewN nq)
        (QuietPost (wr.drewN nq) (.int .i64 (freeGo no yes ((K - 1) &&& (18446744073709551615 - m)) V))) := fun nq =>
      free_any V _ _ _ no yes b w.heap.size (w.heap.size + 1) (w.heap.size + 1 + 1) (wr.drewN nq) HNR.out HYR.out HNO.out HYE.out hV hfl q3 q4 q5 q0
    have HFREE := Lib.hid hfree
    obtain ⟨fr, hfr⟩ : ∃ fr, freeGo no yes ((K - 1) &&& (18446744073709551615 - m)) V = fr := ⟨_, rfl⟩
    rw [hfr] at HFREE HRR hfb
    have hw1 : IntKind.i64.wrap (qc + fr) = qc + fr := IntWalk.i64_in _ ⟨by omega, by omega⟩
    have hlw : IntKind.i64.wrap ((k : Int) - 1) = (L : Int) := by rw [IntWalk.i64_in _ ⟨by omega, by omega⟩]; omega
    have hlw2 : (k : Int) - 1 = (L : Int) := by omega
    have hL0 : (0 : Int) ≤ L := by omega
    have hL1 : (L : Int) < k := by omega
    have hL2 : (L : Int) < ml := by omega
    have hsK : ((K - 1 : Nat) : Int) = (K : Int) - 1 := by omega
    rw [hsK] at hean hsb
    generalize (K - 1) &&& (18446744073709551615 - m) = fm at *
    have HKM := Lib.hid hkm
    clear hkm hL hq hm hmr hpl1 hK hfr hfree hinv hsafe hsK
    go_upto_region 36 with fail
    go_quiet ((go_at_call 54; exact Calls.quiet_of (HFREE.out _)))
    go_wp2
    go_ret2
    rw [HRR.out]
    exact ⟨rfl, below_drewN HBW.out _⟩
  obtain ⟨p, hpk⟩ : ∃ p, ps[k]? = some p := ⟨_, List.getElem?_eq_getElem (by have := HPN.out; omega)⟩
  obtain ⟨m, hmk⟩ : ∃ m, ms[k]? = some m := ⟨_, List.getElem?_eq_getElem (by have := HPN.out; have := HLEN.out; omega)⟩
  have hd : ps.drop k = p :: ps.drop (k + 1) := by
    obtain ⟨hlt, he⟩ := List.getElem?_eq_some_iff.1 hpk
    rw [List.drop_eq_getElem_cons hlt, he]
  have hmd : ms.getD bs.length 0 = m := by rw [hbl.out]; simp [List.getD, hmk]
  have HSP : Hid (partBS no yes V p m ms bs) := Lib.hid (by have := hsafe.out; rw [hd] at this; rw [← hmd]; exact this.1)
  have HSN : Hid (cheapS no yes V ms (ps.drop (k + 1)) (bs ++ [bestStep no yes V p m ms bs])) := Lib.hid (by have := hsafe.out; rw [hd] at this; rw [← hmd]; exact this.2)
  have HCN : Hid (C = cheapGo no yes V ms (ps.drop (k + 1)) (bs ++ [bestStep no yes V p m ms bs])) := Lib.hid (by rw [hinv.out, hd, cheapGo, hmd])
  obtain ⟨pb, poff, kv, rfl, _, hpb, e1, e2, e3, hks, i1, i2⟩ := HPR.out.at hpk
  obtain ⟨ka, kn, kc, rfl, HKN, hkl⟩ := hks.form'
  have HKS := Lib.hid (hks.lt.mono (G := fun b => b < wr.heap.size) fun _ h => h.2)
  have HPK := Lib.hid hpk
  have HMK := Lib.hid hmk
  clear hd hmd hinv hsafe hks hpk hmk
  go_upto_block 2 with fail
  obtain ⟨N, hN⟩ : ∃ N, wr.heap.size = N := ⟨_, rfl⟩
  obtain ⟨W2, hW2⟩ : ∃ W2, (wr.alloc (.cells #[.int .i64 p.kind, .int .i64 p.lit, .slice ka kn kc] 61)).alloc (.cells #[.int .i64 0, .bool true] 103) = W2 := ⟨_, rfl⟩
  have p0 : W2.cell? ⟨N, 0, none⟩ = some (.int .i64 p.kind) := by rw [← hW2, ← hN]; exact cell_alloc _ (new_cell _ _ _ 0 rfl)
  have p1 : W2.cell? ⟨N, 1, none⟩ = some (.int .i64 p.lit) := by rw [← hW2, ← hN]; exact cell_alloc _ (new_cell _ _ _ 1 rfl)
  have p2 : W2.cell? ⟨N, 2, none⟩ = some (.slice ka kn kc) := by rw [← hW2, ← hN]; exact cell_alloc _ (new_cell _ _ _ 2 rfl)
  have t0 : W2.cell? ⟨N + 1, 0, none⟩ = some (.int .i64 0) := by rw [← hW2, ← hN]; exact new_cell _ _ _ 0 (by simp)
  have t1 : W2.cell? ⟨N + 1, 1, none⟩ = some (.bool true) := by rw [← hW2, ← hN]; exact new_cell _ _ _ 1 (by simp)
  have z0 : W2.frozen? ⟨N + 1, 0, none⟩ = false := by rw [← hW2, ← hN]; simp
  have z1 : W2.frozen? ⟨N + 1, 1, none⟩ = false := by rw [← hW2, ← hN]; simp
  have hs2 : N + 1 < W2.heap.size ∧ W2.heap.size ≤ N + 2 := by rw [← hW2, ← hN]; simp
  have hb2 : Below N wr W2 := by rw [← hW2, ← hN]; exact ((Below.refl _ _).alloc (Nat.le_refl _) _).alloc (by simp) _
  have hNr : N ≤ wr.heap.size ∧ wr.heap.size ≤ N := by omega
  have r0 := below_c hb2 (by omega) q0
  have r1 := below_c hb2 (by omega) q1
  have r2 := below_c hb2 (by omega) q2
  have r3 := below_c hb2 (by omega) q3
  have r4 := below_c hb2 (by omega) q4
  have r5 := below_c hb2 (by omega) q5
  have hb2' : Below wr.heap.size wr W2 := hb2.mono (by omega)
  have HKS2 := Lib.hid (HKS.out.below hb2')
  have HNR2 := Lib.hid (HNR.out.below hb2')
  have HYR2 := Lib.hid (HYR.out.below hb2')
  have HMR2 := Lib.hid (HMR.out.below hb2')
  have HOW2 := Lib.hid (own_below HOW.out hb2')
  have HB2 := Lib.hid hb2
  rw [hW2, hN]
  clear hW2 hN hb2 hb2' q0 q1 q2 q3 q4 q5 e1 e2 e3
  go_cut [] (fun wx => wx.cell? ⟨N + 1, 0, none⟩ = some (.int .i64 (bestStep no yes V p m ms bs).1) ∧ wx.cell? ⟨N + 1, 1, none⟩ = some (.bool (bestStep no yes V p m ms bs).2) ∧ Hid (Below (N + 1) W2 wx))
  case first =>
    have hk5 := HSP.out
    rcases kind6 p.kind with ⟨t20, t21, t22, t23, t24, n3, n4⟩ | ⟨t20, t21, t22, t23, t24, n3, n4⟩ | ⟨t20, t21, t22, t23, t24, n3, n4⟩ | ⟨t20, t21, t22, t23, t24, n3, n4⟩ | ⟨t20, t21, t22, t23, t24, n3, n4⟩ | ⟨t20, t21, t22, t23, t24, n3, n4⟩
    · have HE : Hid (bestStep no yes V p m ms bs = (0, true)) := Lib.hid (by simp at t21 t22 t23 t24; simp [bestStep, t21, t22, t23, t24])
      clear hk5
      go_wp2
      go_meet
      rw [HE.out]
      exact ⟨t0, t1, Lib.hid (Below.refl _ _)⟩
    · have HE : Hid (bestStep no yes V p m ms bs = (0, false)) := Lib.hid (by simp at t21; simp [bestStep, t21])
      clear hk5
      go_wp2
      go_meet
      rw [HE.out]
      exact ⟨set_ne (by omega) t0, set_eq t1, Lib.hid ((Below.refl _ _).setCell (by show N + 1 ≤ N + 1; omega) _)⟩
    · have hl := hk5.2.1 (by simpa using t22)
      have HE : Hid (bestStep no yes V p m ms bs = (if p.lit < 0 then no.getD (p.lit.natAbs - 1) 0 else yes.getD (p.lit.natAbs - 1) 0, true)) := Lib.hid (by simp at t21 t22; simp [bestStep, t22])
      clear hk5
      -- fold
      by_cases hpos : 0 < p.lit
      · obtain ⟨L, hL⟩ : ∃ L : Nat, p.lit = (L : Int) + 1 := ⟨p.lit.toNat - 1, by omega⟩
        have hLV : L < V := by omega
        obtain ⟨y, hy⟩ : ∃ y, yes[L]? = some y := ⟨_, List.getElem?_eq_getElem (by rw [HYE.out.1]; exact hLV)⟩
        have HE2 : Hid (bestStep no yes V p m ms bs = (y, true)) := Lib.hid (by
          rw [HE.out, if_neg (by omega), show p.lit.natAbs - 1 = L by omega]; simp [List.getD, hy])
        have hyr := HYR.out
        obtain ⟨yb, yo, rfl, _, hyb, hyc0, _⟩ := hyr.at hy
        have hyN : yb < N := by omega
        have hyc := below_c HB2.out hyN hyc0
        have hLy : L < yn := by rw [HYN.out, HYE.out.1]; exact hLV
        rw [hL] at p1
        clear hy HE hyr hL hpos hl hyc0
        go_wp2
        go_meet
        rw [HE2.out]
        exact ⟨set_eq t0, set_ne (by omega) t1, Lib.hid ((Below.refl _ _).setCell (by show N + 1 ≤ N + 1; omega) _)⟩
      · obtain ⟨L, hL⟩ : ∃ L : Nat, p.lit = -((L : Int) + 1) := ⟨(-p.lit).toNat - 1, by omega⟩
        have hLV : L < V := by omega
        obtain ⟨y, hy⟩ : ∃ y, yes[L]? = some y := ⟨_, List.getElem?_eq_getElem (by rw [HYE.out.1]; exact hLV)⟩
        obtain ⟨x, hx⟩ : ∃ y, no[L]? = some y := ⟨_, List.getElem?_eq_getElem (by rw [HNO.out.1]; exact hLV)⟩
        have HE2 : Hid (bestStep no yes V p m ms bs = (x, true)) := Lib.hid (by
          rw [HE.out, if_pos (by omega), show p.lit.natAbs - 1 = L by omega]; simp [List.getD, hx])
        have hyr := HYR.out
        obtain ⟨yb, yo, rfl, _, hyb, hyc0, _⟩ := hyr.at hy
        have hxr := HNR.out
        obtain ⟨xb, xo, rfl, _, hxb, hxc0, _⟩ := hxr.at hx
        have hyN : yb < N := by omega
        have hyc := below_c HB2.out hyN hyc0
        have hxN : xb < N := by omega
        have hxc := below_c HB2.out hxN hxc0
        have hLy : L < yn := by rw [HYN.out, HYE.out.1]; exact hLV
        have hLx : L < nn := by rw [HNN.out, HNO.out.1]; exact hLV
        rw [hL] at p1
        clear hy hx HE hyr hxr hL hpos hl hyc0 hxc0
        go_wp2
        go_meet
        rw [HE2.out]
        exact ⟨set_eq (set_eq t0), set_ne (by omega) (set_ne (by omega) t1), Lib.hid (((Below.refl _ _).setCell (by show N + 1 ≤ N + 1; omega) _).setCell (by show N + 1 ≤ N + 1; omega) _)⟩
      -- unfold
    · have HE : Hid (bestStep no yes V p m ms bs = andB bs (p.kids.drop 0) (0, true)) := Lib.hid (by simp at t21 t22 t23; simp [bestStep, t23])
      have HAS : Hid (andBS bs (p.kids.drop 0) 0) := Lib.hid (hk5.2.2.1 (by simpa using t23))
      have HKR := Lib.hid hk5.1
      clear hk5
      -- fold
      go_wp2
      go_loopg [68] kn (fun g u68 wx => ∃ (j : Nat) (c : Int) (ok : Bool), j + g = kn ∧ u68 = .int .i64 j ∧ wx.cell? ⟨N + 1, 0, none⟩ = some (.int .i64 c) ∧ wx.cell? ⟨N + 1, 1, none⟩ = some (.bool ok) ∧
        Hid (bestStep no yes V p m ms bs = andB bs (p.kids.drop j) (c, ok)) ∧ Hid (andBS bs (p.kids.drop j) c) ∧ Hid (Small c) ∧ wx.frozen? ⟨N + 1, 0, none⟩ = false ∧ wx.frozen? ⟨N + 1, 1, none⟩ = false ∧ Hid (Below (N + 1) W2 wx))
      case atStart => exact ⟨0, 0, true, by omega, rfl, t0, t1, HE, HAS, Lib.hid (by unfold Small; omega), z0, z1, Lib.hid (Below.refl _ _)⟩
      case round =>
      obtain ⟨j, c, ok, hjg, rfl, y0, y1, hst, has, hsc, w0, w1, HBJ⟩ := hrel
      by_cases hj : j < kn
      case neg =>
        have HF : Hid (bestStep no yes V p m ms bs = (c, ok)) := Lib.hid (by rw [hst.out, List.drop_eq_nil_of_le (by have := HKN.out; omega)]; rfl)
        have hj2 : kn = j := by omega
        subst hj2
        clear hst hj
        go_wp2
        go_meet
        rw [HF.out]
        exact ⟨y0, y1, HBJ⟩
      obtain ⟨x, hx⟩ : ∃ x, p.kids[j]? = some x := ⟨_, List.getElem?_eq_getElem (by have := HKN.out; omega)⟩
      have e : p.kids.drop j = x :: p.kids.drop (j + 1) := by
        obtain ⟨hlt, he⟩ := List.getElem?_eq_some_iff.1 hx
        rw [List.drop_eq_getElem_cons hlt, he]
      obtain ⟨hx3, hx4⟩ := HKR.out x (List.mem_of_getElem? hx)
      obtain ⟨x, rfl⟩ := Int.eq_ofNat_of_zero_le hx3
      have hxl : x < k := by have := hbl.out; omega
      have hjw : Below N W2 wr := HBJ.out.mono (by omega)
      have hksj := HKS.out.below (HB2.out.trans hjw |>.mono (by omega))
      obtain ⟨kb, koff, rfl, hkN', hkb, hkc, _⟩ := hksj.at hx
      have hkN : kb < N := Nat.lt_of_lt_of_le hkN' hNr.2
      have howj := own_below HOW.out (HB2.out.trans hjw |>.mono (by omega))
      obtain ⟨g, cap, q, rfl, hq, hq0, hq1, hg3, hg4⟩ := bests_at howj hbl.out hxl
      obtain ⟨qc, qo⟩ := q
      have hqd : bs.getD ((x : Int)).toNat (0, false) = (qc, qo) := by simp [List.getD, hq]
      have HST : Hid (bestStep no yes V p m ms bs = andB bs (p.kids.drop (j + 1)) (c + qc, ok && qo)) := Lib.hid (by rw [hst.out, e, andB, hqd])
      have has2 := has.out
      rw [e, andBS, hqd] at has2
      obtain ⟨hsm1, hsm2⟩ := has2
      simp only at hsm1 hsm2 hq0 hq1
      have HA2 := Lib.hid hsm2
      have hqs := hsm.out _ (List.mem_of_getElem? hq)
      unfold Small at hsm1 hqs
      simp only at hqs
      have hcs := hsc.out
      unfold Small at hcs
      have m0 := below_c HBJ.out (by omega) p2
      have hNj : N + 1 < wr.heap.size := block_lt y0
      have hgN : g < N := Nat.lt_of_lt_of_le (HOW.out.lt g (by simp [Value.ownBlock])).2 hNr.2
      clear e hx hst has hsm2 hq hqd hksj howj hjw
      rcases bool2 ok with rfl | rfl
      all_goals
        go_upto_region 19 with fail
        go_region
        all_goals
          go_wp2
          go_roundg (gk - 1)
          case measure => omega
          case rel =>
            refine ⟨j + 1, c + qc, _, by omega, by go_num, ?_, ?_, HST, HA2, Lib.hid hsm1, ?_, ?_, ?_⟩
            · exact set_eq (set_ne (by omega) y0)
            · exact set_ne (by omega) (set_eq y1)
            · show ((wr.setCell _ _).setCell _ _).frozen? _ = false
              rw [World.frozen?_setCell, World.frozen?_setCell]; exact w0
            · show ((wr.setCell _ _).setCell _ _).frozen? _ = false
              rw [World.frozen?_setCell, World.frozen?_setCell]; exact w1
            · exact Lib.hid (((HBJ.out.setCell (by show N + 1 ≤ N + 1; omega) _).setCell (by show N + 1 ≤ N + 1; omega) _).drew)
      -- unfold
    · have hl := hk5.2.2.2.1 (by simpa using t24)
      have HE : Hid (bestStep no yes V p m ms bs = decB no yes V (p.lit.toNat - 1) (restM p.lit m) ms bs 0 p.kids (0, false)) := Lib.hid (by simp at t21 t22 t23 t24; simp [bestStep, t24])
      have HKR := Lib.hid hk5.1
      have hmk := HMK.out
      have hmr2 := HMR.out
      obtain ⟨mb, moff, rfl, _, hmb, hcm0, hml2⟩ := hmr2.at hmk
      have hmbN : mb < N := by omega
      have hcm := below_c HB2.out hmbN hcm0
      have hkn2 : kn = 2 := by rw [HKN.out]; exact hl.2.2
      subst hkn2
      obtain ⟨x0, x1, hkk⟩ := two_of hl.2.2
      obtain ⟨L, hL⟩ : ∃ L : Nat, p.lit = (L : Int) + 1 := ⟨p.lit.toNat - 1, by omega⟩
      have hLV : L < V := by omega
      have hre := rest_eq p.lit m hl.1 (by omega) (by omega)
      have hrl : restM p.lit m < 18446744073709551616 := Nat.lt_of_le_of_lt Nat.and_le_left (by omega)
      rw [hL, show ((L : Int) + 1).toNat - 1 = L by omega] at HE
      rw [hL, show ((L : Int) + 1).toNat - 1 = L by omega] at hre
      rw [hL] at hrl p1
      obtain ⟨y, hy⟩ : ∃ y, yes[L]? = some y := ⟨_, List.getElem?_eq_getElem (by rw [HYE.out.1]; exact hLV)⟩
      obtain ⟨nx, hnx⟩ : ∃ y, no[L]? = some y := ⟨_, List.getElem?_eq_getElem (by rw [HNO.out.1]; exact hLV)⟩
      have hyr := HYR.out
      obtain ⟨yb, yo, rfl, _, hyb, hyc0, _⟩ := hyr.at hy
      have hxr := HNR.out
      obtain ⟨xb, xo, rfl, _, hxb, hxc0, _⟩ := hxr.at hnx
      have hyN : yb < N := by omega
      have hxN : xb < N := by omega
      have hLy : L < yn := by rw [HYN.out, HYE.out.1]; exact hLV
      have hLx : L < nn := by rw [HNN.out, HNO.out.1]; exact hLV
      have hy9 := HYE.out.2 y (List.mem_of_getElem? hy)
      have hx9 := HNO.out.2 nx (List.mem_of_getElem? hnx)
      have HCJ : Hid (∀ j x, candB no yes V L (restM ((L : Int) + 1) m) ms bs j x = (bs.getD x.toNat (0, false)).1 + freeGo no yes (restM ((L : Int) + 1) m &&& (18446744073709551615 - ms.getD x.toNat 0)) V + (if j = 0 then nx else y)) := Lib.hid (fun j x => by unfold candB; simp [List.getD, hy, hnx])
      clear hk5 hmk hmr2 hcm0 hy hnx hyr hxr hl hL
      generalize restM ((L : Int) + 1) m = rm at *
      go_upto_region 22 with fail
      go_cut [15] (fun u15 wx => u15 = .int .u64 rm ∧ ∃ nq, wx = W2.drewN nq)
      case first =>
        go_quiet (fail)
        go_wp2
        go_meet
        exact ⟨rfl, nq, rfl⟩
      case rest =>
      obtain ⟨rfl, nq, rfl⟩ := hcut
      have hn0 : N + 1 < W2.heap.size := hs2.1
      go_wp2
      go_loopg [110] 2 (fun g u110 wx => ∃ (j : Nat) (c : Int) (ok : Bool), j + g = 2 ∧ u110 = .int .i64 j ∧ wx.cell? ⟨N + 1, 0, none⟩ = some (.int .i64 c) ∧ wx.cell? ⟨N + 1, 1, none⟩ = some (.bool ok) ∧
        Hid (bestStep no yes V p m ms bs = decB no yes V L rm ms bs j (p.kids.drop j) (c, ok)) ∧ Hid (Small2 c) ∧ wx.frozen? ⟨N + 1, 0, none⟩ = false ∧ wx.frozen? ⟨N + 1, 1, none⟩ = false ∧ Hid (Below (N + 1) W2 wx))
      case atStart => exact ⟨0, 0, false, by omega, rfl, set_ne (by omega) t0, set_eq t1, HE, Lib.hid (by unfold Small2; omega), by show (W2.setCell _ _).frozen? _ = false; rw [World.frozen?_setCell]; exact z0, by show (W2.setCell _ _).frozen? _ = false; rw [World.frozen?_setCell]; exact z1, Lib.hid (below_drewN ((Below.refl _ _).setCell (by show N + 1 ≤ N + 1; omega) _) _)⟩
      case round =>
      obtain ⟨j, c, ok, hjg, rfl, y0, y1, hst, hsc, w0, w1, HBJ⟩ := hrel
      by_cases hj : j < 2
      case neg =>
        have hj2 : j = 2 := by omega
        subst hj2
        have HF : Hid (bestStep no yes V p m ms bs = (c, ok)) := Lib.hid (by rw [hst.out, List.drop_eq_nil_of_le (by have := HKN.out; omega)]; rfl)
        clear hst hj
        go_wp2
        go_meet
        rw [HF.out]
        exact ⟨y0, y1, HBJ⟩
      obtain ⟨x, hx⟩ : ∃ x, p.kids[j]? = some x := ⟨_, List.getElem?_eq_getElem (by have := HKN.out; omega)⟩
      have e : p.kids.drop j = x :: p.kids.drop (j + 1) := by
        obtain ⟨hlt, he⟩ := List.getElem?_eq_some_iff.1 hx
        rw [List.drop_eq_getElem_cons hlt, he]
      obtain ⟨hx3, hx4⟩ := HKR.out x (List.mem_of_getElem? hx)
      obtain ⟨x, rfl⟩ := Int.eq_ofNat_of_zero_le hx3
      have hxl : x < k := by have := hbl.out; omega
      have hjw : Below N W2 wr := HBJ.out.mono (by omega)
      have hjww := (HB2.out.trans hjw).mono hNr.2
      have hksj := HKS.out.below hjww
      obtain ⟨kb, koff, rfl, hkN', hkb, hkc, _⟩ := hksj.at hx
      have hkN : kb < N := Nat.lt_of_lt_of_le hkN' hNr.2
      have howj := own_below HOW.out hjww
      obtain ⟨g, cap, q, rfl, hq, hq0, hq1, hg3, hg4⟩ := bests_at howj hbl.out hxl
      obtain ⟨qc, qo⟩ := q
      have hqd : bs.getD ((x : Int)).toNat (0, false) = (qc, qo) := by simp [List.getD, hq]
      have HST : Hid (bestStep no yes V p m ms bs = if qo = false then decB no yes V L rm ms bs (j + 1) (p.kids.drop (j + 1)) (c, ok)
          else if ok = false ∨ candB no yes V L rm ms bs j x < c then decB no yes V L rm ms bs (j + 1) (p.kids.drop (j + 1)) (candB no yes V L rm ms bs j x, true) else decB no yes V L rm ms bs (j + 1) (p.kids.drop (j + 1)) (c, ok)) := Lib.hid (by rw [hst.out, e, decB, hqd])
      have hqs := hsm.out _ (List.mem_of_getElem? hq)
      unfold Small at hqs
      simp only at hqs hq0 hq1
      have hcs := hsc.out
      unfold Small2 at hcs
      have m0 := below_c HBJ.out (by omega) p2
      have m1 := below_c HBJ.out (by omega) p1
      have hNj : N + 1 < wr.heap.size := block_lt y0
      have hgN : g < N := Nat.lt_of_lt_of_le (HOW.out.lt g (by simp [Value.ownBlock])).2 hNr.2
      have l0 := below_c hjw (by omega) r0
      have l2 := below_c hjw (by omega) r2
      have l3 := below_c hjw (by omega) r3
      have l4 := below_c hjw (by omega) r4
      have l5 := below_c hjw (by omega) r5
      have hjl : (j : Int) < 2 := by omega
      rcases bool2 qo with rfl | rfl
      case inr =>
        have HF : Hid (bestStep no yes V p m ms bs = decB no yes V L rm ms bs (j + 1) (p.kids.drop (j + 1)) (c, ok)) := Lib.hid (by rw [HST.out, if_pos rfl])
        clear e hx hst hq hqd hksj howj hjww HST
        go_wp2
        go_roundg (gk - 1)
        case measure => omega
        case rel => exact ⟨j + 1, c, ok, by omega, by go_num, y0, y1, HF, hsc, w0, w1, HBJ⟩
      obtain ⟨mx, hmx⟩ : ∃ m, ms[x]? = some m := ⟨_, List.getElem?_eq_getElem (by have := HLEN.out; have := HPN.out; omega)⟩
      have hmr2 := HMR.out
      obtain ⟨_, _, heq, _, _, hcmx0, hmx2⟩ := hmr2.at hmx
      injection heq with heq
      injection heq with e1 e2
      subst e1 e2
      have hcmx := below_c (HB2.out.trans hjw) hmbN hcmx0
      have hxml : x < ml := by omega
      have hmxd : ms.getD ((x : Int)).toNat 0 = mx := by simp [List.getD, hmx]
      have hyc := below_c (HB2.out.trans hjw) hyN hyc0
      have hxc := below_c (HB2.out.trans hjw) hxN hxc0
      have hean := u64_andNot_nat rm mx hrl (by omega)
      have hfl : rm &&& (18446744073709551615 - mx) < 18446744073709551616 := Nat.lt_of_le_of_lt Nat.and_le_left hrl
      have hfb := freeGo_le HNO.out HYE.out (rm &&& (18446744073709551615 - mx)) V
      have hnj : Ints G1 wr (.slice (some ⟨xb, xo, none⟩) nn nc) no := HNR.out.below hjww
      have hyj : Ints G2 wr (.slice (some ⟨yb, yo, none⟩) yn yc) yes := HYR.out.below hjww
      have hfree : ∀ nq, Calls Try.prog 54 #[.int .u64 ((rm &&& (18446744073709551615 - mx) : Nat) : Int), .pointer (some ⟨w.heap.size, 0, none⟩), .pointer (some ⟨w.heap.size + 1, 0, none⟩), .pointer (some ⟨w.heap.size + 1 + 1, 0, none⟩)] (wr.drewN nq)
          (QuietPost (wr.drewN nq) (.int .i64 (freeGo no yes (rm &&& (18446744073709551615 - mx)) V))) := fun nq =>
        free_any V _ _ _ no yes b w.heap.size (w.heap.size + 1) (w.heap.size + 1 + 1) (wr.drewN nq) hnj hyj HNO.out HYE.out hV hfl l3 l4 l5 l0
      obtain ⟨z, hz⟩ : ∃ z, (if j = 0 then nx else y) = z := ⟨_, rfl⟩
      have hix : ∀ W : World, (Instr.index 96 (.agg #[.int .i64 nx, .int .i64 y]) (.int .i64 (j : Int))).run Try.prog W = .ok (.int .i64 z) W := fun W => by
        have : j = 0 ∨ j = 1 := by omega
        rcases this with rfl | rfl
        · have h1 : z = nx := by rw [← hz]; rfl
          rw [h1]
          exact (by kernel_rfl : (Instr.index 96 (.agg #[.int .i64 nx, .int .i64 y]) (.int .i64 0)).run Try.prog W = .ok (.int .i64 nx) W)
        · have h1 : z = y := by rw [← hz]; rfl
          rw [h1]
          exact (by kernel_rfl : (Instr.index 96 (.agg #[.int .i64 nx, .int .i64 y]) (.int .i64 1)).run Try.prog W = .ok (.int .i64 y) W)
      have hz9 : 0 ≤ z ∧ z ≤ 1048576 := by rw [← hz]; split <;> omega
      have HCV : Hid (candB no yes V L rm ms bs j x = qc + freeGo no yes (rm &&& (18446744073709551615 - mx)) V + z) := Lib.hid (by rw [HCJ.out, hqd, hmxd, hz])
      have HFREE := Lib.hid hfree
      obtain ⟨fr, hfr⟩ : ∃ fr, freeGo no yes (rm &&& (18446744073709551615 - mx)) V = fr := ⟨_, rfl⟩
      rw [hfr] at HFREE HCV hfb
      obtain ⟨cv, hcv⟩ : ∃ cv, candB no yes V L rm ms bs j x = cv := ⟨_, rfl⟩
      rw [hcv] at HCV HST
      have HCVS : Hid (Small2 cv) := Lib.hid (by rw [HCV.out]; unfold Small2; omega)
      have hw1 : IntKind.i64.wrap (qc + fr) = qc + fr := IntWalk.i64_in _ ⟨by omega, by omega⟩
      have hw2 : IntKind.i64.wrap (qc + fr + z) = cv := by rw [HCV.out]; exact IntWalk.i64_in _ ⟨by omega, by omega⟩
      generalize rm &&& (18446744073709551615 - mx) = fm at *
      clear e hx hst hq hqd hksj howj hjww hmx hmr2 hmxd hcmx0 hfree hz hfr hcv hnj hyj
      go_upto_region 28 with fail
      go_quiet ((go_at_call 54; exact Calls.quiet_of (HFREE.out _)))
      have HBZ : Hid (Below (N + 1) W2 (wr.drewN nq)) := Lib.hid (below_drewN HBJ.out nq)
      have take : ∀ wz, wz.cell? ⟨N + 1, 0, none⟩ = some (.int .i64 c) → wz.cell? ⟨N + 1, 1, none⟩ = some (.bool ok) → wz.frozen? ⟨N + 1, 0, none⟩ = false → wz.frozen? ⟨N + 1, 1, none⟩ = false → Below (N + 1) W2 wz →
          ((wz.setCell ⟨N + 1, 0, none⟩ (.int .i64 cv)).setCell ⟨N + 1, 1, none⟩ (.bool true)).cell? ⟨N + 1, 0, none⟩ = some (.int .i64 cv) ∧ ((wz.setCell ⟨N + 1, 0, none⟩ (.int .i64 cv)).setCell ⟨N + 1, 1, none⟩ (.bool true)).cell? ⟨N + 1, 1, none⟩ = some (.bool true) ∧
          ((wz.setCell ⟨N + 1, 0, none⟩ (.int .i64 cv)).setCell ⟨N + 1, 1, none⟩ (.bool true)).frozen? ⟨N + 1, 0, none⟩ = false ∧ ((wz.setCell ⟨N + 1, 0, none⟩ (.int .i64 cv)).setCell ⟨N + 1, 1, none⟩ (.bool true)).frozen? ⟨N + 1, 1, none⟩ = false ∧
          Below (N + 1) W2 ((wz.setCell ⟨N + 1, 0, none⟩ (.int .i64 cv)).setCell ⟨N + 1, 1, none⟩ (.bool true)) := fun wz i0 i1 i2 i3 i4 =>
        ⟨set_ne (by omega) (set_eq i0), set_eq (set_ne (by omega) i1), by rw [World.frozen?_setCell, World.frozen?_setCell]; exact i2, by rw [World.frozen?_setCell, World.frozen?_setCell]; exact i3, (i4.setCell (by show N + 1 ≤ N + 1; omega) _).setCell (by show N + 1 ≤ N + 1; omega) _⟩
      have HTAKE := Lib.hid (take wr y0 y1 w0 w1 HBJ.out)
      clear take HFREE hw1 hw2 hix hean l0 l2 l3 l4 l5 hcm hcmx hyc hxc
      rcases bool2 ok with rfl | rfl
      · by_cases hlt : cv < c
        · have HF : Hid (bestStep no yes V p m ms bs = decB no yes V L rm ms bs (j + 1) (p.kids.drop (j + 1)) (cv, true)) := Lib.hid (by rw [HST.out, if_neg (by simp), if_pos (.inr hlt)])
          go_wp2
          go_roundg (gk - 1)
          case measure => omega
          case rel =>
            obtain ⟨i0, i1, i2, i3, i4⟩ := HTAKE.out
            exact ⟨j + 1, cv, true, by omega, by go_num, i0, i1, HF, HCVS, i2, i3, Lib.hid (below_drewN i4 nq)⟩
        · have HF : Hid (bestStep no yes V p m ms bs = decB no yes V L rm ms bs (j + 1) (p.kids.drop (j + 1)) (c, true)) := Lib.hid (by rw [HST.out, if_neg (by simp), if_neg (by simp; omega)])
          have hlt2 : c ≤ cv := by omega
          go_wp2
          go_roundg (gk - 1)
          case measure => omega
          case rel => exact ⟨j + 1, c, true, by omega, by go_num, y0, y1, HF, hsc, w0, w1, HBZ⟩
      · have HF : Hid (bestStep no yes V p m ms bs = decB no yes V L rm ms bs (j + 1) (p.kids.drop (j + 1)) (cv, true)) := Lib.hid (by rw [HST.out, if_neg (by simp), if_pos (.inl rfl)])
        go_wp2
        go_roundg (gk - 1)
        case measure => omega
        case rel =>
          obtain ⟨i0, i1, i2, i3, i4⟩ := HTAKE.out
          exact ⟨j + 1, cv, true, by omega, by go_num, i0, i1, HF, HCVS, i2, i3, Lib.hid (below_drewN i4 nq)⟩
    · have HE : Hid (bestStep no yes V p m ms bs = (0, true)) := Lib.hid (by simp at t21 t22 t23 t24; simp [bestStep, t21, t22, t23, t24])
      clear hk5
      go_wp2
      go_meet
      rw [HE.out]
      exact ⟨t0, t1, Lib.hid (Below.refl _ _)⟩
  case rest =>
  -- fold
  obtain ⟨v0, v1, HBC⟩ := hcut
  have HS5 := Lib.hid HSP.out.2.2.2.2
  obtain ⟨st, hst⟩ : ∃ st, bestStep no yes V p m ms bs = st := ⟨_, rfl⟩
  rw [hst] at v0 v1 HSN HCN HS5
  have hss := HBC.out.size
  have hbwc : Below N wr wc := HB2.out.trans (HBC.out.mono (by omega))
  have hown := own_below HOW.out (hbwc.mono (by omega))
  have HBF : Hid (Below (w.heap.size + 3) W1 wc) := Lib.hid (HBX.out.trans (hbwc.mono (by omega)))
  have hk4 : k ≤ 16384 := by omega
  clear hst hbwc r0 r1 r2 r3 r4 r5 p0 p1 p2 t0 t1 z0 z1
  go_wp2_with (at_builtin; go_loud (refine wpList_push2 rfl _ _ 101 rfl 103 (.agg #[.int .i64 0, .bool false]) 16 Try.underlying101 HI.out rfl (w.heap.size + 3) u9 k (cells2 bs) wc _ _ rfl rfl hown rfl rfl (by omega) (by omega) (by omega) ?_); intro g3 cap3 w4 hown3 hg3 hs4 hgb hgl hat; have HO3 := Lib.hid hown3; have HB3 := Lib.hid (HBF.out.grown hg3 (by omega) (fun k hk => (hown.lt k hk).1)); clear hown3 hg3 hown)
  go_roundg (GK - 1)
  case measure => omega
  case rel =>
    refine ⟨k + 1, bs ++ [st], by omega, by go_num, HCN, HSN, Lib.hid (by simp [hbl.out]), Lib.hid (by rw [cells2_snoc]; exact HO3.out), HB3, Lib.hid (fun x hx => ?_)⟩
    rcases List.mem_append.1 hx with h | h
    · exact hsm.out x h
    · simp at h; subst h; exact HS5.out
  -- unfold
end Go.Proofs.Ytljljagkccmogaa
