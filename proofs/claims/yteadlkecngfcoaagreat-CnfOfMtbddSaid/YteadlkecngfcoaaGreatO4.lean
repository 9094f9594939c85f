/- Walk: the inner function of mtbdd's combine, at one diagram. No condition but sizes and what Check's scan has shown. -/
import Derived.Test.YteadlkecngfcoaaGreatO3
import Derived.LoopN
namespace Go.Proofs.YteadlkecngfcoaaGreat
open Go.ChangeShapes Go.WideShapes Go.ChangeAt Go.RowKit
set_option linter.unusedVariables false
set_option linter.unusedSimpArgs false

theorem froz_new (w : World) (arr : Array Value) (T : TypeId) (o : Nat) : (w.alloc (.cells arr T)).frozen? ⟨w.heap.size, o, none⟩ = false := froz_of (new_at w (.cells arr T)) o
/-- which blocks the walk of combine has -/
structure CwB where
  aab : Nat
  lm : Nat
  nm : Nat
  bb : Nat
  tb : Nat
  ab : Nat
  fb : Nat
  mb : Nat
  pb : Nat
  vb : Nat
def CwB.ok (c : CwB) : Prop := c.aab < c.lm ∧ c.lm < c.nm ∧ c.nm < c.bb ∧ c.bb < c.tb ∧ c.tb < c.ab ∧ c.ab < c.fb ∧ c.fb < c.mb ∧ c.mb < c.pb ∧ c.pb < c.vb
/-- the captured variables of the walk, and what they lead to -/
structure CwS (c : CwB) (vars root : Int) (lv0 nv0 : Value) (L : Nat) (lvs : List Int) (ns : List Fork) (w : World) (o : List Int) (lv kv : Value) : Prop where
  pc : w.cell? ⟨c.pb, 0, none⟩ = some (.map (some c.mb))
  ac : w.cell? ⟨c.ab, 0, none⟩ = some (.slice (some ⟨c.aab, 0, none⟩) 1 1)
  a0 : w.cell? ⟨c.aab, 0, none⟩ = some (.int .i64 vars)
  a1 : w.cell? ⟨c.aab, 1, none⟩ = some lv0
  a2 : w.cell? ⟨c.aab, 2, none⟩ = some nv0
  a3 : w.cell? ⟨c.aab, 3, none⟩ = some (.int .i64 root)
  tc : w.cell? ⟨c.tb, 0, none⟩ = some (.pointer (some ⟨c.bb, 0, none⟩))
  fc : w.cell? ⟨c.fb, 0, none⟩ = some (.func (.func 61) #[] #[])
  vc : w.cell? ⟨c.vb, 0, none⟩ = some (.func (.func 101) #[] #[.pointer (some ⟨c.pb, 0, none⟩), .pointer (some ⟨c.ab, 0, none⟩), .pointer (some ⟨c.tb, 0, none⟩), .pointer (some ⟨c.fb, 0, none⟩), .pointer (some ⟨c.vb, 0, none⟩)])
  tm : TriMap w c.mb o.length (fun x => decide (x ∈ o)) (bref L o)
  bu : BuS c.bb c.lm c.nm (c.vb + 1) w lv kv (lvO L lvs o) (ndO L ns o)
def CwX (c : CwB) (lv kv : Value) (k : Nat) : Prop := BuX c.bb c.lm c.nm lv kv k ∨ k = c.mb
theorem CwS.same {c : CwB} {vars root : Int} {lv0 nv0 lv kv : Value} {L : Nat} {lvs : List Int} {ns : List Fork} {w w' : World} {o : List Int} (h : CwS c vars root lv0 nv0 L lvs ns w o lv kv) (hs : w.heap.size ≤ w'.heap.size) (hb : ∀ k, k < w.heap.size → w'.heap[k]? = w.heap[k]?) : CwS c vars root lv0 nv0 L lvs ns w' o lv kv := by
  have cc : ∀ {b o : Nat} {v : Value}, w.cell? ⟨b, o, none⟩ = some v → w'.cell? ⟨b, o, none⟩ = some v := fun hc => (World.cell?_of_block (hb _ (block_lt hc))).trans hc
  exact ⟨cc h.pc, cc h.ac, cc h.a0, cc h.a1, cc h.a2, cc h.a3, cc h.tc, cc h.fc, cc h.vc, h.tm.same (hb _ h.tm.lt), h.bu.same hs fun k hk _ => hb k hk⟩
theorem CwS.below {c : CwB} {vars root : Int} {lv0 nv0 lv kv : Value} {L : Nat} {lvs : List Int} {ns : List Fork} {w w' : World} {o : List Int} (h : CwS c vars root lv0 nv0 L lvs ns w o lv kv) (hb : Below w.heap.size w w') : CwS c vars root lv0 nv0 L lvs ns w' o lv kv := h.same hb.size fun k hk => hb.block k hk
theorem CwS.nox {c : CwB} {vars root : Int} {lv0 nv0 lv kv : Value} {L : Nat} {lvs : List Int} {ns : List Fork} {w : World} {o : List Int} (ok : c.ok) (h : CwS c vars root lv0 nv0 L lvs ns w o lv kv) (k : Nat) (hk : (k < c.vb + 1 ∧ k ≠ c.bb ∧ k ≠ c.lm ∧ k ≠ c.nm) ∨ w.heap.size ≤ k) : ¬ BuX c.bb c.lm c.nm lv kv k := fun hx => by
  obtain ⟨k1, k2, k3, k4, k5, k6, k7, k8, k9⟩ := ok
  have hvb := block_lt h.vc
  obtain ⟨b1, b2, b3, b4, b5, b6, b7⟩ := h.bu
  rcases hx with e | e | e | e | e
  · omega
  · omega
  · omega
  · have := b4.lt _ e; omega
  · have := b5.lt _ e; omega
/-- what the walk hands back -/
def CwPost (c : CwB) (vars root : Int) (lv0 nv0 : Value) (L : Nat) (lvs : List Int) (ns : List Fork) (lv kv : Value) (W : World) (r : Int) (o' : List Int) (e : Ending) (w' : World) : Prop :=
  e = .returned (.int .i64 (bref L o' r)) ∧ Fr (CwX c lv kv) W w' ∧ ∃ lv' kv', CwS c vars root lv0 nv0 L lvs ns w' o' lv' kv' ∧ ∀ b, CwX c lv' kv' b → CwX c lv kv b ∨ W.heap.size ≤ b

theorem cwx_no {c : CwB} {vars root : Int} {lv0 nv0 lv kv : Value} {L : Nat} {lvs : List Int} {ns : List Fork} {w : World} {o : List Int} (ok : c.ok) (h : CwS c vars root lv0 nv0 L lvs ns w o lv kv) (k : Nat) (hk : (k < c.vb + 1 ∧ k ≠ c.bb ∧ k ≠ c.lm ∧ k ≠ c.nm ∧ k ≠ c.mb) ∨ w.heap.size ≤ k) : ¬ CwX c lv kv k := fun hx => by
  rcases hx with hx | hx
  · exact h.nox ok k (hk.imp (fun h => ⟨h.1, h.2.1, h.2.2.1, h.2.2.2.1⟩) id) hx
  · have := h.tm.lt; omega
theorem cw_end {c : CwB} {vars root : Int} {lv0 nv0 lv kv lv' kv' : Value} {L : Nat} {lvs : List Int} {ns : List Fork} {w w8 w9 : World} {o o2 : List Int} {r : Int} {D : DataW Unit} (ok : c.ok) (hr : I64 r) (hS : CwS c vars root lv0 nv0 L lvs ns w o lv kv)
    (hfr : Fr (CwX c lv kv) w w8) (hlate : ∀ b, CwX c lv' kv' b → CwX c lv kv b ∨ w.heap.size ≤ b) (hbu : BuS c.bb c.lm c.nm (c.vb + 1) w8 lv' kv' (lvO L lvs (o2 ++ [r])) (ndO L ns (o2 ++ [r])))
    (hD2 : Maps.IsMap D) (hD3 : ∀ x, I64 x → Maps.has D (triL x) = decide (x ∈ o2) ∧ (decide (x ∈ o2) = true → D.atKey (triL x) (.lit (.int .i64 0)) = .lit (.int .i64 (bref L o2 x)))) (hno : r ∉ o2)
    (ho9 : w9.ownsMap Tryz.prog 88 (plainElem Tryz.prog 3) c.mb (o2.length + 1) (D.put (triL r) (.lit (.int .i64 (bref L (o2 ++ [r]) r))))) (hg9 : w8.grownBy w9 (some c.mb)) :
    CwPost c vars root lv0 nv0 L lvs ns lv kv w r (o2 ++ [r]) (.returned (.int .i64 (bref L (o2 ++ [r]) r))) w9 := by
  obtain ⟨k1, k2, k3, k4, k5, k6, k7, k8, k9⟩ := ok
  have ok : c.ok := ⟨k1, k2, k3, k4, k5, k6, k7, k8, k9⟩
  have no := cwx_no ok hS
  have cc : ∀ {b o : Nat} {v : Value}, (b < c.vb + 1 ∧ b ≠ c.bb ∧ b ≠ c.lm ∧ b ≠ c.nm ∧ b ≠ c.mb) → w.cell? ⟨b, o, none⟩ = some v → w9.cell? ⟨b, o, none⟩ = some v := fun hb hc =>
    grown_cell hg9 (fun e => by injection e with e; omega) (hfr.cell (no _ (.inl hb)) hc)
  refine ⟨rfl, hfr.grown hg9 (fun k hk e => by injection e with e; exact .inr e), lv', kv', ⟨cc (by omega) hS.pc, cc (by omega) hS.ac, cc (by omega) hS.a0, cc (by omega) hS.a1, cc (by omega) hS.a2, cc (by omega) hS.a3, cc (by omega) hS.tc, cc (by omega) hS.fc, cc (by omega) hS.vc, ?_, ?_⟩, hlate⟩
  · have := imap_put (K := Int) (lit := triL) (okk := I64) (G := fun x => decide (x ∈ o2)) (V := bref L o2) hr trivial (fun x hx h => triL_inj hx hr h) ho9 hD2 hD3
    refine this.congr (by simp) (fun x _ => by simp [Bool.decide_or]) (fun x _ hg => ?_)
    by_cases e : x = r
    · rw [if_pos e, e]
    · rw [if_neg e, bref_ext (by simpa [e] using hg)]
  · refine hbu.same hg9.size fun k hk hx => hg9.block k hk (fun e => ?_)
    injection e with e
    subst e
    have hm := hS.tm.lt
    rcases hlate _ (.inl hx) with h | h
    · rcases h with h | h
      · exact hS.nox ok _ (.inr (by
          rcases h with h | h | h | h | h
          · omega
          · omega
          · omega
          · have := (hS.bu.2.2.2.1.lt _ h).2; have := (hS.bu.2.2.2.1.lt _ h).1; omega
          · have := (hS.bu.2.2.2.2.1.lt _ h).2; have := (hS.bu.2.2.2.2.1.lt _ h).1; omega)) h
      · rcases hx with h | h | h | h | h
        · omega
        · omega
        · omega
        · have := (hbu.2.2.2.1.lt _ h).1; omega
        · have := (hbu.2.2.2.2.1.lt _ h).1; omega
    · omega

theorem formed1_any (a b c : Int) (w : World) : Calls Tryz.prog 61 #[.agg #[.int .i64 a, .int .i64 b, .int .i64 c]] w fun e w' => e = .returned (.int .i64 a) ∧ w' = w.alloc (.cells #[.int .i64 a, .int .i64 b, .int .i64 c] 88) := by
  go_enter Tryz.func61, Tryz.ntmps61
  go_wp2
  go_ret
  exact ⟨rfl, rfl⟩

def cwArgs (c : CwB) (r : Int) : Array Value := #[.agg #[.int .i64 r, .int .i64 0, .int .i64 0], .pointer (some ⟨c.pb, 0, none⟩), .pointer (some ⟨c.ab, 0, none⟩), .pointer (some ⟨c.tb, 0, none⟩), .pointer (some ⟨c.fb, 0, none⟩), .pointer (some ⟨c.vb, 0, none⟩)]
set_option maxRecDepth 100000 in
set_option maxHeartbeats 4000000 in
theorem cw_hit (c : CwB) (vars root : Int) (lv0 nv0 : Value) (L : Nat) (lvs : List Int) (ns : List Fork) (r : Int) (o : List Int) (lv kv : Value) (w : World) (hr : I64 r) (hin : r ∈ o) (hS : CwS c vars root lv0 nv0 L lvs ns w o lv kv) :
    Calls Tryz.prog 101 (cwArgs c r) w (CwPost c vars root lv0 nv0 L lvs ns lv kv w r o) := by
  have HS := Lib.hid hS
  obtain ⟨w1, hw1⟩ : ∃ W, w.alloc (.cells #[.int .i64 r, .int .i64 0, .int .i64 0] 88) = W := ⟨_, rfl⟩
  have hb1 : Below w.heap.size w w1 := by rw [← hw1]; exact (Below.refl _ _).alloc (Nat.le_refl _) _
  have hS1 := hS.below hb1
  obtain ⟨x, hrun, hx⟩ := hS1.tm.ok tri_law Tryz.underlying131 (keyOf_tri hr) hr
  rw [decide_eq_true hin] at hrun
  have hxx := hx (decide_eq_true hin)
  subst hxx
  unfold triA at hrun
  have r0 : w1.cell? ⟨w.heap.size, 0, none⟩ = some (.int .i64 r) := by rw [← hw1]; simp
  have r1 : w1.cell? ⟨w.heap.size, 1, none⟩ = some (.int .i64 0) := by rw [← hw1]; simp
  have r2 : w1.cell? ⟨w.heap.size, 2, none⟩ = some (.int .i64 0) := by rw [← hw1]; simp
  have p1 := hS1.pc
  have HB1 := Lib.hid hb1
  have HW1 := Lib.hid hw1
  clear hx hin hS hS1 hw1 hb1
  unfold cwArgs
  go_enter Tryz.func101, Tryz.ntmps101
  go_upto_region 1 with fail
  rw [HW1.out]
  go_wp2
  go_ret
  exact ⟨rfl, Fr.of_below HB1.out, lv, kv, HS.out.below HB1.out, fun b h => .inl h⟩
set_option maxRecDepth 100000 in
set_option maxHeartbeats 4000000 in
theorem cw_leaf (c : CwB) (ok : c.ok) (vars root : Int) (lv0 nv0 : Value) (L : Nat) (lvs : List Int) (ns : List Fork) (r v : Int) (o : List Int) (lv kv : Value) (w : World) (hr : I64 r) (hv64 : I64 vars) (h0 : 0 ≤ r) (hrL : r < L) (hL : L ≤ 1000000) (hlen : lvs.length = L) (hn : ns.length ≤ 1000000) (hv : lvs[r.toNat]? = some v) (hrng : rngM v = true) (hnd : lvs.Nodup) (hno : r ∉ o) (hI : VisI L ns o)
    (hlv : Ints (fun b => b < c.lm) w lv0 lvs) (hnv : Forks (fun b => b < c.lm) w nv0 ns) (hS : CwS c vars root lv0 nv0 L lvs ns w o lv kv) :
    Calls Tryz.prog 101 (cwArgs c r) w (CwPost c vars root lv0 nv0 L lvs ns lv kv w r (o ++ [r])) := by
  obtain ⟨k, rfl⟩ : ∃ k : Nat, r = k := ⟨r.toNat, by omega⟩
  have hv : lvs[k]? = some v := by simpa using hv
  have hk0 : (0 : Int) ≤ k := by omega
  have HS := Lib.hid hS
  obtain ⟨w1, hw1⟩ : ∃ W, w.alloc (.cells #[.int .i64 k, .int .i64 0, .int .i64 0] 88) = W := ⟨_, rfl⟩
  have hb1 : Below w.heap.size w w1 := by rw [← hw1]; exact (Below.refl _ _).alloc (Nat.le_refl _) _
  have hS1 := hS.below hb1
  obtain ⟨x, hrun, _⟩ := hS1.tm.ok tri_law Tryz.underlying131 (keyOf_tri hr) hr
  rw [decide_eq_false hno] at hrun
  unfold triA at hrun
  have r0 : w1.cell? ⟨w.heap.size, 0, none⟩ = some (.int .i64 k) := by rw [← hw1]; simp
  have r1 : w1.cell? ⟨w.heap.size, 1, none⟩ = some (.int .i64 0) := by rw [← hw1]; simp
  have r2 : w1.cell? ⟨w.heap.size, 2, none⟩ = some (.int .i64 0) := by rw [← hw1]; simp
  have p1 := hS1.pc
  have p2 := hS1.ac
  have p3 := hS1.a0
  have p4 := hS1.a1
  have p5 := hS1.a2
  have p6 := hS1.a3
  have hs1 : w1.heap.size = w.heap.size + 1 := by rw [← hw1]; simp
  have HB1 := Lib.hid hb1
  have HW1 := Lib.hid hw1
  obtain ⟨la, lln, lc, rfl, HLN, _⟩ := hlv.form'
  have hln : lln = L := by rw [HLN.out, hlen]
  subst hln
  clear HLN
  obtain ⟨na, nn, nc, rfl, HNN, _⟩ := hnv.form
  have HNO := Lib.hid hno
  have HI := Lib.hid hI
  have HLV := Lib.hid hlv
  have HNV := Lib.hid hnv
  have HRN := Lib.hid hrng
  have HND := Lib.hid hnd
  obtain ⟨eb, eo, rfl, heb, hebl, e0, hv6⟩ := hlv.at hv
  have hk1 : (k : Int) < lln := hrL
  have hk2 : k < lln := by omega
  have HV := Lib.hid hv
  clear hno hS hS1 hw1 hb1 hI hlv hnv hrng hnd hv h0
  unfold cwArgs
  go_enter Tryz.func101, Tryz.ntmps101
  go_upto_region 1 with fail
  rw [HW1.out]
  go_wp2_with fail
  refine wp_loop_rounds 2 ?_
  rw [rounds_succ]
  go_upto_region 8 with fail
  obtain ⟨w2, hw2⟩ : ∃ W, w1.alloc (.cells #[.int .i64 vars, .slice (some ⟨eb, eo, none⟩) lln lc, .slice na nn nc, .int .i64 root] 25) = W := ⟨_, rfl⟩
  have hb2 : Below w1.heap.size w1 w2 := by rw [← hw2]; exact (Below.refl _ _).alloc (Nat.le_refl _) _
  have hs2 : w2.heap.size = w.heap.size + 2 := by rw [← hw2]; simp [hs1]
  have HB2 : Hid (Below w.heap.size w w2) := Lib.hid (HB1.out.trans (hb2.mono (by omega)))
  have q0 : w2.cell? ⟨w.heap.size + 1, 0, none⟩ = some (.int .i64 vars) := by rw [← hw2, ← hs1]; simp
  have q1 : w2.cell? ⟨w.heap.size + 1, 1, none⟩ = some (.slice (some ⟨eb, eo, none⟩) lln lc) := by rw [← hw2, ← hs1]; simp
  have q2 : w2.cell? ⟨w.heap.size + 1, 2, none⟩ = some (.slice na nn nc) := by rw [← hw2, ← hs1]; simp
  have q3 : w2.cell? ⟨w.heap.size + 1, 3, none⟩ = some (.int .i64 root) := by rw [← hw2, ← hs1]; simp
  replace r0 := below_c hb2 (by omega) r0
  replace r1 := below_c hb2 (by omega) r1
  replace r2 := below_c hb2 (by omega) r2
  replace p2 := below_c hb2 (block_lt p2) p2
  replace p3 := below_c hb2 (block_lt p3) p3
  replace p4 := below_c hb2 (block_lt p4) p4
  replace p5 := below_c hb2 (block_lt p5) p5
  replace p6 := below_c hb2 (block_lt p6) p6
  have HT : Hid (∀ W, Below w2.heap.size w2 W → Calls Tryz.prog 59 #[.agg #[.int .i64 vars, .slice (some ⟨eb, eo, none⟩) lln lc, .slice na nn nc, .int .i64 root], .int .i64 k] W fun e w' => e = .returned (.int .i64 vars) ∧ w' = W.alloc (boxM vars root (.slice (some ⟨eb, eo, none⟩) lln lc) (.slice na nn nc))) := Lib.hid fun W hW => by
    have h := top_any _ vars root k (some ⟨eb, eo, none⟩) lln lc (.slice na nn nc) ns W hL ((HNV.out.below HB2.out).below hW) (by omega) hr
    rwa [topM, if_pos hrL] at h
  have HW2 := Lib.hid hw2
  have hmin : min vars vars = vars := by omega
  clear hw2 hb2 p1 hrun
  rw [HW2.out]
  go_region_held3 (fun w' => w'.cell? ⟨w.heap.size, 0, none⟩ = some (.int .i64 k) ∧ w'.cell? ⟨w.heap.size, 1, none⟩ = some (.int .i64 0) ∧ w'.cell? ⟨w.heap.size, 2, none⟩ = some (.int .i64 0) ∧ w'.cell? ⟨w.heap.size + 1, 0, none⟩ = some (.int .i64 vars) ∧ w'.cell? ⟨w.heap.size + 1, 1, none⟩ = some (.slice (some ⟨eb, eo, none⟩) lln lc) ∧ w'.cell? ⟨w.heap.size + 1, 2, none⟩ = some (.slice na nn nc) ∧ w'.cell? ⟨w.heap.size + 1, 3, none⟩ = some (.int .i64 root))
    (first | exact ⟨r0, r1, r2, q0, q1, q2, q3⟩ | go_keep)
    (first
      | ((with_reducible refine (HT.out _ (by first | exact (Below.refl _ _).drew | exact Below.refl _ _)).mono ?_); rintro e w3 ⟨rfl, rfl⟩)
      | fail)
  obtain ⟨w3, hw3⟩ : ∃ W, (w2.alloc (boxM vars root (.slice (some ⟨eb, eo, none⟩) lln lc) (.slice na nn nc))).drew = W := ⟨_, rfl⟩
  have hb3 : Below w2.heap.size w2 w3 := by rw [← hw3]; exact ((Below.refl _ _).alloc (Nat.le_refl _) _).drew
  have hs3 : w3.heap.size = w.heap.size + 3 := by rw [← hw3]; show (w2.alloc _).heap.size = _; rw [World.size_alloc, hs2]
  have HB3 : Hid (Below w.heap.size w w3) := Lib.hid (HB2.out.trans (hb3.mono (by omega)))
  have r0 := below_c hb3 (by omega) r0
  have r1 := below_c hb3 (by omega) r1
  have r2 := below_c hb3 (by omega) r2
  have p2 := below_c hb3 (block_lt p2) p2
  have p3 := below_c hb3 (block_lt p3) p3
  have p4 := below_c hb3 (block_lt p4) p4
  have p5 := below_c hb3 (block_lt p5) p5
  have p6 := below_c hb3 (block_lt p6) p6
  have HW3 := Lib.hid hw3
  clear hw3 hb3 hmin
  rw [HW3.out]
  go_wp2_with fail
  rw [rounds_succ]
  go_upto_region 13 with fail
  obtain ⟨w4, hw4⟩ : ∃ W, w3.alloc (.cells #[.int .i64 0, .int .i64 0, .int .i64 0] 88) = W := ⟨_, rfl⟩
  have hb4 : Below w3.heap.size w3 w4 := by rw [← hw4]; exact (Below.refl _ _).alloc (Nat.le_refl _) _
  have hs4 : w4.heap.size = w.heap.size + 4 := by rw [← hw4, World.size_alloc, hs3]
  have t0 : w4.cell? ⟨w.heap.size + 3, 0, none⟩ = some (.int .i64 0) := by rw [← hw4, ← hs3]; simp
  have t1 : w4.cell? ⟨w.heap.size + 3, 1, none⟩ = some (.int .i64 0) := by rw [← hw4, ← hs3]; simp
  have t2 : w4.cell? ⟨w.heap.size + 3, 2, none⟩ = some (.int .i64 0) := by rw [← hw4, ← hs3]; simp
  have tf : ∀ o, w4.frozen? ⟨w.heap.size + 3, o, none⟩ = false := fun o => by rw [← hw4, ← hs3]; exact froz_new w3 _ _ o
  have HB4 : Hid (Below w.heap.size w w4) := Lib.hid (HB3.out.trans (hb4.mono (by omega)))
  have r0 := below_c hb4 (block_lt r0) r0
  have r1 := below_c hb4 (block_lt r1) r1
  have r2 := below_c hb4 (block_lt r2) r2
  have p2 := below_c hb4 (block_lt p2) p2
  have p3 := below_c hb4 (block_lt p3) p3
  have p4 := below_c hb4 (block_lt p4) p4
  have p5 := below_c hb4 (block_lt p5) p5
  have p6 := below_c hb4 (block_lt p6) p6
  have HW4 := Lib.hid hw4
  clear hw4 hb4
  rw [HW4.out]
  go_wp2_with fail
  refine wp_loop_rounds 2 ?_
  rw [rounds_succ]
  go_upto_region 16 with fail
  obtain ⟨w5, hw5⟩ : ∃ W, w4.alloc (.cells #[.int .i64 vars, .slice (some ⟨eb, eo, none⟩) lln lc, .slice na nn nc, .int .i64 root] 25) = W := ⟨_, rfl⟩
  have hb5 : Below w4.heap.size w4 w5 := by rw [← hw5]; exact (Below.refl _ _).alloc (Nat.le_refl _) _
  have hs5 : w5.heap.size = w.heap.size + 5 := by rw [← hw5, World.size_alloc, hs4]
  have q1 : w5.cell? ⟨w.heap.size + 4, 1, none⟩ = some (.slice (some ⟨eb, eo, none⟩) lln lc) := by rw [← hw5, ← hs4]; simp
  have HB5 : Hid (Below w.heap.size w w5) := Lib.hid (HB4.out.trans (hb5.mono (by omega)))
  have r0 := below_c hb5 (block_lt r0) r0
  have r1 := below_c hb5 (block_lt r1) r1
  have r2 := below_c hb5 (block_lt r2) r2
  have p2 := below_c hb5 (block_lt p2) p2
  have p3 := below_c hb5 (block_lt p3) p3
  have p4 := below_c hb5 (block_lt p4) p4
  have p5 := below_c hb5 (block_lt p5) p5
  have p6 := below_c hb5 (block_lt p6) p6
  have t0 := below_c hb5 (block_lt t0) t0
  have t1 := below_c hb5 (block_lt t1) t1
  have t2 := below_c hb5 (block_lt t2) t2
  have tf : ∀ o, w5.frozen? ⟨w.heap.size + 3, o, none⟩ = false := fun o => below_z hb5 (by omega) (tf o)
  have e5 := below_c HB5.out hebl e0
  have HW5 := Lib.hid hw5
  clear hw5 hb5
  rw [HW5.out]
  go_region_held3 (fun w' => w'.cell? ⟨w.heap.size, 0, none⟩ = some (.int .i64 k) ∧ w'.cell? ⟨w.heap.size + 4, 1, none⟩ = some (.slice (some ⟨eb, eo, none⟩) lln lc) ∧ w'.cell? ⟨eb, eo + k, none⟩ = some (.int .i64 v))
    (first | exact ⟨r0, q1, e5⟩ | exact ⟨set_ne (by omega) r0, set_ne (by omega) q1, set_ne (by omega) e5⟩ | go_keep)
    (fail)
  obtain ⟨w6, hw6⟩ : ∃ W, (w5.setCell ⟨w.heap.size + 3, 0, none⟩ (.int .i64 v)).drew = W := ⟨_, rfl⟩
  have hb6 : Below w.heap.size w w6 := by rw [← hw6]; exact (HB5.out.setCell (by show w.heap.size ≤ w.heap.size + 3; omega) _).drew
  have hs6 : w6.heap.size = w.heap.size + 5 := by rw [← hw6]; show (w5.setCell _ _).heap.size = _; simp [hs5]
  have r0 : w6.cell? ⟨w.heap.size, 0, none⟩ = some (.int .i64 k) := by rw [← hw6]; exact set_ne (by omega) r0
  have r1 : w6.cell? ⟨w.heap.size, 1, none⟩ = some (.int .i64 0) := by rw [← hw6]; exact set_ne (by omega) r1
  have r2 : w6.cell? ⟨w.heap.size, 2, none⟩ = some (.int .i64 0) := by rw [← hw6]; exact set_ne (by omega) r2
  have t0 : w6.cell? ⟨w.heap.size + 3, 0, none⟩ = some (.int .i64 v) := by rw [← hw6]; exact set_eq t0
  have t1 : w6.cell? ⟨w.heap.size + 3, 1, none⟩ = some (.int .i64 0) := by rw [← hw6]; exact set_ne (by simp) t1
  have t2 : w6.cell? ⟨w.heap.size + 3, 2, none⟩ = some (.int .i64 0) := by rw [← hw6]; exact set_ne (by simp) t2
  have hS6 := HS.out.below hb6
  have p1 := hS6.pc
  have p2 := hS6.ac
  have x1 := hS6.tc
  have x2 := hS6.fc
  obtain ⟨o1, o2, o3, o4, o5, o6, o7, o8, o9⟩ := ok
  have HLf : Hid (∀ W, Below w6.heap.size w6 W → Calls Tryz.prog 102 #[.pointer (some ⟨c.bb, 0, none⟩), .int .i64 v] W (fun e w' => e = .returned (.int .i64 (2 * ((lvO lln lvs o).length : Int))) ∧ Fr (BuX c.bb c.lm c.nm lv kv) w6 w' ∧ ∃ lv' kv', BuS c.bb c.lm c.nm (c.vb + 1) w' lv' kv' (lvO lln lvs o ++ [v]) (ndO lln ns o) ∧ ∀ b, BuX c.bb c.lm c.nm lv' kv' b → BuX c.bb c.lm c.nm lv kv b ∨ w6.heap.size ≤ b)) := Lib.hid fun W hW =>
    (leaf_any c.bb c.lm c.nm (c.vb + 1) lv kv _ _ v W (by omega) (by omega) (by omega) (hS6.bu.below hW) (lvO_new HI.out HND.out hlen HNO.out hk0 hrL (by simpa using HV.out)) HRN.out (by have := HI.out.split.1; rw [lvO_len]; omega)).mono fun e w' h => ⟨h.1, (Fr.of_below hW).trans h.2.1 (fun _ _ h => h), h.2.2.imp fun lv' h => h.imp fun kv' h => ⟨h.1, fun b hb => (h.2 b hb).imp id fun h => Nat.le_trans hW.size h⟩⟩
  have HNX : Hid (∀ q, (q < c.vb + 1 ∧ q ≠ c.bb ∧ q ≠ c.lm ∧ q ≠ c.nm) ∨ w.heap.size ≤ q → ¬ BuX c.bb c.lm c.nm lv kv q) := Lib.hid fun q hq => HS.out.nox ⟨o1, o2, o3, o4, o5, o6, o7, o8, o9⟩ q hq
  have HB6 := Lib.hid hb6
  have HW6 := Lib.hid hw6
  have HS6 := Lib.hid hS6
  have HFX : Hid (∀ W, Calls Tryz.prog 61 #[.agg #[.int .i64 v, .int .i64 0, .int .i64 0]] W fun e w' => e = .returned (.int .i64 v) ∧ w' = W.alloc (.cells #[.int .i64 v, .int .i64 0, .int .i64 0] 88)) := Lib.hid fun W => formed1_any v 0 0 W
  clear hw6 hb6 hS6 tf e5 q1 e0
  rw [HW6.out]
  go_wp2_with fail
  rw [rounds_succ]
  go_upto_region 18 with fail
  go_region_held3 (fun w' => w'.cell? ⟨c.tb, 0, none⟩ = some (.pointer (some ⟨c.bb, 0, none⟩)) ∧ w'.cell? ⟨c.fb, 0, none⟩ = some (.func (.func 61) #[] #[]) ∧ w'.cell? ⟨w.heap.size + 3, 0, none⟩ = some (.int .i64 v) ∧ w'.cell? ⟨w.heap.size + 3, 1, none⟩ = some (.int .i64 0) ∧ w'.cell? ⟨w.heap.size + 3, 2, none⟩ = some (.int .i64 0))
    (first | exact ⟨x1, x2, t0, t1, t2⟩ | exact ⟨y1, y2, y3, y4, y5⟩ | go_keep)
    (first
      | ((with_reducible refine (HFX.out _).mono ?_); rintro e w7 ⟨rfl, rfl⟩)
      | ((with_reducible refine (HLf.out _ (by first | exact ((Below.refl _ _).drew).alloc (Nat.le_refl _) _ | exact ((Below.refl _ _).alloc (Nat.le_refl _) _).drew | exact ((Below.refl _ _).alloc (Nat.le_refl _) _))).mono ?_); rintro e w8 ⟨rfl, hfr, lv', kv', hS8, hat⟩; have y1 := hfr.cell (HNX.out _ (.inl (by omega))) x1; have y2 := hfr.cell (HNX.out _ (.inl (by omega))) x2; have y3 := hfr.cell (HNX.out _ (.inr (by omega))) t0; have y4 := hfr.cell (HNX.out _ (.inr (by omega))) t1; have y5 := hfr.cell (HNX.out _ (.inr (by omega))) t2; have HFR := Lib.hid hfr; have HS8 := Lib.hid hS8; have HAT := Lib.hid hat; clear hfr hS8 hat)
      | fail)
  have HFC : Hid (Fr (CwX c lv kv) w w8) := Lib.hid ((Fr.of_below HB6.out).trans (HFR.out.mono fun _ _ h => .inl h) (fun _ _ h => h))
  have r0 := HFR.out.cell (HNX.out _ (.inr (by omega))) r0
  have r1 := HFR.out.cell (HNX.out _ (.inr (by omega))) r1
  have r2 := HFR.out.cell (HNX.out _ (.inr (by omega))) r2
  have p1 := HFR.out.cell (HNX.out _ (.inl (by omega))) p1
  have hTM := HS6.out.tm.same (HFR.out.2.2.2.2 _ HS6.out.tm.lt (HNX.out _ (.inl (by omega))))
  obtain ⟨D, hD1, hD2, hD3⟩ := hTM
  obtain ⟨R, hR⟩ : ∃ R, 2 * ((lvO lln lvs o).length : Int) = R := ⟨_, rfl⟩
  have hR64 : I64 R := by
    have h := HI.out.split.1
    have h2 := lvO_len lln lvs o
    exact ⟨by omega, by omega⟩
  have HRR : Hid (bref lln (o ++ [(k : Int)]) k = R) := Lib.hid (by rw [← hR]; exact bref_leaf lvs HNO.out hrL)
  obtain ⟨N, hN⟩ : ∃ N, o.length = N := ⟨_, rfl⟩
  rw [hN] at hD1
  have HN := Lib.hid hN
  have HOL : Hid (N ≤ 2000000) := Lib.hid (by have := HI.out.len; omega)
  have HD1 := Lib.hid hD1
  have HD2 := Lib.hid hD2
  have HD3 := Lib.hid hD3
  have HR64 := Lib.hid hR64
  have HR0 := Lib.hid hr
  rw [hR]
  clear hR hR64 hN hD1 hD2 hD3 hr
  go_wp2_with (first
    | (at_mapUpdate; go_loud (refine wpList_mapUpdate_own _ rfl _ _ _ 131 rfl 88 3 tri_law Tryz.underlying131 (plainElem Tryz.prog 3) c.mb N D rfl HD1.out (by have := HOL.out; unfold maxLen; omega) _ _ (triL k) rfl rfl (keyOf_tri HR0.out) (.lit (.int .i64 R)) [] (plainElem_int Tryz.underlying3 (I64_wf HR64.out)) ?_); intro w9 hown9 hgrow9; have HO9 := Lib.hid hown9; have HG9 := Lib.hid hgrow9; clear hown9 hgrow9)
    | fail)
  go_ret
  have hlv' : lvO lln lvs (o ++ [(k : Int)]) = lvO lln lvs o ++ [v] := lvO_leaf hrL (by simpa using HV.out)
  have hnd' : ndO lln ns (o ++ [(k : Int)]) = ndO lln ns o := ndO_leaf HI.out hrL
  have := cw_end (o2 := o) ⟨o1, o2, o3, o4, o5, o6, o7, o8, o9⟩ HR0.out HS.out HFC.out (fun b hb => by
    rcases hb with hb | hb
    · rcases HAT.out b hb with h | h
      · exact .inl (.inl h)
      · exact .inr (by omega)
    · exact .inl (.inr hb)) (by rw [hlv', hnd']; exact HS8.out) HD2.out HD3.out HNO.out (by rw [HN.out, HRR.out]; exact HO9.out) HG9.out
  rw [HRR.out] at this
  exact this


set_option maxRecDepth 100000 in
set_option maxHeartbeats 4000000 in
theorem cw_node (c : CwB) (ok : c.ok) (vars root : Int) (lv0 nv0 : Value) (L : Nat) (lvs : List Int) (ns : List Fork) (r : Int) (k : Nat) (f : Fork) (o A1 A2 : List Int) (lv kv : Value) (w : World) (hr : I64 r) (hv64 : I64 vars) (hrk : r = k + L) (hf : ns[k]? = some f) (hL : L ≤ 1000000) (hlen : lvs.length = L) (hn : ns.length ≤ 1000000) (hfv : f.1 < vars) (hne : f.2.1 ≠ f.2.2) (hnd : ns.Nodup) (hno0 : r ∉ o) (hno : r ∉ A2) (hA1 : ∃ e, A2 = A1 ++ e) (hm1 : f.2.1 ∈ A1) (hm2 : f.2.2 ∈ A2) (hI : VisI L ns A2)
    (hlv : Ints (fun b => b < c.lm) w lv0 lvs) (hnv : Forks (fun b => b < c.lm) w nv0 ns) (hS : CwS c vars root lv0 nv0 L lvs ns w o lv kv)
    (IH1 : ∀ (W : World) lv kv, Ints (fun b => b < c.lm) W lv0 lvs → Forks (fun b => b < c.lm) W nv0 ns → CwS c vars root lv0 nv0 L lvs ns W o lv kv → Calls Tryz.prog 101 (cwArgs c f.2.1) W (CwPost c vars root lv0 nv0 L lvs ns lv kv W f.2.1 A1))
    (IH2 : ∀ (W : World) lv kv, Ints (fun b => b < c.lm) W lv0 lvs → Forks (fun b => b < c.lm) W nv0 ns → CwS c vars root lv0 nv0 L lvs ns W A1 lv kv → Calls Tryz.prog 101 (cwArgs c f.2.2) W (CwPost c vars root lv0 nv0 L lvs ns lv kv W f.2.2 A2)) :
    Calls Tryz.prog 101 (cwArgs c r) w (CwPost c vars root lv0 nv0 L lvs ns lv kv w r (A2 ++ [r])) := by
  have HS := Lib.hid hS
  obtain ⟨w1, hw1⟩ : ∃ W, w.alloc (.cells #[.int .i64 r, .int .i64 0, .int .i64 0] 88) = W := ⟨_, rfl⟩
  have hb1 : Below w.heap.size w w1 := by rw [← hw1]; exact (Below.refl _ _).alloc (Nat.le_refl _) _
  have hS1 := hS.below hb1
  obtain ⟨x, hrun, _⟩ := hS1.tm.ok tri_law Tryz.underlying131 (keyOf_tri hr) hr
  rw [decide_eq_false hno0] at hrun
  unfold triA at hrun
  have r0 : w1.cell? ⟨w.heap.size, 0, none⟩ = some (.int .i64 r) := by rw [← hw1]; simp
  have r1 : w1.cell? ⟨w.heap.size, 1, none⟩ = some (.int .i64 0) := by rw [← hw1]; simp
  have r2 : w1.cell? ⟨w.heap.size, 2, none⟩ = some (.int .i64 0) := by rw [← hw1]; simp
  have p1 := hS1.pc
  have p2 := hS1.ac
  have p3 := hS1.a0
  have p4 := hS1.a1
  have p5 := hS1.a2
  have p6 := hS1.a3
  have hs1 : w1.heap.size = w.heap.size + 1 := by rw [← hw1]; simp
  have HB1 := Lib.hid hb1
  have HW1 := Lib.hid hw1
  obtain ⟨la, lln, lc, rfl, HLN, _⟩ := hlv.form'
  have hln : lln = L := by rw [HLN.out, hlen]
  subst hln
  clear HLN
  obtain ⟨na, nn, nc, rfl, HNN, _⟩ := hnv.form
  obtain ⟨fv, flo, fhi⟩ := f
  simp only at hfv hne hm1 hm2 IH1 IH2
  have hfo : ForkOk (fv, flo, fhi) := hnv.2 _ (List.mem_of_getElem? hf)
  have HNO := Lib.hid hno
  have HI := Lib.hid hI
  have HLV := Lib.hid hlv
  have HNV := Lib.hid hnv
  have HND := Lib.hid hnd
  have HF := Lib.hid hf
  have HA1 := Lib.hid hA1
  have HM1 := Lib.hid hm1
  have HM2 := Lib.hid hm2
  have HI1 := Lib.hid IH1
  have HI2 := Lib.hid IH2
  have HNE := Lib.hid hne
  have HFO := Lib.hid hfo
  have HRK := Lib.hid hrk
  have hqv : (fv == vars) = false := by simp; omega
  clear hno hno0 hS hS1 hw1 hb1 hI hlv hnv hnd hf hA1 hm1 hm2 IH1 IH2 hne hfo hrk
  unfold cwArgs
  go_enter Tryz.func101, Tryz.ntmps101
  go_upto_region 1 with fail
  rw [HW1.out]
  go_wp2_with fail
  refine wp_loop_rounds 2 ?_
  rw [rounds_succ]
  go_upto_region 8 with fail
  obtain ⟨w2, hw2⟩ : ∃ W, w1.alloc (.cells #[.int .i64 vars, .slice la lln lc, .slice na nn nc, .int .i64 root] 25) = W := ⟨_, rfl⟩
  have hb2 : Below w1.heap.size w1 w2 := by rw [← hw2]; exact (Below.refl _ _).alloc (Nat.le_refl _) _
  have hs2 : w2.heap.size = w.heap.size + 2 := by rw [← hw2]; simp [hs1]
  have HB2 : Hid (Below w.heap.size w w2) := Lib.hid (HB1.out.trans (hb2.mono (by omega)))
  have q0 : w2.cell? ⟨w.heap.size + 1, 0, none⟩ = some (.int .i64 vars) := by rw [← hw2, ← hs1]; simp
  have q1 : w2.cell? ⟨w.heap.size + 1, 1, none⟩ = some (.slice la lln lc) := by rw [← hw2, ← hs1]; simp
  have q2 : w2.cell? ⟨w.heap.size + 1, 2, none⟩ = some (.slice na nn nc) := by rw [← hw2, ← hs1]; simp
  have q3 : w2.cell? ⟨w.heap.size + 1, 3, none⟩ = some (.int .i64 root) := by rw [← hw2, ← hs1]; simp
  have r0 := below_c hb2 (block_lt r0) r0
  have r1 := below_c hb2 (block_lt r1) r1
  have r2 := below_c hb2 (block_lt r2) r2
  have p2 := below_c hb2 (block_lt p2) p2
  have p3 := below_c hb2 (block_lt p3) p3
  have p4 := below_c hb2 (block_lt p4) p4
  have p5 := below_c hb2 (block_lt p5) p5
  have p6 := below_c hb2 (block_lt p6) p6
  have HT : Hid (∀ W, Below w2.heap.size w2 W → Calls Tryz.prog 59 #[.agg #[.int .i64 vars, .slice la lln lc, .slice na nn nc, .int .i64 root], .int .i64 r] W fun e w' => e = .returned (.int .i64 fv) ∧ w' = W.alloc (boxM vars root (.slice la lln lc) (.slice na nn nc))) := Lib.hid fun W hW => by
    have hkn := (List.getElem?_eq_some_iff.1 HF.out).1
    have hrk := HRK.out
    have h := top_any _ vars root r la lln lc (.slice na nn nc) ns W hL ((HNV.out.below HB2.out).below hW) (by omega) hr
    rw [topM, if_neg (by omega), frk_some (by rw [show (r - (lln : Int)).toNat = k by omega]; exact HF.out)] at h
    exact h
  have HST : Hid (∀ b W, Below w2.heap.size w2 W → Calls Tryz.prog 103 #[.agg #[.int .i64 vars, .slice la lln lc, .slice na nn nc, .int .i64 root], .int .i64 r, .int .i64 fv, .bool b] W fun e w' => e = .returned (.int .i64 (if b = true then fhi else flo)) ∧ Below W.heap.size W w') := Lib.hid fun b W hW => by
    have h := step_any _ vars root r la lln lc k (.slice na nn nc) ns (fv, flo, fhi) b W hL hn ((HNV.out.below HB2.out).below hW) HRK.out HF.out
    refine h.mono ?_
    rintro e w' ⟨rfl, rfl⟩
    exact ⟨rfl, ((((Below.refl _ _).alloc (Nat.le_refl _) _).alloc (by rw [World.size_alloc]; omega) _).alloc (by rw [World.size_alloc, World.size_alloc]; omega) _)⟩
  have HW2 := Lib.hid hw2
  have hmin : min vars fv = fv := by omega
  clear hw2 hb2 p1 hrun
  rw [HW2.out]
  go_region_held3 (fun w' => w'.cell? ⟨w.heap.size, 0, none⟩ = some (.int .i64 r) ∧ w'.cell? ⟨w.heap.size, 1, none⟩ = some (.int .i64 0) ∧ w'.cell? ⟨w.heap.size, 2, none⟩ = some (.int .i64 0) ∧ w'.cell? ⟨w.heap.size + 1, 0, none⟩ = some (.int .i64 vars) ∧ w'.cell? ⟨w.heap.size + 1, 1, none⟩ = some (.slice la lln lc) ∧ w'.cell? ⟨w.heap.size + 1, 2, none⟩ = some (.slice na nn nc) ∧ w'.cell? ⟨w.heap.size + 1, 3, none⟩ = some (.int .i64 root))
    (first | exact ⟨r0, r1, r2, q0, q1, q2, q3⟩ | go_keep)
    (first
      | ((with_reducible refine (HT.out _ (by first | exact (Below.refl _ _).drew | exact Below.refl _ _)).mono ?_); rintro e w3 ⟨rfl, rfl⟩)
      | fail)
  obtain ⟨w3, hw3⟩ : ∃ W, (w2.alloc (boxM vars root (.slice la lln lc) (.slice na nn nc))).drew = W := ⟨_, rfl⟩
  have hb3 : Below w2.heap.size w2 w3 := by rw [← hw3]; exact ((Below.refl _ _).alloc (Nat.le_refl _) _).drew
  have hs3 : w3.heap.size = w.heap.size + 3 := by rw [← hw3]; show (w2.alloc _).heap.size = _; rw [World.size_alloc, hs2]
  have HB3 : Hid (Below w.heap.size w w3) := Lib.hid (HB2.out.trans (hb3.mono (by omega)))
  have r0 := below_c hb3 (block_lt r0) r0
  have r1 := below_c hb3 (block_lt r1) r1
  have r2 := below_c hb3 (block_lt r2) r2
  have p2 := below_c hb3 (block_lt p2) p2
  have p3 := below_c hb3 (block_lt p3) p3
  have p4 := below_c hb3 (block_lt p4) p4
  have p5 := below_c hb3 (block_lt p5) p5
  have p6 := below_c hb3 (block_lt p6) p6
  have HB23 : Hid (Below w2.heap.size w2 w3) := Lib.hid hb3
  have HW3 := Lib.hid hw3
  clear hw3 hb3 hmin
  rw [HW3.out]
  go_wp2_with fail
  rw [rounds_succ]
  go_upto_region 20 with fail
  obtain ⟨w4, hw4⟩ : ∃ W, (w3.alloc (.cells #[.int .i64 0, .int .i64 0, .int .i64 0] 88)).alloc (.cells #[.int .i64 0, .int .i64 0, .int .i64 0] 88) = W := ⟨_, rfl⟩
  have hb4 : Below w3.heap.size w3 w4 := by rw [← hw4]; exact ((Below.refl _ _).alloc (Nat.le_refl _) _).alloc (by rw [World.size_alloc]; omega) _
  have hs4 : w4.heap.size = w.heap.size + 5 := by rw [← hw4, World.size_alloc, World.size_alloc, hs3]
  have g1 : w4.heap[w.heap.size + 3]? = some (.cells #[.int .i64 0, .int .i64 0, .int .i64 0] 88) := by rw [← hw4, ← hs3]; exact old_at _ _ _ (new_at _ _)
  have g2 : w4.heap[w.heap.size + 4]? = some (.cells #[.int .i64 0, .int .i64 0, .int .i64 0] 88) := by rw [← hw4]; exact new_at' _ _ (by rw [World.size_alloc, hs3])
  have t0 : w4.cell? ⟨w.heap.size + 3, 0, none⟩ = some (.int .i64 0) := cell_of g1 rfl
  have t1 : w4.cell? ⟨w.heap.size + 3, 1, none⟩ = some (.int .i64 0) := cell_of g1 rfl
  have t2 : w4.cell? ⟨w.heap.size + 3, 2, none⟩ = some (.int .i64 0) := cell_of g1 rfl
  have s0 : w4.cell? ⟨w.heap.size + 4, 0, none⟩ = some (.int .i64 0) := cell_of g2 rfl
  have s1 : w4.cell? ⟨w.heap.size + 4, 1, none⟩ = some (.int .i64 0) := cell_of g2 rfl
  have s2 : w4.cell? ⟨w.heap.size + 4, 2, none⟩ = some (.int .i64 0) := cell_of g2 rfl
  have tf : ∀ o, w4.frozen? ⟨w.heap.size + 3, o, none⟩ = false := froz_of g1
  have sf : ∀ o, w4.frozen? ⟨w.heap.size + 4, o, none⟩ = false := froz_of g2
  have HB4 : Hid (Below w.heap.size w w4) := Lib.hid (HB3.out.trans (hb4.mono (by omega)))
  have HB24 : Hid (Below w2.heap.size w2 w4) := Lib.hid (HB23.out.trans (hb4.mono (by omega)))
  have r0 := below_c hb4 (block_lt r0) r0
  have r1 := below_c hb4 (block_lt r1) r1
  have r2 := below_c hb4 (block_lt r2) r2
  have p2 := below_c hb4 (block_lt p2) p2
  have p3 := below_c hb4 (block_lt p3) p3
  have p4 := below_c hb4 (block_lt p4) p4
  have p5 := below_c hb4 (block_lt p5) p5
  have p6 := below_c hb4 (block_lt p6) p6
  have HW4 := Lib.hid hw4
  clear hw4 hb4 g1 g2
  rw [HW4.out]
  go_wp2_with fail
  refine wp_loop_rounds 2 ?_
  rw [rounds_succ]
  go_upto_region 23 with fail
  obtain ⟨w5, hw5⟩ : ∃ W, w4.alloc (.cells #[.int .i64 vars, .slice la lln lc, .slice na nn nc, .int .i64 root] 25) = W := ⟨_, rfl⟩
  have hb5 : Below w4.heap.size w4 w5 := by rw [← hw5]; exact (Below.refl _ _).alloc (Nat.le_refl _) _
  have hs5 : w5.heap.size = w.heap.size + 6 := by rw [← hw5, World.size_alloc, hs4]
  have q0 : w5.cell? ⟨w.heap.size + 5, 0, none⟩ = some (.int .i64 vars) := by rw [← hw5, ← hs4]; simp
  have q1 : w5.cell? ⟨w.heap.size + 5, 1, none⟩ = some (.slice la lln lc) := by rw [← hw5, ← hs4]; simp
  have q2 : w5.cell? ⟨w.heap.size + 5, 2, none⟩ = some (.slice na nn nc) := by rw [← hw5, ← hs4]; simp
  have q3 : w5.cell? ⟨w.heap.size + 5, 3, none⟩ = some (.int .i64 root) := by rw [← hw5, ← hs4]; simp
  have HB5 : Hid (Below w.heap.size w w5) := Lib.hid (HB4.out.trans (hb5.mono (by omega)))
  have HB25 : Hid (Below w2.heap.size w2 w5) := Lib.hid (HB24.out.trans (hb5.mono (by omega)))
  have r0 := below_c hb5 (block_lt r0) r0
  have r1 := below_c hb5 (block_lt r1) r1
  have r2 := below_c hb5 (block_lt r2) r2
  have p2 := below_c hb5 (block_lt p2) p2
  have p3 := below_c hb5 (block_lt p3) p3
  have p4 := below_c hb5 (block_lt p4) p4
  have p5 := below_c hb5 (block_lt p5) p5
  have p6 := below_c hb5 (block_lt p6) p6
  have t0 := below_c hb5 (block_lt t0) t0
  have t1 := below_c hb5 (block_lt t1) t1
  have t2 := below_c hb5 (block_lt t2) t2
  have s0 := below_c hb5 (block_lt s0) s0
  have s1 := below_c hb5 (block_lt s1) s1
  have s2 := below_c hb5 (block_lt s2) s2
  have tf : ∀ o, w5.frozen? ⟨w.heap.size + 3, o, none⟩ = false := fun o => below_z hb5 (by omega) (tf o)
  have sf : ∀ o, w5.frozen? ⟨w.heap.size + 4, o, none⟩ = false := fun o => below_z hb5 (by omega) (sf o)
  have HW5 := Lib.hid hw5
  clear hw5 hb5
  rw [HW5.out]
  go_region_held3 (fun w' => w'.cell? ⟨w.heap.size, 0, none⟩ = some (.int .i64 r) ∧ w'.cell? ⟨w.heap.size + 5, 0, none⟩ = some (.int .i64 vars) ∧ w'.cell? ⟨w.heap.size + 5, 1, none⟩ = some (.slice la lln lc) ∧ w'.cell? ⟨w.heap.size + 5, 2, none⟩ = some (.slice na nn nc) ∧ w'.cell? ⟨w.heap.size + 5, 3, none⟩ = some (.int .i64 root))
    (first | exact ⟨r0, q0, q1, q2, q3⟩ | exact ⟨y0, y1, y2, y3, y4⟩ | exact ⟨z0, z1, z2, z3, z4⟩ | exact ⟨set_ne (by omega) z0, set_ne (by omega) z1, set_ne (by omega) z2, set_ne (by omega) z3, set_ne (by omega) z4⟩ | exact ⟨set_ne (by omega) (set_ne (by omega) z0), set_ne (by omega) (set_ne (by omega) z1), set_ne (by omega) (set_ne (by omega) z2), set_ne (by omega) (set_ne (by omega) z3), set_ne (by omega) (set_ne (by omega) z4)⟩)
    (first
      | ((with_reducible refine (HST.out false _ (by first | exact HB25.out.drew | exact HB25.out)).mono ?_); rintro e w6 ⟨rfl, hb6⟩; have HB6 : Hid (Below w5.heap.size w5 w6) := Lib.hid ((show Below w5.heap.size w5 w5.drew from (Below.refl _ _).drew).trans (hb6.mono (Nat.le_refl _))); have y0 := below_c HB6.out (by omega) r0; have y1 := below_c HB6.out (by omega) q0; have y2 := below_c HB6.out (by omega) q1; have y3 := below_c HB6.out (by omega) q2; have y4 := below_c HB6.out (by omega) q3; clear hb6)
      | ((with_reducible refine (HST.out true _ (by exact HB25.out.trans (HB6.out.mono (by have := HB25.out.size; omega)))).mono ?_); rintro e w7 ⟨rfl, hb7⟩; have HB7 : Hid (Below w5.heap.size w5 w7) := Lib.hid (HB6.out.trans (hb7.mono HB6.out.size)); have z0 := below_c HB7.out (by omega) r0; have z1 := below_c HB7.out (by omega) q0; have z2 := below_c HB7.out (by omega) q1; have z3 := below_c HB7.out (by omega) q2; have z4 := below_c HB7.out (by omega) q3; have t0 := below_c HB7.out (by omega) t0; have s0 := below_c HB7.out (by omega) s0; have tf := fun o => below_z HB7.out (by omega) (tf o); have sf := fun o => below_z HB7.out (by omega) (sf o); clear hb7)
      | fail)
  obtain ⟨w8, hw8⟩ : ∃ W, (w7.setCell ⟨w.heap.size + 3, 0, none⟩ (.int .i64 flo)).setCell ⟨w.heap.size + 3 + 1, 0, none⟩ (.int .i64 fhi) = W := ⟨_, rfl⟩
  have hb7 : Below w.heap.size w w7 := HB5.out.trans (HB7.out.mono (by omega))
  have hb8 : Below w.heap.size w w8 := by rw [← hw8]; exact (hb7.setCell (by show w.heap.size ≤ w.heap.size + 3; omega) _).setCell (by show w.heap.size ≤ w.heap.size + 3 + 1; omega) _
  have hs8 : w.heap.size + 6 ≤ w8.heap.size := by rw [← hw8, World.size_setCell, World.size_setCell]; have := HB7.out.size; omega
  have t1 := below_c HB7.out (block_lt t1) t1
  have t2 := below_c HB7.out (block_lt t2) t2
  have s1 := below_c HB7.out (block_lt s1) s1
  have s2 := below_c HB7.out (block_lt s2) s2
  have r1 := below_c HB7.out (block_lt r1) r1
  have r2 := below_c HB7.out (block_lt r2) r2
  have r0 : w8.cell? ⟨w.heap.size, 0, none⟩ = some (.int .i64 r) := by rw [← hw8]; exact set_ne (by omega) (set_ne (by omega) z0)
  have r1 : w8.cell? ⟨w.heap.size, 1, none⟩ = some (.int .i64 0) := by rw [← hw8]; exact set_ne (by omega) (set_ne (by omega) r1)
  have r2 : w8.cell? ⟨w.heap.size, 2, none⟩ = some (.int .i64 0) := by rw [← hw8]; exact set_ne (by omega) (set_ne (by omega) r2)
  have t0 : w8.cell? ⟨w.heap.size + 3, 0, none⟩ = some (.int .i64 flo) := by rw [← hw8]; exact set_ne (by omega) (set_eq t0)
  have t1 : w8.cell? ⟨w.heap.size + 3, 1, none⟩ = some (.int .i64 0) := by rw [← hw8]; exact set_ne (by omega) (set_ne (by simp) t1)
  have t2 : w8.cell? ⟨w.heap.size + 3, 2, none⟩ = some (.int .i64 0) := by rw [← hw8]; exact set_ne (by omega) (set_ne (by simp) t2)
  have s0 : w8.cell? ⟨w.heap.size + 3 + 1, 0, none⟩ = some (.int .i64 fhi) := by rw [← hw8]; exact set_eq (set_ne (by omega) s0)
  have s1 : w8.cell? ⟨w.heap.size + 3 + 1, 1, none⟩ = some (.int .i64 0) := by rw [← hw8]; exact set_ne (by simp) (set_ne (by omega) s1)
  have s2 : w8.cell? ⟨w.heap.size + 3 + 1, 2, none⟩ = some (.int .i64 0) := by rw [← hw8]; exact set_ne (by simp) (set_ne (by omega) s2)
  have hS8 := HS.out.below hb8
  have x3 := hS8.vc
  have HC1 := Lib.hid (HI1.out w8 lv kv (HLV.out.below hb8) (HNV.out.below hb8) hS8)
  have HB8 := Lib.hid hb8
  have HW8 := Lib.hid hw8
  have HNX : Hid (∀ q, (q < c.vb + 1 ∧ q ≠ c.bb ∧ q ≠ c.lm ∧ q ≠ c.nm ∧ q ≠ c.mb) ∨ w.heap.size ≤ q → ¬ CwX c lv kv q) := Lib.hid fun q hq => cwx_no ok HS.out q hq
  obtain ⟨o1, o2, o3, o4, o5, o6, o7, o8, o9⟩ := ok
  clear hw8 hb8 hS8 hb7 tf sf z0 z1 z2 z3 z4 y0 y1 y2 y3 y4 q0 q1 q2 q3 HT HST
  rw [HW8.out]
  go_wp2_with fail
  rw [rounds_succ]
  go_upto_region 25 with fail
  unfold cwArgs at HC1
  go_wp2_with fail
  refine HC1.out.mono ?_
  rintro e w9 ⟨rfl, hfr9, lv1, kv1, hS9, hat9⟩
  have HFR9 : Hid (Fr (CwX c lv kv) w w9) := Lib.hid ((Fr.of_below HB8.out).trans hfr9 (fun _ _ h => h))
  have HAT9 : Hid (∀ b, CwX c lv1 kv1 b → CwX c lv kv b ∨ w8.heap.size ≤ b) := Lib.hid hat9
  have hs89 : w8.heap.size ≤ w9.heap.size := hfr9.size
  have hs9 : w.heap.size + 6 ≤ w9.heap.size := by omega
  have r0 := hfr9.cell (HNX.out _ (.inr (by omega))) r0
  have r1 := hfr9.cell (HNX.out _ (.inr (by omega))) r1
  have r2 := hfr9.cell (HNX.out _ (.inr (by omega))) r2
  have s0 := hfr9.cell (HNX.out _ (.inr (by omega))) s0
  have s1 := hfr9.cell (HNX.out _ (.inr (by omega))) s1
  have s2 := hfr9.cell (HNX.out _ (.inr (by omega))) s2
  have y1 := hS9.tc
  have y2 := hS9.vc
  have hlt : ∀ q, q < c.lm → w9.heap[q]? = w.heap[q]? ∨ ¬ q < w.heap.size := fun q hq => by
    by_cases h : q < w.heap.size
    · exact .inl (HFR9.out.2.2.2.2 q h (HNX.out q (.inl (by omega))))
    · exact .inr h
  have hlv9 : Ints (fun b => b < c.lm) w9 (.slice la lln lc) lvs := HLV.out.move fun b hb hb2 => (hlt b hb).resolve_right (fun h => h hb2)
  have hnv9 : Forks (fun b => b < c.lm) w9 (.slice na nn nc) ns := HNV.out.move fun b hb hb2 => (hlt b hb).resolve_right (fun h => h hb2)
  obtain ⟨X1, hX1⟩ : ∃ X, bref lln A1 flo = X := ⟨_, rfl⟩
  obtain ⟨X2, hX2⟩ : ∃ X, bref lln A2 fhi = X := ⟨_, rfl⟩
  have hX1' : bref lln A2 flo = X1 := by obtain ⟨e, he⟩ := HA1.out; rw [he, bref_ext HM1.out, hX1]
  have HX1 := Lib.hid hX1'
  have HX2 := Lib.hid hX2
  have HNOX : Hid (∀ q, (q < c.vb + 1 ∧ q ≠ c.bb ∧ q ≠ c.lm ∧ q ≠ c.nm ∧ q ≠ c.mb) ∨ w9.heap.size ≤ q → ¬ CwX c lv1 kv1 q) := Lib.hid fun q hq => cwx_no ⟨o1, o2, o3, o4, o5, o6, o7, o8, o9⟩ hS9 q hq
  have HNO8 : Hid (∀ q, w.heap.size ≤ q → q < w8.heap.size → ¬ CwX c lv1 kv1 q) := Lib.hid fun q h1 h2 hx => by
    rcases HAT9.out q hx with h | h
    · exact HNX.out q (.inr h1) h
    · omega
  have HC2 : Hid (∀ W, Below w9.heap.size w9 W → Calls Tryz.prog 101 #[.agg #[.int .i64 fhi, .int .i64 0, .int .i64 0], .pointer (some ⟨c.pb, 0, none⟩), .pointer (some ⟨c.ab, 0, none⟩), .pointer (some ⟨c.tb, 0, none⟩), .pointer (some ⟨c.fb, 0, none⟩), .pointer (some ⟨c.vb, 0, none⟩)] W
      (fun e w' => e = .returned (.int .i64 X2) ∧ Fr (CwX c lv1 kv1) w9 w' ∧ ∃ lv' kv', CwS c vars root (.slice la lln lc) (.slice na nn nc) lln lvs ns w' A2 lv' kv' ∧ ∀ b, CwX c lv' kv' b → CwX c lv1 kv1 b ∨ w9.heap.size ≤ b)) := Lib.hid fun W hW => by
    have h := HI2.out W lv1 kv1 (hlv9.below hW) (hnv9.below hW) (hS9.below hW)
    refine h.mono fun e w' h => ⟨by rw [← hX2]; exact h.1, (Fr.of_below hW).trans h.2.1 (fun _ _ h => h), ?_⟩
    obtain ⟨lv', kv', h1, h2⟩ := h.2.2
    exact ⟨lv', kv', h1, fun b hb => (h2 b hb).imp id fun h => Nat.le_trans hW.size h⟩
  have HNODE : Hid (∀ (w10 : World) (lv2 kv2 : Value), CwS c vars root (.slice la lln lc) (.slice na nn nc) lln lvs ns w10 A2 lv2 kv2 → ∀ W, Below w10.heap.size w10 W → Calls Tryz.prog 104 #[.pointer (some ⟨c.bb, 0, none⟩), .int .i64 fv, .int .i64 X1, .int .i64 X2] W
      (fun e w' => e = .returned (.int .i64 (2 * ((ndO lln ns A2).length : Int) + 1)) ∧ Fr (BuX c.bb c.lm c.nm lv2 kv2) w10 w' ∧ ∃ lv' kv', BuS c.bb c.lm c.nm (c.vb + 1) w' lv' kv' (lvO lln lvs A2) (ndO lln ns A2 ++ [(fv, X1, X2)]) ∧ ∀ b, BuX c.bb c.lm c.nm lv' kv' b → BuX c.bb c.lm c.nm lv2 kv2 b ∨ w10.heap.size ≤ b)) := Lib.hid fun w10 lv2 kv2 h10 W hW => by
    obtain ⟨e, he⟩ := HA1.out
    have m1 : flo ∈ A2 := by rw [he]; exact List.mem_append_left _ HM1.out
    have hrk := HRK.out
    have hnew := ndO_new HI.out HND.out HNO.out (show (lln : Int) ≤ r by omega) (by rw [show (r - (lln : Int)).toNat = k by omega]; exact HF.out) m1 HM2.out
    simp only at hnew
    rw [HX1.out, HX2.out] at hnew
    have b1 := bref_bound (L := lln) (o := A2) flo
    have b2 := bref_bound (L := lln) (o := A2) fhi
    rw [HX1.out] at b1
    rw [HX2.out] at b2
    have hlen2 := HI.out.len
    have hne : X1 ≠ X2 := fun e => HNE.out (bref_inj m1 HM2.out (by rw [HX1.out, HX2.out, e]))
    refine (node_any c.bb c.lm c.nm (c.vb + 1) lv2 kv2 _ _ fv X1 X2 W (by omega) (by omega) (by omega) (h10.bu.below hW) hnew hne ⟨HFO.out.1, ⟨by simp only; omega, by simp only; omega⟩, ⟨by simp only; omega, by simp only; omega⟩⟩ (by have := HI.out.split.2; rw [ndO_len]; omega)).mono fun e w' h => ⟨h.1, (Fr.of_below hW).trans h.2.1 (fun _ _ h => h), h.2.2.imp fun lv' h => h.imp fun kv' h => ⟨h.1, fun b hb => (h.2 b hb).imp id fun h => Nat.le_trans hW.size h⟩⟩
  rw [hX1]
  clear hX1 hX2 hX1' hlv9 hnv9 hlt hfr9 hat9 hS9 HC1
  go_upto_region 26 with fail
  go_region_held3 (fun w' => w'.cell? ⟨c.tb, 0, none⟩ = some (.pointer (some ⟨c.bb, 0, none⟩)) ∧ w'.cell? ⟨c.vb, 0, none⟩ = some (.func (.func 101) #[] #[.pointer (some ⟨c.pb, 0, none⟩), .pointer (some ⟨c.ab, 0, none⟩), .pointer (some ⟨c.tb, 0, none⟩), .pointer (some ⟨c.fb, 0, none⟩), .pointer (some ⟨c.vb, 0, none⟩)]) ∧ w'.cell? ⟨w.heap.size + 3 + 1, 0, none⟩ = some (.int .i64 fhi) ∧ w'.cell? ⟨w.heap.size + 3 + 1, 1, none⟩ = some (.int .i64 0) ∧ w'.cell? ⟨w.heap.size + 3 + 1, 2, none⟩ = some (.int .i64 0))
    (first | exact ⟨y1, y2, s0, s1, s2⟩ | exact ⟨z1, z2, z3, z4, z5⟩ | exact ⟨v1, v2, v3, v4, v5⟩ | go_keep)
    (first
      | ((with_reducible refine (HC2.out _ (by exact (Below.refl _ _).drew)).mono ?_); rintro e w10 ⟨rfl, hfr10, lv2, kv2, hS10, hat10⟩; have z1 := hS10.tc; have z2 := hS10.vc; have z3 := hfr10.cell (HNO8.out _ (by omega) (by omega)) s0; have z4 := hfr10.cell (HNO8.out _ (by omega) (by omega)) s1; have z5 := hfr10.cell (HNO8.out _ (by omega) (by omega)) s2; have HFR10 := Lib.hid hfr10; have HS10 := Lib.hid hS10; have HAT10 := Lib.hid hat10; have HCN := Lib.hid (HNODE.out w10 lv2 kv2 hS10); clear hfr10 hS10 hat10)
      | ((with_reducible refine (HCN.out _ (by exact Below.refl _ _)).mono ?_); rintro e w11 ⟨rfl, hfr11, lv3, kv3, hS11, hat11⟩; have HNO11 : Hid (∀ q, ((q < c.vb + 1 ∧ q ≠ c.bb ∧ q ≠ c.lm ∧ q ≠ c.nm ∧ q ≠ c.mb) ∨ (w.heap.size ≤ q ∧ q < w8.heap.size)) → ¬ BuX c.bb c.lm c.nm lv2 kv2 q) := (Lib.hid fun q hq hx => (by
            rcases HAT10.out q (.inl hx) with h | h
            · rcases hq with hq | hq
              · exact HNOX.out q (.inl hq) h
              · exact HNO8.out q hq.1 hq.2 h
            · rcases hq with hq | hq
              · exact HS10.out.nox ⟨o1, o2, o3, o4, o5, o6, o7, o8, o9⟩ q (.inl ⟨hq.1, hq.2.1, hq.2.2.1, hq.2.2.2.1⟩) hx
              · have := HFR9.out.size; have := HFR10.out.size; omega)); have v1 := hfr11.cell (HNO11.out _ (.inl (by omega))) z1; have v2 := hfr11.cell (HNO11.out _ (.inl (by omega))) z2; have v3 := hfr11.cell (HNO11.out _ (.inr (by omega))) z3; have v4 := hfr11.cell (HNO11.out _ (.inr (by omega))) z4; have v5 := hfr11.cell (HNO11.out _ (.inr (by omega))) z5; have HFR11 := Lib.hid hfr11; have HS11 := Lib.hid hS11; have HAT11 := Lib.hid hat11; clear hfr11 hS11 hat11)
      | fail)
  have HLATE : Hid (∀ b, CwX c lv3 kv3 b → CwX c lv kv b ∨ w8.heap.size ≤ b) := Lib.hid fun b hb => by
    have h89 := hs89
    have h9 := HFR10.out.size
    have h2 : CwX c lv2 kv2 b ∨ w10.heap.size ≤ b := by
      rcases hb with hb | hb
      · exact (HAT11.out b hb).imp .inl id
      · exact .inl (.inr hb)
    rcases h2 with h | h
    · rcases HAT10.out b h with h | h
      · exact HAT9.out b h
      · exact .inr (by omega)
    · exact .inr (by omega)
  have HFA : Hid (Fr (CwX c lv kv) w w10) := Lib.hid (HFR9.out.trans HFR10.out fun q hq hx => (HAT9.out q hx).resolve_right (by have := HB8.out.size; omega))
  have HFC : Hid (Fr (CwX c lv kv) w w11) := Lib.hid (HFA.out.trans HFR11.out fun q hq hx => by
    have h8 := HB8.out.size
    rcases HAT10.out q (.inl hx) with h | h
    · exact (HAT9.out q h).resolve_right (by omega)
    · omega)
  have NR : ∀ q, w.heap.size ≤ q → q < w8.heap.size → ¬ BuX c.bb c.lm c.nm lv2 kv2 q := fun q h1 h2 hx => by
    rcases HAT10.out q (.inl hx) with h | h
    · exact HNO8.out q h1 h2 h
    · omega
  have r0 := HFR11.out.cell (NR _ (by omega) (by omega)) (HFR10.out.cell (HNO8.out _ (by omega) (by omega)) r0)
  have r1 := HFR11.out.cell (NR _ (by omega) (by omega)) (HFR10.out.cell (HNO8.out _ (by omega) (by omega)) r1)
  have r2 := HFR11.out.cell (NR _ (by omega) (by omega)) (HFR10.out.cell (HNO8.out _ (by omega) (by omega)) r2)
  have NB : ∀ q, (q < c.vb + 1 ∧ q ≠ c.bb ∧ q ≠ c.lm ∧ q ≠ c.nm) → ¬ BuX c.bb c.lm c.nm lv2 kv2 q := fun q hq => HS10.out.nox ⟨o1, o2, o3, o4, o5, o6, o7, o8, o9⟩ q (.inl hq)
  have p1 := HFR11.out.cell (NB _ (by omega)) HS10.out.pc
  have hTM := HS10.out.tm.same (HFR11.out.2.2.2.2 _ HS10.out.tm.lt (NB _ (by omega)))
  obtain ⟨D, hD1, hD2, hD3⟩ := hTM
  obtain ⟨R, hR⟩ : ∃ R, 2 * ((ndO lln ns A2).length : Int) + 1 = R := ⟨_, rfl⟩
  have hrL : (lln : Int) ≤ r := by have := HRK.out; omega
  have hR64 : I64 R := by
    have h := HI.out.split.2
    have h2 := ndO_len lln ns A2
    exact ⟨by omega, by omega⟩
  have HRR : Hid (bref lln (A2 ++ [r]) r = R) := Lib.hid (by rw [← hR]; exact bref_node ns HNO.out hrL)
  obtain ⟨N, hN⟩ : ∃ N, A2.length = N := ⟨_, rfl⟩
  rw [hN] at hD1
  have HN := Lib.hid hN
  have HOL : Hid (N ≤ 2000000) := Lib.hid (by have := HI.out.len; omega)
  have HD1 := Lib.hid hD1
  have HD2 := Lib.hid hD2
  have HD3 := Lib.hid hD3
  have HR64 := Lib.hid hR64
  have HR0 := Lib.hid hr
  have HRL := Lib.hid hrL
  rw [hR]
  clear hR hR64 hN hD1 hD2 hD3 hr NR NB hrL
  go_wp2_with (first
    | (at_mapUpdate; go_loud (refine wpList_mapUpdate_own _ rfl _ _ _ 131 rfl 88 3 tri_law Tryz.underlying131 (plainElem Tryz.prog 3) c.mb N D rfl HD1.out (by have := HOL.out; unfold maxLen; omega) _ _ (triL r) rfl rfl (keyOf_tri HR0.out) (.lit (.int .i64 R)) [] (plainElem_int Tryz.underlying3 (I64_wf HR64.out)) ?_); intro w12 hown9 hgrow9; have HO9 := Lib.hid hown9; have HG9 := Lib.hid hgrow9; clear hown9 hgrow9)
    | fail)
  go_ret
  obtain ⟨e, he⟩ := HA1.out
  have m1 : flo ∈ A2 := by rw [he]; exact List.mem_append_left _ HM1.out
  have hlv' : lvO lln lvs (A2 ++ [r]) = lvO lln lvs A2 := lvO_node HRL.out
  have hnd' : ndO lln ns (A2 ++ [r]) = ndO lln ns A2 ++ [(fv, X1, X2)] := by
    have hrk := HRK.out
    rw [ndO_node HI.out HRL.out (f := (fv, flo, fhi)) (by rw [show (r - (lln : Int)).toNat = k by omega]; exact HF.out) m1 HM2.out, HX1.out, HX2.out]
  have := cw_end (o2 := A2) ⟨o1, o2, o3, o4, o5, o6, o7, o8, o9⟩ HR0.out HS.out HFC.out (fun b hb => (HLATE.out b hb).imp id fun h => by omega) (by rw [hlv', hnd']; exact HS11.out) HD2.out HD3.out HNO.out (by rw [HN.out, HRR.out]; exact HO9.out) HG9.out
  rw [HRR.out] at this
  exact this

/-- the walk of combine, at one diagram -/
theorem cw_any (c : CwB) (ok : c.ok) (vars root : Int) (lv0 nv0 : Value) (L : Nat) (lvs : List Int) (ns : List Fork) (hv64 : I64 vars) (hL : L ≤ 1000000) (hlen : lvs.length = L) (hn : ns.length ≤ 1000000) (hrng : ∀ v ∈ lvs, rngM v = true) (hnl : lvs.Nodup) (hnd : ns.Nodup) (hb : BackB L ns) (hvr : ∀ f ∈ ns, f.1 < vars) (hne : ∀ f ∈ ns, f.2.1 ≠ f.2.2) :
    ∀ (k : Nat) (o : List Int) (r : Int) (lv kv : Value) (w : World), VisI L ns o → 0 ≤ r → r < L + ns.length → r < k → Ints (fun b => b < c.lm) w lv0 lvs → Forks (fun b => b < c.lm) w nv0 ns → CwS c vars root lv0 nv0 L lvs ns w o lv kv →
    Calls Tryz.prog 101 (cwArgs c r) w (CwPost c vars root lv0 nv0 L lvs ns lv kv w r (vis L ns k o r))
  | 0, o, r, lv, kv, w, _, h0, _, hk, _, _, _ => by omega
  | k + 1, o, r, lv, kv, w, hI, h0, hr, hk, hlv, hnv, hS => by
    have ih := cw_any c ok vars root lv0 nv0 L lvs ns hv64 hL hlen hn hrng hnl hnd hb hvr hne k
    have hr64 : I64 r := ⟨by omega, by omega⟩
    rw [vis]
    split
    · rename_i hm
      exact cw_hit c vars root lv0 nv0 L lvs ns r o lv kv w hr64 hm hS
    rename_i hno
    split
    · rename_i hl
      obtain ⟨v, hv⟩ : ∃ v, lvs[r.toNat]? = some v := ⟨_, List.getElem?_eq_getElem (by omega)⟩
      exact cw_leaf c ok vars root lv0 nv0 L lvs ns r v o lv kv w hr64 hv64 h0 hl hL hlen hn hv (hrng v (List.mem_of_getElem? hv)) hnl hno hI hlv hnv hS
    rename_i hl
    obtain ⟨f, hf⟩ : ∃ f, ns[(r - L).toNat]? = some f := ⟨_, List.getElem?_eq_getElem (by omega)⟩
    rw [hf]
    simp only
    have hm := List.mem_of_getElem? hf
    obtain ⟨⟨b1, b2⟩, b3, b4⟩ := hb _ f hf
    have e1 : (((r - L).toNat : Nat) : Int) = r - L := by omega
    rw [e1] at b2 b4
    obtain ⟨i1, x1, m1, l1⟩ := vis_I hb k o f.2.1 hI b1 (by omega) (by omega)
    obtain ⟨i2, x2, m2, l2⟩ := vis_I hb k _ f.2.2 i1 b3 (by omega) (by omega)
    refine cw_node c ok vars root lv0 nv0 L lvs ns r (r - L).toNat f o (vis L ns k o f.2.1) (vis L ns k (vis L ns k o f.2.1) f.2.2) lv kv w hr64 hv64 (by omega) hf hL hlen hn (hvr f hm) (hne f hm) hnd hno (fun h => ?_) x2 m1 m2 i2 hlv hnv hS
      (fun W lv' kv' h1 h2 h3 => ih o f.2.1 lv' kv' W hI b1 (by omega) (by omega) h1 h2 h3) (fun W lv' kv' h1 h2 h3 => ih _ f.2.2 lv' kv' W i1 b3 (by omega) (by omega) h1 h2 h3)
    rcases l2 r h with h | h
    · rcases l1 r h with h | h
      · exact hno h
      · omega
    · omega

end Go.Proofs.YteadlkecngfcoaaGreat
