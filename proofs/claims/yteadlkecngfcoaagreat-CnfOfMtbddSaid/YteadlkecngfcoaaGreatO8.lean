/- Walks: mtbdd's newBuilder, combine and made, at one diagram. No condition but sizes and what Check's scan has shown. -/
import Derived.Test.YteadlkecngfcoaaGreatO7
namespace Go.Proofs.YteadlkecngfcoaaGreat
open Go.ChangeShapes Go.WideShapes Go.ChangeAt Go.RowKit
set_option linter.unusedVariables false
set_option linter.unusedSimpArgs false

/-- the parts of a diagram that Check's scan has shown -/
structure DiaP (vars : Int) (L : Nat) (lvs : List Int) (ns : List Fork) : Prop where
  v64 : I64 vars
  hL : L ≤ 4096
  hn : ns.length ≤ 4096
  len : lvs.length = L
  rng : ∀ v ∈ lvs, rngM v = true
  nl : lvs.Nodup
  nd : ns.Nodup
  back : BackB L ns
  vr : ∀ f ∈ ns, f.1 < vars
  ne : ∀ f ∈ ns, f.2.1 ≠ f.2.2

set_option maxRecDepth 100000 in
theorem newBuilder_any (w : World) : Calls Tryz.prog 76 #[] w fun e w' => e = .returned (.pointer (some ⟨w.heap.size + 2, 0, none⟩)) ∧ Below w.heap.size w w' ∧ w'.heap.size = w.heap.size + 3 ∧ ∀ B, B ≤ w.heap.size + 3 → BuS (w.heap.size + 2) w.heap.size (w.heap.size + 1) B w' (.slice none 0 0) (.slice none 0 0) [] [] := by
  have hmm := @run_makeMap Tryz.prog
  go_enter Tryz.func76, Tryz.ntmps76
  go_wp2
  go_ret
  have z1 : (w.alloc (.map #[] 0)).heap.size = w.heap.size + 1 := World.size_alloc _ _
  have z2 : ((w.alloc (.map #[] 0)).alloc (.map #[] 0)).heap.size = w.heap.size + 2 := by rw [World.size_alloc, z1]
  have z3 : (((w.alloc (.map #[] 0)).alloc (.map #[] 0)).alloc (.cells #[.slice none 0 0, .slice none 0 0, .map (some w.heap.size), .map (some (w.heap.size + 1)), .bool false] 128)).heap.size = w.heap.size + 3 := by rw [World.size_alloc, z2]
  refine ⟨rfl, (((Below.refl _ _).alloc (Nat.le_refl _) _).alloc (by rw [z1]; omega) _).alloc (by rw [z2]; omega) _, z3, fun B hB => ⟨new_at' _ _ z2.symm, ⟨fun _ => 0, ?_⟩, ⟨fun _ => 0, ?_⟩, World.ownsRow_nil _ _ _ _, World.ownsRow_nil _ _ _ _, (fun b e => by cases e), by rw [z3]; exact hB⟩⟩
  · exact ((IMap.made (kt := 3) (lit := litI) (okk := I64) (V := fun _ => 0) w).same (old_at _ _ _ (old_at _ _ _ (new_at _ _)) |>.trans (new_at _ _).symm)).congr rfl (fun x _ => by simp) (fun x _ h => by simp at h)
  · have h := (IMap.made (kt := 49) (lit := forkL) (okk := ForkOk) (V := fun _ => 0) (w.alloc (.map #[] 0)))
    rw [z1] at h
    exact (h.same (old_at _ _ _ (new_at' _ _ z1.symm) |>.trans (new_at' _ _ z1.symm).symm)).congr rfl (fun x _ => by simp) (fun x _ h => by simp at h)

/-- what combine hands back -/
def CmbPost (bb lm nm : Nat) (W : World) (L : Nat) (lvs : List Int) (ns : List Fork) (root : Int) (O : List Int) (e : Ending) (w' : World) : Prop :=
  e = .returned (.int .i64 (bref L O root)) ∧ Fr (fun k => k = bb ∨ k = lm ∨ k = nm) W w' ∧ ∃ B lv kv, BuS bb lm nm B w' lv kv (lvO L lvs O) (ndO L ns O)
set_option maxRecDepth 100000 in
set_option maxHeartbeats 4000000 in
theorem combine_any (aab lm nm bb : Nat) (vars root : Int) (lv0 nv0 : Value) (L : Nat) (lvs : List Int) (ns : List Fork) (w : World) (h1 : aab < lm) (h2 : lm < nm) (h3 : nm < bb) (hD : DiaP vars L lvs ns) (r0 : 0 ≤ root) (r1 : root < L + ns.length)
    (hA : w.heap[aab]? = some (.cells #[.int .i64 vars, lv0, nv0, .int .i64 root] 25)) (hlv : Ints (fun b => b < lm) w lv0 lvs) (hnv : Forks (fun b => b < lm) w nv0 ns) (hB : ∀ B, B ≤ w.heap.size → BuS bb lm nm B w (.slice none 0 0) (.slice none 0 0) [] []) :
    Calls Tryz.prog 78 #[.pointer (some ⟨bb, 0, none⟩), .slice (some ⟨aab, 0, none⟩) 1 1, .func (.func 61) #[] #[]] w (CmbPost bb lm nm w L lvs ns root (vis L ns (L + ns.length + 1) [] root)) := by
  obtain ⟨s, hs⟩ : ∃ b, w.heap.size = b := ⟨_, rfl⟩
  have hbl := (Array.getElem?_eq_some_iff.1 (hB 0 (Nat.zero_le _)).1).1
  obtain ⟨la, ll, lc, rfl, HLL, _⟩ := hlv.form'
  obtain ⟨na, nl, nc, rfl, HNL, _⟩ := hnv.form
  have HD := Lib.hid hD
  have HA := Lib.hid hA
  have HLV := Lib.hid hlv
  have HNV := Lib.hid hnv
  have HB := Lib.hid hB
  have hmm := @run_makeMap Tryz.prog
  clear hD hA hlv hnv hB
  go_enter Tryz.func78, Tryz.ntmps78
  go_upto_region 4 with fail
  obtain ⟨fnv, hfnv⟩ : ∃ x, Value.func (.func 101) #[] #[.pointer (some ⟨s + 1 + 1 + 1 + 1, 0, none⟩), .pointer (some ⟨s + 1, 0, none⟩), .pointer (some ⟨s, 0, none⟩), .pointer (some ⟨s + 1 + 1, 0, none⟩), .pointer (some ⟨s + 1 + 1 + 1 + 1 + 1, 0, none⟩)] = x := ⟨_, rfl⟩
  obtain ⟨O1, hO1⟩ : ∃ o, Obj.cells #[.pointer (some ⟨bb, 0, none⟩)] 105 = o := ⟨_, rfl⟩
  obtain ⟨O2, hO2⟩ : ∃ o, Obj.cells #[.slice (some ⟨aab, 0, none⟩) 1 1] 104 = o := ⟨_, rfl⟩
  obtain ⟨O3, hO3⟩ : ∃ o, Obj.cells #[.func (.func 61) #[] #[]] 89 = o := ⟨_, rfl⟩
  obtain ⟨O5, hO5⟩ : ∃ o, Obj.cells #[.map (some (s + 1 + 1 + 1))] 131 = o := ⟨_, rfl⟩
  obtain ⟨O6, hO6⟩ : ∃ o, Obj.cells #[fnv] 89 = o := ⟨_, rfl⟩
  obtain ⟨W1, hW1⟩ : ∃ W, (((((w.alloc O1).alloc O2).alloc O3).alloc (.map #[] 0)).alloc O5).alloc O6 = W := ⟨_, rfl⟩
  have z1 : (w.alloc O1).heap.size = s + 1 := by rw [World.size_alloc, hs]
  have z2 : ((w.alloc O1).alloc O2).heap.size = s + 1 + 1 := by rw [World.size_alloc, z1]
  have z3 : (((w.alloc O1).alloc O2).alloc O3).heap.size = s + 1 + 1 + 1 := by rw [World.size_alloc, z2]
  have z4 : ((((w.alloc O1).alloc O2).alloc O3).alloc (.map #[] 0)).heap.size = s + 1 + 1 + 1 + 1 := by rw [World.size_alloc, z3]
  have z5 : (((((w.alloc O1).alloc O2).alloc O3).alloc (.map #[] 0)).alloc O5).heap.size = s + 1 + 1 + 1 + 1 + 1 := by rw [World.size_alloc, z4]
  have hbW : Below w.heap.size w W1 := by
    rw [← hW1]
    exact ((((((Below.refl _ _).alloc (Nat.le_refl _) _).alloc (by rw [z1]; omega) _).alloc (by rw [z2]; omega) _).alloc (by rw [z3]; omega) _).alloc (by rw [z4]; omega) _).alloc (by rw [z5]; omega) _
  have g0 : W1.heap[s]? = some O1 := by rw [← hW1]; exact old_at _ _ _ (old_at _ _ _ (old_at _ _ _ (old_at _ _ _ (old_at _ _ _ (new_at' _ _ hs.symm)))))
  have g1 : W1.heap[s + 1]? = some O2 := by rw [← hW1]; exact old_at _ _ _ (old_at _ _ _ (old_at _ _ _ (old_at _ _ _ (new_at' _ _ z1.symm))))
  have g2 : W1.heap[s + 1 + 1]? = some O3 := by rw [← hW1]; exact old_at _ _ _ (old_at _ _ _ (old_at _ _ _ (new_at' _ _ z2.symm)))
  have g3 : W1.heap[s + 1 + 1 + 1]? = some (.map #[] 0) := by rw [← hW1]; exact old_at _ _ _ (old_at _ _ _ (new_at' _ _ z3.symm))
  have g4 : W1.heap[s + 1 + 1 + 1 + 1]? = some O5 := by rw [← hW1]; exact old_at _ _ _ (new_at' _ _ z4.symm)
  have g5 : W1.heap[s + 1 + 1 + 1 + 1 + 1]? = some O6 := by rw [← hW1]; exact new_at' _ _ z5.symm
  have hsW : W1.heap.size = s + 6 := by rw [← hW1, World.size_alloc, z5]
  rw [← hO1] at g0
  rw [← hO2] at g1
  rw [← hO3] at g2
  rw [← hO5] at g4
  rw [← hO6] at g5
  obtain ⟨c, hc⟩ : ∃ c, CwB.mk aab lm nm bb s (s + 1) (s + 1 + 1) (s + 1 + 1 + 1) (s + 1 + 1 + 1 + 1) (s + 1 + 1 + 1 + 1 + 1) = c := ⟨_, rfl⟩
  have ok : c.ok := by rw [← hc]; exact ⟨h1, h2, h3, by simp; omega, by simp, by simp, by simp, by simp, by simp⟩
  have hal := (Array.getElem?_eq_some_iff.1 HA.out).1
  have hA1 := (hbW.block aab hal).trans HA.out
  have hS1 : CwS c vars root (.slice la ll lc) (.slice na nl nc) L lvs ns W1 [] (.slice none 0 0) (.slice none 0 0) := by
    rw [← hc]
    refine ⟨cell_of g4 rfl, cell_of g1 rfl, cell_of hA1 rfl, cell_of hA1 rfl, cell_of hA1 rfl, cell_of hA1 rfl, cell_of g0 rfl, cell_of g2 rfl, by rw [hfnv]; exact cell_of g5 rfl, ?_, ?_⟩
    · have h := IMap.made (kt := 88) (lit := triL) (okk := I64) (V := bref L []) (((w.alloc O1).alloc O2).alloc O3)
      rw [z3] at h
      exact (h.same (w' := W1) (g3.trans (new_at' _ _ z3.symm).symm)).congr rfl (fun x _ => by simp) (fun x _ h => by simp at h)
    · have h := HB.out w.heap.size (Nat.le_refl _)
      obtain ⟨b1, b2, b3, b4, b5, b6, b7⟩ := h.below hbW
      exact ⟨b1, b2, b3, World.ownsRow_nil _ _ _ _, World.ownsRow_nil _ _ _ _, b6, by show s + 1 + 1 + 1 + 1 + 1 + 1 ≤ _; omega⟩
  have HW := Lib.hid hW1
  have HBW := Lib.hid hbW
  have HFN := Lib.hid hfnv
  have HC := Lib.hid hc
  have HOK := Lib.hid ok
  have HS1 := Lib.hid hS1
  have HSS := Lib.hid hs
  have p2 : W1.cell? ⟨s + 1, 0, none⟩ = some (.slice (some ⟨aab, 0, none⟩) 1 1) := cell_of g1 rfl
  have p3 : W1.cell? ⟨aab, 0, none⟩ = some (.int .i64 vars) := cell_of hA1 rfl
  have p4 : W1.cell? ⟨aab, 1, none⟩ = some (.slice la ll lc) := cell_of hA1 rfl
  have p5 : W1.cell? ⟨aab, 2, none⟩ = some (.slice na nl nc) := cell_of hA1 rfl
  have p6 : W1.cell? ⟨aab, 3, none⟩ = some (.int .i64 root) := cell_of hA1 rfl
  have p7 : W1.cell? ⟨s + 1 + 1 + 1 + 1 + 1, 0, none⟩ = some fnv := cell_of g5 rfl
  rw [hfnv, hO1, hO2, hO3, hO5, hO6]
  rw [HW.out]
  clear hW1 hbW hc ok hS1 hfnv g0 g1 g2 g3 g4 g5 z1 z2 z3 z4 z5 hO1 hO2 hO3 hO5 hO6 hA1 hmm hal
  go_upto_region 5 with fail
  obtain ⟨w2, hw2⟩ : ∃ W, W1.alloc (.cells #[.int .i64 0, .int .i64 0, .int .i64 0] 88) = W := ⟨_, rfl⟩
  have hb2 : Below W1.heap.size W1 w2 := by rw [← hw2]; exact (Below.refl _ _).alloc (Nat.le_refl _) _
  have hs2 : w2.heap.size = s + 7 := by rw [← hw2, World.size_alloc, hsW]
  have q0 : w2.cell? ⟨s + 6, 0, none⟩ = some (.int .i64 0) := by rw [← hw2, ← hsW]; exact cell_of (new_at _ _) rfl
  have q1 : w2.cell? ⟨s + 6, 1, none⟩ = some (.int .i64 0) := by rw [← hw2, ← hsW]; exact cell_of (new_at _ _) rfl
  have q2 : w2.cell? ⟨s + 6, 2, none⟩ = some (.int .i64 0) := by rw [← hw2, ← hsW]; exact cell_of (new_at _ _) rfl
  have qf : ∀ o, w2.frozen? ⟨s + 6, o, none⟩ = false := by rw [← hw2, ← hsW]; exact froz_of (new_at _ _)
  have p2 := below_c hb2 (block_lt p2) p2
  have p3 := below_c hb2 (block_lt p3) p3
  have p4 := below_c hb2 (block_lt p4) p4
  have p5 := below_c hb2 (block_lt p5) p5
  have p6 := below_c hb2 (block_lt p6) p6
  have p7 := below_c hb2 (block_lt p7) p7
  have HW2 := Lib.hid hw2
  have HB2 := Lib.hid hb2
  clear hw2 hb2
  rw [HW2.out]
  go_wp2_with fail
  refine wp_loop_rounds 2 ?_
  rw [rounds_succ]
  go_upto_region 8 with fail
  obtain ⟨w3, hw3⟩ : ∃ W, w2.alloc (.cells #[.int .i64 vars, .slice la ll lc, .slice na nl nc, .int .i64 root] 25) = W := ⟨_, rfl⟩
  have hb3 : Below w2.heap.size w2 w3 := by rw [← hw3]; exact (Below.refl _ _).alloc (Nat.le_refl _) _
  have hs3 : w3.heap.size = s + 8 := by rw [← hw3, World.size_alloc, hs2]
  have t3 : w3.cell? ⟨s + 7, 3, none⟩ = some (.int .i64 root) := by rw [← hw3, ← hs2]; exact cell_of (new_at _ _) rfl
  have p7 := below_c hb3 (block_lt p7) p7
  have q0 := below_c hb3 (block_lt q0) q0
  have q1 := below_c hb3 (block_lt q1) q1
  have q2 := below_c hb3 (block_lt q2) q2
  have qf : ∀ o, w3.frozen? ⟨s + 6, o, none⟩ = false := fun o => below_z hb3 (by omega) (qf o)
  have HW3 := Lib.hid hw3
  have HB3 := Lib.hid hb3
  clear hw3 hb3 p2 p3 p4 p5 p6
  rw [HW3.out]
  go_wp2_with fail
  rw [rounds_succ]
  go_upto_region 10 with fail
  obtain ⟨w4, hw4⟩ : ∃ W, w3.setCell ⟨s + 6, 0, none⟩ (.int .i64 root) = W := ⟨_, rfl⟩
  have hb4 : Below W1.heap.size W1 w4 := by rw [← hw4]; exact (HB2.out.trans (HB3.out.mono HB2.out.size)).setCell (by show W1.heap.size ≤ s + 6; omega) _
  have p7 : w4.cell? ⟨s + 1 + 1 + 1 + 1 + 1, 0, none⟩ = some fnv := by rw [← hw4]; exact set_ne (by omega) p7
  have q0 : w4.cell? ⟨s + 6, 0, none⟩ = some (.int .i64 root) := by rw [← hw4]; exact set_eq q0
  have q1 : w4.cell? ⟨s + 6, 1, none⟩ = some (.int .i64 0) := by rw [← hw4]; exact set_ne (by simp) q1
  have q2 : w4.cell? ⟨s + 6, 2, none⟩ = some (.int .i64 0) := by rw [← hw4]; exact set_ne (by simp) q2
  have hbw : Below w.heap.size w w4 := HBW.out.trans (hb4.mono HBW.out.size)
  have HCW : Hid (Calls Tryz.prog 101 #[.agg #[.int .i64 root, .int .i64 0, .int .i64 0], .pointer (some ⟨s + 1 + 1 + 1 + 1, 0, none⟩), .pointer (some ⟨s + 1, 0, none⟩), .pointer (some ⟨s, 0, none⟩), .pointer (some ⟨s + 1 + 1, 0, none⟩), .pointer (some ⟨s + 1 + 1 + 1 + 1 + 1, 0, none⟩)] w4
      (CwPost c vars root (.slice la ll lc) (.slice na nl nc) L lvs ns (.slice none 0 0) (.slice none 0 0) w4 root (vis L ns (L + ns.length + 1) [] root))) := Lib.hid (by
    have d := HD.out
    have e2 : c.lm = lm := by rw [← HC.out]
    have h := cw_any c HOK.out vars root (.slice la ll lc) (.slice na nl nc) L lvs ns d.v64 (by have := d.hL; omega) d.len (by have := d.hn; omega) d.rng d.nl d.nd d.back d.vr d.ne (L + ns.length + 1) [] root (.slice none 0 0) (.slice none 0 0) w4 (VisI.nil L ns) r0 r1 (by omega) (by rw [e2]; exact HLV.out.below hbw) (by rw [e2]; exact HNV.out.below hbw) (HS1.out.below hb4)
    unfold cwArgs at h
    rw [← HC.out] at h ⊢
    exact h)
  have HBw := Lib.hid hbw
  have HW4 := Lib.hid hw4
  clear hw4 hb4 hbw t3 qf
  rw [HW4.out]
  rw [← HFN.out] at p7
  go_wp2_with fail
  refine HCW.out.mono ?_
  rintro e w5 ⟨rfl, hfr, lv, kv, hS5, hat⟩
  obtain ⟨X, hX⟩ : ∃ X, bref L (vis L ns (L + ns.length + 1) [] root) root = X := ⟨_, rfl⟩
  rw [hX]
  go_wp2_with fail
  go_ret
  have e1 : c.bb = bb := by rw [← HC.out]
  have e2 : c.lm = lm := by rw [← HC.out]
  have e3 : c.nm = nm := by rw [← HC.out]
  have e4 : c.mb = s + 1 + 1 + 1 := by rw [← HC.out]
  refine ⟨by rw [hX]; rfl, (Fr.of_below HBw.out).trans hfr (fun k hk hx => ?_), c.vb + 1, lv, kv, by have := hS5.bu; rw [e1, e2, e3] at this; exact this⟩
  have hss := HSS.out
  rcases hx with h | h
  · rcases h with h | h | h | h | h
    · exact .inl (h.trans e1)
    · exact .inr (.inl (h.trans e2))
    · exact .inr (.inr (h.trans e3))
    · cases h
    · cases h
  · omega

theorem bu_lv {bb lm nm B : Nat} {w : World} {lv kv : Value} {L : Nat} {lvs : List Int} {ns : List Fork} {O : List Int} (hI : VisI L ns O) (hD : L ≤ 4096) (hlen : lvs.length = L) (hrng : ∀ v ∈ lvs, rngM v = true) (h : BuS bb lm nm B w lv kv (lvO L lvs O) (ndO L ns O)) : Ints (fun _ => True) w lv (lvO L lvs O) := by
  refine ⟨(ownsRow_sl1 h.2.2.2.1 (by rw [lvO_len]; have := hI.split.1; omega)).mono fun _ _ => trivial, fun x hx => ?_⟩
  obtain ⟨r, hr, rfl⟩ := List.mem_map.1 hx
  obtain ⟨hr, hL⟩ := mem_lfs.1 hr
  have h0 := (hI.2.1 r hr).1
  obtain ⟨u, hu⟩ : ∃ u, lvs[r.toNat]? = some u := ⟨_, List.getElem?_eq_getElem (by omega)⟩
  rw [getD_some hu]
  have := hrng u (List.mem_of_getElem? hu)
  unfold rngM at this
  simp only [Bool.and_eq_true, decide_eq_true_eq] at this
  exact ⟨by omega, by omega⟩
theorem bu_kv {bb lm nm B : Nat} {w : World} {lv kv : Value} {L : Nat} {lvs : List Int} {ns : List Fork} {O : List Int} (hI : VisI L ns O) (hD : L ≤ 4096) (hn : ns.length ≤ 4096) (hf : ∀ f ∈ ns, I64 f.1) (h : BuS bb lm nm B w lv kv (lvO L lvs O) (ndO L ns O)) : Forks (fun _ => True) w kv (ndO L ns O) := by
  refine (own_forks h.2.2.2.2.1 (by rw [ndO_len]; have := hI.split.2; omega) fun f hx => ?_).mono fun _ _ => trivial
  obtain ⟨r, hr, rfl⟩ := List.mem_map.1 hx
  obtain ⟨hr, hL⟩ := mem_nds.1 hr
  have hb := hI.2.1 r hr
  obtain ⟨g, hg⟩ : ∃ g, ns[(r - L).toNat]? = some g := ⟨_, List.getElem?_eq_getElem (by omega)⟩
  rw [frk_some hg]
  have hOl := hI.len
  have m1 := bref_bound (L := L) (o := O) g.2.1
  have m2 := bref_bound (L := L) (o := O) g.2.2
  exact ⟨hf g (List.mem_of_getElem? hg), ⟨by simp only; omega, by simp only; omega⟩, ⟨by simp only; omega, by simp only; omega⟩⟩
set_option maxRecDepth 100000 in
set_option maxHeartbeats 4000000 in
theorem made_any (aab : Nat) (vars root : Int) (lv0 nv0 : Value) (L : Nat) (lvs : List Int) (ns : List Fork) (O : List Int) (w : World) (hO : O = vis L ns (L + ns.length + 1) [] root) (hD : DiaP vars L lvs ns) (r0 : 0 ≤ root) (r1 : root < L + ns.length)
    (hA : w.heap[aab]? = some (.cells #[.int .i64 vars, lv0, nv0, .int .i64 root] 25)) (hlv : Ints (fun _ => True) w lv0 lvs) (hnv : Forks (fun _ => True) w nv0 ns) :
    Calls Tryz.prog 60 #[.func (.func 61) #[] #[], .slice (some ⟨aab, 0, none⟩) 1 1] w (FinPost w vars (bref L O root) (lvO L lvs O) (ndO L ns O) (lfs L O).length) := by
  obtain ⟨hI, _, hm, _⟩ := vis_I hD.back (L + ns.length + 1) [] root (VisI.nil L ns) r0 r1 (by omega)
  rw [← hO] at hI hm
  obtain ⟨s, hs⟩ : ∃ b, w.heap.size = b := ⟨_, rfl⟩
  obtain ⟨w1, hw1⟩ : ∃ W, w.alloc (.cells #[.int .i64 0, .slice none 0 0, .slice none 0 0, .int .i64 0] 25) = W := ⟨_, rfl⟩
  have hb1 : Below w.heap.size w w1 := by rw [← hw1]; exact (Below.refl _ _).alloc (Nat.le_refl _) _
  have hs1 : w1.heap.size = s + 1 := by rw [← hw1, World.size_alloc, hs]
  have hR : w1.heap[s]? = some (.cells #[.int .i64 0, .slice none 0 0, .slice none 0 0, .int .i64 0] 25) := by rw [← hw1, ← hs]; exact new_at _ _
  have hal : aab < s := by rw [← hs]; exact (Array.getElem?_eq_some_iff.1 hA).1
  have HNB := Lib.hid (newBuilder_any w1)
  rw [hs1] at HNB
  have HI := Lib.hid hI
  have HM := Lib.hid hm
  have HO := Lib.hid hO
  have HD := Lib.hid hD
  have HA := Lib.hid hA
  have HLV := Lib.hid hlv
  have HNV := Lib.hid hnv
  have HW1 := Lib.hid hw1
  have HB1 := Lib.hid hb1
  have HR := Lib.hid hR
  have HS := Lib.hid hs
  obtain ⟨X, hX⟩ : ∃ X, bref L O root = X := ⟨_, rfl⟩
  rw [hX]
  have HX := Lib.hid hX
  clear hI hm hO hD hA hlv hnv hw1 hb1 hR hX
  go_enter Tryz.func60, Tryz.ntmps60
  go_upto_region 1 with fail
  rw [HW1.out]
  go_wp2_with fail
  refine HNB.out.mono ?_
  rintro e w2 ⟨rfl, hb2, hs2, hbu⟩
  have hbw2 : Below w.heap.size w w2 := HB1.out.trans (hb2.mono (by omega))
  have hA2 := (hbw2.block aab (by omega)).trans HA.out
  have a0 : w2.cell? ⟨aab, 0, none⟩ = some (.int .i64 vars) := cell_of hA2 rfl
  have hR2 := (hb2.block s (by omega)).trans HR.out
  have HBW2 := Lib.hid hbw2
  have HBU : Hid (∀ B, B ≤ w2.heap.size → BuS (s + 3) (s + 1) (s + 2) B w2 (.slice none 0 0) (.slice none 0 0) [] []) := Lib.hid fun B hB => hbu B (by omega)
  have HCB : Hid (∀ W, Below w2.heap.size w2 W → Calls Tryz.prog 78 #[.pointer (some ⟨s + 3, 0, none⟩), .slice (some ⟨aab, 0, none⟩) 1 1, .func (.func 61) #[] #[]] W
      (fun e w' => e = .returned (.int .i64 X) ∧ Fr (fun k => k = s + 3 ∨ k = s + 1 ∨ k = s + 2) w2 w' ∧ ∃ B lv kv, BuS (s + 3) (s + 1) (s + 2) B w' lv kv (lvO L lvs O) (ndO L ns O))) := Lib.hid fun W hW => by
    have hb := hbw2.trans (hW.mono hbw2.size)
    have h := combine_any aab (s + 1) (s + 2) (s + 3) vars root lv0 nv0 L lvs ns W (by omega) (by omega) (by omega) HD.out r0 r1 ((hW.block aab (Array.getElem?_eq_some_iff.1 hA2).1).trans hA2) ((HLV.out.lt.below hb).mono fun b hb => by have := hb.2; omega) ((HNV.out.lt.below hb).mono fun b hb => by have := hb.2; omega) (fun B hB => by
        obtain ⟨b1, b2, b3, b4, b5, b6, b7⟩ := (hbu 0 (Nat.zero_le _)).below hW
        exact ⟨b1, b2, b3, World.ownsRow_nil _ _ _ _, World.ownsRow_nil _ _ _ _, b6, hB⟩)
    rw [← HO.out] at h
    refine h.mono fun e w' h => ⟨by rw [← HX.out]; exact h.1, (Fr.of_below hW).trans h.2.1 (fun _ _ h => h), h.2.2⟩
  have HFN : Hid (∀ (W : World) B lv kv, BuS (s + 3) (s + 1) (s + 2) B W lv kv (lvO L lvs O) (ndO L ns O) → Calls Tryz.prog 77 #[.pointer (some ⟨s + 3, 0, none⟩), .int .i64 vars, .int .i64 X] W (FinPost W vars X (lvO L lvs O) (ndO L ns O) (lfs L O).length)) := Lib.hid fun W B lv kv h => by
    have d := HD.out
    have h2 := finish_any (s + 3) L vars lvs ns O root lv kv W HO.out r0 r1 d.back d.hL d.hn d.len d.rng (cell_of h.1 rfl) (cell_of h.1 rfl) (cell_of h.1 rfl) (bu_lv HI.out d.hL d.len d.rng h) (bu_kv HI.out d.hL d.hn (fun f hf => (HNV.out.2 f hf).1) h)
    rw [HX.out] at h2
    exact h2
  have HR2 := Lib.hid hR2
  clear hbw2 hA2 hbu hb2 HNB hR2
  go_upto_region 2 with fail
  go_region_held3 (fun w' => w'.cell? ⟨aab, 0, none⟩ = some (.int .i64 vars))
    (first | exact a0 | exact a3 | exact a4 | exact set_ne (by omega) (set_ne (by omega) (set_ne (by omega) (set_ne (by omega) a4))))
    (first
      | ((with_reducible refine (HCB.out _ (by exact (Below.refl _ _).drew)).mono ?_); rintro e w3 ⟨rfl, hfr, B, lv, kv, hbu⟩; have a3 := hfr.cell (by omega) a0; have HFR := Lib.hid hfr; have HBU3 := Lib.hid hbu; have HF3 := Lib.hid (HFN.out w3 B lv kv hbu); clear hfr hbu)
      | ((with_reducible refine HF3.out.mono ?_); rintro e w4 ⟨ls, lv, nv, hp, hpw, rfl, hl, hn, hb4⟩; have a4 := below_c hb4 (block_lt a3) a3; obtain ⟨la, ll, lc, rfl, _, _⟩ := hl.form'; obtain ⟨na, nl, nc, rfl, _, _⟩ := hn.form; have hR4 := (hb4.block s (by have := HFR.out.size; omega)).trans ((HFR.out.2.2.2.2 s (by omega) (by omega)).trans HR2.out); have k0 := cell_of (o := 0) hR4 rfl; have k1 := cell_of (o := 1) hR4 rfl; have k2 := cell_of (o := 2) hR4 rfl; have k3 := cell_of (o := 3) hR4 rfl; have kf := froz_of hR4; have HP := Lib.hid hp; have HPW := Lib.hid hpw; have HL := Lib.hid hl; have HN := Lib.hid hn; have HB4 := Lib.hid hb4; clear hp hpw hl hn hb4 hR4)
      | fail)
  obtain ⟨Y, hY⟩ : ∃ y, numM ls X = y := ⟨_, rfl⟩
  rw [hY]
  obtain ⟨w5, hw5⟩ : ∃ W, (((w4.setCell ⟨s, 0, none⟩ (.int .i64 vars)).setCell ⟨s, 1, none⟩ (.slice la ll lc)).setCell ⟨s, 2, none⟩ (.slice na nl nc)).setCell ⟨s, 3, none⟩ (.int .i64 Y) = W := ⟨_, rfl⟩
  have x0 : w5.cell? ⟨s, 0, none⟩ = some (.int .i64 vars) := by rw [← hw5]; exact set_ne (by simp) (set_ne (by simp) (set_ne (by simp) (set_eq k0)))
  have x1 : w5.cell? ⟨s, 1, none⟩ = some (.slice la ll lc) := by rw [← hw5]; exact set_ne (by simp) (set_ne (by simp) (set_eq (set_ne (by simp) k1)))
  have x2 : w5.cell? ⟨s, 2, none⟩ = some (.slice na nl nc) := by rw [← hw5]; exact set_ne (by simp) (set_eq (set_ne (by simp) (set_ne (by simp) k2)))
  have x3 : w5.cell? ⟨s, 3, none⟩ = some (.int .i64 Y) := by rw [← hw5]; exact set_eq (set_ne (by simp) (set_ne (by simp) (set_ne (by simp) k3)))
  have hs3 := HFR.out.size
  have hs0 := HS.out
  have hbk : ∀ j, j ≠ s → w5.heap[j]? = w4.heap[j]? := fun j h1 => by
    rw [← hw5, Below.heap_setCell _ _ _ _ h1, Below.heap_setCell _ _ _ _ h1, Below.heap_setCell _ _ _ _ h1, Below.heap_setCell _ _ _ _ h1]
  have HB5 : Hid (Below w.heap.size w w5) := Lib.hid (by
    have h3 : Below w.heap.size w w3 := ((Fr.of_below HBW2.out).trans (Y := fun k => k = s + 3 ∨ k = s + 1 ∨ k = s + 2) (X := fun k => w.heap.size ≤ k) ⟨HFR.out.1, HFR.out.2.1, HFR.out.2.2.1, HFR.out.2.2.2.1, HFR.out.2.2.2.2⟩ (fun k hk hx => by omega)).below (Nat.le_refl _) fun k hk hx => by omega
    rw [← hw5]
    exact ((((h3.trans (HB4.out.mono h3.size)).setCell (by show w.heap.size ≤ s; omega) _).setCell (by show w.heap.size ≤ s; omega) _).setCell (by show w.heap.size ≤ s; omega) _).setCell (by show w.heap.size ≤ s; omega) _)
  have HBK := Lib.hid hbk
  have HW5 := Lib.hid hw5
  have HY := Lib.hid hY
  clear hw5 hbk hY k0 k1 k2 k3 kf
  rw [HW5.out]
  go_wp2_with fail
  have hres : Tryz.f60.results = #[.cell 4 25, .tmp 5] := rfl
  refine bodyPost_ret (v := .tuple #[.agg #[.int .i64 vars, .slice la ll lc, .slice na nl nc, .int .i64 Y], .int .i64 0]) (by simp only [results, hres]; go_simp) rfl ?_
  refine ⟨ls, .slice la ll lc, .slice na nl nc, HP.out, HPW.out, by rw [HY.out], ?_, ?_, HB5.out⟩
  · exact (HL.out.move fun b hb hb2 => HBK.out b (by omega)).mono fun b hb => by omega
  · exact (HN.out.move fun b hb hb2 => HBK.out b (by omega)).mono fun b hb => by omega

end Go.Proofs.YteadlkecngfcoaaGreat
