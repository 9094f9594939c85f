/- (Ddnnf) Walks: slices.Clone of parts, ddnnf.Compile. Condition: the table of powers lies as laid. Printed by genj5.py. -/
import Derived.Test.YteadlkecngfcoaaGreatDoorJ4
import Derived.Test.YteadlkecngfcoaaGreatDoorKu
import Derived.Deep.RegionLaw
namespace Go.Proofs.YteadlkecngfcoaaGreatDoor
open Go.ChangeShapes Go.WideShapes Go.ChangeAt Go.RowKit Go.Lib
set_option linter.unusedVariables false
set_option linter.unusedSimpArgs false

theorem own_new3 {base n : Nat} {w : World} (cs : Array Value) (e : TypeId) (hb : base ≤ w.heap.size) (hn : cs.size = n * 3) (hm : n ≤ 9223372036854775807) :
    (w.alloc (.cells cs e)).ownsRow base e 3 (.slice (some ⟨w.heap.size, 0, none⟩) n n) n cs.toList := by
  refine ⟨by simp [hn], .inr ⟨w.heap.size, n, cs, rfl, hb, new_at _ _, Nat.le_refl _, by unfold maxLen; omega, hn, by rw [← hn, ← Array.length_toList, List.take_length]⟩⟩
theorem cells3_inv : ∀ (us : List (Value × Value × Value)) (j : Nat) (y : Value), (cells3 us)[j]? = some y → ∃ q u, us[q]? = some u ∧ ((j = q * 3 ∧ y = u.1) ∨ (j = q * 3 + 1 ∧ y = u.2.1) ∨ (j = q * 3 + 2 ∧ y = u.2.2))
  | [], j, y, h => by simp [cells3] at h
  | x :: r, 0, y, h => by simp [cells3] at h; exact ⟨0, x, rfl, .inl ⟨rfl, h.symm⟩⟩
  | x :: r, 1, y, h => by simp [cells3] at h; exact ⟨0, x, rfl, .inr (.inl ⟨rfl, h.symm⟩)⟩
  | x :: r, 2, y, h => by simp [cells3] at h; exact ⟨0, x, rfl, .inr (.inr ⟨rfl, h.symm⟩)⟩
  | x :: r, j + 3, y, h => by
    have h2 : (cells3 r)[j]? = some y := by simpa [cells3, List.getElem?_append_right] using h
    obtain ⟨q, u, hu, hh⟩ := cells3_inv r j y h2
    refine ⟨q + 1, u, by simpa using hu, ?_⟩
    rcases hh with ⟨h1, h2⟩ | ⟨h1, h2⟩ | ⟨h1, h2⟩
    · exact .inl ⟨by omega, h2⟩
    · exact .inr (.inl ⟨by omega, h2⟩)
    · exact .inr (.inr ⟨by omega, h2⟩)
theorem sl3_cells {F : Nat → Prop} {w : World} {ad : Addr} {n c : Nat} {us : List (Value × Value × Value)} (h : Sl3 F w (.slice (some ad) n c) us) : ∀ j y, (cells3 us)[j]? = some y → w.cell? (ad.add j) = some y := by
  intro j y hy
  obtain ⟨q, u, hu, hh⟩ := cells3_inv us j y hy
  obtain ⟨b, off, he, _, _, h1, h2, h3⟩ := h.at hu
  injection he with he
  subst he
  rw [add_at]
  rcases hh with ⟨rfl, rfl⟩ | ⟨rfl, rfl⟩ | ⟨rfl, rfl⟩
  · exact h1
  · exact h2
  · exact h3
theorem cells3_all {us : List (Value × Value × Value)} {ps : List Part} {F : Nat → Prop} {w : World} (hl : us.length = ps.length) (h : ∀ (j : Nat) u p, us[j]? = some u → ps[j]? = some p → PartV F w u p) : ∀ y ∈ cells3 us, y.oneCell' = true := by
  intro y hy
  obtain ⟨j, hj⟩ := List.getElem?_of_mem hy
  obtain ⟨q, u, hu, hh⟩ := cells3_inv us j y hj
  have hq := (List.getElem?_eq_some_iff.1 hu).1
  obtain ⟨e1, e2, e3, _⟩ := h q u (ps[q]'(by omega)) hu (List.getElem?_eq_getElem _)
  rcases hh with ⟨_, rfl⟩ | ⟨_, rfl⟩ | ⟨_, rfl⟩
  · rw [e1]; rfl
  · rw [e2]; rfl
  · obtain ⟨a, n, c, e, _, _⟩ := e3.form'
    rw [e]; rfl
section push
variable {P : Program} {ops : Array Oper} {rest : List Oper} {o : Oper} {a : Act} {Q : Exit → Act → World → Prop}
/-- append of a whole slice of elements of three cells onto a slice that the call owns -/
theorem wpList_pushAll3 (hgd : o.guard = none) (s x : Operand) (t : TypeId)
    (ho : o.op = .call { callee := .builtin .append, args := #[s, x], argTypes := #[t, t] })
    (E : TypeId) (z : Value) (bytes : Nat) (ht : P.underlying t = some (.slice E)) (hinfo : (P.info? E).map (fun i => (i.zero, i.size, i.bytes)) = some (some z, 3, bytes)) (hz1 : z.cells.size = 3)
    (base : Nat) (v : Value) (n : Nat) (xs : List Value) (w : World) (ad : Addr) (m c : Nat) (us : List Value)
    (hs : a.eval s = v) (hx : a.eval x = .slice (some ad) m c) (hown : w.ownsRow base E 3 v n xs) (hl : us.length = m * 3) (hr : ∀ j y, us[j]? = some y → w.cell? (ad.add j) = some y) (hu : ∀ u ∈ us, u.oneCell' = true)
    (hm : n + m ≤ 9223372036854775807) (hn : (n + m) * bytes ≤ 140737488355328) (hbase : base ≤ w.heap.size)
    (h : ∀ v' w', w'.ownsRow base E 3 v' (n + m) (xs ++ us) → w.grownBy w' v.ownBlock → (v'.ownBlock = v.ownBlock ∨ v'.ownBlock = some w.heap.size) → wpList P ops Q rest (a.put o.dst v') w') :
    wpList P ops Q (o :: rest) a w := by
  obtain ⟨i, hi, hz, h1, h2⟩ := info_parts hinfo
  exact wpList_append_own_at w hgd s x t ho base E i z 3 bytes ht hi hz h1 h2 hz1 (by decide) v n xs hs hown ad m c us hx (by omega) hr hu (by unfold maxLen; omega) hn hbase fun v' w' h3 h4 _ h6 => h v' w' h3 h4 h6
end push
def ClonePPost (F : Nat → Prop) (W : World) (ps : List Part) (e : Ending) (w' : World) : Prop := ∃ v, e = .returned v ∧ Parts (fun b => F b ∨ W.heap.size ≤ b) w' v ps ∧ Below W.heap.size W w'
set_option maxRecDepth 100000 in
set_option maxHeartbeats 2000000 in
theorem clonep_any (F : Nat → Prop) (ad : Addr) (n c : Nat) (ps : List Part) (w : World) (hx : Parts F w (.slice (some ad) n c) ps) (hl : n ≤ 100000) :
    Calls Tryz.prog 16 #[.slice (some ad) n c] w (ClonePPost F w ps) := by
  have hnil := fun (w : World) => Lib.run_eql_slice_nil w 27 43 (some ad) n c 0 0 Tryz.underlying27
  simp only [Option.isNone_some] at hnil
  have HI3 := Lib.hid (show (Tryz.prog.info? 43).map (fun i => (i.zero, i.size, i.bytes)) = some (some (.agg #[.int .i64 0, .int .i64 0, .slice none 0 0]), 3, 40) by kernel_rfl)
  have hown : (w.alloc (.cells #[] 43)).ownsRow w.heap.size 43 3 (.slice (some ⟨w.heap.size, 0, none⟩) 0 0) 0 [] := by
    simpa using own_new3 (base := w.heap.size) (n := 0) (w := w) #[] 43 (Nat.le_refl _) rfl (by omega)
  have hb0 : Below w.heap.size w (w.alloc (.cells #[] 43)) := (Below.refl _ _).alloc (Nat.le_refl _) _
  obtain ⟨us, h1, h2, h3⟩ := hx
  have hlen := h1.len
  have h1 := h1.below hb0
  have HC := Lib.hid (sl3_cells h1)
  have HU := Lib.hid (cells3_all (F := F) h2 h3)
  have H3 := Lib.hid h3
  have H2 := Lib.hid h2
  have hcl : (cells3 us).length = n * 3 := by
    have : ∀ l : List (Value × Value × Value), (cells3 l).length = l.length * 3 := by
      intro l
      induction l with
      | nil => rfl
      | cons u r ih => simp only [cells3, List.flatMap_cons, List.length_append, List.length_cons, List.length_nil] at ih ⊢; omega
    rw [this, ← hlen.1]
  have HN : Hid (n = us.length) := Lib.hid hlen.1
  have HB0 := Lib.hid hb0
  clear h1 h2 h3 hlen hb0
  go_enter Tryz.func16, Tryz.ntmps16
  go_wp2_with (at_builtin; go_loud (refine wpList_pushAll3 rfl _ _ 27 rfl 43 (.agg #[.int .i64 0, .int .i64 0, .slice none 0 0]) 40 Tryz.underlying27 HI3.out rfl w.heap.size (.slice (some ⟨w.heap.size, 0, none⟩) 0 0) 0 [] _ ad n c (cells3 us) rfl rfl hown hcl HC.out HU.out (by omega) (by omega) (by simp) ?_); intro v' w' hown' hg' hat; have HO := Lib.hid hown'; have HG := Lib.hid hg'; have HA := Lib.hid hat; clear hown' hg' hown hat)
  go_ret
  have ho := HO.out
  rw [List.nil_append, Nat.zero_add] at ho
  have hgr : (w.alloc (.cells #[] 43)).grownBy w' (some w.heap.size) := HG.out
  have hbl : Below w.heap.size w w' := HB0.out.grown hgr (by simp) fun k hk => by injection hk with hk; omega
  refine ⟨v', rfl, ?_, hbl⟩
  refine ⟨us, ?_, H2.out, fun j u p hu hp => ?_⟩
  · rcases ho.2 with ⟨rfl, h0⟩ | ⟨g, cap, cur, rfl, hb, _⟩
    · have : us = [] := List.eq_nil_of_length_eq_zero (by rw [← HN.out]; exact h0)
      subst this
      exact ⟨none, 0, rfl, by simp, fun j u hu => by simp at hu⟩
    · refine ⟨some ⟨g, 0, none⟩, cap, by rw [← HN.out], by rw [← HN.out]; omega, fun j u hu => ⟨g, 0, rfl, .inr hb, ?_⟩⟩
      have hc := ho.cells (g := g) rfl
      obtain ⟨e1, e2, e3⟩ := cells3_get us j u hu
      have f1 := hc _ _ e1
      have f2 := hc _ _ e2
      have f3 := hc _ _ e3
      rw [add_at] at f1 f2 f3
      rw [Nat.zero_add] at f1 f2 f3 ⊢
      exact ⟨f1, f2, f3⟩
  · obtain ⟨q1, q2, q3, q4⟩ := H3.out j u p hu hp
    exact ⟨q1, q2, ((q3.lt).move fun b hb _ => hbl.block b hb.2).mono fun b hb => .inl hb.1, q4⟩
theorem make_any (V B B0 : Nat) : ∀ k, MakeOk V B B0 k
  | 0 => make_step V B B0 0 fun j h => by omega
  | k + 1 => make_step V B B0 (k + 1) fun j h => by
    obtain rfl : k = j := by omega
    exact make_any V B B0 k
theorem chk_prefix (V : Int) : ∀ (ps qs : List Part) (ms : List Nat), (checkedGo V (ps ++ qs) ms).1 = 0 → (checkedGo V ps ms).1 = 0
  | [], _, _, _ => rfl
  | p :: r, qs, ms, h => by
    rw [List.cons_append] at h
    simp only [checkedGo] at h ⊢
    by_cases h1 : shapedM p V ≠ 0
    · rw [if_pos h1] at h; exact absurd h h1
    rw [if_neg h1] at h ⊢
    by_cases h2 : (p.kids.any fun k => decide (k < 0 ∨ (ms.length : Int) ≤ k)) = true
    · rw [if_pos h2] at h; cases h
    rw [if_neg h2] at h ⊢
    cases hm : maskM p ms with
    | none => rw [hm] at h; cases h
    | some m =>
      rw [hm] at h
      simp only at h ⊢
      exact chk_prefix V r qs _ h
/-- what Compile's parts are -/
def Made (V : Nat) (cs : List (List Int)) (ps : List Part) : Prop := (checkedM ⟨V, ps⟩).1 = 0 ∧ (∀ inp, evalM ps inp = evR (fI inp) cs) ∧ ps.length ≤ 10000
theorem made_of {V i : Nat} {cs : List (List Int)} {ps : List Part} (ho : PsOk V ps) (hm : Meets V ps cs i) (hV : V ≤ 40) (hl : ps.length ≤ 10000) : Made V cs (ps.take (i + 1)) := by
  have hlt := hm.1
  have hle : (ps.take (i + 1)).length = i + 1 := by rw [List.length_take]; omega
  have e := ho.ok
  rw [← List.take_append_drop (i + 1) ps] at e
  refine ⟨?_, fun inp => ?_, by omega⟩
  · unfold checkedM
    rw [if_neg (by show ¬ ((V : Int) < 0); omega), if_neg (by show ¬ (40 < (V : Int) ∨ 16384 < (ps.take (i + 1)).length); omega), if_neg (by show ¬ (ps.take (i + 1)).length = 0; omega)]
    exact chk_prefix V _ _ _ e
  · unfold evalM
    rw [hle]
    have h := hm.2.1 inp
    rw [← List.take_append_drop (i + 1) ps, eval_app, eval_pre inp _ _ i (by rw [eval_len, hle]; simp)] at h
    exact h
def varsL (V : Nat) : List Int := (List.range V).map fun (i : Nat) => (i : Int) + 1
theorem vars_vs {V : Nat} {keep : Int} {cs : List (List Int)} (h : checkM V keep cs = 0) : Vs (varsL V) cs := by
  unfold checkM at h
  split at h
  · cases h
  split at h
  · cases h
  split at h
  · cases h
  rename_i h3
  intro c hc x hx
  have h4 : (cs.any fun c => c.any (outB V)) = false := by simpa using h3
  have h5 := List.any_eq_false.1 (by simpa using List.any_eq_false.1 h4 c hc : c.any (outB V) = false) x hx
  unfold outB at h5
  simp only [Bool.or_eq_true, decide_eq_true_eq, not_or] at h5
  refine ⟨h5.1, ?_⟩
  have h6 := h5.2
  unfold varsL
  rw [List.mem_map]
  refine ⟨(varM x - 1).toNat, List.mem_range.2 ?_, ?_⟩ <;> (unfold varM at h6 ⊢; split at h6 <;> split <;> omega)
/-- what Compile hands back -/
def CompPost (W : World) (vars keep : Int) (cs : List (List Int)) (e : Ending) (w' : World) : Prop :=
  ∃ (d : Int) (pv : Value) (ps : List Part) (code : Int), e = .returned (.tuple #[.agg #[.int .i64 d, pv], .int .i64 code]) ∧ Parts (fun _ => True) w' pv ps ∧ Below W.heap.size W w' ∧ I64 d ∧
    Hid ((checkM vars keep cs ≠ 0 → code = checkM vars keep cs) ∧ (checkM vars keep cs = 0 → keep ≠ vars → code = 2) ∧ (checkM vars keep cs = 0 → keep = vars → code = 0 ∧ d = vars ∧ Made vars.toNat cs ps))
set_option maxRecDepth 100000 in
set_option maxHeartbeats 16000000 in
theorem compile_any (F : Nat → Prop) (B0 : Nat) (vars keep : Int) (cv : Value) (cs : List (List Int)) (w : World) (hx : Clss F w cv cs) (hv : I64 vars) (hk : I64 keep) (h8 : vars ≤ 8) (hl : cs.length ≤ 30) (hll : ∀ c ∈ cs, c.length ≤ 10) (ht : TabT B0 w) (hB0 : B0 ≤ w.heap.size) :
    Calls Tryz.prog 5 #[.agg #[.int .i64 vars, .int .i64 keep, cv]] w (CompPost w vars keep cs) := by
  obtain ⟨ca, cn, cc, rfl, HCN, _⟩ := hx.form'
  obtain ⟨D, hD⟩ : ∃ b, w.heap.size = b := ⟨_, rfl⟩
  obtain ⟨W1, hW1⟩ : ∃ W, (w.alloc (.cells #[.int .i64 vars, .int .i64 keep, .slice ca cn cc] 24)).alloc (.cells #[.int .i64 0, .slice none 0 0] 29) = W := ⟨_, rfl⟩
  have hb1 : Below w.heap.size w W1 := by rw [← hW1]; exact ((Below.refl _ _).alloc (Nat.le_refl _) _).alloc (by simp) _
  have hs1 : W1.heap.size = D + 2 := by rw [← hW1]; simp; omega
  have hr0 : W1.heap[D]? = some (.cells #[.int .i64 vars, .int .i64 keep, .slice ca cn cc] 24) := by rw [← hW1]; exact old_at _ _ _ (new_at' _ _ hD.symm)
  have hr1 : W1.heap[D + 1]? = some (.cells #[.int .i64 0, .slice none 0 0] 29) := by rw [← hW1]; exact new_at' _ _ (by simp; omega)
  have c0 : W1.cell? ⟨D, 0, none⟩ = some (.int .i64 vars) := by rw [cell_of_row _ _ _ _ _ _ hr0]; rfl
  have c1 : W1.cell? ⟨D, 1, none⟩ = some (.int .i64 keep) := by rw [cell_of_row _ _ _ _ _ _ hr0]; rfl
  have c2 : W1.cell? ⟨D, 2, none⟩ = some (.slice ca cn cc) := by rw [cell_of_row _ _ _ _ _ _ hr0]; rfl
  have HE : Hid (∀ wx, Below W1.heap.size W1 wx → wx.cell? ⟨D + 1, 0, none⟩ = some (.int .i64 0) ∧ wx.cell? ⟨D + 1, 1, none⟩ = some (.slice none 0 0) ∧ wx.frozen? ⟨D + 1, 0, none⟩ = false ∧ wx.frozen? ⟨D + 1, 1, none⟩ = false) := Lib.hid fun wx hb =>
    ⟨below_c hb (by omega) (by rw [cell_of_row _ _ _ _ _ _ hr1]; rfl), below_c hb (by omega) (by rw [cell_of_row _ _ _ _ _ _ hr1]; rfl), below_z hb (by omega) (by simp only [World.frozen?, hr1]; simp), below_z hb (by omega) (by simp only [World.frozen?, hr1]; simp)⟩
  obtain ⟨E, hE⟩ : ∃ E, checkM vars keep cs = E := ⟨_, rfl⟩
  have HCK := Lib.hid (check_any F vars keep _ cs W1 (Clss.below hx hb1) hv hk)
  rw [hE] at HCK
  have HX := Lib.hid (Clss.below hx hb1)
  have HB1 := Lib.hid hb1
  have HT1 := Lib.hid (ht.below hb1 hB0)
  have HBAD : Hid (∀ (code : Int) (wx : World), Below W1.heap.size W1 wx → (E ≠ 0 → code = E) → (E = 0 → keep ≠ vars → code = 2) → (E = 0 → keep = vars → False) → CompPost w vars keep cs (.returned (.tuple #[.agg #[.int .i64 0, .slice none 0 0], .int .i64 code])) ((wx.setCell ⟨D + 1, 0, none⟩ (.int .i64 0)).setCell ⟨D + 1, 1, none⟩ (.slice none 0 0))) := Lib.hid fun code wx hb h1 h2 h3 =>
    ⟨0, _, [], code, rfl, Parts.nil _ _, ((hb1.trans (hb.mono hb1.size)).setCell (by show w.heap.size ≤ D + 1; omega) _).setCell (by show w.heap.size ≤ D + 1; omega) _, by unfold I64; omega, Lib.hid (by rw [hE]; exact ⟨h1, h2, fun a b => (h3 a b).elim⟩)⟩
  have HW1 := Lib.hid hW1
  have HDD := Lib.hid hD
  have HEE := Lib.hid hE
  have HLL := Lib.hid hll
  have HL := Lib.hid hl
  have hB0D : B0 ≤ D := by omega
  have HVI := Lib.hid hv
  clear hx hb1 hr0 hr1 hW1 hD hE hll hl ht hB0 hv hk
  go_enter Tryz.func5, Tryz.ntmps5
  go_upto_region 1 with fail
  try rw [HW1.out, HDD.out]
  clear HW1
  go_wp2_with fail
  refine HCK.out.mono ?_
  rintro e w2 ⟨rfl, hb2⟩
  have HB2 : Hid (Below W1.heap.size W1 w2) := Lib.hid hb2
  have c0 := below_c hb2 (by omega) c0
  have c1 := below_c hb2 (by omega) c1
  have c2 := below_c hb2 (by omega) c2
  have HX2 := Lib.hid (Clss.below HX.out hb2)
  have HT2 := Lib.hid (HT1.out.below hb2 (by omega))
  clear hb2 HCK HX HT1
  by_cases hE0 : E = 0
  case neg =>
    have hne : (E != 0) = true := by simp; exact hE0
    obtain ⟨q0, q1, q2, q3⟩ := HE.out w2 HB2.out
    have HF := Lib.hid (HBAD.out E w2 HB2.out (fun _ => rfl) (fun h => absurd h hE0) (fun h => absurd h hE0))
    clear hE0 HE HBAD
    go_wp2_with fail
    have v0 : ((w2.setCell ⟨D + 1, 0, none⟩ (.int .i64 0)).setCell ⟨D + 1, 1, none⟩ (.slice none 0 0)).cell? ⟨D + 1, 0, none⟩ = some (.int .i64 0) := set_ne (.inr (by omega)) (set_eq q0)
    have v1 : ((w2.setCell ⟨D + 1, 0, none⟩ (.int .i64 0)).setCell ⟨D + 1, 1, none⟩ (.slice none 0 0)).cell? ⟨D + 1, 1, none⟩ = some (.slice none 0 0) := set_eq (set_ne (.inr (by omega)) q1)
    refine bodyPost_ret (v := .tuple #[.agg #[.int .i64 0, .slice none 0 0], .int .i64 E]) (by simp [results, Tryz.results5, go_sem, v0, v1]) rfl ?_
    exact HF.out
  subst hE0
  by_cases hkv : keep = vars
  case neg =>
    have hne : (keep != vars) = true := by simp; exact hkv
    obtain ⟨q0, q1, q2, q3⟩ := HE.out w2 HB2.out
    have HF := Lib.hid (HBAD.out 2 w2 HB2.out (fun h => absurd rfl h) (fun _ _ => rfl) (fun _ h => absurd h hkv))
    clear hkv HE HBAD
    go_wp2_with fail
    have v0 : ((w2.setCell ⟨D + 1, 0, none⟩ (.int .i64 0)).setCell ⟨D + 1, 1, none⟩ (.slice none 0 0)).cell? ⟨D + 1, 0, none⟩ = some (.int .i64 0) := set_ne (.inr (by omega)) (set_eq q0)
    have v1 : ((w2.setCell ⟨D + 1, 0, none⟩ (.int .i64 0)).setCell ⟨D + 1, 1, none⟩ (.slice none 0 0)).cell? ⟨D + 1, 1, none⟩ = some (.slice none 0 0) := set_eq (set_ne (.inr (by omega)) q1)
    refine bodyPost_ret (v := .tuple #[.agg #[.int .i64 0, .slice none 0 0], .int .i64 2]) (by simp [results, Tryz.results5, go_sem, v0, v1]) rfl ?_
    exact HF.out
  subst hkv
  have hck : 0 ≤ keep := by
    have h := HEE.out
    unfold checkM at h
    split at h
    · cases h
    · omega
  obtain ⟨V, rfl⟩ : ∃ V : Nat, keep = V := ⟨keep.toNat, by omega⟩
  have hV8 : V ≤ 8 := by omega
  have hkk : ((V : Int) != V) = false := by simp
  have hd40 : decide ((40 : Int) < V) = false := decide_eq_false (by omega)
  have hd40' : decide (40 < V) = false := decide_eq_false (by omega)
  have hmm := @run_makeMap Tryz.prog
  obtain ⟨G, hG⟩ : ∃ G, w2.heap.size = G := ⟨_, rfl⟩
  have hDG : D + 2 ≤ G := by rw [← hG, ← hs1]; exact HB2.out.size
  obtain ⟨W3, hW3⟩ : ∃ W, ((w2.alloc (.cells #[.int .i64 1, .int .i64 0, .slice none 0 0, .int .i64 0, .int .i64 0, .slice none 0 0] 43)).alloc (.map #[] 0)).alloc (.cells #[.slice (some ⟨G, 0, none⟩) 2 2, .map (some (G + 1)), .int .i64 0] 49) = W := ⟨_, rfl⟩
  have hb3 : Below w2.heap.size w2 W3 := by rw [← hW3]; exact (((Below.refl _ _).alloc (Nat.le_refl _) _).alloc (by simp) _).alloc (by simp; omega) _
  have hr3 : W3.heap[G + 2]? = some (.cells #[.slice (some ⟨G, 0, none⟩) 2 2, .map (some (G + 1)), .int .i64 0] 49) := by rw [← hW3]; exact new_at' _ _ (by simp; omega)
  have hs3 : W3.heap.size = G + 3 := by rw [← hW3]; simp; omega
  have HS3 : Hid (CoS V G W3 (G + 2) (G + 1) (.slice (some ⟨G, 0, none⟩) 2 2) [pFalse, pTrue] 0 0) := Lib.hid (by
    have hown := own_new3 (base := G) (n := 2) (w := w2) #[.int .i64 1, .int .i64 0, .slice none 0 0, .int .i64 0, .int .i64 0, .slice none 0 0] 43 (by omega) rfl (by omega)
    rw [hG] at hown
    refine ⟨by rw [cell_of_row _ _ _ _ _ _ hr3]; rfl, by rw [cell_of_row _ _ _ _ _ _ hr3]; rfl, by rw [cell_of_row _ _ _ _ _ _ hr3]; rfl, fun o => by simp only [World.frozen?, hr3]; simp, ⟨[(.int .i64 1, .int .i64 0, .slice none 0 0), (.int .i64 0, .int .i64 0, .slice none 0 0)], ?_, rfl, fun q u p hu hp => ?_⟩, ?_, ⟨by omega, fun e => by simp only [Value.ownBlock] at e; injection e with e; omega, fun e => by simp only [Value.ownBlock] at e; injection e with e; omega⟩, ⟨by omega, by omega, by omega⟩, two_ok V⟩
    · rw [← hW3]
      exact (hown.alloc _).alloc _
    · match q, hu, hp with
      | 0, hu, hp => simp at hu hp; subst hu hp; exact ⟨rfl, rfl, Ints.nil _ _, by show I64 (1 : Int); unfold I64; omega, by show I64 (0 : Int); unfold I64; omega⟩
      | 1, hu, hp => simp at hu hp; subst hu hp; exact ⟨rfl, rfl, Ints.nil _ _, by show I64 (0 : Int); unfold I64; omega, by show I64 (0 : Int); unfold I64; omega⟩
    · have hm := World.ownsMap_made (H := Unit) (w2.alloc (.cells #[.int .i64 1, .int .i64 0, .slice none 0 0, .int .i64 0, .int .i64 0, .slice none 0 0] 43)) (P := Tryz.prog) 9 (plainElem Tryz.prog 3)
      have hs : (w2.alloc (.cells #[.int .i64 1, .int .i64 0, .slice none 0 0, .int .i64 0, .int .i64 0, .slice none 0 0] 43)).heap.size = G + 1 := by simp; omega
      rw [hs] at hm
      refine ⟨_, ?_, Maps.isMap_empty, fun l _ hl => by simp [Maps.has] at hl⟩
      rw [← hW3]
      exact hm.kept (World.grownBy_alloc _ _ none) (by simp))
  have HB3 : Hid (Below W1.heap.size W1 W3) := Lib.hid (HB2.out.trans (hb3.mono HB2.out.size))
  have c0 := below_c hb3 (by omega) c0
  have c2 := below_c hb3 (by omega) c2
  have hcl3 : Clss (Apart (G + 2) (G + 1) (.slice (some ⟨G, 0, none⟩) 2 2)) W3 (.slice ca cn cc) cs := clss_mono (Clss.below (clss_and HX2.out) hb3) fun b hb => ⟨by omega, by omega, fun e => by simp only [Value.ownBlock] at e; injection e with e; omega⟩
  have HT3 := HT2.out.below hb3 (by omega)
  have hp1 : 2 ^ V ≤ 2 ^ 8 := Nat.pow_le_pow_right (by omega) hV8
  have hp2 : 2 ^ (V + 1) ≤ 2 ^ 9 := Nat.pow_le_pow_right (by omega) (by omega)
  have hvl : (varsL V).length = V := by simp [varsL]
  have HMK := Lib.hid (make_any V G B0 V (varsL V) cs _ W3 (G + 2) (G + 1) _ [pFalse, pTrue] 0 0 ⟨HS3.out, hcl3, HT3, by omega, hvl, vars_vs HEE.out, fun v hv => by
    unfold varsL at hv
    obtain ⟨i, hi, rfl⟩ := List.mem_map.1 hv
    have := List.mem_range.1 hi
    omega, by omega, by have := HL.out; omega, fun c hc => by have := HLL.out c hc; omega, by omega, by show 2 + 2 ^ V ≤ 10000; omega, by omega⟩)
  have HW3 := Lib.hid hW3
  have HGG := Lib.hid hG
  have HS3S := Lib.hid hs3
  have HP12 : Hid (2 ^ V ≤ 256 ∧ 2 ^ (V + 1) ≤ 512) := Lib.hid ⟨by omega, by omega⟩
  clear hck hb3 hr3 hs3 hcl3 HT3 hp1 hp2 hvl hW3 hG HX2 HT2 HB2 HBAD
  go_upto_region 9 with fail
  try rw [HGG.out]
  try rw [HW3.out]
  go_wp2_with fail
  refine HMK.out.mono ?_
  rintro e w4 ⟨i, pv, qs, cn4, n4, rfl, hS4, hG4, hM4, hb41, hb42, _⟩
  obtain ⟨ps, hps⟩ : ∃ l, [pFalse, pTrue] ++ qs = l := ⟨_, rfl⟩
  rw [hps] at hS4 hM4 hb42
  have HS4 := Lib.hid hS4
  have HM4 := Lib.hid hM4
  have HB43 : Hid (Below G W3 w4) := Lib.hid (HS3.out.under hG4)
  have hcn4 : cn4 ≤ 10000 := by have := HP12.out; omega
  have hpl4 : ps.length ≤ 10000 := by have := HP12.out; have h2 : ([pFalse, pTrue] : List Part).length = 2 := rfl; omega
  have HOV := Lib.hid (over_any V G (G + 2) (G + 1) pv ps cn4 n4 w4 hS4 (by omega) (by omega))
  have c0 := below_c HB43.out (by omega) c0
  have HB4 : Hid (Below W1.heap.size W1 w4) := Lib.hid (HB3.out.trans (HB43.out.mono (by omega)))
  clear hS4 hG4 hM4 hb41 hb42 hps HMK HB43
  go_wp2_with fail
  refine HOV.out.mono ?_
  rintro e w5 ⟨rfl, hww⟩
  subst hww
  obtain ⟨us, r1, r2, r3⟩ := HS4.out.rows
  have p0 := HS4.out.c0
  obtain ⟨g, cap, cur, hpv, hgb, hgh, hncap, hcapm, _⟩ : ∃ g cap cur, pv = .slice (some ⟨g, 0, none⟩) ps.length cap ∧ G ≤ g ∧ w5.heap[g]? = some (.cells cur 43 (0, 0)) ∧ ps.length ≤ cap ∧ cap ≤ maxLen ∧ True := by
    rcases r1.2 with ⟨_, h0⟩ | ⟨g, cap, cur, a1, a2, a3, a4, a5, _⟩
    · have := HM4.out.1; omega
    · exact ⟨g, cap, cur, a1, a2, a3, a4, a5, trivial⟩
  subst hpv
  obtain ⟨N, hN⟩ : ∃ N, ps.length = N := ⟨_, rfl⟩
  have hiN : i < N := by rw [← hN]; exact HM4.out.1
  rw [hN] at p0 hncap hpl4
  have hmaxl : cap ≤ 9223372036854775807 := by unfold maxLen at hcapm; omega
  clear hcapm
  have hib : (-9223372036854775808 : Int) ≤ (i : Int) + 1 ∧ (i : Int) + 1 ≤ 9223372036854775807 := ⟨by omega, by omega⟩
  have g1 : (0 : Int) ≤ (i : Int) + 1 := by omega
  have g2 : (i : Int) + 1 ≤ cap := by omega
  have HMD := Lib.hid (made_of HS4.out.ok HM4.out (by omega) (by omega))
  have HPT : Hid (Parts (fun b => G ≤ b) w5 (.slice (some ⟨g, 0, none⟩) (i + 1) cap) (ps.take (i + 1))) := Lib.hid (by
    have hc := r1.cells (g := g) rfl
    refine ⟨us.take (i + 1), ⟨some ⟨g, 0, none⟩, cap, by rw [List.length_take]; congr 1; omega, by rw [List.length_take]; omega, fun q u hu => ⟨g, 0, rfl, hgb, ?_⟩⟩, by rw [List.length_take, List.length_take, r2], fun q u p hu hp => ?_⟩
    · have hu2 : us[q]? = some u := by rw [List.getElem?_take] at hu; split at hu; exact hu; cases hu
      obtain ⟨e1, e2, e3⟩ := cells3_get us q u hu2
      have f1 := hc _ _ e1
      have f2 := hc _ _ e2
      have f3 := hc _ _ e3
      rw [add_at] at f1 f2 f3
      rw [Nat.zero_add] at f1 f2 f3 ⊢
      exact ⟨f1, f2, f3⟩
    · have hu2 : us[q]? = some u := by rw [List.getElem?_take] at hu; split at hu; exact hu; cases hu
      have hp2 : ps[q]? = some p := by rw [List.getElem?_take] at hp; split at hp; exact hp; cases hp
      obtain ⟨z1, z2, z3, z4⟩ := r3 q u p hu2 hp2
      exact ⟨z1, z2, z3.mono fun b hb => hb.2.2.2.2, z4⟩)
  have HCL : Hid (∀ wx, Below w5.heap.size w5 wx → Calls Tryz.prog 16 #[.slice (some ⟨g, 0, none⟩) (i + 1) cap] wx (ClonePPost (fun b => G ≤ b) wx (ps.take (i + 1)))) := Lib.hid fun wx hb => clonep_any (fun b => G ≤ b) ⟨g, 0, none⟩ (i + 1) cap _ wx (HPT.out.below hb) (by omega)
  obtain ⟨q0, q1, q2, q3⟩ := HE.out w5 HB4.out
  have hwi : wrap64 ((i : Int) + 1) = (i : Int) + 1 := IntWalk.wrap64_in _ hib
  have hwi' : IntKind.i64.wrap ((i : Int) + 1) = (i : Int) + 1 := IntWalk.i64_in _ hib
  have HWI := Lib.hid hib
  clear hgh r1 r2 r3 HOV hN hib
  go_upto_region 12 with fail
  have HSG : Hid (G ≤ w5.heap.size ∧ w5.drew.heap.size = w5.heap.size) := Lib.hid ⟨HS4.out.low.2.2, rfl⟩
  have HDR : Hid (Below w5.heap.size w5 w5.drew) := Lib.hid (Below.refl _ _).drew
  refine wp_region_held_drew (S := fun w' => w'.cell? ⟨D, 0, none⟩ = some (.int .i64 V) ∧ w'.cell? ⟨G + 2, 0, none⟩ = some (.slice (some ⟨g, 0, none⟩) N cap)) (by kernel_rfl) (by exact ⟨c0, p0⟩) (fun hHeld => ?_)
  refine wpAnyH_take (i := 0) (v := ?_) rfl (by kernel_rfl) (by kernel_rfl) (by kernel_rfl) (fun _ _ _ h => h) (Or.inl ⟨by rfl, ?_⟩) (by assumption) ?_
  rotate_left
  · intro w hSw
    try dsimp only at hSw
    go_simp
    try with_reducible rfl
  try simp only [Act.put, List.getElem_toArray, List.getElem_cons_succ, List.getElem_cons_zero, List.setIfInBounds_toArray, List.set_cons_zero, List.set_cons_succ]
  refine wpAnyH_take (i := 1) (v := ?_) rfl (by kernel_rfl) (by kernel_rfl) (by kernel_rfl) (fun _ _ _ h => h) (Or.inl ⟨by rfl, ?_⟩) (by assumption) ?_
  rotate_left
  · intro w hSw
    try dsimp only at hSw
    go_simp
    try with_reducible rfl
  try simp only [Act.put, List.getElem_toArray, List.getElem_cons_succ, List.getElem_cons_zero, List.setIfInBounds_toArray, List.set_cons_zero, List.set_cons_succ]
  refine wpAnyH_take (i := 2) (v := ?_) rfl (by kernel_rfl) (by kernel_rfl) (by kernel_rfl) (fun _ _ _ h => h) (Or.inl ⟨by rfl, ?_⟩) (by assumption) ?_
  rotate_left
  · intro w hSw
    try dsimp only at hSw
    go_simp
    try with_reducible rfl
  try simp only [Act.put, List.getElem_toArray, List.getElem_cons_succ, List.getElem_cons_zero, List.setIfInBounds_toArray, List.set_cons_zero, List.set_cons_succ]
  refine wpAnyH_take (i := 3) (v := ?_) rfl (by kernel_rfl) (by kernel_rfl) (by kernel_rfl) (fun _ _ _ h => h) (Or.inl ⟨by rfl, ?_⟩) (by assumption) ?_
  rotate_left
  · intro w hSw
    try dsimp only at hSw
    go_simp
    try with_reducible rfl
  try simp only [Act.put, List.getElem_toArray, List.getElem_cons_succ, List.getElem_cons_zero, List.setIfInBounds_toArray, List.set_cons_zero, List.set_cons_succ]
  refine wpAnyH_take (i := 4) (v := ?_) rfl (by kernel_rfl) (by kernel_rfl) (by kernel_rfl) (fun _ _ _ h => h) (Or.inl ⟨by rfl, ?_⟩) (by assumption) ?_
  rotate_left
  · intro w hSw
    try dsimp only at hSw
    go_simp
    try with_reducible rfl
  try simp only [Act.put, List.getElem_toArray, List.getElem_cons_succ, List.getElem_cons_zero, List.setIfInBounds_toArray, List.set_cons_zero, List.set_cons_succ]
  refine wpAnyH_take (i := 5) (v := ?_) rfl (by kernel_rfl) (by kernel_rfl) (by kernel_rfl) (fun _ _ _ h => h) (Or.inl ⟨by rfl, ?_⟩) (by assumption) ?_
  rotate_left
  · intro w hSw
    try dsimp only at hSw
    go_simp
    try with_reducible rfl
  try simp only [Act.put, List.getElem_toArray, List.getElem_cons_succ, List.getElem_cons_zero, List.setIfInBounds_toArray, List.set_cons_zero, List.set_cons_succ]
  refine wpAnyH_take (i := 6) (v := ?_) rfl (by kernel_rfl) (by kernel_rfl) (by kernel_rfl) (fun _ _ _ h => h) (Or.inl ⟨by rfl, ?_⟩) (by assumption) ?_
  rotate_left
  · intro w hSw
    try dsimp only at hSw
    go_simp
    try with_reducible rfl
  try simp only [Act.put, List.getElem_toArray, List.getElem_cons_succ, List.getElem_cons_zero, List.setIfInBounds_toArray, List.set_cons_zero, List.set_cons_succ]
  refine wpAnyH_take (i := 7) (v := ?_) rfl (by kernel_rfl) (by kernel_rfl) (by kernel_rfl) (fun _ _ _ h => h) (Or.inl ⟨by rfl, ?_⟩) (by assumption) ?_
  rotate_left
  · intro w hSw
    try dsimp only at hSw
    go_simp
    try with_reducible rfl
  try simp only [Act.put, List.getElem_toArray, List.getElem_cons_succ, List.getElem_cons_zero, List.setIfInBounds_toArray, List.set_cons_zero, List.set_cons_succ]
  refine wpAnyH_take (i := 8) (v := ?_) rfl (by kernel_rfl) (by kernel_rfl) (by kernel_rfl) (fun _ _ _ h => h) (Or.inl ⟨by rfl, ?_⟩) (by assumption) ?_
  rotate_left
  · intro w hSw
    try dsimp only at hSw
    go_simp
    try with_reducible rfl
  try simp only [Act.put, List.getElem_toArray, List.getElem_cons_succ, List.getElem_cons_zero, List.setIfInBounds_toArray, List.set_cons_zero, List.set_cons_succ]
  refine wpAnyH_ready (rs := [9]) (by kernel_rfl) (by simp) ?_
  refine AllReadyH.cons rfl (fun K hK => ?_) AllReadyH.nil
  go_simp
  go_at_call 16
  (with_reducible refine (HCL.out _ HDR.out).mono ?_)
  rintro e w6 ⟨rv, rfl, hrp, hb6⟩
  obtain ⟨ra, rc, rfl, _⟩ := hrp.form
  obtain ⟨rn, hrn⟩ : ∃ n, (ps.take (i + 1)).length = n := ⟨_, rfl⟩
  rw [hrn] at hrp
  try rw [hrn]
  have HRP := Lib.hid hrp
  have hb56 : Below w5.heap.size w5 w6 := HDR.out.trans (hb6.mono HDR.out.size)
  have HB6 : Hid (Below W1.heap.size W1 w6) := Lib.hid (HB4.out.trans (hb56.mono HB4.out.size))
  have c0 := below_c hb56 (block_lt c0) c0
  have p0 := below_c hb56 (block_lt p0) p0
  obtain ⟨q0, q1, q2, q3⟩ := HE.out w6 HB6.out
  clear hb6 hb56 hrn
  go_wp2_with fail
  refine hK.out _ _ (by exact ⟨c0, p0⟩) (fun _ => ?_)
  clear hK K
  try simp only [Act.put, List.getElem_toArray, List.getElem_cons_succ, List.getElem_cons_zero, List.setIfInBounds_toArray, List.set_cons_zero, List.set_cons_succ]
  refine wpAnyH_take (i := 10) (v := ?_) rfl (by kernel_rfl) (by kernel_rfl) (by kernel_rfl) (fun _ _ _ h => h) (Or.inl ⟨by rfl, ?_⟩) (by assumption) ?_
  rotate_left
  · intro w hSw
    try dsimp only at hSw
    go_simp
    try with_reducible rfl
  try simp only [Act.put, List.getElem_toArray, List.getElem_cons_succ, List.getElem_cons_zero, List.setIfInBounds_toArray, List.set_cons_zero, List.set_cons_succ]
  refine wpAnyH_ready (rs := [11]) (by kernel_rfl) (by simp) ?_
  refine AllReadyH.cons rfl (fun K hK => ?_) AllReadyH.nil
  have v0 : ((w6.setCell ⟨D + 1, 0, none⟩ (.int .i64 V)).setCell ⟨D + 1, 1, none⟩ (.slice ra rn rc)).cell? ⟨D + 1, 0, none⟩ = some (.int .i64 V) := set_ne (.inr (by omega)) (set_eq q0)
  have v1 : ((w6.setCell ⟨D + 1, 0, none⟩ (.int .i64 V)).setCell ⟨D + 1, 1, none⟩ (.slice ra rn rc)).cell? ⟨D + 1, 1, none⟩ = some (.slice ra rn rc) := set_eq (set_ne (.inr (by omega)) q1)
  go_simp
  refine hK.out _ _ (by exact ⟨set_ne (.inl (by omega)) (set_ne (.inl (by omega)) c0), set_ne (.inl (by omega)) (set_ne (.inl (by omega)) p0)⟩) (fun _ => ?_)
  clear hK K
  try simp only [Act.put, List.getElem_toArray, List.getElem_cons_succ, List.getElem_cons_zero, List.setIfInBounds_toArray, List.set_cons_zero, List.set_cons_succ]
  refine wpAnyH_take (i := 12) (v := ?_) rfl (by kernel_rfl) (by kernel_rfl) (by kernel_rfl) (fun _ _ _ h => h) (Or.inl ⟨by rfl, ?_⟩) (by assumption) ?_
  rotate_left
  · intro w hSw
    try dsimp only at hSw
    go_simp
    try with_reducible rfl
  try simp only [Act.put, List.getElem_toArray, List.getElem_cons_succ, List.getElem_cons_zero, List.setIfInBounds_toArray, List.set_cons_zero, List.set_cons_succ]
  refine wpAnyH_done (by kernel_rfl) ?_ _
  have HF : Hid (CompPost w V V cs (.returned (.tuple #[.agg #[.int .i64 V, .slice ra rn rc], .int .i64 0])) ((w6.setCell ⟨D + 1, 0, none⟩ (.int .i64 V)).setCell ⟨D + 1, 1, none⟩ (.slice ra rn rc))) := Lib.hid
    ⟨V, _, ps.take (i + 1), 0, rfl, (HRP.out.move fun b hb _ => (set_heap (show b ≠ D + 1 by have := HSG.out; rcases hb with h | h <;> omega)).trans (set_heap (show b ≠ D + 1 by have := HSG.out; rcases hb with h | h <;> omega))).mono fun _ _ => trivial, ((HB1.out.trans (HB6.out.mono HB1.out.size)).setCell (by show w.heap.size ≤ D + 1; rw [HDD.out]; omega) _).setCell (by show w.heap.size ≤ D + 1; rw [HDD.out]; omega) _, by unfold I64; omega, Lib.hid ⟨fun h => absurd HEE.out h, fun _ h => absurd rfl h, fun _ _ => ⟨rfl, rfl, by simpa using HMD.out⟩⟩⟩
  go_wp2_with fail
  refine bodyPost_ret (v := .tuple #[.agg #[.int .i64 V, .slice ra rn rc], .int .i64 0]) (by simp [results, Tryz.results5, go_sem, v0, v1]) rfl ?_
  exact HF.out
end Go.Proofs.YteadlkecngfcoaaGreatDoor
