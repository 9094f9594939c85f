/- Walks: bdd.lay, slices.Equal of forks, bdd.Check. No condition but that lay's model ends. -/
import Derived.Test.YteadlkecngfcoaaGreatQc
import Derived.Laws.EntriesVeiled
namespace Go.Proofs.YteadlkecngfcoaaGreat
open Go.ChangeShapes Go.WideShapes Go.ChangeAt Go.RowKit
set_option linter.unusedVariables false

theorem Forks.lt {F : Nat → Prop} {w : World} {v : Value} {ns : List Fork} (h : Forks F w v ns) : Forks (fun b => F b ∧ b < w.heap.size) w v ns := by
  obtain ⟨⟨a, cap, rfl, hl, hc⟩, h2⟩ := h
  exact ⟨⟨a, cap, rfl, hl, fun j u hu => let ⟨b, off, h1, h2, h3⟩ := hc j u hu; ⟨b, off, h1, ⟨h2, block_lt h3.1⟩, h3⟩⟩, h2⟩
theorem own_setCell {w : World} {base : Nat} {e : TypeId} {size : Nat} {v : Value} {n : Nat} {xs : List Value} {b o : Nat} (u : Value) (h : w.ownsRow base e size v n xs) (hb : b < base) : (w.setCell ⟨b, o, none⟩ u).ownsRow base e size v n xs :=
  h.kept (row := some b) ⟨rfl, rfl, rfl, by simp, fun k _ hk => Below.heap_setCell _ _ _ _ (fun e => hk (by rw [e]))⟩ (.inr fun e => by have := (h.lt b e).1; omega)
theorem place_new {w : World} {mb : Nat} (h : w.ownsMap Tryz.prog 3 (plainElem Tryz.prog 3) mb 2 (((DataW.map [] : DataW Unit).put (.int .i64 0) (.lit (.int .i64 0))).put (.int .i64 1) (.lit (.int .i64 1)))) : PlaceM w mb [] := by
  have hm : Maps.IsMap ((DataW.map [] : DataW Unit).put (.int .i64 0) (.lit (.int .i64 0))) := Maps.isMap_empty.put _ _
  refine ⟨_, h, hm.put _ _, fun x hx => ?_⟩
  by_cases e1 : x = 1
  · subst e1
    rw [Maps.has_put_same hm (by trivial), Maps.atKey_put_same hm (by trivial)]
    exact ⟨by simp, fun _ => by simp [plc]⟩
  have n1 : (Lit.int .i64 x) ≠ Lit.int .i64 1 := by simpa using e1
  rw [Maps.has_put_other n1, Maps.atKey_put_other n1]
  by_cases e0 : x = 0
  · subst e0
    rw [Maps.has_put_same Maps.isMap_empty (by trivial), Maps.atKey_put_same Maps.isMap_empty (by trivial)]
    exact ⟨by simp, fun _ => by simp [plc]⟩
  have n0 : (Lit.int .i64 x) ≠ Lit.int .i64 0 := by simpa using e0
  rw [Maps.has_put_other n0, Maps.atKey_put_other n0]
  exact ⟨by simp [Maps.has, e0, e1], fun h => by simp [e0, e1] at h⟩

set_option maxRecDepth 100000 in
set_option maxHeartbeats 4000000 in
theorem lay_any (F : Nat → Prop) (k : Nat) (vars root : Int) (nv : Value) (ns : List Fork) (s' : List Int × List Fork) (w : World) (hx : Forks F w nv ns) (hl : ns.length ≤ 4096) (hv : I64 vars) (hr : I64 root)
    (hg : layGo ns k ([], []) root = some s') (hs : s'.1.length ≤ 100000) :
    Calls Tryz.prog 56 #[.int .i64 vars, nv, .int .i64 root] w fun e w' => ∃ lv B, e = .returned (.agg #[.int .i64 vars, lv, .int .i64 (plc s'.1 root)]) ∧ Below w.heap.size w w' ∧ w.heap.size ≤ B ∧
      w'.ownsRow B 49 3 lv s'.2.length (s'.2.flatMap forkV) := by
  obtain ⟨a, n, c, rfl, HN, hn⟩ := hx.form
  have hmm := @run_makeMap Tryz.prog
  have HX := Lib.hid hx
  clear hx
  obtain ⟨W3, hW3⟩ : ∃ W3, (((w.alloc (.cells #[.slice a n c] 23)).alloc (.cells #[.int .i64 0, .slice none 0 0, .int .i64 0] 51)).alloc (.cells #[.int .i64 vars, .slice none 0 0, .int .i64 0] 51)) = W3 := ⟨_, rfl⟩
  have hb3 : Below w.heap.size w W3 := by rw [← hW3]; exact (((Below.refl _ _).alloc (Nat.le_refl _) _).alloc (by simp) _).alloc (by simp; omega) _
  have hs3 : W3.heap.size = w.heap.size + 1 + 1 + 1 := by rw [← hW3]; simp
  have b0 : W3.cell? ⟨w.heap.size, 0, none⟩ = some (.slice a n c) := by rw [← hW3]; exact cell_alloc _ (cell_alloc _ (by simp))
  have b1 : ∀ o v, #[Value.int .i64 0, .slice none 0 0, .int .i64 0][o]? = some v → W3.cell? ⟨w.heap.size + 1, o, none⟩ = some v := fun o v h => by rw [← hW3]; refine cell_alloc _ ?_; rw [cell_of_row _ _ _ _ _ _ (new_at' _ _ (by simp))]; exact h
  have b2 : ∀ o v, #[Value.int .i64 vars, .slice none 0 0, .int .i64 0][o]? = some v → W3.cell? ⟨w.heap.size + 1 + 1, o, none⟩ = some v := fun o v h => by rw [← hW3, cell_of_row _ _ _ _ _ _ (new_at' _ _ (by simp))]; exact h
  have f2 : ∀ o, W3.frozen? ⟨w.heap.size + 1 + 1, o, none⟩ = false := fun o => by
    rw [← hW3]
    simp only [World.frozen?, new_at' (((w.alloc (.cells #[.slice a n c] 23)).alloc (.cells #[.int .i64 0, .slice none 0 0, .int .i64 0] 51))) (.cells #[.int .i64 vars, .slice none 0 0, .int .i64 0] 51) (n := w.heap.size + 1 + 1) (by simp)]
    simp
  have f1 : ∀ o, W3.frozen? ⟨w.heap.size + 1, o, none⟩ = false := fun o => by
    rw [← hW3]
    simp only [World.frozen?, old_at _ _ _ (new_at' (w.alloc (.cells #[.slice a n c] 23)) (.cells #[.int .i64 0, .slice none 0 0, .int .i64 0] 51) (n := w.heap.size + 1) (by simp))]
    simp
  have hm0 := World.ownsMap_made (H := Unit) W3 Tryz.prog 3 (plainElem Tryz.prog 3)
  obtain ⟨w4, hr4, ho4, hg4⟩ := hm0.update law_int Tryz.underlying102 (by unfold maxLen; omega) (keyOf_i (x := 0) (by unfold I64; omega)) (plainElem_int (a := 0) Tryz.underlying3 (by decide))
  obtain ⟨w5, hr5, ho5, hg5⟩ := ho4.update law_int Tryz.underlying102 (by unfold maxLen; omega) (keyOf_i (x := 1) (by unfold I64; omega)) (plainElem_int (a := 1) Tryz.underlying3 (by decide))
  have hP := place_new ho5
  have hg5' : W3.grownBy w5 (some W3.heap.size) := (World.grownBy_alloc W3 (.map #[] 0) (some W3.heap.size)).trans (hg4.trans hg5)
  have hs5 : w.heap.size + 1 + 1 + 1 < w5.heap.size := by rw [← hs3]; exact hP.lt
  rw [hs3] at hr4 hr5 hP hg5'
  have d0 := grown_cell hg5' (fun e => by injection e with e; omega) b0
  have d2 := fun o v h => grown_cell hg5' (fun e => by injection e with e; omega) (b2 o v h)
  have d1 := fun o v h => grown_cell hg5' (fun e => by injection e with e; omega) (b1 o v h)
  have e2 := fun o => grown_froz hg5' (fun e => by injection e with e; omega) (by omega) (f2 o)
  have e1 := fun o => grown_froz hg5' (fun e => by injection e with e; omega) (by omega) (f1 o)
  have hb5 : Below w.heap.size w w5 := hb3.grown hg5' (by omega) (fun b hb => by cases hb; omega)
  have HB5 := Lib.hid hb5
  have HD := Lib.hid (And.intro d0 (And.intro d2 (And.intro d1 (And.intro e2 e1))))
  have HP := Lib.hid hP
  have HW := Lib.hid hW3
  clear hb3 hs3 b0 b1 b2 f2 f1 hm0 ho4 hg4 ho5 hg5 hP hg5' d0 d2 d1 e2 e1 hb5 hW3
  go_enter Tryz.func56, Tryz.ntmps56
  go_wp2_with fail
  rw [HW.out, hr4]
  go_wp2_with fail
  have hb7 : Below w5.heap.size w5 ((w5.alloc (.cells #[.map (some (w.heap.size + 1 + 1 + 1))] 102)).alloc (.cells #[.func (.func 75) #[] #[.pointer (some ⟨w5.heap.size, 0, none⟩), .pointer (some ⟨w.heap.size, 0, none⟩), .pointer (some ⟨w5.heap.size + 1, 0, none⟩), .pointer (some ⟨w.heap.size + 1 + 1, 0, none⟩)]] 61)) := ((Below.refl _ _).alloc (Nat.le_refl _) _).alloc (by simp) _
  obtain ⟨d0, d2, d1, e2, e1⟩ := HD.out
  obtain ⟨w7, hw7⟩ : ∃ w7, ((w5.alloc (.cells #[.map (some (w.heap.size + 1 + 1 + 1))] 102)).alloc (.cells #[.func (.func 75) #[] #[.pointer (some ⟨w5.heap.size, 0, none⟩), .pointer (some ⟨w.heap.size, 0, none⟩), .pointer (some ⟨w5.heap.size + 1, 0, none⟩), .pointer (some ⟨w.heap.size + 1 + 1, 0, none⟩)]] 61)) = w7 := ⟨_, rfl⟩
  have p0 : w7.cell? ⟨w5.heap.size, 0, none⟩ = some (.map (some (w.heap.size + 1 + 1 + 1))) := by rw [← hw7]; exact cell_alloc _ (by simp)
  have p1 : w7.cell? ⟨w5.heap.size + 1, 0, none⟩ = some (.func (.func 75) #[] #[.pointer (some ⟨w5.heap.size, 0, none⟩), .pointer (some ⟨w.heap.size, 0, none⟩), .pointer (some ⟨w5.heap.size + 1, 0, none⟩), .pointer (some ⟨w.heap.size + 1 + 1, 0, none⟩)]) := by rw [← hw7, cell_of_row _ _ _ _ _ _ (new_at' _ _ (by simp))]; rfl
  have hs7 : w7.heap.size = w5.heap.size + 1 + 1 := by rw [← hw7]; simp
  rw [hw7] at hb7 ⊢
  have hS7 : LayS w5.heap.size w.heap.size (w5.heap.size + 1) (w.heap.size + 1 + 1) (w.heap.size + 1 + 1 + 1) (w5.heap.size + 1 + 1) (.int .i64 vars) (.int .i64 0) (.slice a n c) w7 [] [] (.slice none 0 0) :=
    ⟨p0, below_c hb7 (by omega) d0, p1, below_c hb7 (by omega) (d2 0 _ rfl), below_c hb7 (by omega) (d2 1 _ rfl), below_c hb7 (by omega) (d2 2 _ rfl), fun o => below_z hb7 (by omega) (e2 o), HP.out.below (hb7.mono (Nat.le_refl _)), World.ownsRow_nil _ _ _ _, by omega⟩
  have hF7 : Forks (fun b => b < w.heap.size + 1 + 1) w7 (.slice a n c) ns := ((HX.out.lt.move fun b hb _ => HB5.out.block b hb.2).move fun b hb _ => hb7.block b (by have := hb.2; omega)).mono fun b hb => by have := hb.2; omega
  have hV := visit_any w5.heap.size w.heap.size (w5.heap.size + 1) (w.heap.size + 1 + 1) (w.heap.size + 1 + 1 + 1) (w5.heap.size + 1 + 1) (.int .i64 vars) (.int .i64 0) (.slice a n c) ns (by omega) (by omega) (by omega) (by omega) (by omega) hl k root ([], []) s' (.slice none 0 0) w7 hr hg rfl hs hF7 hS7
  have u0 := fun o v h => below_c hb7 (by omega) (d1 o v h)
  have v1 := fun o => below_z hb7 (by omega) (e1 o)
  have HU := Lib.hid u0
  have HV1 := Lib.hid v1
  have HB7 : Hid (Below w.heap.size w w7) := Lib.hid (HB5.out.trans (hb7.mono (by omega)))
  have HV := Lib.hid hV
  clear hb7 d0 d2 d1 e2 e1 hw7 p0 p1 hS7 hF7 hV u0 v1 hr4 hr5
  refine HV.out.mono ?_
  rintro e w8 ⟨rfl, hfr, lv, hS, hat⟩
  have j0 := hfr.cell (by omega) (by omega) (by simp [Value.ownBlock]) (HU.out 0 _ rfl)
  have j1 := hfr.cell (by omega) (by omega) (by simp [Value.ownBlock]) (HU.out 1 _ rfl)
  have j2 := hfr.cell (by omega) (by omega) (by simp [Value.ownBlock]) (HU.out 2 _ rfl)
  have jf : ∀ o, w8.frozen? ⟨w.heap.size + 1, o, none⟩ = false := fun o => by
    rw [← HV1.out o]
    simp only [World.frozen?]
    rw [hfr.2.2.2.2 (w.heap.size + 1) (by omega) (by omega) (by omega) (by simp [Value.ownBlock])]
  have HB8 : Hid (Below w.heap.size w w8) := Lib.hid (HB7.out.trans (hfr.below (B := w5.heap.size + 1 + 1) (by omega) (by omega) (by simp [Value.ownBlock]) (by omega) |>.mono (by omega)))
  obtain ⟨_, _, _, m0, m1, m2, mf, _, hO, _⟩ := hS
  have HO := Lib.hid hO
  obtain ⟨la, lc, rfl⟩ := own_form hO
  clear hfr hat hO HV HU HV1
  go_wp2_with fail
  have HF : Hid (Below w.heap.size w ((((w8.setCell ⟨w.heap.size + 1 + 1, 2, none⟩ (.int .i64 (plc s'.1 root))).setCell ⟨w.heap.size + 1, 0, none⟩ (.int .i64 vars)).setCell ⟨w.heap.size + 1, 1, none⟩ (.slice la s'.2.length lc)).setCell ⟨w.heap.size + 1, 2, none⟩ (.int .i64 (plc s'.1 root)))) := Lib.hid ((((HB8.out.setCell (by show _ ≤ w.heap.size + 1 + 1; omega) _).setCell (by show _ ≤ w.heap.size + 1; omega) _).setCell (by show _ ≤ w.heap.size + 1; omega) _).setCell (by show _ ≤ w.heap.size + 1; omega) _)
  have HG := Lib.hid (own_setCell (b := w.heap.size + 1) (o := 2) (.int .i64 (plc s'.1 root)) (own_setCell (b := w.heap.size + 1) (o := 1) (.slice la s'.2.length lc) (own_setCell (b := w.heap.size + 1) (o := 0) (.int .i64 vars) (own_setCell (b := w.heap.size + 1 + 1) (o := 2) (.int .i64 (plc s'.1 root)) HO.out (by omega)) (by omega)) (by omega)) (by omega))
  have v0 := set_ne (b := w.heap.size + 1) (b' := w.heap.size + 1) (o := 0) (o' := 2) (u := .int .i64 (plc s'.1 root)) (by omega) (set_ne (b := w.heap.size + 1) (b' := w.heap.size + 1) (o := 0) (o' := 1) (u := .slice la s'.2.length lc) (by omega) (set_eq (u := .int .i64 vars) (set_ne (b := w.heap.size + 1) (b' := w.heap.size + 1 + 1) (o := 0) (o' := 2) (u := .int .i64 (plc s'.1 root)) (by omega) j0)))
  have v1 := set_ne (b := w.heap.size + 1) (b' := w.heap.size + 1) (o := 1) (o' := 2) (u := .int .i64 (plc s'.1 root)) (by omega) (set_eq (u := .slice la s'.2.length lc) (set_ne (b := w.heap.size + 1) (b' := w.heap.size + 1) (o := 1) (o' := 0) (u := .int .i64 vars) (by omega) (set_ne (b := w.heap.size + 1) (b' := w.heap.size + 1 + 1) (o := 1) (o' := 2) (u := .int .i64 (plc s'.1 root)) (by omega) j1)))
  have v2 := set_eq (u := .int .i64 (plc s'.1 root)) (set_ne (b := w.heap.size + 1) (b' := w.heap.size + 1) (o := 2) (o' := 1) (u := .slice la s'.2.length lc) (by omega) (set_ne (b := w.heap.size + 1) (b' := w.heap.size + 1) (o := 2) (o' := 0) (u := .int .i64 vars) (by omega) (set_ne (b := w.heap.size + 1) (b' := w.heap.size + 1 + 1) (o := 2) (o' := 2) (u := .int .i64 (plc s'.1 root)) (by omega) j2)))
  refine bodyPost_ret (v := .agg #[.int .i64 vars, .slice la s'.2.length lc, .int .i64 (plc s'.1 root)]) (by simp [results, Tryz.results56, go_sem, v0, v1, v2]) rfl ?_
  refine ⟨_, _, rfl, HF.out, ?_, HG.out⟩
  omega
end Go.Proofs.YteadlkecngfcoaaGreat
