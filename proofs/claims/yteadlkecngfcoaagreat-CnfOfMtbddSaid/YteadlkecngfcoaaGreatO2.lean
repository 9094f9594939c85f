/- Maps that a call owns, from whatever key to an int or a bool; walks: mtbdd.inRange, top, step. No condition but that the reference is one. -/
import Derived.Test.YteadlkecngfcoaaGreatO1
import Derived.Test.YteadlkecngfcoaaGreatQf
import Derived.Deep.RegionHeld3
namespace Go.Proofs.YteadlkecngfcoaaGreat
open Go.ChangeShapes Go.WideShapes Go.ChangeAt Go.RowKit
set_option linter.unusedVariables false

/-- an owned map to int: which keys it has, and what they lead to -/
def IMap {K : Type} (kt : TypeId) (lit : K → Lit) (okk : K → Prop) (w : World) (mb n : Nat) (G : K → Bool) (V : K → Int) : Prop :=
  ∃ D : DataW Unit, w.ownsMap Tryz.prog kt (plainElem Tryz.prog 3) mb n D ∧ Maps.IsMap D ∧
    ∀ x, okk x → Maps.has D (lit x) = G x ∧ (G x = true → D.atKey (lit x) (.lit (.int .i64 0)) = .lit (.int .i64 (V x)))
section imap
variable {K : Type} {kt mt : TypeId} {lit : K → Lit} {okk : K → Prop} {w w' : World} {mb n : Nat} {G : K → Bool} {V : K → Int}
theorem IMap.lt (h : IMap kt lit okk w mb n G V) : mb < w.heap.size := let ⟨_, h1, _⟩ := h; h1.lt
theorem IMap.grown {row : Option Nat} (h : IMap kt lit okk w mb n G V) (hg : w.grownBy w' row) (hne : some mb ≠ row) : IMap kt lit okk w' mb n G V := by
  obtain ⟨D, h1, h2⟩ := h
  exact ⟨D, h1.kept hg hne, h2⟩
theorem IMap.below (h : IMap kt lit okk w mb n G V) (hb : Below w.heap.size w w') : IMap kt lit okk w' mb n G V := h.grown (row := none) ⟨hb.os, hb.tape, hb.output, hb.size, fun i hi _ => hb.block i hi⟩ (by simp)
theorem IMap.made (w : World) : IMap kt lit okk (w.alloc (.map #[] 0)) w.heap.size 0 (fun _ => false) V :=
  ⟨_, World.ownsMap_made _ _ _ _, Maps.isMap_empty, fun x _ => ⟨by simp [Maps.has], fun h => by cases h⟩⟩
theorem IMap.ok {x : K} {kv : Value} (h : IMap kt lit okk w mb n G V) (law : Maps.Keyed Tryz.prog kt) (hu : Tryz.prog.underlying mt = some (.map kt 3)) (hk : keyOf Tryz.prog kt kv = some (lit x)) (hx : okk x) :
    ∃ c, (Instr.lookup mt (.map (some mb)) kv true).run Tryz.prog w = .ok (.tuple #[.int .i64 c, .bool (G x)]) w ∧ (G x = true → c = V x) := by
  obtain ⟨D, h1, h2, h3⟩ := h
  obtain ⟨v, ps, hrun, hv⟩ := h1.look_ok law hu (z := .int .i64 0) (by kernel_rfl) (plainElem_int Tryz.underlying3 (by decide)) hk
  obtain ⟨c, rfl, hc, _⟩ := plainElem_int_inv Tryz.underlying3 hv
  rw [(h3 x hx).1] at hrun
  refine ⟨c, hrun, fun hin => ?_⟩
  have h4 := (h3 x hx).2 hin
  have h5 := congrArg Prod.fst hc
  simp only at h5
  rw [h4] at h5
  simp at h5
  exact h5.symm
theorem IMap.okAll {x : K} {kv : Value} (h : IMap kt lit okk w mb n G V) (law : Maps.Keyed Tryz.prog kt) (hu : Tryz.prog.underlying mt = some (.map kt 3)) (hk : keyOf Tryz.prog kt kv = some (lit x)) (hx : okk x) :
    ∃ c, (∀ w' : World, w'.heap[mb]? = w.heap[mb]? → (Instr.lookup mt (.map (some mb)) kv true).run Tryz.prog w' = .ok (.tuple #[.int .i64 c, .bool (G x)]) w') ∧ (G x = true → c = V x) := by
  obtain ⟨D, h1, h2, h3⟩ := h
  have one : ∀ w' : World, w'.heap[mb]? = w.heap[mb]? → ∃ c, (Instr.lookup mt (.map (some mb)) kv true).run Tryz.prog w' = .ok (.tuple #[.int .i64 c, .bool (G x)]) w' ∧ D.atKey (lit x) (.lit (.int .i64 0)) = .lit (.int .i64 c) := by
    intro w' he
    obtain ⟨es, clock, hb, F⟩ := h1
    have h1' : w'.ownsMap Tryz.prog kt (plainElem Tryz.prog 3) mb n D := ⟨es, clock, he.trans hb, F⟩
    obtain ⟨v, ps, hrun, hv⟩ := h1'.look_ok law hu (z := .int .i64 0) (by kernel_rfl) (plainElem_int Tryz.underlying3 (by decide)) hk
    obtain ⟨c, rfl, hc, _⟩ := plainElem_int_inv Tryz.underlying3 hv
    rw [(h3 x hx).1] at hrun
    exact ⟨c, hrun, congrArg Prod.fst hc⟩
  obtain ⟨c, _, hc⟩ := one w rfl
  refine ⟨c, fun w' he => ?_, fun hg => ?_⟩
  · obtain ⟨c', hr, hc'⟩ := one w' he
    rw [hc] at hc'
    simp only [DataW.lit.injEq, Lit.int.injEq, true_and] at hc'
    rw [← hc'] at hr
    exact hr
  · have h4 := (h3 x hx).2 hg
    rw [hc] at h4
    simpa using h4
theorem IMap.look {x : K} {kv : Value} (h : IMap kt lit okk w mb n G V) (law : Maps.Keyed Tryz.prog kt) (hu : Tryz.prog.underlying mt = some (.map kt 3)) (hk : keyOf Tryz.prog kt kv = some (lit x)) (hx : okk x) (hin : G x = true) :
    (Instr.lookup mt (.map (some mb)) kv false).run Tryz.prog w = .ok (.int .i64 (V x)) w := by
  obtain ⟨D, h1, h2, h3⟩ := h
  obtain ⟨c, hrun, hc, _⟩ := h1.lookup_int law hu Tryz.underlying3 (by kernel_rfl) hk
  rw [(h3 x hx).2 hin] at hc
  simp at hc
  rw [hc]
  exact hrun
theorem imap_put [DecidableEq K] {D : DataW Unit} {r : K} {v : Int} (hr : okk r) (hkey : WideAt.IsKeyLit (lit r)) (hinj : ∀ x, okk x → lit x = lit r → x = r)
    (h1 : w'.ownsMap Tryz.prog kt (plainElem Tryz.prog 3) mb (n + 1) (D.put (lit r) (.lit (.int .i64 v)))) (h2 : Maps.IsMap D)
    (h3 : ∀ x, okk x → Maps.has D (lit x) = G x ∧ (G x = true → D.atKey (lit x) (.lit (.int .i64 0)) = .lit (.int .i64 (V x)))) :
    IMap kt lit okk w' mb (n + 1) (fun x => G x || decide (x = r)) (fun x => if x = r then v else V x) := by
  refine ⟨_, h1, h2.put _ _, fun x hx => ?_⟩
  by_cases e : x = r
  · subst e
    rw [Maps.has_put_same h2 hkey, Maps.atKey_put_same h2 hkey]
    exact ⟨by simp, fun _ => by simp⟩
  · have hne : lit x ≠ lit r := fun h => e (hinj x hx h)
    rw [Maps.has_put_other hne, Maps.atKey_put_other hne, (h3 x hx).1]
    refine ⟨by simp [e], fun hin => ?_⟩
    rw [(h3 x hx).2 (by simpa [e] using hin)]
    simp only [if_neg e]
theorem IMap.congr {G' : K → Bool} {V' : K → Int} {m : Nat} (h : IMap kt lit okk w mb n G V) (hn : n = m) (hG : ∀ x, okk x → G x = G' x) (hV : ∀ x, okk x → G x = true → V x = V' x) : IMap kt lit okk w mb m G' V' := by
  obtain ⟨D, h1, h2, h3⟩ := h
  subst hn
  refine ⟨D, h1, h2, fun x hx => ⟨(h3 x hx).1.trans (hG x hx), fun hg => ?_⟩⟩
  rw [← hG x hx] at hg
  rw [(h3 x hx).2 hg, hV x hx hg]
end imap

abbrev litI (x : Int) : Lit := .int .i64 x
abbrev IntMap (w : World) (mb n : Nat) (G : Int → Bool) (V : Int → Int) : Prop := IMap 3 litI I64 w mb n G V
abbrev ForkMap (w : World) (mb n : Nat) (G : Fork → Bool) (V : Fork → Int) : Prop := IMap 49 forkL ForkOk w mb n G V
/-! ### the key [3]int, of which only the first is in use -/
theorem tri_law : Maps.Keyed Tryz.prog 88 := Maps.Keyed.of_law (deep_law_laid (m := 2) (by kernel_rfl) (by omega) (of_decide_eq_true (by kernel_rfl)) (by kernel_rfl) (by kernel_rfl))
def triA (x : Int) : Value := .agg #[.int .i64 x, .int .i64 0, .int .i64 0]
def triL (x : Int) : Lit := .string (keyBytes [.int .i64 x, .int .i64 0, .int .i64 0])
theorem keyOf_tri {x : Int} (h : I64 x) : keyOf Tryz.prog 88 (triA x) = some (triL x) := by
  have h1 := I64_wf h
  have h0 := I64_wf (n := 0) ⟨by omega, by omega⟩
  have hu := Tryz.underlying88
  have hi := Tryz.underlying3
  have hk : Tryz.prog.keyType 88 = true := by kernel_rfl
  have hc3 : Tryz.prog.cellsOf 88 = 3 := by kernel_rfl
  have hf : (triA x).formed Tryz.prog 88 = true := by
    simp [triA, Value.formed, hu, hc3]
  have hc : Tryz.prog.cellsOf 3 = 1 := by kernel_rfl
  obtain ⟨m, hm⟩ : ∃ m, Tryz.prog.types.size = m + 1 := ⟨_, (by kernel_rfl : Tryz.prog.types.size = Tryz.prog.types.size - 1 + 1)⟩
  unfold keyOf
  simp only [hu, hk, hf, hm, Bool.and_self, if_true]
  unfold Program.keyLits
  simp [hu, triA, Value.cells, hc, Program.keyLits, hi, h1, h0, triL, hc3, List.range, List.range.loop]
theorem triL_inj {x y : Int} (hx : I64 x) (hy : I64 y) (h : triL x = triL y) : x = y := by
  have h1 := keyOf_tri hx
  have h2 := keyOf_tri hy
  rw [← h] at h2
  have h3 := tri_law.inj h1 h2
  simpa [triA] using h3
abbrev TriMap (w : World) (mb n : Nat) (G : Int → Bool) (V : Int → Int) : Prop := IMap 88 triL I64 w mb n G V

/-! ### small walks -/
def boxM (vars root : Int) (lv nv : Value) : Obj := .cells #[.int .i64 vars, lv, nv, .int .i64 root] 25
def valM (vars root : Int) (lv nv : Value) : Value := .agg #[.int .i64 vars, lv, nv, .int .i64 root]
/-- may v be a leaf? -/
def rngM (v : Int) : Bool := decide (-1099511627776 ≤ v) && decide (v ≤ 1099511627776)
theorem range_any (v : Int) (w : World) : Calls Tryz.prog 58 #[.int .i64 v] w fun e w' => e = .returned (.bool (rngM v)) ∧ w' = w := by
  obtain ⟨R, hR⟩ : ∃ R, rngM v = R := ⟨_, rfl⟩
  have HR : Hid (R = (decide (-1099511627776 ≤ v) && decide (v ≤ 1099511627776))) := Lib.hid hR.symm
  rw [hR]
  clear hR
  by_cases h : -1099511627776 ≤ v
  · have hd : decide (-1099511627776 ≤ v) = true := decide_eq_true h
    have hd' : decide (v ≥ -1099511627776) = true := decide_eq_true h
    have HF : Hid (R = decide (v ≤ 1099511627776)) := Lib.hid (by rw [HR.out, hd]; rfl)
    clear HR h
    go_enter Tryz.func58, Tryz.ntmps58
    go_wp2
    go_ret
    exact ⟨by rw [HF.out]; rfl, rfl⟩
  · have hd : decide (-1099511627776 ≤ v) = false := decide_eq_false h
    have hd' : decide (v ≥ -1099511627776) = false := decide_eq_false h
    have HF : Hid (R = false) := Lib.hid (by rw [HR.out, hd]; rfl)
    clear HR h
    go_enter Tryz.func58, Tryz.ntmps58
    go_wp2
    go_ret
    exact ⟨by rw [HF.out]; rfl, rfl⟩
/-- the variable of a reference -/
def topM (vars : Int) (L : Nat) (ns : List Fork) (ref : Int) : Int := if ref < L then vars else (frk L ns ref).1
set_option maxHeartbeats 1000000 in
theorem top_any (F : Nat → Prop) (vars root ref : Int) (la : Option Addr) (L lc : Nat) (nv : Value) (ns : List Fork) (w : World) (hL : L ≤ 1000000) (hx : Forks F w nv ns) (hr : ref < L + ns.length) (hi : I64 ref) :
    Calls Tryz.prog 59 #[.agg #[.int .i64 vars, .slice la L lc, nv, .int .i64 root], .int .i64 ref] w fun e w' => e = .returned (.int .i64 (topM vars L ns ref)) ∧ w' = w.alloc (boxM vars root (.slice la L lc) nv) := by
  obtain ⟨a, n, c, rfl, HN, hn⟩ := hx.form
  obtain ⟨h1, h2⟩ := hi
  by_cases h : ref < L
  · have HF : Hid (topM vars L ns ref = vars) := Lib.hid (by rw [topM, if_pos h])
    have hd : decide (ref < (L : Int)) = true := decide_eq_true h
    unfold boxM
    go_enter Tryz.func59, Tryz.ntmps59
    go_wp2
    go_ret
    exact ⟨by rw [HF.out]; rfl, rfl⟩
  · obtain ⟨k, hk⟩ : ∃ k : Nat, (ref - L).toNat = k := ⟨_, rfl⟩
    have hkr : ref = k + L := by omega
    obtain ⟨f, hf⟩ : ∃ f, ns[k]? = some f := ⟨_, List.getElem?_eq_getElem (by omega)⟩
    have HF : Hid (topM vars L ns ref = f.1) := Lib.hid (by rw [topM, if_neg h, frk_some (by rw [hk]; exact hf)])
    have hd : decide (ref < (L : Int)) = false := decide_eq_false h
    obtain ⟨b, off, rfl, _, hb, c0, c1, c2, _⟩ := hx.at hf
    have hw : IntKind.i64.wrap (ref - L) = (k : Int) := by rw [IntWalk.i64_in _ ⟨by omega, by omega⟩]; omega
    have hw0 : wrap64 (ref - L) = (k : Int) := by rw [IntWalk.wrap64_in _ ⟨by omega, by omega⟩]; omega
    have hkn : k < n := by have := HN.out; omega
    have hk0 : (0 : Int) ≤ k := by omega
    have hk1 : (k : Int) < n := by omega
    have HX := Lib.hid hf
    clear hf hx h hk hkr
    unfold boxM
    go_enter Tryz.func59, Tryz.ntmps59
    go_wp2
    go_ret
    exact ⟨by rw [HF.out]; rfl, rfl⟩
set_option maxHeartbeats 1000000 in
theorem step_any (F : Nat → Prop) (vars root ref : Int) (la : Option Addr) (L lc k : Nat) (nv : Value) (ns : List Fork) (f : Fork) (b : Bool) (w : World) (hL : L ≤ 1000000) (hl : ns.length ≤ 1000000) (hx : Forks F w nv ns) (hk : ref = k + L) (hf : ns[k]? = some f) :
    Calls Tryz.prog 103 #[.agg #[.int .i64 vars, .slice la L lc, nv, .int .i64 root], .int .i64 ref, .int .i64 f.1, .bool b] w fun e w' => e = .returned (.int .i64 (if b = true then f.2.2 else f.2.1)) ∧ w' = ((w.alloc (boxM vars root (.slice la L lc) nv)).alloc (boxM vars root (.slice la L lc) nv)).alloc (.cells #[.int .i64 f.1, .int .i64 f.2.1, .int .i64 f.2.2] 49) := by
  have hb0 : Below w.heap.size w (w.alloc (boxM vars root (.slice la L lc) nv)) := (Below.refl _ _).alloc (Nat.le_refl _) _
  have hkl : k < ns.length := (List.getElem?_eq_some_iff.1 hf).1
  have HT := Lib.hid (top_any F vars root ref la L lc nv ns _ hL (hx.below hb0) (by omega) ⟨by omega, by omega⟩)
  have e1 : topM vars L ns ref = f.1 := by rw [topM, if_neg (by omega), frk_some (by rw [show (ref - (L : Int)).toNat = k by omega]; exact hf)]
  rw [e1] at HT
  obtain ⟨a, n, c, rfl, HN, hn⟩ := hx.form
  obtain ⟨fb, off, rfl, _, hb, c0, c1, c2, _⟩ := hx.at hf
  obtain ⟨fv, flo, fhi⟩ := f
  simp only at HT c0 c1 c2 ⊢
  have hw : IntKind.i64.wrap (ref - L) = (k : Int) := by rw [IntWalk.i64_in _ ⟨by omega, by omega⟩]; omega
  have hw0 : wrap64 (ref - L) = (k : Int) := by rw [IntWalk.wrap64_in _ ⟨by omega, by omega⟩]; omega
  have hkn : k < n := by have := HN.out; omega
  have hk0 : (0 : Int) ≤ k := by omega
  have hk1 : (k : Int) < n := by omega
  have hq : (fv == fv) = true := by simp
  have hq2 : (!(fv == fv)) = false := by simp
  have hq3 : (fv != fv) = false := by simp
  clear hf hx hkl hk hb0 e1
  unfold boxM at HT ⊢
  go_enter Tryz.func103, Tryz.ntmps103
  go_wp2_with fail
  refine HT.out.mono ?_
  rintro e w1 ⟨rfl, rfl⟩
  clear HT
  cases b
  · go_wp2
    go_ret
    exact ⟨rfl, rfl⟩
  · go_wp2
    go_ret
    exact ⟨rfl, rfl⟩
end Go.Proofs.YteadlkecngfcoaaGreat
