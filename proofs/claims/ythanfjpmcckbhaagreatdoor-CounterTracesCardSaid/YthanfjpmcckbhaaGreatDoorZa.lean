/- (Counter seat) Walk: newProver; the set of fixed literals, and its ranging. No condition but the sizes. -/
import Derived.Test.YthanfjpmcckbhaaGreatDoorYx
import Derived.Test.YthanfjpmcckbhaaGreatDoorYs3
import Derived.Maps.RangeWalk
import Derived.Shelf.Slices.CompactI
namespace Go.Proofs.YthanfjpmcckbhaaGreatDoor
open Go.ChangeShapes Go.WideShapes Go.ChangeAt Go.RowKit
set_option linter.unusedVariables false
set_option linter.unusedSimpArgs false

def NoB : Nat → Prop := fun _ => False
/-- what newProver hands back -/
def NewPost (W : World) (keep : Int) (e : Ending) (w' : World) : Prop :=
  ∃ pb mb, e = .returned (.pointer (some ⟨pb, 0, none⟩)) ∧ PrS NoB W.heap.size w' pb mb keep (.slice none 0 0) [] 0 ∧ Below W.heap.size W w'
set_option maxRecDepth 100000 in
set_option maxHeartbeats 4000000 in
theorem newprover_any (vars keep most lim : Int) (cv : Value) (w : World) (hv : vars ≤ most) (hk : 0 ≤ keep ∧ keep ≤ 40) (a : Option Addr) (n c : Nat) (hcv : cv = .slice a n c) :
    Calls Tryz.prog 38 #[.agg #[.int .i64 vars, .int .i64 keep, cv], .int .i64 most, .int .i64 lim] w (NewPost w keep) := by
  subst hcv
  have d0 : decide (most < vars) = false := decide_eq_false (by omega)
  have hmm := @run_makeMap Tryz.prog
  obtain ⟨b, hb⟩ : ∃ b, w.heap.size = b := ⟨_, rfl⟩
  obtain ⟨W3, hW3⟩ : ∃ W, ((w.alloc (.cells #[.int .i64 vars, .int .i64 keep, .slice a n c] 24)).alloc (.map #[] 0)).alloc (.cells #[.int .i64 keep, .int .i64 0, .slice none 0 0, .map (some (b + 1)), .bool false] 69) = W := ⟨_, rfl⟩
  have hb3 : Below w.heap.size w W3 := by rw [← hW3]; exact (((Below.refl _ _).alloc (Nat.le_refl _) _).alloc (by simp) _).alloc (by simp; omega) _
  have hrow : W3.heap[b + 2]? = some (.cells #[.int .i64 keep, .int .i64 0, .slice none 0 0, .map (some (b + 1)), .bool false] 69) := by rw [← hW3]; exact new_at' _ _ (by simp; omega)
  have hrow0 : W3.heap[b]? = some (.cells #[.int .i64 vars, .int .i64 keep, .slice a n c] 24) := by rw [← hW3]; exact old_at _ _ _ (old_at _ _ _ (new_at' _ _ hb.symm))
  have c0 : W3.cell? ⟨b, 0, none⟩ = some (.int .i64 vars) := by rw [cell_of_row _ _ _ _ _ _ hrow0]; rfl
  have HF : Hid (NewPost w keep (.returned (.pointer (some ⟨b + 1 + 1, 0, none⟩))) W3) := Lib.hid (by
    refine ⟨b + 2, b + 1, rfl, ⟨?_, ?_, ?_, ?_, ?_, fun o => ?_, ⟨[], World.ownsRow_nil _ _ _ _, rfl, fun j u c hu => by simp at hu⟩, ?_, ⟨by omega, fun e => (by cases e), fun e => (by cases e)⟩, ⟨by omega, by omega, hb3.size⟩, fun i hi => (by simp at hi), hk, fun c hc => (by simp at hc), fun q hq => hq.elim⟩, hb3⟩
    · rw [cell_of_row _ _ _ _ _ _ hrow]; rfl
    · rw [cell_of_row _ _ _ _ _ _ hrow]; rfl
    · rw [cell_of_row _ _ _ _ _ _ hrow]; rfl
    · rw [cell_of_row _ _ _ _ _ _ hrow]; rfl
    · rw [cell_of_row _ _ _ _ _ _ hrow]; rfl
    · simp only [World.frozen?, hrow]; simp
    · have hm := World.ownsMap_made (H := Unit) (w.alloc (.cells #[.int .i64 vars, .int .i64 keep, .slice a n c] 24)) (P := Tryz.prog) 9 (plainElem Tryz.prog 3)
      have hs : (w.alloc (.cells #[.int .i64 vars, .int .i64 keep, .slice a n c] 24)).heap.size = b + 1 := by simp; omega
      rw [hs] at hm
      refine ⟨_, ?_, Maps.isMap_empty, fun l hl => by simp [Maps.has] at hl⟩
      rw [← hW3]
      exact hm.kept (World.grownBy_alloc _ _ none) (by simp))
  have HB := Lib.hid hb
  have HW3 := Lib.hid hW3
  clear hb3 hrow hk hrow0
  go_enter Tryz.func38, Tryz.ntmps38
  go_wp2_with fail
  go_ret
  exact HF.out
/-- the set of fixed literals -/
def FixM (w : World) (mb : Nat) (l : List Int) : Prop :=
  ∃ D : DataW Unit, w.ownsMap Tryz.prog 3 (plainElem Tryz.prog 4) mb l.length D ∧ Maps.IsMap D ∧ (∀ x, I64 x → D.atKey (.int .i64 x) (.lit (.bool false)) = .lit (.bool (decide (x ∈ l)))) ∧ ∀ x, I64 x → Maps.has D (.int .i64 x) = decide (x ∈ l)
theorem FixM.seen {w : World} {mb : Nat} {l : List Int} (h : FixM w mb l) : SeenI w mb l := let ⟨D, h1, h2, h3, _⟩ := h; ⟨D, h1, h2, h3⟩
theorem FixM.lt {w : World} {mb : Nat} {l : List Int} (h : FixM w mb l) : mb < w.heap.size := let ⟨_, h1, _⟩ := h; h1.lt
theorem FixM.grown {w w' : World} {mb : Nat} {l : List Int} {row : Option Nat} (h : FixM w mb l) (hg : w.grownBy w' row) (hne : some mb ≠ row) : FixM w' mb l := by
  obtain ⟨D, h1, h2⟩ := h
  exact ⟨D, h1.kept hg hne, h2⟩
theorem FixM.below {w w' : World} {mb : Nat} {l : List Int} (h : FixM w mb l) (hb : Below w.heap.size w w') : FixM w' mb l := h.grown (row := none) ⟨hb.os, hb.tape, hb.output, hb.size, fun i hi _ => hb.block i hi⟩ (by simp)
theorem fix_put {w' : World} {mb : Nat} {l : List Int} {D : DataW Unit} {m : Int} (hm : I64 m)
    (h1 : w'.ownsMap Tryz.prog 3 (plainElem Tryz.prog 4) mb (l.length + 1) (D.put (.int .i64 m) (.lit (.bool true)))) (h2 : Maps.IsMap D)
    (h3 : ∀ x, I64 x → D.atKey (.int .i64 x) (.lit (.bool false)) = .lit (.bool (decide (x ∈ l)))) (h4 : ∀ x, I64 x → Maps.has D (.int .i64 x) = decide (x ∈ l)) : FixM w' mb (l ++ [m]) := by
  refine ⟨_, by simpa using h1, h2.put _ _, fun x hx => ?_, fun x hx => ?_⟩
  · by_cases e : x = m
    · subst e
      rw [Maps.atKey_put_same h2 (by trivial)]
      simp
    · rw [Maps.atKey_put_other (by simpa using e), h3 x hx]
      simp [e]
  · by_cases e : x = m
    · subst e
      rw [Maps.has_put_same h2 (by trivial)]
      simp
    · rw [Maps.has_put_other (by simpa using e), h4 x hx]
      simp [e]
theorem same_int (x y : Int) : (Lit.int .i64 y).sameKey (.int .i64 x) = (y == x) := by
  by_cases h : y = x
  · subst h
    simp [Lit.sameKey]
  · rw [Maps.sameKey_ne (by simpa using h)]
    simp [h]
/-- what a step of the ranging over the set hands on -/
structure NextF (w w' : World) (mb r n : Nat) (D : DataW Unit) (left : Lit → Bool) (cnt cnt' : Nat) (x : Int) (v : Value) : Prop where
  ix : I64 x
  lx : left (.int .i64 x) = true
  rg : w'.ranges Tryz.prog 3 (plainElem Tryz.prog 4) mb r n D (fun z => left z && !z.sameKey (.int .i64 x)) cnt'
  lt : cnt' < cnt
  gr : w.grownBy w' (some r)
  sz : w'.heap.size = w.heap.size
  en : (Instr.entry (.pointer (some ⟨r, 0, none⟩))).run Tryz.prog w' = .ok (.tuple #[.int .i64 x, v]) w'
theorem next_any (w : World) {ops : Array Oper} {rest : List Oper} {o : Oper} {a : Act} {Q : Exit → Act → World → Prop} (hg : o.guard = none) (it : Operand) (hop : o.op = Op.next it false) (mb r n : Nat) (D : DataW Unit) (left : Lit → Bool) (cnt : Nat)
    (hit : a.eval it = .pointer (some ⟨r, 0, none⟩)) (h : w.ranges Tryz.prog 3 (plainElem Tryz.prog 4) mb r n D left cnt)
    (hDone : Hid (∀ kl, left kl = false) → wpList Tryz.prog ops Q rest (a.put o.dst (.tuple #[.bool false])) w)
    (hMore : ∀ (x : Int) (v : Value) (w' : World) (cnt' : Nat), NextF w w' mb r n D left cnt cnt' x v → wpList Tryz.prog ops Q rest (a.put o.dst (.tuple #[.bool true, .int .i64 x, v])) w') :
    wpList Tryz.prog ops Q (o :: rest) a w :=
  wpList_next_ranges w hg it hop 3 law_int (plainElem Tryz.prog 4) (Value.int .i64) Value.bool (fun key kl hkey => (by obtain ⟨x, rfl, _⟩ := Maps.keyOf_int_inv Tryz.underlying3 hkey; exact ⟨x, rfl⟩)) (fun v y hv => (by obtain ⟨c, rfl, _⟩ := plainElem_bool_inv Tryz.underlying4 hv; exact ⟨c, rfl⟩)) mb r n D left cnt hit h
    (fun _ hl => hDone (Lib.hid hl)) (fun x c kl y w' cnt' hkey hlk _ _ hrg hlt hg1 hs1 hen => by
      obtain ⟨x', ex, rfl, hwx⟩ := Maps.keyOf_int_inv Tryz.underlying3 hkey
      cases ex
      exact hMore x (.bool c) w' cnt' ⟨wf_I64' hwx, hlk, hrg, hlt, hg1, hs1, hen⟩)

/- (Counter seat) Walk: CountWith. No condition but the sizes. -/
open Go.ChangeShapes Go.WideShapes Go.ChangeAt Go.RowKit
set_option linter.unusedVariables false
set_option linter.unusedSimpArgs false

theorem asked_ok {vars keep : Int} {cs : List (List Int)} {ls : List Int} (h : askedM vars keep cs ls = 0) : checkM vars keep cs = 0 ∧ (∀ x ∈ ls, x ≠ 0 ∧ x ≤ vars ∧ -vars ≤ x) ∧ keep ≤ 40 := by
  unfold askedM at h
  by_cases h1 : checkM vars keep cs = 0
  · rw [if_neg (by simpa using h1)] at h
    rcases h2 : ls.any (fun x => decide (x = 0) || (decide (vars < x) || decide (x < -vars))) with _ | _
    · rw [h2, if_neg (by simp)] at h
      refine ⟨h1, fun x hx => ?_, ?_⟩
      · have := List.any_eq_false.1 h2 x hx
        simp at this
        omega
      · by_cases h3 : 40 < keep
        · rw [if_pos h3] at h; cases h
        · omega
    · rw [h2, if_pos rfl] at h; cases h
  · rw [if_pos h1] at h
    exact absurd h h1
/-- what CountWith hands back -/
def CwPost (W : World) (vars keep : Int) (cs : List (List Int)) (ls : List Int) (e : Ending) (w' : World) : Prop :=
  ∃ n c : Int, e = .returned (.tuple #[.int .i64 n, .int .i64 c]) ∧ c = askedM vars keep cs ls ∧ (c ≠ 0 → n = 0) ∧ (c = 0 → n = cwN keep cs ls) ∧ Below W.heap.size W w'
theorem wrap64_id {Y : Int} (h : 0 ≤ Y ∧ Y ≤ 1099511627776) : wrap64 Y = Y := by
  unfold wrap64
  omega
theorem take_snoc {ls : List Int} {k : Nat} {x : Int} (h : ls[k]? = some x) : ls.take (k + 1) = ls.take k ++ [x] := by
  rw [List.take_add_one, h]
  rfl
theorem resL_snoc (cs : List (List Int)) (ls : List Int) (x : Int) : resL cs (ls ++ [x]) = resM (resL cs ls) x := by
  unfold resL
  rw [List.foldl_append]
  rfl
theorem resL_sz {cs : List (List Int)} (h : SzL cs) : ∀ {ls : List Int}, SzL (resL cs ls) := by
  intro ls
  induction ls generalizing cs with
  | nil => exact h
  | cons x r ih => exact ih (cs := resM cs x) (res_sz h)
set_option maxRecDepth 100000 in
set_option maxHeartbeats 32000000 in
theorem countwith_any (F G : Nat → Prop) (vars keep : Int) (cv lv : Value) (cs : List (List Int)) (ls : List Int) (w : World) (hc : Clss F w cv cs) (hl : Ints G w lv ls) (hiv : I64 vars) (hik : I64 keep) (hs : SzL cs) (hll : ls.length ≤ 4000) (h9 : checkM vars keep cs = 0 → vars ≤ 9) (htab : TabB w.heap.size w) :
    Calls Tryz.prog 16 #[.agg #[.int .i64 vars, .int .i64 keep, cv], lv] w (CwPost w vars keep cs ls) := by
  obtain ⟨ca, cn, cc, rfl, HCN, _⟩ := hc.form'
  obtain ⟨la, ln, lc, rfl, HLN, _⟩ := hl.form'
  obtain ⟨bb, hbb⟩ : ∃ b, w.heap.size = b := ⟨_, rfl⟩
  obtain ⟨W1, hW1⟩ : ∃ W, w.alloc (.cells #[.int .i64 vars, .int .i64 keep, .slice ca cn cc] 24) = W := ⟨_, rfl⟩
  have hb1 : Below w.heap.size w W1 := by rw [← hW1]; exact (Below.refl _ _).alloc (Nat.le_refl _) _
  have hrow : W1.heap[bb]? = some (.cells #[.int .i64 vars, .int .i64 keep, .slice ca cn cc] 24) := by rw [← hW1]; exact new_at' _ _ hbb.symm
  have c0 : W1.cell? ⟨bb, 0, none⟩ = some (.int .i64 vars) := by rw [cell_of_row _ _ _ _ _ _ hrow]; rfl
  have c1 : W1.cell? ⟨bb, 1, none⟩ = some (.int .i64 keep) := by rw [cell_of_row _ _ _ _ _ _ hrow]; rfl
  have c2 : W1.cell? ⟨bb, 2, none⟩ = some (.slice ca cn cc) := by rw [cell_of_row _ _ _ _ _ _ hrow]; rfl
  have hlt1 := block_lt c0
  obtain ⟨A, hA⟩ : ∃ A, askedM vars keep cs ls = A := ⟨_, rfl⟩
  have hck := checked_any F G vars keep (.slice ca cn cc) (.slice la ln lc) cs ls W1 (hc.below hb1) (hl.below hb1) hiv hik
  rw [hA] at hck
  have HCK := Lib.hid hck
  have HA := Lib.hid hA
  have HC := Lib.hid (clss_lt hc)
  have HL := Lib.hid hl.lt
  have HS := Lib.hid hs
  have H9 := Lib.hid h9
  have HTAB := Lib.hid htab
  have HB1 := Lib.hid hb1
  have HW1 := Lib.hid hW1
  have HBB := Lib.hid hbb
  have HIV := Lib.hid hiv
  have HIK := Lib.hid hik
  have hmm := @run_makeMap Tryz.prog
  have hln4 : ln ≤ 4000 := by rw [HLN.out]; exact hll
  clear hck hA hc hl hs h9 htab hb1 hW1 hbb hrow hiv hik hll
  go_enter Tryz.func16, Tryz.ntmps16
  go_wp2_with fail
  try rw [HW1.out]
  try rw [HBB.out]
  refine HCK.out.mono ?_
  rintro e w2 ⟨rfl, hb2⟩
  have HB2 : Hid (Below w.heap.size w w2) := Lib.hid (HB1.out.trans (hb2.mono HB1.out.size))
  have e0 := below_c hb2 hlt1 c0
  have e1 := below_c hb2 hlt1 c1
  have e2 := below_c hb2 hlt1 c2
  have hlt2 := block_lt e0
  clear hb2 c0 c1 c2 hlt1 HCK
  by_cases hA0 : A = 0
  case neg =>
    have hd : (A != 0) = true := by simp; exact hA0
    have HF : Hid (CwPost w vars keep cs ls (.returned (.tuple #[.int .i64 0, .int .i64 A])) w2) := Lib.hid ⟨0, A, rfl, HA.out.symm, fun _ => rfl, fun h => absurd h hA0, HB2.out⟩
    clear hA0
    go_wp2_with fail
    go_ret2
    exact HF.out
  subst hA0
  have hd : ((0 : Int) != 0) = false := by decide
  obtain ⟨mb, hmb⟩ : ∃ b, w2.heap.size = b := ⟨_, rfl⟩
  obtain ⟨W3, hW3⟩ : ∃ W, w2.alloc (.map #[] 0) = W := ⟨_, rfl⟩
  have hb3 : Below w2.heap.size w2 W3 := by rw [← hW3]; exact (Below.refl _ _).alloc (Nat.le_refl _) _
  have HB3 : Hid (Below w.heap.size w W3) := Lib.hid (HB2.out.trans (hb3.mono HB2.out.size))
  have HM3 : Hid (FixM W3 mb (ls.take 0)) := Lib.hid (by rw [← hW3, ← hmb]; exact ⟨_, World.ownsMap_made _ _ _ _, Maps.isMap_empty, fun x hx => by simp [DataW.atKey], fun x hx => by simp [Maps.has]⟩)
  have f0 := below_c hb3 hlt2 e0
  have f1 := below_c hb3 hlt2 e1
  have f2 := below_c hb3 hlt2 e2
  have hbm : bb < mb := by omega
  have hms : mb < W3.heap.size := by rw [← hW3]; simp; omega
  have HCL3 : Hid (Clss (fun b => b ≠ bb ∧ b ≠ mb) W3 (.slice ca cn cc) (resL cs (ls.take 0))) := Lib.hid (Rows1.mono (fun _ _ _ _ _ h hg => h.mono hg) (HC.out.below HB3.out) fun b hb => by have := HBB.out; have hb : b < w.heap.size := hb; omega)
  have HMB := Lib.hid hmb
  have HW3 := Lib.hid hW3
  have HCO : Hid (Consist (ls.take 0)) := Lib.hid ⟨by simp, by simp⟩
  clear hb3 e0 e1 e2 hlt2 hd
  go_wp2_with fail
  try rw [hW3]
  try rw [hmb]
  clear hW3 hmb
  clear hmm
  go_loopg [8, 29] ln (fun gg u8 u29 wx => ∃ k : Nat, k + gg = ln ∧ u29 = .int .i64 k ∧ Hid (Clss (fun b => b ≠ bb ∧ b ≠ mb) wx u8 (resL cs (ls.take k))) ∧ Hid (FixM wx mb (ls.take k)) ∧ Hid (Consist (ls.take k)) ∧ Hid (Below w.heap.size w wx) ∧ mb < wx.heap.size ∧ wx.cell? ⟨bb, 0, none⟩ = some (.int .i64 vars) ∧ wx.cell? ⟨bb, 1, none⟩ = some (.int .i64 keep) ∧ wx.cell? ⟨bb, 2, none⟩ = some (.slice ca cn cc))
  case atStart => exact ⟨0, by omega, rfl, HCL3, HM3, HCO, HB3, hms, f0, f1, f2⟩
  case round =>
  clear HCL3 HM3 HB3 hms f0 f1 f2 HCO
  obtain ⟨k, hkg, rfl, HCL, HFM, HCO, HB, hms, f0, f1, f2⟩ := hrel
  obtain ⟨ua, un, uc, rfl, _, _⟩ := HCL.out.form'
  by_cases hk : k < ln
  · obtain ⟨x, hx⟩ : ∃ x, ls[k]? = some x := ⟨_, List.getElem?_eq_getElem (by rw [← HLN.out]; exact hk)⟩
    obtain ⟨xb, xo, hae, _, _, hcx, hxi⟩ := (HL.out.below HB.out).at hx
    subst hae
    have hxm := List.mem_of_getElem? hx
    have hlit := (asked_ok HA.out).2.1 x hxm
    have hv9 := H9.out (asked_ok HA.out).1
    have hdk : decide ((k : Int) < ln) = true := by simp; omega
    have hdk' : decide (k < ln) = true := decide_eq_true hk
    have hwn : IntKind.i64.wrap (-x) = -x := IntWalk.i64_in _ ⟨by omega, by omega⟩
    have hrun := HFM.out.seen.look (x := -x) (by unfold I64; omega)
    obtain ⟨E, hE⟩ : ∃ E, decide (-x ∈ ls.take k) = E := ⟨_, rfl⟩
    rw [hE] at hrun
    have HE := Lib.hid hE
    have HX := Lib.hid hx
    have HLT := Lib.hid hlit
    have hx9 : -9 ≤ x ∧ x ≤ 9 := by omega
    clear hx hxi hE hxm hlit
    rcases bool2 E with rfl | rfl
    · have HF : Hid (CwPost w vars keep cs ls (.returned (.tuple #[.int .i64 0, .int .i64 0])) wr) := Lib.hid ⟨0, 0, rfl, HA.out.symm, fun h => absurd rfl h, fun _ => by
        unfold cwN
        rw [with_none (List.mem_of_getElem? HX.out) (List.mem_of_mem_take (of_decide_eq_true HE.out)) HLT.out.1]
        rfl, HB.out⟩
      clear HCL HFM HB HCO f0 f1 f2
      go_wp2_with fail
      try rw [Exit.noGoto_ret]
      go_ret2
      exact HF.out
    · obtain ⟨D, hown, hD2, hD3, hD4⟩ := HFM.out
      have HD2 := Lib.hid hD2
      have HD3 := Lib.hid hD3
      have HD4 := Lib.hid hD4
      have hlk : (ls.take k).length = k := by rw [List.length_take]; have := HLN.out; omega
      have HLK := Lib.hid hlk
      rw [hlk] at hown
      have hxI : I64 x := by unfold I64; omega
      clear hD2 hD3 hD4 hlk
      go_wp2_with (at_mapUpdate; refine wpList_mapUpdate_own _ rfl _ _ _ 60 rfl 3 4 law_int Tryz.underlying60 (plainElem Tryz.prog 4) mb k D rfl hown (by unfold maxLen; omega) _ _ (.int .i64 x) rfl rfl (keyOf_i hxI) (.lit (.bool true)) [] (plainElem_bool Tryz.underlying4 true) ?_; intro w5 hown5 hgrow5; have HM5 : Hid (FixM w5 mb (ls.take (k + 1))) := Lib.hid (by { rw [take_snoc HX.out]; exact fix_put hxI (by rw [HLK.out]; exact hown5) HD2.out HD3.out HD4.out }); have HB5 : Hid (Below w.heap.size w w5) := Lib.hid (HB.out.grown hgrow5 HB.out.size (fun b hb => by { have := HBB.out; injection hb with hb; omega })); have g0 := grown_c2 hgrow5 (fun e => by injection e with e; omega) f0; have g1 := grown_c2 hgrow5 (fun e => by injection e with e; omega) f1; have g2 := grown_c2 hgrow5 (fun e => by injection e with e; omega) f2; have HCL5 : Hid (Clss (fun b => b ≠ bb ∧ b ≠ mb) w5 (.slice ua un uc) (resL cs (ls.take k))) := Lib.hid (Rows1.move (fun _ _ _ _ _ h hm => h.move hm) HCL.out (fun b hb hlt => hgrow5.block b hlt (fun e => by injection e with e; omega))); have hms5 : mb < w5.heap.size := Nat.lt_of_lt_of_le hms hgrow5.size; have HRA := Lib.hid (residual_any _ _ _ x w5 HCL5.out hxI (by have := (resL_sz HS.out (ls := ls.take k)).1; omega) (fun c h => by have := (resL_sz HS.out (ls := ls.take k)).2 c h; omega)); clear hown5 hgrow5 hown f0 f1 f2)
      refine HRA.out.mono ?_
      rintro e w6 ⟨rv, rfl, hrv, hb6⟩
      have HRV : Hid (Clss (fun b => b ≠ bb ∧ b ≠ mb) w6 rv (resL cs (ls.take (k + 1)))) := Lib.hid (by
        rw [take_snoc HX.out, resL_snoc]
        exact Rows1.mono (fun _ _ _ _ _ h hg => h.mono hg) hrv fun b hb => by have hb : w5.heap.size ≤ b := hb; omega)
      have HM6 := Lib.hid (HM5.out.below hb6)
      have HB6 : Hid (Below w.heap.size w w6) := Lib.hid (HB5.out.trans (hb6.mono HB5.out.size))
      have hms6 : mb < w6.heap.size := Nat.lt_of_lt_of_le hms5 hb6.size
      have k0 := below_c hb6 (block_lt g0) g0
      have k1 := below_c hb6 (block_lt g1) g1
      have k2 := below_c hb6 (block_lt g2) g2
      have HCO6 : Hid (Consist (ls.take (k + 1))) := Lib.hid (by
        rw [take_snoc HX.out]
        have hne := of_decide_eq_false HE.out
        refine ⟨fun y hy => ?_, fun y hy hn => ?_⟩
        · rcases List.mem_append.1 hy with h | h
          · exact HCO.out.1 y h
          · simp at h; subst h; exact HLT.out.1
        · rcases List.mem_append.1 hy with h | h <;> rcases List.mem_append.1 hn with h' | h'
          · exact HCO.out.2 y h h'
          · simp at h'
            exact hne (by rw [← h', Int.neg_neg]; exact h)
          · simp at h
            exact hne (by rw [← h]; exact h')
          · simp at h h'
            have := HLT.out.1
            omega)
      clear hrv hb6 g0 g1 g2 HRA
      go_wp2_with fail
      go_roundg (gk - 1)
      case measure => omega
      case rel => exact ⟨k + 1, by omega, by go_num, HRV, HM6, HCO6, HB6, hms6, k0, k1, k2⟩
  obtain rfl : ln = k := by omega
  have hdk : decide ((ln : Int) < ln) = false := by simp
  have hdk' : decide (ln < ln) = false := decide_eq_false (by omega)
  rw [List.take_of_length_le (by rw [HLN.out]; exact Nat.le_refl _)] at HFM HCO HCL
  have HLO : Hid (∀ x ∈ ls, x ≠ 0 ∧ x ≤ vars ∧ -vars ≤ x) := Lib.hid (asked_ok HA.out).2.1
  have HCC : Hid (checkM vars keep cs = 0) := Lib.hid (asked_ok HA.out).1
  have HBW : Hid (Below wr.heap.size wr wr) := Lib.hid (Below.refl _ _)
  clear hk hkg
  go_upto_if 45 with fail
  go_cut [] (fun wx => Hid (Below wr.heap.size wr wx))
  case first =>
    by_cases hl0 : 0 < ln
    · have hd : decide ((0 : Int) < ln) = true := by simp; omega
      have hpr := Propagate_any vars keep (.slice ca cn cc) (.slice la ln lc) cs ls wr (HC.out.below HB.out) (HL.out.below HB.out) HIV.out HIK.out
      obtain ⟨V, hV, hV2, _, _, _, hcl, _⟩ := check_okS HCC.out
      have hlok : ∀ l ∈ ls, LitOk V l := fun x hx => by
        have := HLO.out x hx
        unfold LitOk
        omega
      have hbad : ls.any (badB V) = false := by
        rw [List.any_eq_false]
        intro x hx
        have := HLO.out x hx
        unfold badB
        simp
        omega
      have hVn : vars.toNat = V := by omega
      have hpm : propagateM vars keep cs ls = if okM V cs ls = false then ([], true, 0) else (outGo2 (marksM V cs ls) V 1, false, 0) := by
        unfold propagateM
        rw [if_neg (by rw [HCC.out]; simp), hVn, if_neg (by rw [hbad]; simp)]
      rcases hok : okM V cs ls with _ | _
      · rw [hok, if_pos rfl] at hpm
        rw [hpm] at hpr
        have HPR := Lib.hid hpr
        have HF : Hid (∀ w', Below wr.heap.size wr w' → CwPost w vars keep cs ls (.returned (.tuple #[.int .i64 0, .int .i64 0])) w') := Lib.hid fun w' hb => ⟨0, 0, rfl, HA.out.symm, fun h => absurd rfl h, fun _ => by
          unfold cwN
          rw [conf_none hcl hlok hok]
          rfl, HB.out.trans (hb.mono HB.out.size)⟩
        clear hpr hpm hcl hlok hbad hok hV hV2 hVn
        go_wp2_with fail
        refine HPR.out.mono ?_
        rintro e w7 ⟨mv, rfl, _, hb7⟩
        have HF7 := Lib.hid (HF.out _ hb7)
        clear hb7 HPR HF
        simp only
        go_wp2_with fail
        go_ret2
        exact HF7.out
      · rw [hok, if_neg (by simp)] at hpm
        rw [hpm] at hpr
        obtain ⟨OG, hOG⟩ : ∃ o, outGo2 (marksM V cs ls) V 1 = o := ⟨_, rfl⟩
        rw [hOG] at hpr
        have HPR := Lib.hid hpr
        clear hpr hpm hcl hlok hbad hok hV hV2 hVn hOG
        go_wp2_with fail
        refine HPR.out.mono ?_
        rintro e w7 ⟨mv, rfl, _, hb7⟩
        have HB7 := Lib.hid hb7
        clear hb7 HPR
        simp only
        go_wp2_with fail
        go_meet
        exact HB7
    · have hd : decide ((0 : Int) < ln) = false := decide_eq_false (by omega)
      go_wp2_with fail
      go_meet
      exact HBW
  case rest =>
  have HB7 := hcut
  have g0 := below_c HB7.out (block_lt f0) f0
  have g1 := below_c HB7.out (block_lt f1) f1
  have g2 := below_c HB7.out (block_lt f2) f2
  have HFM7 := Lib.hid (HFM.out.below HB7.out)
  have hcl7 := HCL.out.below HB7.out
  have hwc := HB7.out.size
  have hbl : bb < wc.heap.size := block_lt g0
  have hmc : mb < wc.heap.size := by omega
  have HBC : Hid (Below w.heap.size w wc) := Lib.hid (HB.out.trans (HB7.out.mono HB.out.size))
  have hdm := check_dims HCC.out
  have hk40 := (asked_ok HA.out).2.2
  have h9 := H9.out HCC.out
  have HCN' : Hid (Cn' cs) := Lib.hid (cn_of_check HCC.out)
  have HSM : Hid (SmL ls) := Lib.hid fun x hx => by
    have := HLO.out x hx
    exact ⟨this.1, by omega, by omega⟩
  have HRL := Lib.hid (resL_cn HCN'.out HSM.out)
  have hocl : (occM (resL cs ls)).length ≤ 9 := occ_len fun v hv => by
    have := occ_of_check HCC.out v (HRL.out.2.1 v hv).1
    omega
  have hcap : capT (occM (resL cs ls)).length ≤ 1023 := Nat.le_trans (capT_le hocl) (by decide)
  have HNP := Lib.hid (newprover_any vars keep 24 262144 (.slice ca cn cc) wc (by omega) ⟨hdm.1, hk40⟩ ca cn cc rfl)
  have HCL7 := Lib.hid (clss_and hcl7)
  have HDM := Lib.hid hdm
  have HCAP := Lib.hid hcap
  clear f0 f1 f2 hcl7 hcut hdm hcap hocl HFM HCL
  go_wp2_with fail
  refine HNP.out.mono ?_
  rintro e w8 ⟨pb, mb2, rfl, hP8, hb8⟩
  have hlow := hP8.low
  have hcl8 : Clss (AX NoB pb mb2 (.slice none 0 0)) w8 (.slice ua un uc) (resL cs ls) := Rows1.mono (fun _ _ _ _ _ h hg => h.mono hg) (HCL7.out.below hb8) fun b hb => ⟨⟨by have := hb.1; omega, by have := hb.1; omega, fun e => by cases e⟩, fun e => e⟩
  have ht8 : TabB wc.heap.size w8 := (HTAB.out.below (HBC.out.trans (hb8.mono HBC.out.size)) (Nat.le_refl _)).up HBC.out.size
  have HPR := Lib.hid (prove_all _ (resL cs ls) (Nat.le_refl _) HRL.out.1 (resL_sz HS.out) NoB wc.heap.size pb mb2 keep (.slice none 0 0) (.slice ua un uc) [] 0 w8 ⟨hP8, ht8, hcl8, by have := HCAP.out; simp; omega, by simp⟩)
  have HB8 := Lib.hid hb8
  have HCL8 := Lib.hid hcl8
  have HLOW := Lib.hid hlow
  clear hP8 hb8 hcl8 ht8 hlow HNP HCL7
  go_wp2_with fail
  refine HPR.out.mono ?_
  rintro e w9 ⟨cv9, us, n9, i, rfl, hP9, hG9, hi9, hic, hul, hn9, _⟩
  rw [List.nil_append] at hP9 hi9 hic
  have hb9 : Below wc.heap.size wc w9 := HB8.out.trans (hG9.below HLOW.out.1 HLOW.out.2.1 (fun b hb => by cases hb) HB8.out.size)
  have hcl9 := hG9.clss HCL8.out
  have k0 := below_c hb9 hbl g0
  have k1 := below_c hb9 hbl g1
  have HFM9 : Hid (FixM w9 mb ls) := Lib.hid (HFM7.out.below hb9)
  have p4 := hP9.c4
  obtain ⟨cb, cc4, hcv9, hcb, _, hci⟩ := hP9.count hi9
  have hp2 := hP9.c2
  have hgood := acc_good (keep := keep) hP9.acc us.length i hi9 hi9
  rw [show us.getD i clNil = us.getD i clNil from rfl] at hgood
  obtain ⟨a, ha⟩ : ∃ a, us.getD i clNil = a := ⟨_, rfl⟩
  rw [ha] at hci hgood hic
  have hcnt : a.count = (Pc keep (resL cs ls) : Int) := by rw [hgood.2, hic]
  have HCNT := Lib.hid hcnt
  obtain ⟨tn, htn⟩ : ∃ m, us.length = m := ⟨_, rfl⟩
  rw [htn] at hcv9 hi9
  rw [hcv9] at hp2
  obtain ⟨X, hX⟩ : ∃ X, a.count = X := ⟨_, rfl⟩
  rw [hX] at hci HCNT
  have hplt : pb < w9.heap.size := block_lt p4
  have HKE : Hid (∀ W, Below w9.heap.size w9 W → Calls Tryz.prog 40 #[.pointer (some ⟨pb, 0, none⟩), .slice ua un uc] W (IntsNew W (keptM keep (occM (resL cs ls))))) := Lib.hid fun W hW => pkept_any _ pb keep _ _ W (below_c hW hplt hP9.c0) hP9.keep0 (clss_below hW hcl9) (resL_sz HS.out).1 (resL_sz HS.out).2
  have HB9 : Hid (Below w.heap.size w w9) := Lib.hid (HBC.out.trans (hb9.mono HBC.out.size))
  have HD9 : Hid (Below w9.heap.size w9 w9.drew) := Lib.hid (Below.refl _ _).drew
  have hit : (i : Int) < tn := by omega
  have hi0 : (0 : Int) ≤ i := by omega
  have hb9l : bb < w9.heap.size := block_lt k1
  clear hP9 hG9 hb9 hcl9 hcv9 hgood hic ha hcnt hX htn g0 g1 g2 hn9 HPR HCL8 HB8 HLOW HFM7
  go_upto_region 22 with fail
  go_region_held3 (fun w' => w'.cell? ⟨bb, 1, none⟩ = some (.int .i64 keep))
    (first | exact k1 | exact q1 | go_keep)
    (first
      | (go_at_call 40; (with_reducible refine (HKE.out _ HD9.out).mono ?_); rintro e w10 ⟨kv, rfl, hkv, hb10⟩; obtain ⟨ka, kn, kc, rfl, HKN, _⟩ := hkv.form'; have HB10 : Hid (Below w9.heap.size w9 w10) := Lib.hid (HD9.out.trans (hb10.mono HD9.out.size)); have q1 := below_c HB10.out hb9l k1; clear hb10 hkv)
      | fail)
  have hop := open_pos HCN'.out HSM.out keep.toNat
  have hkt : ((keep.toNat : Nat) : Int) = keep := by have := HDM.out.1; omega
  rw [hkt, ← HKN.out] at hop
  have hwo : IntKind.i64.wrap (keep - kn) = keep - kn := IntWalk.i64_in _ ⟨by omega, by have := HDM.out.1; omega⟩
  rw [hwo]
  obtain ⟨O0, hO0⟩ : ∃ O, keep - (kn : Int) = O := ⟨_, rfl⟩
  rw [hO0]
  have HO0 := Lib.hid hO0
  have HOP := Lib.hid hop
  have k10 := below_c HB10.out (block_lt k0) k0
  have m2 := below_c HB10.out hplt hp2
  have mi := below_c HB10.out hcb hci
  have hcb10 := block_lt mi
  have hpb10 := block_lt m2
  have hbb10 := block_lt q1
  obtain ⟨D, hown, _, _, hD4⟩ := HFM9.out.below HB10.out
  have HD4 := Lib.hid hD4
  have HB10W : Hid (Below w.heap.size w w10) := Lib.hid (HB9.out.trans (HB10.out.mono HB9.out.size))
  have hmb10 : mb < w10.heap.size := hown.lt
  have hO40 : O0 ≤ 40 := by omega
  clear hop hkt hwo hO0 hD4 k0 k1 hp2 hci p4 HKE HD9 HFM9 hcb hplt hb9l
  go_wp2_with (first | (at_range; refine wpList_range_own _ rfl _ 60 rfl 3 4 law_int Tryz.underlying60 _ mb ls.length D rfl hown ?_; intro w0 hrg0 hg0 hs0) | go_in)
  go_frame
  have HR0 := Lib.hid hrg0
  have HB0 : Hid (Below w10.heap.size w10 w0) := Lib.hid ⟨hg0.os, hg0.tape, hg0.output, hg0.size, fun b hb => hg0.block b hb (by simp)⟩
  have HLS : Hid (∀ x, I64 x → Maps.has D (.int .i64 x) = true → x ∈ ls) := Lib.hid fun x hx h => by rw [HD4.out x hx] at h; simpa using h
  have HCS : Hid (cntL ls keep.toNat (fun x => Maps.has D (.int .i64 x)) = 0) := Lib.hid (cntL_start (by omega) fun x h1 h2 => HD4.out x (by unfold I64; omega))
  have HZ0 : Hid (O0 = O0 - ((cntL ls keep.toNat (fun x => Maps.has D (.int .i64 x)) : Nat) : Int)) := Lib.hid (by rw [HCS.out]; simp)
  clear hrg0 hg0 hown
  go_loopg [16] (Maps.size D) (fun gg u16 wx => ∃ left : Lit → Bool, Hid (wx.ranges Tryz.prog 3 (plainElem Tryz.prog 4) mb w10.heap.size ls.length D left gg) ∧ u16 = .int .i64 (O0 - ((cntL ls keep.toNat (fun x => left (.int .i64 x)) : Nat) : Int)) ∧ Hid (∀ x, I64 x → left (.int .i64 x) = true → x ∈ ls) ∧ Hid (Below w10.heap.size w10 wx))
  case atStart => exact ⟨_, HR0, by rw [← HZ0.out], HLS, HB0⟩
  case round =>
  clear HR0 HB0 HLS HCS HZ0 hs0
  obtain ⟨left, HR, rfl, HLS, HBX⟩ := hrel
  have n1 := below_c HBX.out hbb10 q1
  have n2 := below_c HBX.out hpb10 m2
  have ni := below_c HBX.out hcb10 mi
  have hrg := HR.out
  go_wp2_with (first
    | (at_next; refine next_any _ rfl _ rfl mb w10.heap.size ls.length D left gk rfl hrg ?_ ?_)
    | go_in)
  · intro hl0
    have hce : cntL ls keep.toNat (fun x => left (.int .i64 x)) = ((ivl 0 keep.toNat).filter (fixB ls)).length := cntL_end fun x => hl0.out _
    obtain ⟨O, hO⟩ : ∃ O, O0 - ((cntL ls keep.toNat (fun x => left (.int .i64 x)) : Nat) : Int) = O := ⟨_, rfl⟩
    have hsh := cw_shift HCN'.out HSM.out HCO.out HDM.out.1 (O := O) (by rw [← hO, hce, ← HO0.out, HKN.out])
    rw [hO]
    obtain ⟨hO1, hO2⟩ := hsh
    have hOl : O ≤ 40 := by omega
    obtain ⟨f, rfl⟩ := Int.eq_ofNat_of_zero_le hO1
    rw [Int.toNat_natCast, ← HCNT.out] at hO2
    have hle := cwN_le (cs := cs) (ls := ls) hk40
    have HF : Hid (CwPost w vars keep cs ls (.returned (.tuple #[.int .i64 (X * 2 ^ f), .int .i64 0])) wr) := Lib.hid ⟨_, 0, rfl, HA.out.symm, fun h => absurd rfl h, fun _ => hO2, HB10W.out.trans (HBX.out.mono HB10W.out.size)⟩
    rw [← hO2] at hle
    obtain ⟨Y, hY⟩ : ∃ Y, X * 2 ^ f = Y := ⟨_, rfl⟩
    rw [hY] at hle HF
    have hmin : min f 64 = f := by omega
    have hw1 : wrap64 (X * 2 ^ f) = Y := by rw [hY]; exact wrap64_id hle
    have hf0 : (0 : Int) ≤ f := by omega
    clear hl0 hce hO hO1 hO2 hrg HR HLS HBX hY
    go_wp2_with fail
    rw [hw1]
    go_ret2
    exact HF.out
  · intro x c w1 cnt1 hnx
    have hen := hnx.en
    have hxl := HLS.out x hnx.ix hnx.lx
    have hxs := HLO.out x hxl
    have hwn : IntKind.i64.wrap (-x) = -x := IntWalk.i64_in _ ⟨by omega, by omega⟩
    have hmx : max x (-x) = varM x := by unfold varM; split <;> omega
    have HR1 := Lib.hid hnx.rg
    have hlt := hnx.lt
    have HBX1 : Hid (Below w10.heap.size w10 w1) := Lib.hid (HBX.out.trans ⟨hnx.gr.os, hnx.gr.tape, hnx.gr.output, hnx.gr.size, fun b hb => hnx.gr.block b (Nat.lt_of_lt_of_le hb HBX.out.size) (fun e => by injection e with e; omega)⟩)
    have o1 := below_c HBX1.out hbb10 q1
    have hst := cntL_step (N := keep.toNat) (left := fun x => left (.int .i64 x)) HCO.out hxl hnx.lx (fun h => HLS.out (-x) (by unfold I64; omega) h)
    have hst2 : cntL ls keep.toNat (fun z => left (.int .i64 z) && !(Lit.int .i64 z).sameKey (.int .i64 x)) = cntL ls keep.toNat (fun x => left (.int .i64 x)) + if varM x ≤ (keep.toNat : Nat) then 1 else 0 := by
      rw [← hst]
      congr 1
      funext z
      rw [same_int]
    have HLS1 : Hid (∀ y, I64 y → (left (.int .i64 y) && !(Lit.int .i64 y).sameKey (.int .i64 x)) = true → y ∈ ls) := Lib.hid fun y hy h => HLS.out y hy (by rw [Bool.and_eq_true] at h; exact h.1)
    have hcl : cntL ls keep.toNat (fun x => left (.int .i64 x)) ≤ 40 := by
      have h1 : cntL ls keep.toNat (fun x => left (.int .i64 x)) ≤ (ivl 0 keep.toNat).length := List.length_filter_le _ _
      rw [ivl_len] at h1
      omega
    have hkt : ((keep.toNat : Nat) : Int) = keep := by have := HDM.out.1; omega
    have hO00 : 0 ≤ O0 := by
      have := HO0.out
      have := HOP.out
      omega
    rw [hkt] at hst2
    have HST := Lib.hid hst2
    obtain ⟨cl, hcle⟩ : ∃ c, cntL ls keep.toNat (fun x => left (.int .i64 x)) = c := ⟨_, rfl⟩
    rw [hcle] at HST hcl ⊢
    obtain ⟨V, hV⟩ : ∃ V, varM x = V := ⟨_, rfl⟩
    rw [hV] at hmx HST
    have hwo : IntKind.i64.wrap (O0 - (cl : Int) - 1) = O0 - (cl : Int) - 1 := IntWalk.i64_in _ ⟨by omega, by omega⟩
    clear hnx hxl hxs hst hst2 hrg HR HLS HBX n1 n2 ni hkt hcle hV
    by_cases hvk : V ≤ keep
    · have hdv : decide (V ≤ keep) = true := decide_eq_true hvk
      have hnew : Hid (O0 - (cl : Int) - 1 = O0 - ((cntL ls keep.toNat (fun z => left (.int .i64 z) && !(Lit.int .i64 z).sameKey (.int .i64 x)) : Nat) : Int)) := Lib.hid (by rw [HST.out, if_pos hvk]; omega)
      clear HST hvk
      go_wp2_with fail
      go_roundg cnt1
      case measure => omega
      case rel => exact ⟨_, HR1, by rw [← hnew.out], HLS1, HBX1⟩
    · have hdv : decide (V ≤ keep) = false := decide_eq_false hvk
      have hnew : Hid (O0 - (cl : Int) = O0 - ((cntL ls keep.toNat (fun z => left (.int .i64 z) && !(Lit.int .i64 z).sameKey (.int .i64 x)) : Nat) : Int)) := Lib.hid (by rw [HST.out, if_neg hvk]; omega)
      clear HST hvk
      go_wp2_with fail
      go_roundg cnt1
      case measure => omega
      case rel => exact ⟨_, HR1, by rw [← hnew.out], HLS1, HBX1⟩

/- (Counter seat) Walks: Count, Frequency. No condition but the sizes. -/
open Go.ChangeShapes Go.WideShapes Go.ChangeAt Go.RowKit
set_option linter.unusedVariables false
set_option linter.unusedSimpArgs false

set_option maxRecDepth 100000 in
set_option maxHeartbeats 4000000 in
theorem pcount_any (F : Nat → Prop) (vars keep : Int) (cv : Value) (cs : List (List Int)) (w : World) (hc : Clss F w cv cs) (hiv : I64 vars) (hik : I64 keep) (hs : SzL cs) (h9 : checkM vars keep cs = 0 → vars ≤ 9) (htab : TabB w.heap.size w) :
    Calls Tryz.prog 13 #[.agg #[.int .i64 vars, .int .i64 keep, cv]] w (CwPost w vars keep cs []) := by
  obtain ⟨ca, cn, cc, rfl, HCN, _⟩ := hc.form'
  obtain ⟨bb, hbb⟩ : ∃ b, w.heap.size = b := ⟨_, rfl⟩
  obtain ⟨W1, hW1⟩ : ∃ W, w.alloc (.cells #[.int .i64 vars, .int .i64 keep, .slice ca cn cc] 24) = W := ⟨_, rfl⟩
  have hb1 : Below w.heap.size w W1 := by rw [← hW1]; exact (Below.refl _ _).alloc (Nat.le_refl _) _
  have HCW := Lib.hid (countwith_any _ (fun _ => True) vars keep _ _ cs [] W1 (hc.below hb1) (Ints.nil _ _) hiv hik hs (by simp) h9 ((htab.below hb1 (Nat.le_refl _)).up hb1.size))
  have HB1 := Lib.hid hb1
  have HW1 := Lib.hid hW1
  clear hb1 hc hs h9 htab hiv hik hW1 hbb
  go_enter Tryz.func13, Tryz.ntmps13
  go_wp2_with fail
  try rw [HW1.out]
  refine HCW.out.mono ?_
  rintro e w2 ⟨n, c, rfl, h1, h2, h3, h4⟩
  have HF : Hid (CwPost w vars keep cs [] (.returned (.tuple #[.int .i64 n, .int .i64 c])) w2) := Lib.hid ⟨n, c, rfl, h1, h2, h3, HB1.out.trans (h4.mono HB1.out.size)⟩
  clear h1 h2 h3 h4 HCW
  go_wp2_with fail
  go_ret2
  exact HF.out
/-- what Frequency hands back -/
def FqPost (W : World) (vars keep : Int) (cs : List (List Int)) (e : Ending) (w' : World) : Prop :=
  ∃ (v : Value) (c : Int) (fs : List Int), e = .returned (.tuple #[v, .int .i64 c]) ∧ c = askedM vars keep cs [] ∧ (c ≠ 0 → fs = []) ∧ (c = 0 → fs = (List.range keep.toNat).map fun i : Nat => cwN keep cs [(i : Int) + 1]) ∧ Ints (fun b => W.heap.size ≤ b) w' v fs ∧ Below W.heap.size W w'
theorem asked_one {vars keep : Int} {cs : List (List Int)} (h : askedM vars keep cs [] = 0) {i : Nat} (hi : (i : Int) < keep) : askedM vars keep cs [(i : Int) + 1] = 0 := by
  obtain ⟨h1, _, h3⟩ := asked_ok h
  have hd := check_dims h1
  unfold askedM
  rw [if_neg (by simpa using h1), if_neg, if_neg (by omega)]
  simp
  omega
theorem fq_set (g : Nat → Int) {n k : Nat} (h : k < n) : ((List.range k).map g ++ List.replicate (n - k) 0).set k (g k) = (List.range (k + 1)).map g ++ List.replicate (n - (k + 1)) 0 := by
  apply List.ext_getElem?
  intro j
  rw [List.getElem?_set]
  by_cases e : k = j
  · subst e
    rw [if_pos rfl, if_pos (by simp; omega), List.getElem?_append_left (by simp), List.getElem?_map, List.getElem?_range (by omega)]
    rfl
  · rw [if_neg e]
    by_cases hj : j < k
    · rw [List.getElem?_append_left (by simpa using hj), List.getElem?_append_left (by simp; omega), List.getElem?_map, List.getElem?_map, List.getElem?_range hj, List.getElem?_range (by omega)]
    · rw [List.getElem?_append_right (by simp; omega), List.getElem?_append_right (by simp; omega), List.getElem?_replicate, List.getElem?_replicate, List.length_map, List.length_map, List.length_range, List.length_range]
      by_cases h2 : j < n
      · rw [if_pos (by omega), if_pos (by omega)]
      · rw [if_neg (by omega), if_neg (by omega)]
theorem made_zero (n : Nat) (g : Nat → Int) : (madeCells (Value.cells (.int .i64 0)) (n * 1)).toList = ((List.range 0).map g ++ List.replicate (n - 0) 0).map (.int .i64) := by
  apply List.ext_getElem?
  intro i
  by_cases h : i < n <;> simp [madeCells, Value.cells, h, Nat.mod_one]
set_option maxRecDepth 100000 in
set_option maxHeartbeats 16000000 in
theorem frequency_any (F : Nat → Prop) (vars keep : Int) (cv : Value) (cs : List (List Int)) (w : World) (hc : Clss F w cv cs) (hiv : I64 vars) (hik : I64 keep) (hs : SzL cs) (h9 : checkM vars keep cs = 0 → vars ≤ 9) (htab : TabB w.heap.size w) :
    Calls Tryz.prog 18 #[.agg #[.int .i64 vars, .int .i64 keep, cv]] w (FqPost w vars keep cs) := by
  obtain ⟨ca, cn, cc, rfl, HCN, _⟩ := hc.form'
  obtain ⟨bb, hbb⟩ : ∃ b, w.heap.size = b := ⟨_, rfl⟩
  obtain ⟨W1, hW1⟩ : ∃ W, w.alloc (.cells #[.int .i64 vars, .int .i64 keep, .slice ca cn cc] 24) = W := ⟨_, rfl⟩
  have hb1 : Below w.heap.size w W1 := by rw [← hW1]; exact (Below.refl _ _).alloc (Nat.le_refl _) _
  have hrow : W1.heap[bb]? = some (.cells #[.int .i64 vars, .int .i64 keep, .slice ca cn cc] 24) := by rw [← hW1]; exact new_at' _ _ hbb.symm
  have c0 : W1.cell? ⟨bb, 0, none⟩ = some (.int .i64 vars) := by rw [cell_of_row _ _ _ _ _ _ hrow]; rfl
  have c1 : W1.cell? ⟨bb, 1, none⟩ = some (.int .i64 keep) := by rw [cell_of_row _ _ _ _ _ _ hrow]; rfl
  have c2 : W1.cell? ⟨bb, 2, none⟩ = some (.slice ca cn cc) := by rw [cell_of_row _ _ _ _ _ _ hrow]; rfl
  have hlt1 := block_lt c0
  obtain ⟨A, hA⟩ : ∃ A, askedM vars keep cs [] = A := ⟨_, rfl⟩
  have hck := checked_any F (fun _ => True) vars keep (.slice ca cn cc) (.slice none 0 0) cs [] W1 (hc.below hb1) (Ints.nil _ _) hiv hik
  rw [hA] at hck
  have HCK := Lib.hid hck
  have HA := Lib.hid hA
  have hinfo : (Tryz.prog.info? 3).map (fun i => (i.zero, i.size, i.bytes)) = some (some (.int .i64 0), 1, 8) := by kernel_rfl
  obtain ⟨i0, g1, g2, g3, g4⟩ := info_parts hinfo
  have G1 := Lib.hid g1
  have G2 := Lib.hid g2
  have G3 := Lib.hid g3
  have G4 := Lib.hid g4
  have HC := Lib.hid (clss_lt hc)
  have HS := Lib.hid hs
  have H9 := Lib.hid h9
  have HTAB := Lib.hid htab
  have HB1 := Lib.hid hb1
  have HW1 := Lib.hid hW1
  have HBB := Lib.hid hbb
  have HIV := Lib.hid hiv
  have HIK := Lib.hid hik
  clear hck hA hc hs h9 htab hb1 hW1 hbb hrow hiv hik hinfo g1 g2 g3 g4
  go_enter Tryz.func18, Tryz.ntmps18
  go_wp2_with fail
  try rw [HW1.out]
  try rw [HBB.out]
  refine HCK.out.mono ?_
  rintro e w2 ⟨rfl, hb2⟩
  have HB2 : Hid (Below w.heap.size w w2) := Lib.hid (HB1.out.trans (hb2.mono HB1.out.size))
  have e0 := below_c hb2 hlt1 c0
  have e1 := below_c hb2 hlt1 c1
  have e2 := below_c hb2 hlt1 c2
  have hlt2 := block_lt e0
  clear hb2 c0 c1 c2 hlt1 HCK
  by_cases hA0 : A = 0
  case neg =>
    have hd : (A != 0) = true := by simp; exact hA0
    have HF : Hid (FqPost w vars keep cs (.returned (.tuple #[.slice none 0 0, .int .i64 A])) w2) := Lib.hid ⟨_, A, [], rfl, HA.out.symm, fun _ => rfl, fun h => absurd h hA0, Ints.nil _ _, HB2.out⟩
    clear hA0
    go_wp2_with fail
    go_ret2
    exact HF.out
  subst hA0
  have hd : ((0 : Int) != 0) = false := by decide
  obtain ⟨hcc, _, hk40⟩ := asked_ok HA.out
  have hdm := check_dims hcc
  obtain ⟨K, hK⟩ := Int.eq_ofNat_of_zero_le hdm.1
  subst hK
  have hK40 : K ≤ 40 := by omega
  clear hcc hdm hk40
  go_upto_region 5 with (at_make; refine wpList_make_full _ rfl _ _ 32 rfl w2.heap.size 3 i0 (.int .i64 0) 1 Tryz.underlying32 G1.out G2.out G3.out .i64 .i64 _ _ K rfl rfl (by simp) (by simp) (by rw [G4.out]; omega) (by unfold maxLen; omega) (by simp) ?_; intro w3 hown3 hg3)
  obtain ⟨gb, hgb⟩ : ∃ b, w2.heap.size = b := ⟨_, rfl⟩
  have HO3 : Hid (w3.ownsRow gb 3 1 (.slice (some ⟨gb, 0, none⟩) K K) K (((List.range 0).map (fun i : Nat => cwN K cs [(i : Int) + 1]) ++ List.replicate (K - 0) 0).map (.int .i64))) := Lib.hid (by rw [made_zero K (fun i : Nat => cwN K cs [(i : Int) + 1]), hgb] at hown3; exact hown3)
  have hb3 : Below w2.heap.size w2 w3 := (Below.refl _ _).grown hg3 (Nat.le_refl _) (by intro k hk; cases hk)
  have HB3 : Hid (Below w.heap.size w w3) := Lib.hid (HB2.out.trans (hb3.mono HB2.out.size))
  have f0 := below_c hb3 hlt2 e0
  have f1 := below_c hb3 hlt2 e1
  have f2 := below_c hb3 hlt2 e2
  have hbg : bb < gb := by omega
  rw [hgb]
  have HGB : Hid (w.heap.size ≤ gb) := Lib.hid (by rw [← hgb]; exact HB2.out.size)
  clear hown3 hg3 hb3 e0 e1 e2 hgb hlt2 hd
  go_wp2_with fail
  go_loopg [19] K (fun gg u19 wx => ∃ k : Nat, k + gg = K ∧ u19 = .int .i64 k ∧ Hid (wx.ownsRow gb 3 1 (.slice (some ⟨gb, 0, none⟩) K K) K (((List.range k).map (fun i : Nat => cwN K cs [(i : Int) + 1]) ++ List.replicate (K - k) 0).map (.int .i64))) ∧ Hid (Below w.heap.size w wx) ∧ wx.cell? ⟨bb, 0, none⟩ = some (.int .i64 vars) ∧ wx.cell? ⟨bb, 1, none⟩ = some (.int .i64 (K : Nat)) ∧ wx.cell? ⟨bb, 2, none⟩ = some (.slice ca cn cc))
  case atStart => exact ⟨0, by omega, rfl, HO3, HB3, f0, f1, f2⟩
  case round =>
  clear HO3 HB3 f0 f1 f2
  obtain ⟨k, hkg, rfl, HO, HB, f0, f1, f2⟩ := hrel
  by_cases hk : k < K
  · have hdk : decide ((k : Int) < K) = true := by simp; omega
    have hdk' : decide (k < K) = true := decide_eq_true hk
    have hwk : IntKind.i64.wrap ((k : Int) + 1) = (k : Int) + 1 := IntWalk.i64_in _ ⟨by omega, by omega⟩
    obtain ⟨ab, hab⟩ : ∃ b, wr.heap.size = b := ⟨_, rfl⟩
    obtain ⟨W5, hW5⟩ : ∃ W, wr.alloc (.cells #[.int .i64 ((k : Int) + 1)] 3) = W := ⟨_, rfl⟩
    have hb5 : Below wr.heap.size wr W5 := by rw [← hW5]; exact (Below.refl _ _).alloc (Nat.le_refl _) _
    have hrow5 : W5.heap[ab]? = some (.cells #[.int .i64 ((k : Int) + 1)] 3) := by rw [← hW5]; exact new_at' _ _ hab.symm
    have hli : Ints (fun _ => True) W5 (.slice (some ⟨ab, 0, none⟩) 1 1) [(k : Int) + 1] := (ints_block [(k : Int) + 1] 1 hrow5 (by simp) (by simp) (fun x hx => by simp at hx; subst hx; unfold I64; omega)).mono fun _ _ => trivial
    have HBW5 : Hid (Below w.heap.size w W5) := Lib.hid (HB.out.trans (hb5.mono HB.out.size))
    have hcw := countwith_any _ _ vars K (.slice ca cn cc) _ cs [(k : Int) + 1] W5 (HC.out.below HBW5.out) hli HIV.out HIK.out HS.out (by simp) H9.out ((HTAB.out.below HBW5.out (Nat.le_refl _)).up HBW5.out.size)
    have hone := asked_one HA.out (i := k) (by omega)
    have HONE := Lib.hid hone
    have HCW := Lib.hid hcw
    have HO5 := Lib.hid (own_below HO.out hb5)
    have HB5 := Lib.hid hb5
    have h0 := below_c hb5 (block_lt f0) f0
    have h1 := below_c hb5 (block_lt f1) f1
    have h2 := below_c hb5 (block_lt f2) f2
    have hbb5 := block_lt h0
    clear hcw hone hb5 hrow5 hli HO HB
    go_wp2_with fail
    try rw [hW5]
    try rw [hab]
    refine HCW.out.mono ?_
    rintro e w6 ⟨N, c, rfl, q1, q2, q3, q4⟩
    rw [HONE.out] at q1
    subst q1
    have hN := q3 rfl
    have HN := Lib.hid hN
    have HB6 : Hid (Below w.heap.size w w6) := Lib.hid (HBW5.out.trans (q4.mono HBW5.out.size))
    have j0 := below_c q4 hbb5 h0
    have j1 := below_c q4 hbb5 h1
    have j2 := below_c q4 hbb5 h2
    have hown := own_below HO5.out q4
    obtain ⟨x, _, hxc, hxz, _, hgl, hset⟩ := own_at (Value.int .i64) hown hk
    have HSET := Lib.hid (hset N)
    have HFS := Lib.hid (fq_set (fun i : Nat => cwN K cs [(i : Int) + 1]) hk)
    have hkK : (k : Int) < K := by omega
    have hk0 : (0 : Int) ≤ k := by omega
    clear hown hset q2 q3 q4 hN HCW HO5 hW5 hab h0 h1 h2 f0 f1 f2
    go_wp2_with fail
    have HON : Hid ((w6.setCell ⟨gb, k, none⟩ (.int .i64 N)).ownsRow gb 3 1 (.slice (some ⟨gb, 0, none⟩) K K) K (((List.range (k + 1)).map (fun i : Nat => cwN K cs [(i : Int) + 1]) ++ List.replicate (K - (k + 1)) 0).map (.int .i64))) := Lib.hid (by
      have h := HSET.out
      rw [HN.out] at h ⊢
      rw [HFS.out] at h
      exact h)
    have HBN : Hid (Below w.heap.size w (w6.setCell ⟨gb, k, none⟩ (.int .i64 N))) := Lib.hid (HB6.out.setCell HGB.out _)
    clear HSET HFS
    go_roundg (gk - 1)
    case measure => omega
    case rel => exact ⟨k + 1, by omega, by go_num, HON, HBN, set_ne (.inl (by omega)) j0, set_ne (.inl (by omega)) j1, set_ne (.inl (by omega)) j2⟩
  obtain rfl : K = k := by omega
  have hdk : decide ((K : Int) < K) = false := by simp
  have hdk' : decide (K < K) = false := decide_eq_false (by omega)
  have HF : Hid (FqPost w vars K cs (.returned (.tuple #[.slice (some ⟨gb, 0, none⟩) K K, .int .i64 0])) wr) := Lib.hid ⟨_, 0, (List.range K).map (fun i : Nat => cwN K cs [(i : Int) + 1]), rfl, HA.out.symm, fun h => absurd rfl h, fun _ => by rw [Int.toNat_natCast], ⟨by
      have h := HO.out
      rw [Nat.sub_self, List.replicate_zero, List.append_nil] at h
      exact (ownsRow_sl1 h (by omega)).mono fun b hb => Nat.le_trans HGB.out hb.1, fun x hx => by
      obtain ⟨i, _, rfl⟩ := List.mem_map.1 hx
      have := cwN_le (keep := (K : Int)) (cs := cs) (ls := [(i : Int) + 1]) (by omega)
      unfold I64
      omega⟩, HB.out⟩
  clear HO HB f0 f1 f2
  go_wp2_with fail
  go_ret2
  exact HF.out
end Go.Proofs.YthanfjpmcckbhaaGreatDoor
