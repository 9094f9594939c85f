/- Walks: slices.Sort of an owned slice of ints; cnf.Occur, the statement's Occur. No condition but the lengths. -/
import Derived.Test.YtjjbpfbbfjdhdaaQn
import Derived.Test.YtjjbpfbbfjdhdaaTd
import Derived.Test.YtjjbpfbbfjdhdaaKe
import Derived.Test.YtjjbpfbbfjdhdaaQc
import Derived.Shelf.Sort.Plain
import Derived.Shelf.Slices.In.SortNone
namespace Go.Proofs.Ytjjbpfbbfjdhdaa
open Go.ChangeShapes Go.WideShapes Go.ChangeAt Go.RowKit
set_option linter.unusedVariables false

theorem merge_asc (xs : List Int) : (xs.mergeSort fun x y => decide (x ≤ y)).Pairwise (fun a b => a ≤ b) := by
  have := List.pairwise_mergeSort (le := fun x y : Int => decide (x ≤ y)) (fun a b c h1 h2 => by simp at *; omega) (fun a b => by simp; omega) xs
  exact this.imp fun h => by simpa using h
/-- what Sort leaves -/
def SortOPost (W : World) (base : Nat) (e : TypeId) (v : Value) (xs : List Int) (r : Ending) (w' : World) : Prop :=
  r = .returned (.tuple #[]) ∧ ∃ ts : List Int, ts.Perm xs ∧ (ts.Pairwise fun a b => a ≤ b) ∧ w'.ownsRow base e 1 v xs.length (ts.map (.int .i64)) ∧ W.grownBy w' v.ownBlock
theorem sorto_own (w : World) (base : Nat) (e : TypeId) (v : Value) (xs : List Int) (hown : w.ownsRow base e 1 v xs.length (xs.map (.int .i64))) (hl : xs.length < 4611686018427387904) :
    Calls Try.prog 57 #[v] w (SortOPost w base e v xs) := by
  rcases hown.2 with ⟨rfl, h0⟩ | ⟨b, cap, cur, rfl, hbase, hb, hn, hcap, hcs, ht⟩
  · obtain rfl : xs = [] := List.eq_nil_of_length_eq_zero h0
    refine (Any.slices_Sort_int_none sortO none 0 w).mono ?_
    rintro r w' ⟨rfl, rfl⟩
    exact ⟨rfl, [], List.Perm.refl _, List.Pairwise.nil, hown, ⟨rfl, rfl, rfl, Nat.le_refl _, fun _ _ _ => rfl⟩⟩
  · have hg : b < w.heap.size := (Array.getElem?_eq_some_iff.1 hb).1
    rw [Nat.mul_one] at ht
    have hH := holds_own (Value.int .i64) hb ht
    refine (Any.slices_Sort_int sortO b 0 cap xs w hH hg hl).mono ?_
    rintro r w' ⟨rfl, n, os, rfl⟩
    have hp := List.mergeSort_perm xs fun x y => decide (x ≤ y)
    have ha := merge_asc xs
    generalize (xs.mergeSort fun x y => decide (x ≤ y)) = ts at *
    have hd := hp.length_eq
    refine ⟨rfl, ts, hp, ha, ?_, sorted_grown (Value.int .i64) ts.toArray⟩
    refine ⟨by simp [hd], .inr ⟨b, cap, _, rfl, hbase, sorted_block (Value.int .i64) ts.toArray hb, hn, hcap, by simp [Sort.putCells, hcs], ?_⟩⟩
    rw [Nat.mul_one, ← hd]
    exact sorted_take (Value.int .i64) cur ts (by omega)

/-! ### what occurs -/
def magR (x : Int) : Bool := decide (1 ≤ x) && decide (x ≤ 20000)
def magsC (c : List Int) : List Int := (c.map varM).filter magR
def mags (cs : List (List Int)) : List Int := cs.flatMap magsC
theorem cmpCmp : Cmp cmpM := ⟨cmpM_flip, fun _ _ => cmpM_zero, fun a b c h1 h2 => by rw [cmpM_lt] at *; omega⟩
theorem strict_ext {α : Type} {c : α → α → Int} (h : Cmp c) : ∀ (l m : List α), Strict c l → Strict c m → (∀ x, x ∈ l ↔ x ∈ m) → l = m
  | [], [], _, _, _ => rfl
  | [], b :: s, _, _, hm => by have := (hm b).2 (List.mem_cons_self ..); cases this
  | a :: r, [], _, _, hm => by have := (hm a).1 (List.mem_cons_self ..); cases this
  | a :: r, b :: s, hl, hs, hm => by
    obtain ⟨l1, l2⟩ := List.pairwise_cons.1 hl
    obtain ⟨s1, s2⟩ := List.pairwise_cons.1 hs
    have hself : ∀ x, ¬ c x x < 0 := fun x hx => by have := (h.eq x x).2 rfl; omega
    have hab : a = b := by
      rcases List.mem_cons.1 ((hm a).1 (List.mem_cons_self ..)) with h1 | h1
      · exact h1
      · rcases List.mem_cons.1 ((hm b).2 (List.mem_cons_self ..)) with h2 | h2
        · exact h2.symm
        · exact absurd (h.tr a b a (l1 b h2) (s1 a h1)) (hself a)
    subst hab
    rw [strict_ext h r s l2 s2 fun x => by
      constructor
      · intro hx
        rcases List.mem_cons.1 ((hm x).1 (List.mem_cons_of_mem _ hx)) with h1 | h1
        · subst h1
          exact absurd (l1 x hx) (hself x)
        · exact h1
      · intro hx
        rcases List.mem_cons.1 ((hm x).2 (List.mem_cons_of_mem _ hx)) with h1 | h1
        · subst h1
          exact absurd (s1 x hx) (hself x)
        · exact h1]
/-- what Occur hands back: the variables that occur, ascending -/
def OccPost (W : World) (cs : List (List Int)) (e : Ending) (w' : World) : Prop :=
  ∃ v os, e = .returned v ∧ Ints (fun b => W.heap.size ≤ b) w' v os ∧ Below W.heap.size W w' ∧ Strict cmpM os ∧ ∀ x, x ∈ os ↔ x ∈ mags cs
theorem mags_I64 {cs : List (List Int)} {x : Int} (h : x ∈ mags cs) : 1 ≤ x ∧ x ≤ 20000 := by
  unfold mags magsC at h
  obtain ⟨c, _, hx⟩ := List.mem_flatMap.1 h
  rw [List.mem_filter] at hx
  have := hx.2
  unfold magR at this
  simp at this
  exact this
theorem asc_cpt {ts : List Int} (h : ts.Pairwise fun a b => a ≤ b) : Strict cmpM (cptM ts) :=
  (cpt_strict cmpCmp none ts (h.imp fun {a b} hab => by rw [cmpM_lt]; omega) fun q hq => by cases hq).1
theorem asc_nodup {ts : List Int} (h : ts.Pairwise fun a b => a ≤ b) (hn : ts.Nodup) : Strict cmpM ts := by
  have := h.and hn
  exact this.imp fun {a b} hab => by rw [cmpM_lt]; have := hab.1; have := hab.2; omega
theorem cptM_has {α : Type} [DecidableEq α] : ∀ (p : Option α) (l : List α) (x : α), x ∈ l → x ∈ cptG p l ∨ p = some x
  | p, y :: r, x, h => by
    rw [cptG]
    split
    · rename_i e
      rcases List.mem_cons.1 h with rfl | h
      · exact .inr e
      · rcases cptM_has (some y) r x h with h1 | h1
        · exact .inl h1
        · exact .inr (e.trans h1)
    · rcases List.mem_cons.1 h with rfl | h
      · exact .inl (List.mem_cons_self ..)
      · rcases cptM_has (some y) r x h with h1 | h1
        · exact .inl (List.mem_cons_of_mem _ h1)
        · injection h1 with h1
          subst h1
          exact .inl (List.mem_cons_self ..)
theorem cptM_in {α : Type} [DecidableEq α] {l : List α} {x : α} : x ∈ cptM l ↔ x ∈ l :=
  ⟨fun h => cptG_sub none l x h, fun h => (cptM_has none l x h).resolve_right fun e => by cases e⟩
theorem varM_u64 (y : Int) (h : I64 y) : 0 ≤ varM y ∧ varM y ≤ 9223372036854775808 := by
  unfold varM
  obtain ⟨h1, h2⟩ := h
  split <;> omega

set_option maxRecDepth 100000 in
set_option maxHeartbeats 4000000 in
theorem loccur_any (F : Nat → Prop) (v : Value) (cs : List (List Int)) (w : World) (hx : Clss F w v cs) (hl : cs.length ≤ 60) (hll : ∀ c ∈ cs, c.length ≤ 300) :
    Calls Try.prog 32 #[v] w (OccPost w cs) := by
  obtain ⟨a, n, c, rfl, HN, hn⟩ := hx.form'
  have hinfo1 : (Try.prog.info? 3).map (fun i => (i.zero, i.size, i.bytes)) = some (some (.int .i64 0), 1, 8) := by kernel_rfl
  have HI1 := Lib.hid hinfo1
  have HX := Lib.hid hx
  have HLL := Lib.hid hll
  have hn2 : n ≤ 60 := by rw [HN.out]; exact hl
  have HB0 : Hid (Below w.heap.size w (w.alloc (.cells #[] 3))) := Lib.hid ((Below.refl _ _).alloc (Nat.le_refl _) _)
  have HO0 : Hid ((w.alloc (.cells #[] 3)).ownsRow w.heap.size 3 1 (.slice (some ⟨w.heap.size, 0, none⟩) 0 0) ([] : List Int).length (([] : List Int).map (.int .i64))) := Lib.hid (by simpa using own_new (base := w.heap.size) (w := w) #[] 3 (by omega) (by simp))
  have HQ0 : Hid (mags cs = [] ++ mags (cs.drop 0)) := Lib.hid rfl
  clear hx hll hinfo1 hl
  go_enter Try.func32, Try.ntmps32
  go_wp2
  go_loopg [3, 12] n (fun gg u3 u12 wx => ∃ (k : Nat) (ov : Value) (os : List Int), k + gg = n ∧ u12 = .int .i64 k ∧ u3 = ov ∧ Hid (Below w.heap.size w wx) ∧ Hid (wx.ownsRow w.heap.size 3 1 ov os.length (os.map (.int .i64))) ∧ os.length ≤ 300 * k ∧ Hid (mags cs = os ++ mags (cs.drop k)))
  case atStart => exact ⟨0, _, [], by omega, rfl, rfl, HB0, HO0, by simp, HQ0⟩
  case round =>
  clear HB0 HO0 HQ0
  obtain ⟨k, ov, os, hkg, rfl, rfl, HB, HO, hpk, HQ⟩ := hrel
  obtain ⟨oa, oc, hov⟩ := own_form HO.out
  obtain ⟨on, hon⟩ : ∃ m, os.length = m := ⟨_, rfl⟩
  rw [hon] at hov hpk
  subst hov
  have HON := Lib.hid hon
  clear hon
  by_cases hk : k < n
  case neg =>
    have hd : decide (k < n) = false := decide_eq_false hk
    have HQF : Hid (mags cs = os) := Lib.hid (by
      rw [HQ.out, List.drop_eq_nil_of_le (by have := HN.out; omega)]
      exact List.append_nil _)
    have HSO := Lib.hid (sorto_own wr w.heap.size 3 (.slice oa on oc) os HO.out (by have := HON.out; omega))
    clear HQ
    go_wp2_with fail
    refine HSO.out.mono ?_
    rintro e w3 ⟨rfl, ts, hp, ha, ho3, hg3⟩
    have hlt := ho3.lt
    have hb3 := HB.out.grown hg3 HB.out.size fun k hk => (hlt k hk).1
    have hct := compact_own w3 w.heap.size 3 (.slice oa on oc) ts (by rw [hp.length_eq]; exact ho3) (by rw [hp.length_eq]; have := HON.out; omega)
    have HCT := Lib.hid hct
    have HB3 := Lib.hid hb3
    have HT : Hid (Strict cmpM (cptM ts) ∧ (∀ x, x ∈ cptM ts ↔ x ∈ mags cs) ∧ (cptM ts).length ≤ 9223372036854775807) := Lib.hid ⟨asc_cpt ha, fun x => by rw [cptM_in, hp.mem_iff, HQF.out], by
      have h1 := cptG_len none ts
      have h2 := hp.length_eq
      have h3 := HON.out
      unfold cptM
      omega⟩
    clear ho3 hg3 hb3 hct hlt hp ha HSO
    go_wp2_with fail
    refine HCT.out.mono ?_
    rintro e w4 ⟨v4, rfl, ho4, hob, hg4⟩
    rw [List.length_map] at ho4
    have HF : Hid (OccPost w cs (.returned v4) w4) := Lib.hid ⟨v4, cptM ts, rfl, ⟨(ownsRow_sl1 ho4 HT.out.2.2).mono fun b hb => hb.1, fun x hx => by have := mags_I64 ((HT.out.2.1 x).1 hx); unfold I64; omega⟩, HB3.out.grown hg4 HB3.out.size fun k hk => (ho4.lt k (hob.trans hk)).1, HT.out.1, HT.out.2.1⟩
    obtain ⟨a4, c4, rfl⟩ := own_form ho4
    clear ho4 hob hg4 HCT
    go_wp2_with fail
    go_ret
    exact HF.out
  obtain ⟨x, hxx, ex⟩ := drop_at (xs := cs) (k := k) (by have := HN.out; omega)
  obtain ⟨b, o, u, rfl, _, hb, hcc0, hu⟩ := HX.out.at hxx
  have hcc := below_c HB.out hb hcc0
  obtain ⟨ua, un, uc, rfl, HUN, hun⟩ := hu.form'
  have HU := Lib.hid hu.lt
  have hxl : un ≤ 300 := by rw [HUN.out]; exact HLL.out x (List.mem_of_getElem? hxx)
  have HQ1 : Hid (mags cs = os ++ (magsC (x.drop 0) ++ mags (cs.drop (k + 1)))) := Lib.hid (by rw [HQ.out, ex]; rfl)
  have hdk : decide ((k : Int) < n) = true := by simp; omega
  have hdk' : decide (k < n) = true := decide_eq_true hk
  obtain ⟨GK, hGK⟩ : ∃ G, G = gk := ⟨_, rfl⟩
  subst hGK
  clear hu hxx ex HQ hcc0
  go_wp2_with fail
  go_loopg [3, 18] un (fun gg u3 u18 wx => ∃ (j : Nat) (ov : Value) (os : List Int), j + gg = un ∧ u18 = .int .i64 j ∧ u3 = ov ∧ Hid (Below w.heap.size w wx) ∧ Hid (wx.ownsRow w.heap.size 3 1 ov os.length (os.map (.int .i64))) ∧ os.length ≤ 300 * k + j ∧ Hid (mags cs = os ++ (magsC (x.drop j) ++ mags (cs.drop (k + 1)))))
  case atStart => exact ⟨0, _, os, by omega, rfl, rfl, HB, HO, by have := HON.out; omega, HQ1⟩
  case round =>
  clear HQ1 HB HO HON hpk
  obtain ⟨j, ov, os, hjg, rfl, rfl, HB, HO, hpk, HQ⟩ := hrel
  obtain ⟨oa, oc, hov⟩ := own_form HO.out
  obtain ⟨on, hon⟩ : ∃ m, os.length = m := ⟨_, rfl⟩
  rw [hon] at hov hpk
  subst hov
  have HON := Lib.hid hon
  clear hon
  have hszr := HB.out.size
  by_cases hj : j < un
  case neg =>
    have hdj : decide ((j : Int) < un) = false := by simp; omega
    have hdj' : decide (j < un) = false := decide_eq_false hj
    have HF : Hid (mags cs = os ++ mags (cs.drop (k + 1))) := Lib.hid (by rw [HQ.out, List.drop_eq_nil_of_le (by have := HUN.out; omega)]; rfl)
    clear HQ
    go_wp2_with fail
    go_roundg (GK - 1)
    case measure => omega
    case rel => exact ⟨k + 1, _, os, by omega, by go_num, rfl, HB, HO, by have := HON.out; omega, HF⟩
  obtain ⟨y, hyy, ey⟩ := drop_at (xs := x) (k := j) (by have := HUN.out; omega)
  have hui := HU.out.move (w' := wr) fun b hb _ => HB.out.block b hb.2
  obtain ⟨yb, yo, rfl, _, hyb, hyc, hy64⟩ := hui.at hyy
  have hdj : decide ((j : Int) < un) = true := by simp; omega
  have hdj' : decide (j < un) = true := decide_eq_true hj
  have HMG := Lib.hid (lmagnitude_any y wr hy64)
  obtain ⟨hm0, hm1⟩ := varM_u64 y hy64
  have HQ2 : Hid (mags cs = os ++ ((if magR (varM y) = true then varM y :: magsC (x.drop (j + 1)) else magsC (x.drop (j + 1))) ++ mags (cs.drop (k + 1)))) := Lib.hid (by
    rw [HQ.out, ey]
    unfold magsC
    rw [List.map_cons, List.filter_cons])
  generalize varM y = m at *
  clear HQ ey hyy hui hy64
  by_cases h1 : 1 ≤ m
  case neg =>
    have HF : Hid (mags cs = os ++ (magsC (x.drop (j + 1)) ++ mags (cs.drop (k + 1)))) := Lib.hid (by rw [HQ2.out, if_neg (by simp [magR, h1])])
    have hd1 : decide (1 ≤ m) = false := decide_eq_false h1
    clear HQ2 h1
    go_wp2_with fail
    refine HMG.out.mono ?_
    rintro e w9 ⟨rfl, rfl⟩
    go_wp2_with fail
    go_roundg (gk - 1)
    case measure => omega
    case rel => exact ⟨j + 1, _, os, by omega, by go_num, rfl, HB, HO, by have := HON.out; omega, HF⟩
  have hd1 : decide (1 ≤ m) = true := decide_eq_true h1
  by_cases h2 : m ≤ 20000
  case neg =>
    have HF : Hid (mags cs = os ++ (magsC (x.drop (j + 1)) ++ mags (cs.drop (k + 1)))) := Lib.hid (by rw [HQ2.out, if_neg (by simp [magR, h2])])
    have hd2 : decide (m ≤ 20000) = false := decide_eq_false h2
    clear HQ2 h1 h2
    go_wp2_with fail
    refine HMG.out.mono ?_
    rintro e w9 ⟨rfl, rfl⟩
    go_wp2_with fail
    go_roundg (gk - 1)
    case measure => omega
    case rel => exact ⟨j + 1, _, os, by omega, by go_num, rfl, HB, HO, by have := HON.out; omega, HF⟩
  have hd2 : decide (m ≤ 20000) = true := decide_eq_true h2
  have HF : Hid (mags cs = (os ++ [m]) ++ (magsC (x.drop (j + 1)) ++ mags (cs.drop (k + 1)))) := Lib.hid (by rw [HQ2.out, if_pos (by simp [magR, h1, h2])]; simp)
  have hwm : IntKind.i64.wrap m = m := IntWalk.i64_in _ ⟨by omega, by omega⟩
  have hown6 := HO.out
  rw [HON.out] at hown6
  clear HQ2
  go_wp2_with fail
  refine HMG.out.mono ?_
  rintro e w9 ⟨rfl, rfl⟩
  go_wp2_with (at_builtin; go_loud (refine wpList_push1 rfl _ _ 32 rfl 3 (.int .i64 0) 8 Try.underlying32 HI1.out rfl w.heap.size (.slice oa on oc) on (os.map (.int .i64)) w9 (.int .i64 m) rfl rfl hown6 rfl (by omega) (by omega) (by omega) ?_); intro g7 cap7 w7 hown7 hg7 hs7 hgb hgl hat; have HB7 := Lib.hid (HB.out.grown hg7 (by omega) (fun k hk => (hown6.lt k hk).1)); have HO7 : Hid (w7.ownsRow w.heap.size 3 1 (.slice (some ⟨g7, 0, none⟩) (on + 1) cap7) (os ++ [m]).length ((os ++ [m]).map (.int .i64))) := Lib.hid (by simpa [HON.out] using hown7); clear hown7 hg7 hown6)
  go_roundg (gk - 1)
  case measure => omega
  case rel => exact ⟨j + 1, _, os ++ [m], by omega, by go_num, rfl, HB7, HO7, by have := HON.out; simp; omega, HF⟩

/-! ### cnf.Occur, with a set -/
def SeenI (w : World) (mb : Nat) (l : List Int) : Prop :=
  ∃ D : DataW Unit, w.ownsMap Try.prog 3 (plainElem Try.prog 4) mb l.length D ∧ Maps.IsMap D ∧ ∀ x, I64 x → D.atKey (.int .i64 x) (.lit (.bool false)) = .lit (.bool (decide (x ∈ l)))
theorem SeenI.grown {w w' : World} {mb : Nat} {l : List Int} {row : Option Nat} (h : SeenI w mb l) (hg : w.grownBy w' row) (hne : some mb ≠ row) : SeenI w' mb l := by
  obtain ⟨D, h1, h2⟩ := h
  exact ⟨D, h1.kept hg hne, h2⟩
theorem SeenI.look {w : World} {mb : Nat} {l : List Int} {x : Int} (h : SeenI w mb l) (hx : I64 x) : (Instr.lookup 81 (.map (some mb)) (.int .i64 x) false).run Try.prog w = .ok (.bool (decide (x ∈ l))) w := by
  obtain ⟨D, h1, h2, h3⟩ := h
  obtain ⟨v, ps, hrun, hv⟩ := h1.lookup law_int Try.underlying81 (z := .bool false) (by kernel_rfl) (plainElem_bool Try.underlying4 false) (keyOf_i hx)
  rw [h3 x hx] at hv
  obtain ⟨y, rfl, hy⟩ := plainElem_bool_inv Try.underlying4 hv
  simp only [Prod.mk.injEq, DataW.lit.injEq, Lit.bool.injEq] at hy
  rw [hy.1]
  exact hrun
theorem seenI_put {w' : World} {mb : Nat} {l : List Int} {D : DataW Unit} {m : Int} (hm : I64 m)
    (h1 : w'.ownsMap Try.prog 3 (plainElem Try.prog 4) mb (l.length + 1) (D.put (.int .i64 m) (.lit (.bool true)))) (h2 : Maps.IsMap D)
    (h3 : ∀ x, I64 x → D.atKey (.int .i64 x) (.lit (.bool false)) = .lit (.bool (decide (x ∈ l)))) : SeenI w' mb (l ++ [m]) := by
  refine ⟨_, by simpa using h1, h2.put _ _, fun x hx => ?_⟩
  by_cases e : x = m
  · subst e
    rw [Maps.atKey_put_same h2 (by trivial)]
    simp
  · rw [Maps.atKey_put_other (by simpa using e), h3 x hx]
    simp [e]
set_option maxRecDepth 100000 in
set_option maxHeartbeats 8000000 in
theorem occur_any (F : Nat → Prop) (v : Value) (cs : List (List Int)) (w : World) (hx : Clss F w v cs) (hl : cs.length ≤ 60) (hll : ∀ c ∈ cs, c.length ≤ 300) :
    Calls Try.prog 31 #[v] w (OccPost w cs) := by
  obtain ⟨a, n, c, rfl, HN, hn⟩ := hx.form'
  have hinfo1 : (Try.prog.info? 3).map (fun i => (i.zero, i.size, i.bytes)) = some (some (.int .i64 0), 1, 8) := by kernel_rfl
  have HI1 := Lib.hid hinfo1
  have HX := Lib.hid hx
  have HLL := Lib.hid hll
  have hn2 : n ≤ 60 := by rw [HN.out]; exact hl
  have hmm := @run_makeMap Try.prog
  obtain ⟨mb, hmb⟩ : ∃ mb, w.heap.size = mb := ⟨_, rfl⟩
  have HMB := Lib.hid hmb
  have HB0 : Hid (Below mb w (w.alloc (.map #[] 0))) := Lib.hid (by rw [← hmb]; exact (Below.refl _ _).alloc (Nat.le_refl _) _)
  have HO0 : Hid ((w.alloc (.map #[] 0)).ownsRow (mb + 1) 3 1 (.slice none 0 0) ([] : List Int).length (([] : List Int).map (.int .i64))) := Lib.hid (World.ownsRow_nil _ _ _ _)
  have HS0 : Hid (SeenI (w.alloc (.map #[] 0)) mb []) := Lib.hid (by rw [← hmb]; exact ⟨_, World.ownsMap_made _ _ _ _, Maps.isMap_empty, fun x hx => by simp [DataW.atKey]⟩)
  have HZ0 : Hid (mb + 1 ≤ (w.alloc (.map #[] 0)).heap.size) := Lib.hid (by simp; omega)
  have HQ0 : Hid (∀ x, x ∈ mags cs ↔ x ∈ ([] : List Int) ∨ x ∈ mags (cs.drop 0)) := Lib.hid fun x => by simp
  clear hx hll hinfo1 hl
  go_enter Try.func31, Try.ntmps31
  go_wp2
  clear hmm
  go_loopg [4, 13] n (fun gg u4 u13 wx => ∃ (k : Nat) (ov : Value) (os : List Int), k + gg = n ∧ u13 = .int .i64 k ∧ u4 = ov ∧ Hid (Below mb w wx) ∧ Hid (wx.ownsRow (mb + 1) 3 1 ov os.length (os.map (.int .i64))) ∧ Hid (SeenI wx mb os) ∧ Hid (os.Nodup) ∧ Hid (mb + 1 ≤ wx.heap.size) ∧ os.length ≤ 300 * k ∧ Hid (∀ x, x ∈ mags cs ↔ x ∈ os ∨ x ∈ mags (cs.drop k)))
  case atStart => exact ⟨0, _, [], by omega, rfl, rfl, HB0, HO0, HS0, Lib.hid List.nodup_nil, HZ0, by simp, HQ0⟩
  case round =>
  clear HB0 HO0 HQ0 HS0 HZ0
  obtain ⟨k, ov, os, hkg, rfl, rfl, HB, HO, HS, HND, HZ, hpk, HQ⟩ := hrel
  obtain ⟨oa, oc, hov⟩ := own_form HO.out
  obtain ⟨on, hon⟩ : ∃ m, os.length = m := ⟨_, rfl⟩
  rw [hon] at hov hpk
  subst hov
  have HON := Lib.hid hon
  clear hon
  by_cases hk : k < n
  case neg =>
    have hd : decide (k < n) = false := decide_eq_false hk
    have HQF : Hid (∀ x, x ∈ mags cs ↔ x ∈ os) := Lib.hid fun x => by
      rw [HQ.out x, List.drop_eq_nil_of_le (by have := HN.out; omega)]
      simp [mags]
    have HSO := Lib.hid (sorto_own wr (mb + 1) 3 (.slice oa on oc) os HO.out (by have := HON.out; omega))
    clear HQ
    go_wp2_with fail
    refine HSO.out.mono ?_
    rintro e w3 ⟨rfl, ts, hp, ha, ho3, hg3⟩
    have HF : Hid (OccPost w cs (.returned (.slice oa on oc)) w3) := Lib.hid ⟨_, ts, rfl, ⟨(by
        have hm := (ownsRow_sl1 (by rw [HON.out] at ho3; exact ho3) (by omega)).mono (G := fun b => w.heap.size ≤ b) fun b hb => by have := hb.1; have := HMB.out; omega
        exact hm), fun x hx => by have := mags_I64 ((HQF.out x).2 (hp.subset hx)); unfold I64; omega⟩, by
        rw [HMB.out]
        exact HB.out.grown hg3 (by have := HZ.out; omega) fun b hb => by have := (ho3.lt b hb).1; omega,
      asc_nodup ha (hp.nodup_iff.2 HND.out), fun x => by rw [hp.mem_iff, HQF.out x]⟩
    clear ho3 hg3 hp ha HSO
    go_wp2_with fail
    go_ret
    exact HF.out
  obtain ⟨x, hxx, ex⟩ := drop_at (xs := cs) (k := k) (by have := HN.out; omega)
  obtain ⟨b, o, u, rfl, _, hb, hcc0, hu⟩ := HX.out.at hxx
  have hcc := below_c HB.out (by have := HMB.out; omega) hcc0
  obtain ⟨ua, un, uc, rfl, HUN, hun⟩ := hu.form'
  have HU := Lib.hid hu.lt
  have hxl : un ≤ 300 := by rw [HUN.out]; exact HLL.out x (List.mem_of_getElem? hxx)
  have HQ1 : Hid (∀ y, y ∈ mags cs ↔ y ∈ os ∨ (y ∈ magsC (x.drop 0) ∨ y ∈ mags (cs.drop (k + 1)))) := Lib.hid fun y => by
    rw [HQ.out y, ex, mags, List.flatMap_cons, List.mem_append, List.drop_zero]
    rfl
  have hdk : decide ((k : Int) < n) = true := by simp; omega
  have hdk' : decide (k < n) = true := decide_eq_true hk
  have hbr := block_lt hcc
  obtain ⟨GK, hGK⟩ : ∃ G, G = gk := ⟨_, rfl⟩
  subst hGK
  clear hu hxx ex HQ hcc0
  go_wp2_with fail
  go_loopg [4, 19] un (fun gg u4 u19 wx => ∃ (j : Nat) (ov : Value) (os : List Int), j + gg = un ∧ u19 = .int .i64 j ∧ u4 = ov ∧ Hid (Below mb w wx) ∧ Hid (wx.ownsRow (mb + 1) 3 1 ov os.length (os.map (.int .i64))) ∧ Hid (SeenI wx mb os) ∧ Hid (os.Nodup) ∧ Hid (mb + 1 ≤ wx.heap.size) ∧ os.length ≤ 300 * k + j ∧ Hid (∀ y, y ∈ mags cs ↔ y ∈ os ∨ (y ∈ magsC (x.drop j) ∨ y ∈ mags (cs.drop (k + 1)))))
  case atStart => exact ⟨0, _, os, by omega, rfl, rfl, HB, HO, HS, HND, HZ, by have := HON.out; omega, HQ1⟩
  case round =>
  clear HQ1 HB HO HON hpk HS HND HZ
  obtain ⟨j, ov, os, hjg, rfl, rfl, HB, HO, HS, HND, HZ, hpk, HQ⟩ := hrel
  obtain ⟨oa, oc, hov⟩ := own_form HO.out
  obtain ⟨on, hon⟩ : ∃ m, os.length = m := ⟨_, rfl⟩
  rw [hon] at hov hpk
  subst hov
  have HON := Lib.hid hon
  clear hon
  have hszr := HZ.out
  by_cases hj : j < un
  case neg =>
    have hdj : decide ((j : Int) < un) = false := by simp; omega
    have hdj' : decide (j < un) = false := decide_eq_false hj
    have HF : Hid (∀ y, y ∈ mags cs ↔ y ∈ os ∨ y ∈ mags (cs.drop (k + 1))) := Lib.hid fun y => by
      rw [HQ.out y, List.drop_eq_nil_of_le (by have := HUN.out; omega)]
      simp [magsC]
    clear HQ
    go_wp2_with fail
    go_roundg (GK - 1)
    case measure => omega
    case rel => exact ⟨k + 1, _, os, by omega, by go_num, rfl, HB, HO, HS, HND, HZ, by have := HON.out; omega, HF⟩
  obtain ⟨y, hyy, ey⟩ := drop_at (xs := x) (k := j) (by have := HUN.out; omega)
  have hui := HU.out.move (w' := wr) fun b hb _ => HB.out.block b (by have := hb.2; have := HMB.out; omega)
  obtain ⟨yb, yo, rfl, _, hyb, hyc, hy64⟩ := hui.at hyy
  have hdj : decide ((j : Int) < un) = true := by simp; omega
  have hdj' : decide (j < un) = true := decide_eq_true hj
  have HMG := Lib.hid (magnitude_any y wr hy64)
  obtain ⟨hm0, hm1⟩ := varM_u64 y hy64
  have HQ2 : Hid (∀ z, z ∈ mags cs ↔ z ∈ os ∨ ((if magR (varM y) = true then z = varM y ∨ z ∈ magsC (x.drop (j + 1)) else z ∈ magsC (x.drop (j + 1))) ∨ z ∈ mags (cs.drop (k + 1)))) := Lib.hid fun z => by
    rw [HQ.out z, ey]
    unfold magsC
    rw [List.map_cons, List.filter_cons]
    split <;> simp
  generalize varM y = m at *
  clear HQ ey hyy hui hy64
  by_cases h1 : 1 ≤ m
  case neg =>
    have HF : Hid (∀ z, z ∈ mags cs ↔ z ∈ os ∨ (z ∈ magsC (x.drop (j + 1)) ∨ z ∈ mags (cs.drop (k + 1)))) := Lib.hid fun z => by rw [HQ2.out z, if_neg (by simp [magR, h1])]
    have hd1 : decide (1 ≤ m) = false := decide_eq_false h1
    clear HQ2 h1
    go_wp2_with fail
    refine HMG.out.mono ?_
    rintro e w9 ⟨rfl, rfl⟩
    go_wp2_with fail
    go_roundg (gk - 1)
    case measure => omega
    case rel => exact ⟨j + 1, _, os, by omega, by go_num, rfl, HB, HO, HS, HND, HZ, by have := HON.out; omega, HF⟩
  have hd1 : decide (1 ≤ m) = true := decide_eq_true h1
  by_cases h2 : m ≤ 20000
  case neg =>
    have HF : Hid (∀ z, z ∈ mags cs ↔ z ∈ os ∨ (z ∈ magsC (x.drop (j + 1)) ∨ z ∈ mags (cs.drop (k + 1)))) := Lib.hid fun z => by rw [HQ2.out z, if_neg (by simp [magR, h2])]
    have hd2 : decide (m ≤ 20000) = false := decide_eq_false h2
    clear HQ2 h1 h2
    go_wp2_with fail
    refine HMG.out.mono ?_
    rintro e w9 ⟨rfl, rfl⟩
    go_wp2_with fail
    go_roundg (gk - 1)
    case measure => omega
    case rel => exact ⟨j + 1, _, os, by omega, by go_num, rfl, HB, HO, HS, HND, HZ, by have := HON.out; omega, HF⟩
  have hd2 : decide (m ≤ 20000) = true := decide_eq_true h2
  have hi64 : I64 m := by unfold I64; omega
  have hwm : IntKind.i64.wrap m = m := IntWalk.i64_in _ ⟨by omega, by omega⟩
  have hlk := HS.out.look hi64
  obtain ⟨E, hE⟩ : ∃ E, decide (m ∈ os) = E := ⟨_, rfl⟩
  rw [hE] at hlk
  rcases bool2 E with rfl | rfl
  · have hin : m ∈ os := by simpa using hE
    have HF : Hid (∀ z, z ∈ mags cs ↔ z ∈ os ∨ (z ∈ magsC (x.drop (j + 1)) ∨ z ∈ mags (cs.drop (k + 1)))) := Lib.hid fun z => by
      rw [HQ2.out z, if_pos (by simp [magR, h1, h2])]
      constructor
      · rintro (h | (rfl | h) | h)
        · exact .inl h
        · exact .inl hin
        · exact .inr (.inl h)
        · exact .inr (.inr h)
      · rintro (h | h | h)
        · exact .inl h
        · exact .inr (.inl (.inr h))
        · exact .inr (.inr h)
    clear HQ2 h1 h2 hin hE
    go_wp2_with fail
    refine HMG.out.mono ?_
    rintro e w9 ⟨rfl, rfl⟩
    go_wp2_with fail
    go_roundg (gk - 1)
    case measure => omega
    case rel => exact ⟨j + 1, _, os, by omega, by go_num, rfl, HB, HO, HS, HND, HZ, by have := HON.out; omega, HF⟩
  have hnin : m ∉ os := by simpa using hE
  have HF : Hid (∀ z, z ∈ mags cs ↔ z ∈ os ++ [m] ∨ (z ∈ magsC (x.drop (j + 1)) ∨ z ∈ mags (cs.drop (k + 1)))) := Lib.hid fun z => by
    rw [HQ2.out z, if_pos (by simp [magR, h1, h2]), List.mem_append, List.mem_singleton]
    constructor
    · rintro (h | (h | h) | h)
      · exact .inl (.inl h)
      · exact .inl (.inr h)
      · exact .inr (.inl h)
      · exact .inr (.inr h)
    · rintro ((h | h) | h | h)
      · exact .inl h
      · exact .inr (.inl (.inl h))
      · exact .inr (.inl (.inr h))
      · exact .inr (.inr h)
  have HND2 : Hid ((os ++ [m]).Nodup) := Lib.hid (List.nodup_append.2 ⟨HND.out, by simp, fun a ha b hb e => hnin (by rw [List.mem_singleton] at hb; rw [← hb, ← e]; exact ha)⟩)
  obtain ⟨D, hD1, hD2, hD3⟩ := HS.out
  rw [HON.out] at hD1
  have HD2 := Lib.hid hD2
  have HD3 := Lib.hid hD3
  have HI64 := Lib.hid hi64
  clear HQ2 h1 h2 hnin hE HND hD2 hD3 HS
  go_wp2_with fail
  refine HMG.out.mono ?_
  rintro e w9 ⟨rfl, rfl⟩
  go_wp2_with (first
    | (at_mapUpdate; refine wpList_mapUpdate_own _ rfl _ _ _ 81 rfl 3 4 law_int Try.underlying81 (plainElem Try.prog 4) mb on D rfl hD1 (by unfold maxLen; omega) _ _ (.int .i64 m) rfl rfl (keyOf_i HI64.out) (.lit (.bool true)) [] (plainElem_bool Try.underlying4 true) ?_; intro w5 hown5 hgrow5; have HS5 : Hid (SeenI w5 mb (os ++ [m])) := Lib.hid (seenI_put HI64.out (by rw [HON.out]; exact hown5) HD2.out HD3.out); have HB5 : Hid (Below mb w w5) := Lib.hid (HB.out.grown hgrow5 (by omega) fun b hb => by cases hb; omega); have hown6 : w5.ownsRow (mb + 1) 3 1 (.slice oa on oc) on (os.map (.int .i64)) := by { have h := HO.out.kept hgrow5 (.inr fun e => by have := (HO.out.lt _ e).1; omega); rw [HON.out] at h; exact h }; have hsz5 := hgrow5.size; clear hown5 hgrow5 hD1)
    | (at_builtin; go_loud (refine wpList_push1 rfl _ _ 32 rfl 3 (.int .i64 0) 8 Try.underlying32 HI1.out rfl (mb + 1) (.slice oa on oc) on (os.map (.int .i64)) w5 (.int .i64 m) rfl rfl hown6 rfl (by omega) (by omega) (by omega) ?_); intro g7 cap7 w7 hown7 hg7 hs7 hgb hgl hat; have HB7 := Lib.hid (HB5.out.grown hg7 (by omega) (fun k hk => by have := (hown6.lt k hk).1; omega)); have HO7 : Hid (w7.ownsRow (mb + 1) 3 1 (.slice (some ⟨g7, 0, none⟩) (on + 1) cap7) (os ++ [m]).length ((os ++ [m]).map (.int .i64))) := Lib.hid (by simpa [HON.out] using hown7); have HS7 := Lib.hid (HS5.out.grown hg7 (fun e => by have := (hown6.lt _ e.symm).1; omega)); clear hown7 hg7 hown6)
    | go_in)
  go_roundg (gk - 1)
  case measure => omega
  case rel => exact ⟨j + 1, _, os ++ [m], by omega, by go_num, rfl, HB7, HO7, HS7, HND2, Lib.hid (by omega), by have := HON.out; simp; omega, HF⟩
end Go.Proofs.Ytjjbpfbbfjdhdaa
