/- Walk: cnf.clause: a sorted clause without repeated literals, as a slice that the call owns. No condition but the length. -/
import Derived.Test.YteadlkecngfcoaaGreatKd
import Derived.Test.YteadlkecngfcoaaGreatKf
namespace Go.Proofs.YteadlkecngfcoaaGreat
open Go.ChangeShapes Go.WideShapes Go.ChangeAt Go.RowKit
set_option linter.unusedVariables false

theorem swo_of {α : Type} {c : α → α → Int} (h : Cmp c) : Sort.SWO (ltOf c) where
  irrefl x := by
    have := (h.eq x x).2 rfl
    simp [ltOf, this]
  trans x y z h1 h2 := by
    simp only [ltOf, decide_eq_true_eq] at *
    exact h.tr x y z h1 h2
  ntrans x y z h1 h2 := by
    simp only [ltOf, decide_eq_false_iff_not] at *
    intro h3
    have h6 := h.flip x z
    rcases h.le h2 with h4 | h4
    · rcases h.le h1 with h5 | h5
      · have := h.tr z y x h4 h5
        omega
      · rw [h5] at h4
        omega
    · rw [h4] at h3
      exact h1 h3
abbrev I64s : Type := {x : Int // I64 x}
instance : Inhabited I64s := ⟨⟨0, by unfold I64; omega⟩⟩
theorem lift_ints {xs : List Int} (h : ∀ x ∈ xs, I64 x) : ∃ ds : List I64s, ds.map Subtype.val = xs := ⟨xs.pmap Subtype.mk h, by rw [List.map_pmap]; simp⟩
def SortedPost (W : World) (base : Nat) (e : TypeId) (v : Value) (xs : List Int) (r : Ending) (w' : World) : Prop :=
  r = .returned (.tuple #[]) ∧ w'.ownsRow base e 1 v xs.length (xs.map (.int .i64)) ∧ W.grownBy w' v.ownBlock
theorem sortlit_own (w : World) (base : Nat) (e : TypeId) (v : Value) (xs : List Int) (hown : w.ownsRow base e 1 v xs.length (xs.map (.int .i64))) (h64 : ∀ x ∈ xs, I64 x) (hl : xs.length ≤ 16777216) :
    Calls Tryz.prog 43 #[v, .func (.func 52) #[] #[]] w (SortedPost w base e v (srtC litC xs)) := by
  obtain ⟨ds, hds⟩ := lift_ints h64
  have hc : Cmp fun x y : I64s => litC x.1 y.1 := ⟨fun a b => litC_flip a.1 b.1, fun a b => litC_eq.trans (by rw [Subtype.ext_iff]), fun a b d => litC_tr⟩
  have hm : ds.map (fun x : I64s => Value.int .i64 x.1) = xs.map (.int .i64) := by rw [← hds, List.map_map]; rfl
  have hlen : ds.length = xs.length := by rw [← hds, List.length_map]
  rw [← hm, ← hlen] at hown
  have h := sort_own sortI (fun x : I64s => Value.int .i64 x.1) (fun _ => rfl) (fun x y : I64s => litC x.1 y.1) (swo_of hc) 52
    (enters_of Tryz.func52 (by kernel_rfl) rfl) w base e v ds hown (by omega) (fun x y w' _ => literals_any x.1 y.1 w' x.2 y.2)
  refine Calls.mono h ?_
  rintro r w' ⟨rfl, ts, hp, hs, ho, hg⟩
  have hts : ts.map Subtype.val = srtC litC xs := by
    refine srtC_unique litCmp ?_ ?_
    · rw [← hds]; exact hp.map _
    · rw [List.pairwise_map]; exact hs
  have hlt : (srtC litC xs).length = ds.length := by rw [(srtC_perm litC xs).length_eq, hlen]
  refine ⟨rfl, ?_, hg⟩
  rw [hlt, ← hts, List.map_map]
  exact ho

set_option maxHeartbeats 1000000 in
theorem clause_any (F : Nat → Prop) (v : Value) (xs : List Int) (w : World) (hx : Ints F w v xs) (hl : xs.length ≤ 16777216) :
    Calls Tryz.prog 31 #[v] w (OwnPost w (claM xs)) := by
  have HCL := Lib.hid (clone_own F v xs w hx hl)
  obtain ⟨a, n, c, rfl, _, _⟩ := hx.form'
  have H64 := Lib.hid hx.2
  clear hx
  go_enter Tryz.func31, Tryz.ntmps31
  go_wp2_with fail
  refine HCL.out.mono ?_
  rintro e w1 ⟨v1, rfl, ho1, hb1⟩
  have HS := Lib.hid (sortlit_own w1 _ _ v1 xs ho1 H64.out hl)
  have HB1 := Lib.hid hb1
  have hlt := ho1.lt
  obtain ⟨a1, c1, rfl⟩ := own_form ho1
  clear ho1 hb1 HCL
  go_wp2_with fail
  refine HS.out.mono ?_
  rintro e w2 ⟨rfl, ho2, hg2⟩
  have HB2 := Lib.hid (HB1.out.grown hg2 HB1.out.size fun k hk => (hlt k hk).1)
  have hlen : (srtC litC xs).length = xs.length := (srtC_perm litC xs).length_eq
  have HC := Lib.hid (compact_own w2 _ _ _ (srtC litC xs) ho2 (by omega))
  have hlt2 := ho2.lt
  clear ho2 hg2 HS HB1
  go_wp2_with fail
  refine HC.out.mono ?_
  rintro e w3 ⟨v3, rfl, ho3, _, hg3⟩
  obtain ⟨a3, c3, rfl⟩ := own_form ho3
  have HB3 := Lib.hid (HB2.out.grown hg3 HB2.out.size fun k hk => (hlt2 k hk).1)
  have HO3 := Lib.hid ho3
  clear ho3 hg3 HC HB2
  go_wp2_with fail
  go_ret
  have ho := HO3.out
  rw [List.length_map] at ho
  exact ⟨_, by simp, ho, HB3.out⟩

/- slices.SortFunc over an owned slice of clauses, with cnf.clauses and with the statement's own compare. No condition but the length. -/
open Go.ChangeShapes Go.WideShapes Go.ChangeAt Go.RowKit
set_option linter.unusedVariables false

theorem swo_pull {α β : Type} {c : β → β → Int} (h : Sort.SWO (ltOf c)) (f : α → β) : Sort.SWO (ltOf fun x y : α => c (f x) (f y)) where
  irrefl x := h.irrefl (f x)
  trans x y z := h.trans (f x) (f y) (f z)
  ntrans x y z := h.ntrans (f x) (f y) (f z)
/-- a row with its reading in the world before -/
abbrev RowAt (w : World) (v : Value) : Type := {p : Value × List Int // Ints (fun b => v.ownBlock ≠ some b ∧ b < w.heap.size) w p.1 p.2}
instance (w : World) (v : Value) : Inhabited (RowAt w v) := ⟨⟨(.slice none 0 0, []), Ints.nil _ _⟩⟩
def SortedRows (W : World) (base : Nat) (v : Value) (ps : List (Value × List Int)) (r : Ending) (w' : World) : Prop :=
  r = .returned (.tuple #[]) ∧ ∃ qs : List (Value × List Int), qs.Perm ps ∧ qs.map Prod.snd = srtC clsC (ps.map Prod.snd) ∧ w'.ownsRow base 22 1 v ps.length (qs.map Prod.fst) ∧ W.grownBy w' v.ownBlock
theorem sortrows (g : Nat) (eg : ∀ args w, (callFunc g args).run Tryz.prog w = .ok (.enter g args) w)
    (hg : ∀ (v u : Value) (xs ys : List Int) (w : World), Ints (fun _ => True) w v xs → Ints (fun _ => True) w u ys → Calls Tryz.prog g #[v, u] w fun e w' => e = .returned (.int .i64 (clsC xs ys)) ∧ w' = w)
    (w : World) (base : Nat) (v : Value) (ps : List (Value × List Int)) (hown : w.ownsRow base 22 1 v ps.length (ps.map Prod.fst)) (hps : ∀ p ∈ ps, Ints (fun b => v.ownBlock ≠ some b) w p.1 p.2) (hl : ps.length ≤ 1048576) :
    Calls Tryz.prog 46 #[v, .func (.func g) #[] #[]] w (SortedRows w base v ps) := by
  obtain ⟨ds, hds⟩ : ∃ ds : List (RowAt w v), ds.map Subtype.val = ps := ⟨ps.pmap Subtype.mk fun p hp => (hps p hp).lt, by rw [List.map_pmap]; simp⟩
  have hm : ds.map (fun x : RowAt w v => x.1.1) = ps.map Prod.fst := by rw [← hds, List.map_map]; rfl
  have hlen : ds.length = ps.length := by rw [← hds, List.length_map]
  rw [← hm, ← hlen] at hown
  have h := sort_own sortC (fun x : RowAt w v => x.1.1) (fun x => by obtain ⟨a, c, h, _⟩ := x.2.form; show (x.1.1).oneCell' = true; rw [h]; rfl) (fun x y : RowAt w v => clsC x.1.2 y.1.2) (swo_pull (swo_of clsCmp) fun x : RowAt w v => x.1.2) g eg w base _ v ds hown (by omega)
    (fun x y w' hw => hg _ _ _ _ w' ((x.2.move fun k hk _ => hw k hk.2 hk.1).mono fun _ _ => trivial) ((y.2.move fun k hk _ => hw k hk.2 hk.1).mono fun _ _ => trivial))
  refine Calls.mono h ?_
  rintro r w' ⟨rfl, ts, hp, hs, ho, hgr⟩
  refine ⟨rfl, ts.map Subtype.val, ?_, ?_, ?_, hgr⟩
  · rw [← hds]; exact hp.map _
  · refine srtC_unique clsCmp ?_ ?_
    · rw [← hds, List.map_map, List.map_map]; exact hp.map _
    · rw [List.map_map, List.pairwise_map]; exact hs
  · rw [← hlen, List.map_map]
    exact ho
theorem sortcls_own (w : World) (base : Nat) (v : Value) (ps : List (Value × List Int)) (hown : w.ownsRow base 22 1 v ps.length (ps.map Prod.fst)) (hps : ∀ p ∈ ps, Ints (fun b => v.ownBlock ≠ some b) w p.1 p.2) (hl : ps.length ≤ 1048576) :
    Calls Tryz.prog 46 #[v, .func (.func 53) #[] #[]] w (SortedRows w base v ps) :=
  sortrows _ (enters_of Tryz.func53 (by kernel_rfl) rfl) (fun v u xs ys w hx hy => clauses_any v u xs ys w hx hy) w base v ps hown hps hl

/- Walk: cnf.sorted. No condition but the length. -/
open Go.ChangeShapes Go.WideShapes Go.ChangeAt Go.RowKit
set_option linter.unusedVariables false

/-- the canonical order, each content once; the rows are old ones -/
def CanPost (W : World) (base : Nat) (v : Value) (ps : List (Value × List Int)) (r : Ending) (w' : World) : Prop :=
  ∃ (v' : Value) (qs : List (Value × List Int)), r = .returned v' ∧ w'.ownsRow base 22 1 v' qs.length (qs.map Prod.fst) ∧ qs.map Prod.snd = cptM (srtC clsC (ps.map Prod.snd)) ∧ (∀ q ∈ qs, q ∈ ps) ∧ v'.ownBlock = v.ownBlock ∧ W.grownBy w' v.ownBlock
theorem grown_trans {w w1 w2 : World} {b : Option Nat} (h1 : w.grownBy w1 b) (h2 : w1.grownBy w2 b) : w.grownBy w2 b :=
  ⟨h2.os.trans h1.os, h2.tape.trans h1.tape, h2.output.trans h1.output, Nat.le_trans h1.size h2.size, fun k hk hne => (h2.block k (Nat.lt_of_lt_of_le hk h1.size) hne).trans (h1.block k hk hne)⟩
set_option maxHeartbeats 1000000 in
theorem sorted_any (w : World) (base : Nat) (v : Value) (ps : List (Value × List Int)) (hown : w.ownsRow base 22 1 v ps.length (ps.map Prod.fst)) (hps : ∀ p ∈ ps, Ints (fun b => v.ownBlock ≠ some b) w p.1 p.2) (hl : ps.length ≤ 1048576) :
    Calls Tryz.prog 33 #[v] w (CanPost w base v ps) := by
  have HS := Lib.hid (sortcls_own w base v ps hown hps hl)
  have HP := Lib.hid hps
  obtain ⟨a, c, hv⟩ := own_form hown
  obtain ⟨n, hn⟩ : ∃ n, ps.length = n := ⟨_, rfl⟩
  rw [hn] at hv
  have HN := Lib.hid hn
  clear hown hps hn
  subst hv
  go_enter Tryz.func33, Tryz.ntmps33
  go_wp2_with fail
  refine HS.out.mono ?_
  rintro e w1 ⟨rfl, qs, hp, hq, ho, hg⟩
  have hlen : qs.length = ps.length := hp.length_eq
  have HC := Lib.hid (compactf_any w1 base (.slice a n c) qs (by rw [hlen]; exact ho) (fun p hp' => ((HP.out p (hp.subset hp')).lt.move fun k hk _ => hg.block k hk.2 fun e => hk.1 e.symm).mono fun _ h => h.1) (by omega))
  have HG := Lib.hid hg
  have HQ : Hid ((cptP none qs).map Prod.snd = cptM (srtC clsC (ps.map Prod.snd)) ∧ ∀ q ∈ cptP none qs, q ∈ ps) := Lib.hid ⟨by rw [cptP_snd, hq]; rfl, fun q hq' => hp.subset (cptP_mem _ _ q hq')⟩
  clear ho hg hp hq hlen HS HP
  go_wp2_with fail
  refine HC.out.mono ?_
  rintro e w2 ⟨v', rfl, ho, hb, hg⟩
  have HF : Hid (CanPost w base (.slice a n c) ps (.returned v') w2) := Lib.hid ⟨v', _, rfl, ho, HQ.out.1, HQ.out.2, hb, grown_trans HG.out hg⟩
  obtain ⟨a3, c3, rfl⟩ := own_form ho
  clear ho hb hg HC HG HQ
  go_wp2_with fail
  go_ret
  exact HF.out

/- Walk: cnf.Canonical. No condition but the lengths. -/
open Go.ChangeShapes Go.WideShapes Go.ChangeAt Go.RowKit
set_option linter.unusedVariables false

theorem cptG_mem {α : Type} [DecidableEq α] : ∀ (p : Option α) (l : List α), ∀ x ∈ cptG p l, x ∈ l
  | _, [], x, h => h
  | p, y :: r, x, h => by
    rw [cptG] at h
    split at h
    · exact List.mem_cons_of_mem _ (cptG_mem _ r x h)
    · rcases List.mem_cons.1 h with rfl | h
      · exact List.mem_cons_self ..
      · exact List.mem_cons_of_mem _ (cptG_mem _ r x h)
theorem cptG_len {α : Type} [DecidableEq α] : ∀ (p : Option α) (l : List α), (cptG p l).length ≤ l.length
  | _, [] => Nat.le_refl _
  | p, y :: r => by
    rw [cptG]
    split
    · exact Nat.le_succ_of_le (cptG_len _ r)
    · exact Nat.succ_le_succ (cptG_len _ r)
theorem claM_mem {xs : List Int} {x : Int} (h : x ∈ claM xs) : x ∈ xs := (srtC_perm litC xs).subset (cptG_mem _ _ x h)
theorem claM_len (xs : List Int) : (claM xs).length ≤ xs.length := by
  have := cptG_len none (srtC litC xs)
  rw [(srtC_perm litC xs).length_eq] at this
  exact this
theorem Clss.lt {F : Nat → Prop} {w : World} {v : Value} {cs : List (List Int)} (h : Clss F w v cs) : Clss (fun b => b < w.heap.size) w v cs := by
  obtain ⟨us, h1, h2, h3⟩ := h
  exact ⟨us, h1.lt.mono fun b hb => hb.2, h2, fun j u c hu hc => (h3 j u c hu hc).lt.mono fun b hb => hb.2⟩
/-- an owned slice of rows that the call made -/
def Out (B : Nat) (w : World) (v : Value) (ps : List (Value × List Int)) : Prop :=
  w.ownsRow B 22 1 v ps.length (ps.map Prod.fst) ∧ ∀ p ∈ ps, Ints (fun b => B ≤ b ∧ v.ownBlock ≠ some b) w p.1 p.2
theorem Out.nil (B : Nat) (w : World) : Out B w (.slice none 0 0) [] := ⟨World.ownsRow_nil _ _ _ _, by simp⟩
theorem Out.below {B : Nat} {w w' : World} {v : Value} {ps : List (Value × List Int)} (h : Out B w v ps) (hb : Below w.heap.size w w') : Out B w' v ps :=
  ⟨own_below h.1 hb, fun p hp => (h.2 p hp).below hb⟩
/-- one append -/
theorem Out.push {B g cap : Nat} {w w' : World} {v rv : Value} {ps : List (Value × List Int)} {c : List Int} (h : Out B w v ps) (hr : Ints (fun b => B ≤ b ∧ v.ownBlock ≠ some b) w rv c)
    (hown : w'.ownsRow B 22 1 (.slice (some ⟨g, 0, none⟩) (ps.length + 1) cap) (ps.length + 1) (ps.map Prod.fst ++ [rv])) (hg : w.grownBy w' v.ownBlock) (hat : v.ownBlock = some g ∨ w.heap.size ≤ g) :
    Out B w' (.slice (some ⟨g, 0, none⟩) (ps.length + 1) cap) (ps ++ [(rv, c)]) := by
  have mv : ∀ u x, Ints (fun b => B ≤ b ∧ v.ownBlock ≠ some b) w u x → Ints (fun b => B ≤ b ∧ (Value.slice (some ⟨g, 0, none⟩) (ps.length + 1) cap).ownBlock ≠ some b) w' u x := fun u x hx =>
    (hx.lt.move fun k hk _ => hg.block k hk.2 fun e => hk.1.2 e.symm).mono fun k hk => ⟨hk.1.1, fun e => by
      simp [Value.ownBlock] at e
      subst e
      rcases hat with h1 | h1
      · exact hk.1.2 h1
      · omega⟩
  refine ⟨by simpa using hown, fun p hp => ?_⟩
  rcases List.mem_append.1 hp with hp | hp
  · exact mv _ _ (h.2 p hp)
  · rw [List.mem_singleton] at hp
    subst hp
    exact mv _ _ hr

/- Walk: cnf.Canonical. No condition but the lengths. -/
open Go.ChangeShapes Go.WideShapes Go.ChangeAt Go.RowKit
set_option linter.unusedVariables false

/-- what Canonical hands back -/
def CanonPost (W : World) (cs : List (List Int)) (e : Ending) (w' : World) : Prop :=
  ∃ v, e = .returned v ∧ Clss (fun b => W.heap.size ≤ b) w' v (canM cs) ∧ Below W.heap.size W w'
/-- clauses that are not opposed, made canonical -/
def keepM (cs : List (List Int)) : List (List Int) := (cs.map claM).filter fun c => !oppM c
theorem Out.lt {B : Nat} {w : World} {v : Value} {ps : List (Value × List Int)} (h : Out B w v ps) : ∀ k, v.ownBlock = some k → B ≤ k ∧ k < w.heap.size := h.1.lt

set_option maxRecDepth 100000 in
set_option maxHeartbeats 4000000 in
theorem canonical_any (F : Nat → Prop) (v : Value) (cs : List (List Int)) (w : World) (hx : Clss F w v cs) (hl : cs.length ≤ 1048576) (hll : ∀ c ∈ cs, c.length ≤ 16777216) :
    Calls Tryz.prog 15 #[v] w (CanonPost w cs) := by
  obtain ⟨a, n, c, rfl, HN, hn⟩ := hx.form'
  have hinfo : (Tryz.prog.info? 22).map (fun i => (i.zero, i.size, i.bytes)) = some (some (.slice none 0 0), 1, 24) := by kernel_rfl
  have HI := Lib.hid hinfo
  have HX := Lib.hid hx
  have HLL := Lib.hid hll
  have hn2 : n ≤ 1048576 := by rw [HN.out]; exact hl
  obtain ⟨B, hB⟩ : ∃ B, w.heap.size = B := ⟨_, rfl⟩
  have HBE := Lib.hid hB
  have HB0 : Hid (Below B w w) := Lib.hid (Below.refl _ _)
  have HO0 : Hid (Out B w (.slice none 0 0) []) := Lib.hid (Out.nil _ _)
  have HS0 : Hid (B ≤ w.heap.size) := Lib.hid (by omega)
  obtain ⟨Q, hQ⟩ : ∃ Q, keepM cs = Q := ⟨_, rfl⟩
  have HQ0 : Hid (Q = keepM (cs.drop 0)) := Lib.hid hQ.symm
  have HQE : Hid (canM cs = cptM (srtC clsC Q)) := Lib.hid (by rw [← hQ]; rfl)
  clear hx hll hinfo hl hB hQ
  go_enter Tryz.func15, Tryz.ntmps15
  go_wp2
  go_loopg [3, 8] n (fun gg u3 u8 wx => ∃ (k : Nat) (ov : Value) (ps : List (Value × List Int)), k + gg = n ∧ u8 = .int .i64 k ∧ u3 = ov ∧ Hid (Below B w wx) ∧ Hid (B ≤ wx.heap.size) ∧ Hid (Out B wx ov ps) ∧ ps.length ≤ k ∧ Hid (Q = ps.map Prod.snd ++ keepM (cs.drop k)))
  case atStart => exact ⟨0, _, [], by omega, rfl, rfl, HB0, HS0, HO0, by simp, HQ0⟩
  case round =>
  clear HB0 HS0 HO0 HQ0
  obtain ⟨k, ov, ps, hkg, rfl, rfl, HB, HSZ, HO, hpk, HQ⟩ := hrel
  obtain ⟨oa, oc, hov⟩ := own_form HO.out.1
  obtain ⟨pn, hpn⟩ : ∃ m, ps.length = m := ⟨_, rfl⟩
  rw [hpn] at hov hpk
  subst hov
  have HPN := Lib.hid hpn
  clear hpn
  by_cases hk : k < n
  case neg =>
    have hd : decide (k < n) = false := decide_eq_false hk
    have HQF : Hid (Q = ps.map Prod.snd) := Lib.hid (by
      rw [HQ.out, List.drop_eq_nil_of_le (by have := HN.out; omega)]
      exact List.append_nil _)
    have HSO := Lib.hid (sorted_any wr B (.slice oa pn oc) ps HO.out.1 (fun p hp => (HO.out.2 p hp).mono fun _ h => h.2) (by have := HPN.out; omega))
    clear HQ
    go_wp2_with fail
    refine HSO.out.mono ?_
    rintro e w3 ⟨v3, qs, rfl, ho3, hq3, hm3, hb3, hg3⟩
    have HF : Hid (CanonPost w cs (.returned v3) w3) := Lib.hid (by
      have hbel : Below B w w3 := HB.out.grown hg3 HSZ.out fun k hk => (HO.out.lt k hk).1
      refine ⟨v3, rfl, ?_, by rw [HBE.out]; exact hbel⟩
      rw [HBE.out, HQE.out, HQF.out, ← hq3]
      have hlq : qs.length ≤ 9223372036854775807 := by
        have h1 := congrArg List.length hq3
        rw [List.length_map] at h1
        have h2 := cptG_len none (srtC clsC (ps.map Prod.snd))
        rw [(srtC_perm clsC _).length_eq, List.length_map] at h2
        have h3 := HPN.out
        unfold cptM at h1
        omega
      refine ⟨qs.map Prod.fst, (ownsRow_sl1 ho3 hlq).mono fun b hb => hb.1, by simp, fun j u c hu hc => ?_⟩
      rw [List.getElem?_map] at hu hc
      rcases hj : qs[j]? with _ | q
      · rw [hj] at hu; cases hu
      · rw [hj] at hu hc
        injection hu with hu
        injection hc with hc
        subst hu hc
        exact ((HO.out.2 q (hm3 q (List.mem_of_getElem? hj))).lt.move fun k hk _ => hg3.block k hk.2 fun e => hk.1.2 e.symm).mono fun b hb => hb.1.1)
    obtain ⟨a3, c3, rfl⟩ := own_form ho3
    clear ho3 hq3 hm3 hb3 hg3 HSO
    go_wp2_with fail
    go_ret
    exact HF.out
  obtain ⟨x, hxx, ex⟩ := drop_at (xs := cs) (k := k) (by have := HN.out; omega)
  have hcw := Rows1.move (w' := wr) (fun _ _ _ _ _ h hm => h.move hm) (show Clss (fun b => b < w.heap.size) w _ cs from HX.out.lt) fun b hb _ => HB.out.block b (by rw [← HBE.out]; exact hb)
  obtain ⟨b, o, u, rfl, _, hb, hcc, hu⟩ := hcw.at hxx
  have hck := clause_any _ u x wr hu (HLL.out x (List.mem_of_getElem? hxx))
  obtain ⟨ua, un, uc, rfl, _, _⟩ := hu.form'
  have HCK := Lib.hid hck
  have H64 : Hid (∀ y ∈ claM x, I64 y) := Lib.hid fun y hy => hu.2 y (claM_mem hy)
  have HLX : Hid ((claM x).length ≤ 16777216) := Lib.hid (Nat.le_trans (claM_len x) (HLL.out x (List.mem_of_getElem? hxx)))
  have HQ1 : Hid (Q = ps.map Prod.snd ++ (if oppM (claM x) = true then keepM (cs.drop (k + 1)) else claM x :: keepM (cs.drop (k + 1)))) := Lib.hid (by
    rw [HQ.out, ex, keepM, List.map_cons, List.filter_cons]
    rcases h : oppM (claM x) with _ | _
    · rw [if_pos (by simp), if_neg (by simp)]; rfl
    · rw [if_neg (by simp), if_pos rfl]; rfl)
  clear hcw hck hu hxx ex HQ
  go_wp2_with fail
  refine HCK.out.mono ?_
  rintro e w4 ⟨v4, rfl, ho4, hb4⟩
  obtain ⟨a4, c4, rfl⟩ := own_form ho4
  obtain ⟨n4, hn4⟩ : ∃ m, (claM x).length = m := ⟨_, rfl⟩
  have hr4 : Ints (fun b => wr.heap.size ≤ b) w4 (.slice a4 (claM x).length c4) (claM x) := ⟨(ownsRow_sl1 ho4 (by have := HLX.out; omega)).mono fun b hb => hb.1, H64.out⟩
  rw [hn4] at hr4 ⊢
  have HR4 := Lib.hid hr4
  have hsz4 := hb4.size
  have hszr := HSZ.out
  have HB4 := Lib.hid (HB.out.trans (hb4.mono HSZ.out))
  have HO4 := Lib.hid (HO.out.below hb4)
  have hop := fun W (h : Below w4.heap.size w4 W) => opposed_any (fun b => wr.heap.size ≤ b) (.slice a4 n4 c4) (claM x) W (HR4.out.below h)
  have hop0 := opposed_any (fun b => wr.heap.size ≤ b) (.slice a4 n4 c4) (claM x) w4 HR4.out
  obtain ⟨O, hO⟩ : ∃ b, oppM (claM x) = b := ⟨_, rfl⟩
  rw [hO] at HQ1 hop hop0
  have HOP := Lib.hid hop0
  have hlt4 : ∀ b, wr.heap.size ≤ b → B ≤ b ∧ (Value.slice oa pn oc).ownBlock ≠ some b := fun b hb => ⟨by omega, fun e => by have := (HO.out.lt b e).2; omega⟩
  have HLT4 := Lib.hid hlt4
  clear ho4 hb4 hr4 hop hop0 hO hn4 hlt4 HO HB HCK HLX H64 HSZ
  go_wp2_with fail
  refine HOP.out.mono ?_
  rintro e w5 ⟨rfl, nq, rfl⟩
  have HB5 := Lib.hid (below_drewN HB4.out nq)
  have HO5 : Hid (Out B (w4.drewN nq) (.slice oa pn oc) ps) := Lib.hid (HO4.out.below (below_drewN (Below.refl _ _) nq))
  have HR5 := Lib.hid ((HR4.out.drewN nq).mono HLT4.out)
  obtain ⟨w6, hw6⟩ : ∃ W, W = w4.drewN nq := ⟨_, rfl⟩
  have hs6 : w4.heap.size = w6.heap.size := by rw [hw6]; rfl
  rw [← hw6] at HB5 HO5 HR5 ⊢
  clear hw6 HB4 HO4 HR4 HOP
  rcases bool2 O with rfl | rfl
  · have HF : Hid (Q = ps.map Prod.snd ++ keepM (cs.drop (k + 1))) := Lib.hid (by rw [HQ1.out, if_pos rfl])
    clear HQ1
    go_wp2_with fail
    go_roundg (gk - 1)
    case measure => omega
    case rel => exact ⟨k + 1, _, ps, by omega, by go_num, rfl, HB5, Lib.hid (by omega), HO5, by have := HPN.out; omega, HF⟩
  have HF : Hid (Q = (ps ++ [(Value.slice a4 n4 c4, claM x)]).map Prod.snd ++ keepM (cs.drop (k + 1))) := Lib.hid (by rw [HQ1.out, if_neg (by simp), List.map_append, List.append_assoc]; rfl)
  have hown6 := HO5.out.1
  rw [HPN.out] at hown6
  clear HQ1
  go_wp2_with (at_builtin; go_loud (refine wpList_push1 rfl _ _ 29 rfl 22 (.slice none 0 0) 24 Tryz.underlying29 HI.out rfl B (.slice oa pn oc) pn (ps.map Prod.fst) w6 (.slice a4 n4 c4) rfl rfl hown6 rfl (by omega) (by omega) (by omega) ?_); intro g7 cap7 w7 hown7 hg7 hs7 hgb hgl hat; have HB7 := Lib.hid (HB5.out.grown hg7 (by omega) (fun k hk => (hown6.lt k hk).1)); have HO7 : Hid (Out B w7 (.slice (some ⟨g7, 0, none⟩) (ps.length + 1) cap7) (ps ++ [(Value.slice a4 n4 c4, claM x)])) := Lib.hid (HO5.out.push HR5.out (by rw [HPN.out]; exact hown7) hg7 hat); clear hown7 hg7 hown6)
  go_roundg (gk - 1)
  case measure => omega
  case rel => exact ⟨k + 1, _, _, by omega, by go_num, rfl, HB7, Lib.hid (by omega), by rw [HPN.out] at HO7; exact HO7, by have := HPN.out; simp; omega, HF⟩
end Go.Proofs.YteadlkecngfcoaaGreat
