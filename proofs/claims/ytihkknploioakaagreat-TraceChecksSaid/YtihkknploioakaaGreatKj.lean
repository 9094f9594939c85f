/- slices.SortFunc over an owned slice of clauses, with cnf.clauses and with the statement's own compare. No condition but the length. -/
import Derived.Test.YtihkknploioakaaGreatKg
namespace Go.Proofs.YtihkknploioakaaGreat
open Go.ChangeShapes Go.WideShapes Go.ChangeAt Go.RowKit
set_option linter.unusedVariables false

theorem swo_pull {α β : Type} {c : β → β → Int} (h : Sort.SWO (ltOf c)) (f : α → β) : Sort.SWO (ltOf fun x y : α => c (f x) (f y)) where
  irrefl x := h.irrefl (f x)
  trans x y z := h.trans (f x) (f y) (f z)
  ntrans x y z := h.ntrans (f x) (f y) (f z)
/-- a row with its reading in the world before -/
abbrev RowAt (w : World) (v : Value) : Type := {p : Value × List Int // Ints (fun b => v.ownBlock ≠ some b ∧ b < w.heap.size) w p.1 p.2}
instance (w : World) (v : Value) : Inhabited (RowAt w v) := ⟨⟨(.slice none 0 0, []), Ints.nil _ _⟩⟩
def SortedRows (W : World) (base : Nat) (v : Value) (ps : List (Value × List Int)) (r : Ending) (w' : World) : Prop :=
  r = .returned (.tuple #[]) ∧ ∃ qs : List (Value × List Int), qs.Perm ps ∧ qs.map Prod.snd = srtC clsC (ps.map Prod.snd) ∧ w'.ownsRow base 40 1 v ps.length (qs.map Prod.fst) ∧ W.grownBy w' v.ownBlock
theorem sortrows (g : Nat) (eg : ∀ args w, (callFunc g args).run Tryz.prog w = .ok (.enter g args) w)
    (hg : ∀ (v u : Value) (xs ys : List Int) (w : World), Ints (fun _ => True) w v xs → Ints (fun _ => True) w u ys → Calls Tryz.prog g #[v, u] w fun e w' => e = .returned (.int .i64 (clsC xs ys)) ∧ w' = w)
    (w : World) (base : Nat) (v : Value) (ps : List (Value × List Int)) (hown : w.ownsRow base 40 1 v ps.length (ps.map Prod.fst)) (hps : ∀ p ∈ ps, Ints (fun b => v.ownBlock ≠ some b) w p.1 p.2) (hl : ps.length ≤ 1048576) :
    Calls Tryz.prog 67 #[v, .func (.func g) #[] #[]] w (SortedRows w base v ps) := by
  obtain ⟨ds, hds⟩ : ∃ ds : List (RowAt w v), ds.map Subtype.val = ps := ⟨ps.pmap Subtype.mk fun p hp => (hps p hp).lt, by rw [List.map_pmap]; simp⟩
  have hm : ds.map (fun x : RowAt w v => x.1.1) = ps.map Prod.fst := by rw [← hds, List.map_map]; rfl
  have hlen : ds.length = ps.length := by rw [← hds, List.length_map]
  rw [← hm, ← hlen] at hown
  have h := sort_own sortC (fun x : RowAt w v => x.1.1) (fun x => by obtain ⟨a, c, h, _⟩ := x.2.form; show (x.1.1).oneCell' = true; rw [h]; rfl) (fun x y : RowAt w v => clsC x.1.2 y.1.2) (swo_pull (swo_of clsCmp) fun x : RowAt w v => x.1.2) g eg w base _ v ds hown (by omega)
    (fun x y w' hw => hg _ _ _ _ w' ((x.2.move fun k hk _ => hw k hk.2 hk.1).mono fun _ _ => trivial) ((y.2.move fun k hk _ => hw k hk.2 hk.1).mono fun _ _ => trivial))
  refine Calls.mono h ?_
  rintro r w' ⟨rfl, ts, hp, hs, ho, hgr⟩
  refine ⟨rfl, ts.map Subtype.val, ?_, ?_, ?_, hgr⟩
  · rw [← hds]; exact hp.map _
  · refine srtC_unique clsCmp ?_ ?_
    · rw [← hds, List.map_map, List.map_map]; exact hp.map _
    · rw [List.map_map, List.pairwise_map]; exact hs
  · rw [← hlen, List.map_map]
    exact ho
theorem sortcls_own (w : World) (base : Nat) (v : Value) (ps : List (Value × List Int)) (hown : w.ownsRow base 40 1 v ps.length (ps.map Prod.fst)) (hps : ∀ p ∈ ps, Ints (fun b => v.ownBlock ≠ some b) w p.1 p.2) (hl : ps.length ≤ 1048576) :
    Calls Tryz.prog 67 #[v, .func (.func 91) #[] #[]] w (SortedRows w base v ps) :=
  sortrows _ (enters_of Tryz.func91 (by kernel_rfl) rfl) (fun v u xs ys w hx hy => clauses_any v u xs ys w hx hy) w base v ps hown hps hl

/- Walk: cnf.sorted. No condition but the length. -/
open Go.ChangeShapes Go.WideShapes Go.ChangeAt Go.RowKit
set_option linter.unusedVariables false

/-- the canonical order, each content once; the rows are old ones -/
def CanPost (W : World) (base : Nat) (v : Value) (ps : List (Value × List Int)) (r : Ending) (w' : World) : Prop :=
  ∃ (v' : Value) (qs : List (Value × List Int)), r = .returned v' ∧ w'.ownsRow base 40 1 v' qs.length (qs.map Prod.fst) ∧ qs.map Prod.snd = cptM (srtC clsC (ps.map Prod.snd)) ∧ (∀ q ∈ qs, q ∈ ps) ∧ v'.ownBlock = v.ownBlock ∧ W.grownBy w' v.ownBlock
theorem grown_trans {w w1 w2 : World} {b : Option Nat} (h1 : w.grownBy w1 b) (h2 : w1.grownBy w2 b) : w.grownBy w2 b :=
  ⟨h2.os.trans h1.os, h2.tape.trans h1.tape, h2.output.trans h1.output, Nat.le_trans h1.size h2.size, fun k hk hne => (h2.block k (Nat.lt_of_lt_of_le hk h1.size) hne).trans (h1.block k hk hne)⟩
set_option maxHeartbeats 1000000 in
theorem sorted_any (w : World) (base : Nat) (v : Value) (ps : List (Value × List Int)) (hown : w.ownsRow base 40 1 v ps.length (ps.map Prod.fst)) (hps : ∀ p ∈ ps, Ints (fun b => v.ownBlock ≠ some b) w p.1 p.2) (hl : ps.length ≤ 1048576) :
    Calls Tryz.prog 78 #[v] w (CanPost w base v ps) := by
  have HS := Lib.hid (sortcls_own w base v ps hown hps hl)
  have HP := Lib.hid hps
  obtain ⟨a, c, hv⟩ := own_form hown
  obtain ⟨n, hn⟩ : ∃ n, ps.length = n := ⟨_, rfl⟩
  rw [hn] at hv
  have HN := Lib.hid hn
  clear hown hps hn
  subst hv
  go_enter Tryz.func78, Tryz.ntmps78
  go_wp2_with fail
  refine HS.out.mono ?_
  rintro e w1 ⟨rfl, qs, hp, hq, ho, hg⟩
  have hlen : qs.length = ps.length := hp.length_eq
  have HC := Lib.hid (compactf_any w1 base (.slice a n c) qs (by rw [hlen]; exact ho) (fun p hp' => ((HP.out p (hp.subset hp')).lt.move fun k hk _ => hg.block k hk.2 fun e => hk.1 e.symm).mono fun _ h => h.1) (by omega))
  have HG := Lib.hid hg
  have HQ : Hid ((cptP none qs).map Prod.snd = cptM (srtC clsC (ps.map Prod.snd)) ∧ ∀ q ∈ cptP none qs, q ∈ ps) := Lib.hid ⟨by rw [cptP_snd, hq]; rfl, fun q hq' => hp.subset (cptP_mem _ _ q hq')⟩
  clear ho hg hp hq hlen HS HP
  go_wp2_with fail
  refine HC.out.mono ?_
  rintro e w2 ⟨v', rfl, ho, hb, hg⟩
  have HF : Hid (CanPost w base (.slice a n c) ps (.returned v') w2) := Lib.hid ⟨v', _, rfl, ho, HQ.out.1, HQ.out.2, hb, grown_trans HG.out hg⟩
  obtain ⟨a3, c3, rfl⟩ := own_form ho
  clear ho hb hg HC HG HQ
  go_wp2_with fail
  go_ret
  exact HF.out

/- Walk: cnf.Canonical. No condition but the lengths. -/
open Go.ChangeShapes Go.WideShapes Go.ChangeAt Go.RowKit
set_option linter.unusedVariables false

theorem cptG_mem {α : Type} [DecidableEq α] : ∀ (p : Option α) (l : List α), ∀ x ∈ cptG p l, x ∈ l
  | _, [], x, h => h
  | p, y :: r, x, h => by
    rw [cptG] at h
    split at h
    · exact List.mem_cons_of_mem _ (cptG_mem _ r x h)
    · rcases List.mem_cons.1 h with rfl | h
      · exact List.mem_cons_self ..
      · exact List.mem_cons_of_mem _ (cptG_mem _ r x h)
theorem cptG_len {α : Type} [DecidableEq α] : ∀ (p : Option α) (l : List α), (cptG p l).length ≤ l.length
  | _, [] => Nat.le_refl _
  | p, y :: r => by
    rw [cptG]
    split
    · exact Nat.le_succ_of_le (cptG_len _ r)
    · exact Nat.succ_le_succ (cptG_len _ r)
theorem claM_mem {xs : List Int} {x : Int} (h : x ∈ claM xs) : x ∈ xs := (srtC_perm litC xs).subset (cptG_mem _ _ x h)
theorem claM_len (xs : List Int) : (claM xs).length ≤ xs.length := by
  have := cptG_len none (srtC litC xs)
  rw [(srtC_perm litC xs).length_eq] at this
  exact this
theorem Clss.lt {F : Nat → Prop} {w : World} {v : Value} {cs : List (List Int)} (h : Clss F w v cs) : Clss (fun b => b < w.heap.size) w v cs := by
  obtain ⟨us, h1, h2, h3⟩ := h
  exact ⟨us, h1.lt.mono fun b hb => hb.2, h2, fun j u c hu hc => (h3 j u c hu hc).lt.mono fun b hb => hb.2⟩
/-- an owned slice of rows that the call made -/
def Out (B : Nat) (w : World) (v : Value) (ps : List (Value × List Int)) : Prop :=
  w.ownsRow B 40 1 v ps.length (ps.map Prod.fst) ∧ ∀ p ∈ ps, Ints (fun b => B ≤ b ∧ v.ownBlock ≠ some b) w p.1 p.2
theorem Out.nil (B : Nat) (w : World) : Out B w (.slice none 0 0) [] := ⟨World.ownsRow_nil _ _ _ _, by simp⟩
theorem Out.below {B : Nat} {w w' : World} {v : Value} {ps : List (Value × List Int)} (h : Out B w v ps) (hb : Below w.heap.size w w') : Out B w' v ps :=
  ⟨own_below h.1 hb, fun p hp => (h.2 p hp).below hb⟩
/-- one append -/
theorem Out.push {B g cap : Nat} {w w' : World} {v rv : Value} {ps : List (Value × List Int)} {c : List Int} (h : Out B w v ps) (hr : Ints (fun b => B ≤ b ∧ v.ownBlock ≠ some b) w rv c)
    (hown : w'.ownsRow B 40 1 (.slice (some ⟨g, 0, none⟩) (ps.length + 1) cap) (ps.length + 1) (ps.map Prod.fst ++ [rv])) (hg : w.grownBy w' v.ownBlock) (hat : v.ownBlock = some g ∨ w.heap.size ≤ g) :
    Out B w' (.slice (some ⟨g, 0, none⟩) (ps.length + 1) cap) (ps ++ [(rv, c)]) := by
  have mv : ∀ u x, Ints (fun b => B ≤ b ∧ v.ownBlock ≠ some b) w u x → Ints (fun b => B ≤ b ∧ (Value.slice (some ⟨g, 0, none⟩) (ps.length + 1) cap).ownBlock ≠ some b) w' u x := fun u x hx =>
    (hx.lt.move fun k hk _ => hg.block k hk.2 fun e => hk.1.2 e.symm).mono fun k hk => ⟨hk.1.1, fun e => by
      simp [Value.ownBlock] at e
      subst e
      rcases hat with h1 | h1
      · exact hk.1.2 h1
      · omega⟩
  refine ⟨by simpa using hown, fun p hp => ?_⟩
  rcases List.mem_append.1 hp with hp | hp
  · exact mv _ _ (h.2 p hp)
  · rw [List.mem_singleton] at hp
    subst hp
    exact mv _ _ hr
end Go.Proofs.YtihkknploioakaaGreat
