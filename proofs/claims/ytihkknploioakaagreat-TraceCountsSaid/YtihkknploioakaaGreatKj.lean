/- slices.SortFunc over an owned slice of clauses, with cnf.clauses and with the statement's own compare. No condition but the length. -/
import Derived.Test.YtihkknploioakaaGreatKg
namespace Go.Proofs.YtihkknploioakaaGreat
open Go.ChangeShapes Go.WideShapes Go.ChangeAt Go.RowKit
set_option linter.unusedVariables false

theorem swo_pull {α β : Type} {c : β → β → Int} (h : Sort.SWO (ltOf c)) (f : α → β) : Sort.SWO (ltOf fun x y : α => c (f x) (f y)) where
  irrefl x := h.irrefl (f x)
  trans x y z := h.trans (f x) (f y) (f z)
  ntrans x y z := h.ntrans (f x) (f y) (f z)
/-- a row with its reading in the world before -/
abbrev RowAt (w : World) (v : Value) : Type := {p : Value × List Int // Ints (fun b => v.ownBlock ≠ some b ∧ b < w.heap.size) w p.1 p.2}
instance (w : World) (v : Value) : Inhabited (RowAt w v) := ⟨⟨(.slice none 0 0, []), Ints.nil _ _⟩⟩
def SortedRows (W : World) (base : Nat) (v : Value) (ps : List (Value × List Int)) (r : Ending) (w' : World) : Prop :=
  r = .returned (.tuple #[]) ∧ ∃ qs : List (Value × List Int), qs.Perm ps ∧ qs.map Prod.snd = srtC clsC (ps.map Prod.snd) ∧ w'.ownsRow base 40 1 v ps.length (qs.map Prod.fst) ∧ W.grownBy w' v.ownBlock
theorem sortrows (g : Nat) (eg : ∀ args w, (callFunc g args).run Tryz.prog w = .ok (.enter g args) w)
    (hg : ∀ (v u : Value) (xs ys : List Int) (w : World), Ints (fun _ => True) w v xs → Ints (fun _ => True) w u ys → Calls Tryz.prog g #[v, u] w fun e w' => e = .returned (.int .i64 (clsC xs ys)) ∧ w' = w)
    (w : World) (base : Nat) (v : Value) (ps : List (Value × List Int)) (hown : w.ownsRow base 40 1 v ps.length (ps.map Prod.fst)) (hps : ∀ p ∈ ps, Ints (fun b => v.ownBlock ≠ some b) w p.1 p.2) (hl : ps.length ≤ 1048576) :
    Calls Tryz.prog 67 #[v, .func (.func g) #[] #[]] w (SortedRows w base v ps) := by
  obtain ⟨ds, hds⟩ : ∃ ds : List (RowAt w v), ds.map Subtype.val = ps := ⟨ps.pmap Subtype.mk fun p hp => (hps p hp).lt, by rw [List.map_pmap]; simp⟩
  have hm : ds.map (fun x : RowAt w v => x.1.1) = ps.map Prod.fst := by rw [← hds, List.map_map]; rfl
  have hlen : ds.length = ps.length := by rw [← hds, List.length_map]
  rw [← hm, ← hlen] at hown
  have h := sort_own sortC (fun x : RowAt w v => x.1.1) (fun x => by obtain ⟨a, c, h, _⟩ := x.2.form; show (x.1.1).oneCell' = true; rw [h]; rfl) (fun x y : RowAt w v => clsC x.1.2 y.1.2) (swo_pull (swo_of clsCmp) fun x : RowAt w v => x.1.2) g eg w base _ v ds hown (by omega)
    (fun x y w' hw => hg _ _ _ _ w' ((x.2.move fun k hk _ => hw k hk.2 hk.1).mono fun _ _ => trivial) ((y.2.move fun k hk _ => hw k hk.2 hk.1).mono fun _ _ => trivial))
  refine Calls.mono h ?_
  rintro r w' ⟨rfl, ts, hp, hs, ho, hgr⟩
  refine ⟨rfl, ts.map Subtype.val, ?_, ?_, ?_, hgr⟩
  · rw [← hds]; exact hp.map _
  · refine srtC_unique clsCmp ?_ ?_
    · rw [← hds, List.map_map, List.map_map]; exact hp.map _
    · rw [List.map_map, List.pairwise_map]; exact hs
  · rw [← hlen, List.map_map]
    exact ho
theorem sortcls_own (w : World) (base : Nat) (v : Value) (ps : List (Value × List Int)) (hown : w.ownsRow base 40 1 v ps.length (ps.map Prod.fst)) (hps : ∀ p ∈ ps, Ints (fun b => v.ownBlock ≠ some b) w p.1 p.2) (hl : ps.length ≤ 1048576) :
    Calls Tryz.prog 67 #[v, .func (.func 91) #[] #[]] w (SortedRows w base v ps) :=
  sortrows _ (enters_of Tryz.func91 (by kernel_rfl) rfl) (fun v u xs ys w hx hy => clauses_any v u xs ys w hx hy) w base v ps hown hps hl
end Go.Proofs.YtihkknploioakaaGreat
