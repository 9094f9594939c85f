/- Walk: cnf.clause: a sorted clause without repeated literals, as a slice that the call owns. No condition but the length. -/
import Derived.Test.YtihkknploioakaaGreatKd
import Derived.Test.YtihkknploioakaaGreatKe
import Derived.Test.YtihkknploioakaaGreatKf
namespace Go.Proofs.YtihkknploioakaaGreat
open Go.ChangeShapes Go.WideShapes Go.ChangeAt Go.RowKit
set_option linter.unusedVariables false

theorem swo_of {α : Type} {c : α → α → Int} (h : Cmp c) : Sort.SWO (ltOf c) where
  irrefl x := by
    have := (h.eq x x).2 rfl
    simp [ltOf, this]
  trans x y z h1 h2 := by
    simp only [ltOf, decide_eq_true_eq] at *
    exact h.tr x y z h1 h2
  ntrans x y z h1 h2 := by
    simp only [ltOf, decide_eq_false_iff_not] at *
    intro h3
    have h6 := h.flip x z
    rcases h.le h2 with h4 | h4
    · rcases h.le h1 with h5 | h5
      · have := h.tr z y x h4 h5
        omega
      · rw [h5] at h4
        omega
    · rw [h4] at h3
      exact h1 h3
abbrev I64s : Type := {x : Int // I64 x}
instance : Inhabited I64s := ⟨⟨0, by unfold I64; omega⟩⟩
theorem lift_ints {xs : List Int} (h : ∀ x ∈ xs, I64 x) : ∃ ds : List I64s, ds.map Subtype.val = xs := ⟨xs.pmap Subtype.mk h, by rw [List.map_pmap]; simp⟩
def SortedPost (W : World) (base : Nat) (e : TypeId) (v : Value) (xs : List Int) (r : Ending) (w' : World) : Prop :=
  r = .returned (.tuple #[]) ∧ w'.ownsRow base e 1 v xs.length (xs.map (.int .i64)) ∧ W.grownBy w' v.ownBlock
theorem sortlit_own (w : World) (base : Nat) (e : TypeId) (v : Value) (xs : List Int) (hown : w.ownsRow base e 1 v xs.length (xs.map (.int .i64))) (h64 : ∀ x ∈ xs, I64 x) (hl : xs.length ≤ 16777216) :
    Calls Tryz.prog 65 #[v, .func (.func 92) #[] #[]] w (SortedPost w base e v (srtC litC xs)) := by
  obtain ⟨ds, hds⟩ := lift_ints h64
  have hc : Cmp fun x y : I64s => litC x.1 y.1 := ⟨fun a b => litC_flip a.1 b.1, fun a b => litC_eq.trans (by rw [Subtype.ext_iff]), fun a b d => litC_tr⟩
  have hm : ds.map (fun x : I64s => Value.int .i64 x.1) = xs.map (.int .i64) := by rw [← hds, List.map_map]; rfl
  have hlen : ds.length = xs.length := by rw [← hds, List.length_map]
  rw [← hm, ← hlen] at hown
  have h := sort_own sortI (fun x : I64s => Value.int .i64 x.1) (fun _ => rfl) (fun x y : I64s => litC x.1 y.1) (swo_of hc) 92
    (enters_of Tryz.func92 (by kernel_rfl) rfl) w base e v ds hown (by omega) (fun x y w' _ => literals_any x.1 y.1 w' x.2 y.2)
  refine Calls.mono h ?_
  rintro r w' ⟨rfl, ts, hp, hs, ho, hg⟩
  have hts : ts.map Subtype.val = srtC litC xs := by
    refine srtC_unique litCmp ?_ ?_
    · rw [← hds]; exact hp.map _
    · rw [List.pairwise_map]; exact hs
  have hlt : (srtC litC xs).length = ds.length := by rw [(srtC_perm litC xs).length_eq, hlen]
  refine ⟨rfl, ?_, hg⟩
  rw [hlt, ← hts, List.map_map]
  exact ho

set_option maxHeartbeats 1000000 in
theorem clause_any (F : Nat → Prop) (v : Value) (xs : List Int) (w : World) (hx : Ints F w v xs) (hl : xs.length ≤ 16777216) :
    Calls Tryz.prog 76 #[v] w (OwnPost w (claM xs)) := by
  have HCL := Lib.hid (clone_own F v xs w hx hl)
  obtain ⟨a, n, c, rfl, _, _⟩ := hx.form'
  have H64 := Lib.hid hx.2
  clear hx
  go_enter Tryz.func76, Tryz.ntmps76
  go_wp2_with fail
  refine HCL.out.mono ?_
  rintro e w1 ⟨v1, rfl, ho1, hb1⟩
  have HS := Lib.hid (sortlit_own w1 _ _ v1 xs ho1 H64.out hl)
  have HB1 := Lib.hid hb1
  have hlt := ho1.lt
  obtain ⟨a1, c1, rfl⟩ := own_form ho1
  clear ho1 hb1 HCL
  go_wp2_with fail
  refine HS.out.mono ?_
  rintro e w2 ⟨rfl, ho2, hg2⟩
  have HB2 := Lib.hid (HB1.out.grown hg2 HB1.out.size fun k hk => (hlt k hk).1)
  have hlen : (srtC litC xs).length = xs.length := (srtC_perm litC xs).length_eq
  have HC := Lib.hid (compact_own w2 _ _ _ (srtC litC xs) ho2 (by omega))
  have hlt2 := ho2.lt
  clear ho2 hg2 HS HB1
  go_wp2_with fail
  refine HC.out.mono ?_
  rintro e w3 ⟨v3, rfl, ho3, _, hg3⟩
  obtain ⟨a3, c3, rfl⟩ := own_form ho3
  have HB3 := Lib.hid (HB2.out.grown hg3 HB2.out.size fun k hk => (hlt2 k hk).1)
  have HO3 := Lib.hid ho3
  clear ho3 hg3 HC HB2
  go_wp2_with fail
  go_ret
  have ho := HO3.out
  rw [List.length_map] at ho
  exact ⟨_, by simp, ho, HB3.out⟩
end Go.Proofs.YtihkknploioakaaGreat
