/- Walk: slices.Clone of a slice of clauses: the copy is owned, its rows are the old ones. -/
import Derived.Test.YtjbhglmmakkkgaaSw7
namespace Go.Proofs.Ytjbhglmmakkkgaa
open Go.ChangeShapes Go.WideShapes Go.ChangeAt Go.RowKit
set_option linter.unusedVariables false

/-- a slice of clauses that the call owns; the rows themselves lie where F says -/
def RowsO (F : Nat → Prop) (w : World) (base : Nat) (v : Value) (n : Nat) (cs : List (List Int)) : Prop :=
  ∃ us, w.ownsRow base 25 1 v n us ∧ us.length = cs.length ∧ ∀ (j : Nat) u c, us[j]? = some u → cs[j]? = some c → Ints F w u c
def ClonePost (F : Nat → Prop) (W : World) (cs : List (List Int)) (e : Ending) (w' : World) : Prop :=
  ∃ v, e = .returned v ∧ RowsO F w' W.heap.size v cs.length cs ∧ Below W.heap.size W w'

set_option maxRecDepth 100000 in
set_option maxHeartbeats 1000000 in
theorem clones_any (F : Nat → Prop) (v : Value) (cs : List (List Int)) (w : World) (hx : Clss F w v cs) (hl : cs.length ≤ 1048576) :
    Calls Try.prog 42 #[v] w (ClonePost F w cs) := by
  obtain ⟨a, n, c, rfl, HN, hn⟩ := hx.form'
  have hu := Try.underlying22
  have hinfo : (Try.prog.info? 25).map (fun i => (i.zero, i.size, i.bytes)) = some (some (.slice none 0 0), 1, 24) := by kernel_rfl
  have HI := Lib.hid hinfo
  have HX := Lib.hid hx
  have hnil := fun (w : World) => Lib.run_eql_slice_nil w 22 25 a n c 0 0 hu
  have hn2 : n ≤ 1048576 := by rw [HN.out]; exact hl
  clear hinfo hx
  rcases a with _ | ad
  · simp only [Option.isNone_none] at hnil
    go_enter Try.func42, Try.ntmps42
    go_wp2
    go_ret
    have h0 : cs = [] := by
      rcases cs with _ | ⟨u, r⟩
      · rfl
      · obtain ⟨_, _, _, he, _⟩ := HX.out.at (k := 0) (x := u) rfl
        cases he
    subst h0
    exact ⟨_, rfl, ⟨[], World.ownsRow_nil _ _ _ _, rfl, by simp⟩, Below.refl _ _⟩
  · simp only [Option.isNone_some] at hnil
    have hown : (w.alloc (.cells #[] 25)).ownsRow w.heap.size 25 1 (.slice (some ⟨w.heap.size, 0, none⟩) 0 0) 0 [] := by
      simpa using own_new (base := w.heap.size) (w := w) #[] 25 (Nat.le_refl _) (by simp)
    have hb0 : Below w.heap.size w (w.alloc (.cells #[] 25)) := (Below.refl _ _).alloc (Nat.le_refl _) _
    obtain ⟨us, hS, hus, hrow⟩ := HX.out
    have HS := Lib.hid (hS.below hb0)
    have HUS := Lib.hid hus
    have HROW := Lib.hid hrow
    have hone : ∀ u ∈ us, u.oneCell' = true := fun u hu => by
      obtain ⟨j, hj, he⟩ := List.getElem_of_mem hu
      obtain ⟨a, c, h, _⟩ := (hrow j u _ (by rw [List.getElem?_eq_getElem hj, he]) (List.getElem?_eq_getElem (by omega))).form
      rw [h]; rfl
    have HONE := Lib.hid hone
    have HB0 := Lib.hid hb0
    clear hb0 hS hus hrow hone
    go_enter Try.func42, Try.ntmps42
    go_wp2_with (at_builtin; go_loud (refine wpList_pushAll rfl _ _ 22 rfl 25 (.slice none 0 0) 24 Try.underlying22 HI.out rfl w.heap.size (.slice (some ⟨w.heap.size, 0, none⟩) 0 0) 0 [] _ F (some ad) n c _ rfl rfl hown HS.out HONE.out (by omega) (by omega) (by simp) ?_); intro v' w' hown' hg' _; have HO := Lib.hid hown'; have HG := Lib.hid hg'; clear hown' hg' hown)
    go_ret
    have ho := HO.out
    rw [List.nil_append, Nat.zero_add, HN.out] at ho
    have hbb := HB0.out.grown HG.out (by simp) fun k hk => by simp [Value.ownBlock] at hk; omega
    exact ⟨_, rfl, ⟨us, ho, HUS.out, fun j u c h1 h2 => (HROW.out j u c h1 h2).below hbb⟩, hbb⟩
end Go.Proofs.Ytjbhglmmakkkgaa
