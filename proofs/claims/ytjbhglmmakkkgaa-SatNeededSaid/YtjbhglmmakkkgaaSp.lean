/- Plain: unit propagation as sat.propagate does it. No program in sight. -/
import Derived.Test.YtjbhglmmakkkgaaSw3
namespace Go.Proofs.Ytjbhglmmakkkgaa
/-- the only literal of a clause that is not false: none if there are two, 0 if there is none -/
def unitGo (ms : List Bool) : List Int → Int → Option Int
  | [], u => some u
  | l :: r, u => if hasM ms (-l) = true then unitGo ms r u else if u ≠ 0 then none else unitGo ms r l
/-- one pass over the clauses -/
def passGo : List (List Int) → List Bool → Bool → Bool × List Bool × Bool
  | [], ms, ch => (true, ms, ch)
  | c :: r, ms, ch => match unitGo ms c 0 with
    | none => passGo r ms ch
    | some u => if u = 0 then (false, ms, ch) else if hasM ms u = true then passGo r ms ch else if setOk ms u = false then (false, setM ms u, ch) else passGo r (setM ms u) true
def propGo : Nat → List (List Int) → List Bool → Bool × List Bool
  | 0, _, ms => (true, ms)
  | f + 1, cs, ms => match passGo cs ms false with
    | (false, m, _) => (false, m)
    | (true, m, true) => propGo f cs m
    | (true, m, false) => (true, m)
/-- propagate -/
def propM (cs : List (List Int)) (ms : List Bool) : Bool × List Bool := propGo (ms.count false + 1) cs ms
theorem setM_count {ms : List Bool} {l : Int} (h : hasM ms l = false) (hl : idx l < ms.length) : (setM ms l).count false + 1 = ms.count false := by
  unfold setM hasM at *
  generalize idx l = i at *
  rw [List.getD, List.getElem?_eq_getElem hl, Option.getD_some] at h
  rw [List.count_set hl]
  simp only [h]
  have : 0 < ms.count false := List.count_pos_iff.2 (h ▸ List.getElem_mem hl)
  simp
  omega
theorem unitGo_lit {ms : List Bool} {V : Nat} : ∀ (c : List Int) (u x : Int), (∀ l ∈ c, LitOk V l) → (u = 0 ∨ LitOk V u) → unitGo ms c u = some x → x = 0 ∨ LitOk V x
  | [], u, x, _, hu, h => by simp [unitGo] at h; exact h ▸ hu
  | l :: r, u, x, hc, hu, h => by
    rw [unitGo] at h
    split at h
    · exact unitGo_lit r u x (fun y hy => hc y (by simp [hy])) hu h
    split at h
    · cases h
    · exact unitGo_lit r l x (fun y hy => hc y (by simp [hy])) (.inr (hc l (by simp))) h
end Go.Proofs.Ytjbhglmmakkkgaa
