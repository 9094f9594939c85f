/- What the walk of the least cost computes. No program in sight. -/
import Derived.Test.YtljljagkccmogaaEw1
namespace Go.Proofs.Ytljljagkccmogaa

/-! ### what it computes -/
abbrev Best := Int × Bool
def andB (bs : List Best) : List Int → Best → Best
  | [], b => b
  | k :: r, b => andB bs r (b.1 + (bs.getD k.toNat (0, false)).1, b.2 && (bs.getD k.toNat (0, false)).2)
/-- the kid k, taken at the value with the number j -/
def candB (no yes : List Int) (V lit rest : Nat) (ms : List Nat) (bs : List Best) (j : Nat) (k : Int) : Int :=
  (bs.getD k.toNat (0, false)).1 + freeGo no yes (rest &&& (18446744073709551615 - ms.getD k.toNat 0)) V + (if j = 0 then no.getD lit 0 else yes.getD lit 0)
def decB (no yes : List Int) (V lit rest : Nat) (ms : List Nat) (bs : List Best) : Nat → List Int → Best → Best
  | _, [], b => b
  | j, k :: r, b =>
    if (bs.getD k.toNat (0, false)).2 = false then decB no yes V lit rest ms bs (j + 1) r b
    else if b.2 = false ∨ candB no yes V lit rest ms bs j k < b.1 then decB no yes V lit rest ms bs (j + 1) r (candB no yes V lit rest ms bs j k, true)
    else decB no yes V lit rest ms bs (j + 1) r b
def bestStep (no yes : List Int) (V : Nat) (p : Part) (m : Nat) (ms : List Nat) (bs : List Best) : Best :=
  if p.kind = 1 then (0, false)
  else if p.kind = 2 then (if p.lit < 0 then no.getD (p.lit.natAbs - 1) 0 else yes.getD (p.lit.natAbs - 1) 0, true)
  else if p.kind = 3 then andB bs p.kids (0, true)
  else if p.kind = 4 then decB no yes V (p.lit.toNat - 1) (restM p.lit m) ms bs 0 p.kids (0, false)
  else (0, true)
def cheapGo (no yes : List Int) (V : Nat) (ms : List Nat) : List Part → List Best → List Best
  | [], bs => bs
  | p :: r, bs => cheapGo no yes V ms r (bs ++ [bestStep no yes V p (ms.getD bs.length 0) ms bs])
def cheapM (no yes : List Int) (V : Nat) (ps : List Part) (ms : List Nat) : Best :=
  let b := (cheapGo no yes V ms ps []).getD (ps.length - 1) (0, false)
  (b.1 + freeGo no yes ((2 ^ V - 1) &&& (18446744073709551615 - ms.getD (ps.length - 1) 0)) V, b.2)
/-- nothing passes 2^40 -/
def Small (x : Int) : Prop := 0 ≤ x ∧ x ≤ 1099511627776
def Small2 (x : Int) : Prop := 0 ≤ x ∧ x ≤ 2199023255552
def andBS (bs : List Best) : List Int → Int → Prop
  | [], _ => True
  | k :: r, c => Small (c + (bs.getD k.toNat (0, false)).1) ∧ andBS bs r (c + (bs.getD k.toNat (0, false)).1)
def partBS (no yes : List Int) (V : Nat) (p : Part) (m : Nat) (ms : List Nat) (bs : List Best) : Prop :=
  (∀ k ∈ p.kids, 0 ≤ k ∧ k < bs.length) ∧ (p.kind = 2 → p.lit ≠ 0 ∧ -(V : Int) ≤ p.lit ∧ p.lit ≤ V) ∧ (p.kind = 3 → andBS bs p.kids 0) ∧ (p.kind = 4 → 1 ≤ p.lit ∧ p.lit ≤ V ∧ p.kids.length = 2) ∧ Small (bestStep no yes V p m ms bs).1
def cheapS (no yes : List Int) (V : Nat) (ms : List Nat) : List Part → List Best → Prop
  | [], _ => True
  | p :: r, bs => partBS no yes V p (ms.getD bs.length 0) ms bs ∧ cheapS no yes V ms r (bs ++ [bestStep no yes V p (ms.getD bs.length 0) ms bs])
end Go.Proofs.Ytljljagkccmogaa
