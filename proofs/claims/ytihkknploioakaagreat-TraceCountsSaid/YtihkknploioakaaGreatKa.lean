/- Walks: cmp.Compare of uint64, cnf.magnitude; plain: what cnf.Check computes. No condition. -/
import Derived.Test.YtihkknploioakaaGreatSw5
import Derived.BigQuiet
import Derived.Deep.QuietTactic
namespace Go.Proofs.YtihkknploioakaaGreat
open Go.ChangeShapes Go.WideShapes Go.ChangeAt Go.RowKit
set_option linter.unusedVariables false

theorem compare64_any (x y : Int) (w : World) : Calls Tryz.prog 122 #[.int .u64 x, .int .u64 y] w fun e w' => e = .returned (.int .i64 (cmpM x y)) ∧ w' = w := by
  rcases Int.lt_trichotomy x y with h | h | h
  · have hd : decide (x < y) = true := decide_eq_true h
    rw [show cmpM x y = -1 by unfold cmpM; rw [if_pos h]]
    go_enter Tryz.func122, Tryz.ntmps122
    go_wp2_with fail
    refine (nan64_any _ _).mono ?_
    rintro e w1 ⟨rfl, rfl⟩
    go_wp2_with fail
    refine (nan64_any _ _).mono ?_
    rintro e w2 ⟨rfl, rfl⟩
    go_wp2_with fail
    go_ret
    exact ⟨rfl, rfl⟩
  · subst h
    have hd : decide (x < x) = false := by simp
    rw [show cmpM x x = 0 by unfold cmpM; rw [if_neg (by omega), if_neg (by omega)]]
    go_enter Tryz.func122, Tryz.ntmps122
    go_wp2_with fail
    refine (nan64_any _ _).mono ?_
    rintro e w1 ⟨rfl, rfl⟩
    go_wp2_with fail
    refine (nan64_any _ _).mono ?_
    rintro e w2 ⟨rfl, rfl⟩
    go_wp2_with fail
    go_ret
    exact ⟨rfl, rfl⟩
  · have hd : decide (x < y) = false := decide_eq_false (by omega)
    have hd2 : decide (y < x) = true := decide_eq_true h
    rw [show cmpM x y = 1 by unfold cmpM; rw [if_neg (by omega), if_pos h]]
    go_enter Tryz.func122, Tryz.ntmps122
    go_wp2_with fail
    refine (nan64_any _ _).mono ?_
    rintro e w1 ⟨rfl, rfl⟩
    go_wp2_with fail
    refine (nan64_any _ _).mono ?_
    rintro e w2 ⟨rfl, rfl⟩
    go_wp2_with fail
    go_ret
    exact ⟨rfl, rfl⟩

theorem magnitude_any (n : Int) (w : World) (h : I64 n) :
    Calls Tryz.prog 50 #[.int .i64 n] w fun e w' => e = .returned (.int .u64 (varM n)) ∧ w' = w := by
  obtain ⟨i1, i2⟩ := h
  by_cases h0 : n < 0
  · have HV : Hid (varM n = -n) := Lib.hid (by unfold varM; rw [if_pos h0])
    have hd : decide (n < 0) = true := decide_eq_true h0
    go_enter Tryz.func50, Tryz.ntmps50
    go_wp2
    go_ret
    refine ⟨?_, rfl⟩
    rw [HV.out]
    have hw : IntKind.u64.wrap (-IntKind.u64.wrap n) = -n := by
      simp [IntKind.wrap, IntKind.bits, IntKind.signed]
      omega
    go_num
  · have HV : Hid (varM n = n) := Lib.hid (by unfold varM; rw [if_neg h0])
    have hd : decide (n < 0) = false := decide_eq_false h0
    go_enter Tryz.func50, Tryz.ntmps50
    go_wp2
    go_ret
    refine ⟨?_, rfl⟩
    rw [HV.out]
    go_num
/-- a call that only reads -/
def QuietPost (W : World) (v : Value) (e : Ending) (w' : World) : Prop := e = .returned v ∧ ∃ n, w' = W.drewN n
theorem below_drewN {B : Nat} {w w' : World} (h : Below B w w') (n : Nat) : Below B w (w'.drewN n) := ⟨h.os, h.tape, h.output, h.size, h.block⟩
theorem quiet_add_same {P : Program} {f : FuncId} {args : Array Value} {w : World} {a n : Nat} {v : Value}
    (h : Calls P f args (w.drewN (a + n)) fun e w' => e = .returned v ∧ w' = w.drewN (a + n)) :
    Calls P f args (w.drewN (a + n)) fun e w'' => e = .returned v ∧ ∃ m, w'' = w.drewN (a + m) :=
  h.mono fun _ _ ⟨he, hm⟩ => ⟨he, n, hm⟩
theorem quiet_add {P : Program} {f : FuncId} {args : Array Value} {w : World} {a n : Nat} {v : Value}
    (h : Calls P f args (w.drewN (a + n)) (QuietPost (w.drewN (a + n)) v)) :
    Calls P f args (w.drewN (a + n)) fun e w'' => e = .returned v ∧ ∃ m, w'' = w.drewN (a + m) :=
  h.mono fun _ _ ⟨he, m, hm⟩ => ⟨he, n + m, by rw [hm, World.drewN_drewN, Nat.add_assoc]⟩
theorem Ints.drewN {F : Nat → Prop} {w : World} {v : Value} {xs : List Int} (h : Ints F w v xs) (n : Nat) : Ints F (w.drewN n) v xs := h.move (w' := w.drewN n) fun _ _ _ => rfl
theorem Clss.drewN {F : Nat → Prop} {w : World} {v : Value} {xs : List (List Int)} (h : Clss F w v xs) (n : Nat) : Clss F (w.drewN n) v xs := Rows1.move (w' := w.drewN n) (fun _ _ _ _ _ h hm => h.move hm) h fun _ _ _ => rfl
/-- opposed -/
def oppM : List Int → Bool
  | a :: b :: r => (decide (b ≠ 0) && decide (b = -a) && decide (b ≠ a)) || oppM (b :: r)
  | _ => false
theorem oppM_cons {xs : List Int} {k : Nat} {a b : Int} (ha : xs[k]? = some a) (hb : xs[k + 1]? = some b) : oppM (xs.drop k) = ((decide (b ≠ 0) && decide (b = -a) && decide (b ≠ a)) || oppM (xs.drop (k + 1))) := by
  obtain ⟨h1, e1⟩ := List.getElem?_eq_some_iff.1 ha
  obtain ⟨h2, e2⟩ := List.getElem?_eq_some_iff.1 hb
  rw [List.drop_eq_getElem_cons h1, List.drop_eq_getElem_cons h2, e1, e2, oppM]
theorem oppM_end {xs : List Int} {k : Nat} (h : xs.length ≤ k + 1) : oppM (xs.drop k) = false := by
  have : (xs.drop k).length ≤ 1 := by rw [List.length_drop]; omega
  match hd : xs.drop k, this with
  | [], _ => rfl
  | [a], _ => rfl
/-- literals -/
def litC (a b : Int) : Int := if cmpM (varM a) (varM b) ≠ 0 then cmpM (varM a) (varM b) else cmpM a b
/-- clauses -/
def clsC : List Int → List Int → Int
  | [], [] => 0
  | [], _ :: _ => -1
  | _ :: _, [] => 1
  | a :: r, b :: s => if litC a b ≠ 0 then litC a b else clsC r s
def srtM : List Int → Bool
  | a :: b :: r => decide (litC a b < 0) && srtM (b :: r)
  | _ => true
theorem srtM_cons {xs : List Int} {k : Nat} {a b : Int} (ha : xs[k]? = some a) (hb : xs[k + 1]? = some b) : srtM (xs.drop k) = (decide (litC a b < 0) && srtM (xs.drop (k + 1))) := by
  obtain ⟨h1, e1⟩ := List.getElem?_eq_some_iff.1 ha
  obtain ⟨h2, e2⟩ := List.getElem?_eq_some_iff.1 hb
  rw [List.drop_eq_getElem_cons h1, List.drop_eq_getElem_cons h2, e1, e2, srtM]
theorem srtM_end {xs : List Int} {k : Nat} (h : xs.length ≤ k + 1) : srtM (xs.drop k) = true := by
  have : (xs.drop k).length ≤ 1 := by rw [List.length_drop]; omega
  match hd : xs.drop k, this with
  | [], _ => rfl
  | [a], _ => rfl
/-- isCanonical -/
def canGo : Option (List Int) → List (List Int) → Bool
  | _, [] => true
  | none, x :: r => !oppM x && (srtM x && canGo (some x) r)
  | some q, x :: r => !(decide (0 ≤ clsC q x) || oppM x) && (srtM x && canGo (some x) r)
def outB (V : Nat) (x : Int) : Bool := decide (x = 0) || decide ((V : Int) < varM x)
/-- Check's code -/
def checkM (vars keep : Int) (cs : List (List Int)) : Int :=
  if vars < 0 ∨ keep < 0 ∨ vars < keep then 1 else if 20000 < vars ∨ 60000 < cs.length then 4
  else if (cs.any fun c => c.any (outB vars.toNat)) = true then 3 else if canGo none cs = false then 10 else 0
end Go.Proofs.YtihkknploioakaaGreat
