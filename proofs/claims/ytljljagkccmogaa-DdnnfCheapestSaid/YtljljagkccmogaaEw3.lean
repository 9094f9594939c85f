/- Walks: slices.ContainsFunc at the statement's bounds, a clone that the call owns, Cheapest. -/
import Derived.Test.YtljljagkccmogaaEq
import Derived.Test.YtljljagkccmogaaEw2
import Derived.Test.YtljljagkccmogaaGw1
namespace Go.Proofs.Ytljljagkccmogaa
open Go.ChangeShapes Go.WideShapes Go.ChangeAt Go.RowKit
set_option linter.unusedVariables false

def outB (x : Int) : Bool := decide (x < 0) || decide (1048576 < x)
theorem outside_any (x : Int) (w : World) : Calls Try.prog 42 #[.int .i64 x] w fun e w' => e = .returned (.bool (outB x)) ∧ w' = w := by
  obtain ⟨R, hR⟩ : ∃ R, outB x = R := ⟨_, rfl⟩
  rw [hR]
  unfold outB at hR
  by_cases h0 : x < 0
  · have HR : Hid (R = true) := Lib.hid (by rw [← hR]; simp [h0])
    clear hR
    go_enter Try.func42, Try.ntmps42
    go_wp2
    go_ret
    exact ⟨by rw [HR.out]; rfl, rfl⟩
  · have HR : Hid (R = decide (1048576 < x)) := Lib.hid (by rw [← hR]; simp [h0])
    have h00 : decide (x < 0) = false := by simp; omega
    clear hR
    go_enter Try.func42, Try.ntmps42
    go_wp2
    go_ret
    exact ⟨by rw [HR.out]; rfl, rfl⟩
def outGo : List Int → Nat → Int
  | [], _ => -1
  | x :: r, i => if outB x = true then i else outGo r (i + 1)
theorem outGo_any : ∀ (xs : List Int) (i : Nat), decide (0 ≤ outGo xs i) = xs.any outB
  | [], i => by simp [outGo]
  | x :: r, i => by
    rw [outGo, List.any_cons]
    by_cases h : outB x = true
    · rw [if_pos h, h]; simp
    · rw [if_neg h, outGo_any r]; simp [h]
set_option maxHeartbeats 1000000 in
theorem indexf_any (F : Nat → Prop) (v : Value) (xs : List Int) (w : World) (hx : Ints F w v xs) :
    Calls Try.prog 53 #[v, .func (.func 42) #[] #[]] w fun e w' => e = .returned (.int .i64 (outGo xs 0)) ∧ w' = w := by
  obtain ⟨a, n, c, rfl, HN, hn⟩ := hx.form'
  obtain ⟨R, hR⟩ : ∃ R, outGo xs 0 = R := ⟨_, rfl⟩
  have HR : Hid (R = outGo (xs.drop 0) 0) := Lib.hid hR.symm
  rw [hR]
  clear hR
  go_enter Try.func53, Try.ntmps53
  go_wp2
  go_loopg [4, 8] n (fun g u4 u8 wx => ∃ k : Nat, k + g = n ∧ u8 = .int .i64 k ∧ u4 = .int .i64 0 ∧ wx = w ∧ Hid (R = outGo (xs.drop k) k))
  case atStart => exact ⟨0, by omega, rfl, rfl, rfl, HR⟩
  case round =>
    obtain ⟨k, hk, rfl, rfl, rfl, hinv⟩ := hrel
    by_cases hlt : k < n
    · obtain ⟨y, hy⟩ : ∃ y, xs[k]? = some y := ⟨_, List.getElem?_eq_getElem (by have := HN.out; omega)⟩
      obtain ⟨b, off, rfl, _, hb, hc, hyi⟩ := hx.at hy
      have e : xs.drop k = y :: xs.drop (k + 1) := by
        obtain ⟨hlt, he⟩ := List.getElem?_eq_some_iff.1 hy
        rw [List.drop_eq_getElem_cons hlt, he]
      have HI : Hid (R = if outB y = true then (k : Int) else outGo (xs.drop (k + 1)) (k + 1)) := Lib.hid (by rw [hinv.out, e]; rfl)
      obtain ⟨B, hB⟩ : ∃ B, outB y = B := ⟨_, rfl⟩
      have hoc := outside_any y wr
      rw [hB] at HI hoc
      have HOC := Lib.hid hoc
      clear hinv e hy hB hoc
      rcases bool2 B with rfl | rfl
      · have HF : Hid (R = k) := Lib.hid (by rw [HI.out, if_pos rfl])
        go_wp2_with fail
        refine HOC.out.mono ?_
        rintro e w' ⟨rfl, rfl⟩
        go_wp2_with fail
        go_ret
        exact ⟨by rw [HF.out]; rfl, rfl⟩
      · have HF : Hid (R = outGo (xs.drop (k + 1)) (k + 1)) := Lib.hid (by rw [HI.out, if_neg (by simp)])
        go_wp2_with fail
        refine HOC.out.mono ?_
        rintro e w' ⟨rfl, rfl⟩
        go_wp2_with fail
        go_roundg (gk - 1)
        case measure => omega
        case rel => exact ⟨k + 1, by omega, by go_num, rfl, rfl, HF⟩
    · have HF : Hid (R = -1) := Lib.hid (by rw [hinv.out, List.drop_eq_nil_of_le (by have := HN.out; omega)]; rfl)
      clear hinv
      go_wp2
      go_ret
      exact ⟨by rw [HF.out]; rfl, rfl⟩
set_option maxHeartbeats 1000000 in
theorem containsf_any (F : Nat → Prop) (v : Value) (xs : List Int) (w : World) (hx : Ints F w v xs) :
    Calls Try.prog 43 #[v, .func (.func 42) #[] #[]] w fun e w' => e = .returned (.bool (xs.any outB)) ∧ w' = w := by
  have hc := outGo_any xs 0
  have hI := indexf_any F v xs w hx
  obtain ⟨R, hR⟩ : ∃ R, outGo xs 0 = R := ⟨_, rfl⟩
  rw [hR] at hc hI
  rw [← hc]
  have HI := Lib.hid hI
  clear hc hR hI
  go_enter Try.func43, Try.ntmps43
  go_wp2_with fail
  refine HI.out.mono ?_
  rintro e w' ⟨rfl, rfl⟩
  go_wp2_with fail
  go_ret
  exact ⟨rfl, rfl⟩

def OwnPost (W : World) (xs : List Int) (e : Ending) (w' : World) : Prop := ∃ v, e = .returned v ∧ w'.ownsRow W.heap.size 3 1 v xs.length (xs.map (.int .i64)) ∧ Below W.heap.size W w'
set_option maxRecDepth 100000 in
set_option maxHeartbeats 1000000 in
theorem clone_own (F : Nat → Prop) (v : Value) (xs : List Int) (w : World) (hx : Ints F w v xs) (hl : xs.length ≤ 16777216) :
    Calls Try.prog 45 #[v] w (OwnPost w xs) := by
  obtain ⟨a, n, c, rfl, HN, hn⟩ := hx.form'
  have hu := Try.underlying35
  have hinfo : (Try.prog.info? 3).map (fun i => (i.zero, i.size, i.bytes)) = some (some (.int .i64 0), 1, 8) := by kernel_rfl
  have HI := Lib.hid hinfo
  have HX := Lib.hid hx
  have hnil := fun (w : World) => Lib.run_eql_slice_nil w 35 3 a n c 0 0 hu
  have hn2 : n ≤ 16777216 := by rw [HN.out]; exact hl
  clear hinfo hx
  rcases a with _ | ad
  · simp only [Option.isNone_none] at hnil
    have h0 : xs = [] := by
      rcases xs with _ | ⟨u, r⟩
      · rfl
      · obtain ⟨_, _, he, _⟩ := HX.out.at (k := 0) (x := u) rfl
        cases he
    subst h0
    go_enter Try.func45, Try.ntmps45
    go_wp2
    go_ret
    exact ⟨_, rfl, World.ownsRow_nil _ _ _ _, Below.refl _ _⟩
  · simp only [Option.isNone_some] at hnil
    have hown : (w.alloc (.cells #[] 3)).ownsRow w.heap.size 3 1 (.slice (some ⟨w.heap.size, 0, none⟩) 0 0) 0 [] := by
      simpa using own_new (base := w.heap.size) (w := w) #[] 3 (Nat.le_refl _) (by simp)
    have hb0 : Below w.heap.size w (w.alloc (.cells #[] 3)) := (Below.refl _ _).alloc (Nat.le_refl _) _
    have HS := Lib.hid (HX.out.below hb0).1
    have HB0 := Lib.hid hb0
    clear hb0
    go_enter Try.func45, Try.ntmps45
    go_wp2_with (at_builtin; go_loud (refine wpList_pushAll rfl _ _ 35 rfl 3 (.int .i64 0) 8 Try.underlying35 HI.out rfl w.heap.size (.slice (some ⟨w.heap.size, 0, none⟩) 0 0) 0 [] _ F (some ad) n c _ rfl rfl hown HS.out (ints_oneCell .i64 _) (by omega) (by omega) (by simp) ?_); intro v' w' hown' hg' _; have HO := Lib.hid hown'; have HG := Lib.hid hg'; clear hown' hg' hown)
    go_ret
    have ho := HO.out
    rw [List.nil_append, Nat.zero_add] at ho
    exact ⟨_, rfl, by rw [← HN.out]; exact ho, HB0.out.grown HG.out (by simp) fun k hk => by simp [Value.ownBlock] at hk; omega⟩

/-- a row stays whose block is not written -/
theorem own_set {w : World} {base : Nat} {e : TypeId} {size : Nat} {v : Value} {n : Nat} {xs : List Value} (h : w.ownsRow base e size v n xs) {p : Addr} (hp : v.ownBlock ≠ some p.block) (u : Value) : (w.setCell p u).ownsRow base e size v n xs :=
  h.kept (row := some p.block) ⟨rfl, rfl, rfl, by simp [World.setCell], fun k _ hk => Below.heap_setCell w p u k (fun e => hk (by rw [e]))⟩ (.inr hp)
/-- a row that lies below a bound stays where nothing below the bound turns -/
theorem own_lt {w w' : World} {B base : Nat} {e : TypeId} {size : Nat} {v : Value} {n : Nat} {xs : List Value} (h : w.ownsRow base e size v n xs) (hv : ∀ k, v.ownBlock = some k → k < B) (hb : Below B w w') : w'.ownsRow base e size v n xs := by
  refine ⟨h.1, ?_⟩
  rcases h.2 with h0 | ⟨g, cap, cur, e1, e2, e3, e4⟩
  · exact .inl h0
  · exact .inr ⟨g, cap, cur, e1, e2, (hb.block g (hv g (by rw [e1]; rfl))).trans e3, e4⟩
end Go.Proofs.Ytljljagkccmogaa
