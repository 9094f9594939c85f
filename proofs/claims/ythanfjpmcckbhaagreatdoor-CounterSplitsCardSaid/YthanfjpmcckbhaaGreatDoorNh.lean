/- Walk: the statement's Projected. Canonical clauses over a set of variables that is smaller than the fuel, few kept variables. -/
import Derived.Test.YthanfjpmcckbhaaGreatDoorNg
import Derived.Test.YthanfjpmcckbhaaGreatDoorIv
namespace Go.Proofs.YthanfjpmcckbhaaGreatDoor
open Go.ChangeShapes Go.WideShapes Go.ChangeAt Go.RowKit
set_option linter.unusedVariables false

theorem own_cap {w : World} {base : Nat} {e : TypeId} {a : Option Addr} {n c size : Nat} {xs : List Value} (h : w.ownsRow base e size (.slice a n c) n xs) : n ≤ c := by
  rcases h.2 with ⟨h1, h2⟩ | ⟨g, cap, cur, h1, _, _, h2, _⟩
  · rw [h2]; exact Nat.zero_le _
  · injection h1 with _ _ h3
    rw [h3]; exact h2
set_option maxRecDepth 100000 in
set_option maxHeartbeats 4000000 in
theorem projected_any (k : Nat) (S : List Int) (F : Nat → Prop) (vars : Int) (N : Nat) (v : Value) (cs : List (List Int)) (w : World) (hv : Vs S cs) (hS : ∀ v ∈ S, v ≤ 1000000) (hk : S.length < k) (hx : Clss F w v cs) (hok : SzOk cs) (hN : N ≤ 40) :
    Calls Tryz.prog 15 #[.agg #[.int .i64 vars, .int .i64 N, v]] w (IntB w (cntM k (ivl 0 N) cs)) := by
  obtain ⟨a, n, c, rfl, HN, hn⟩ := hx.form'
  have hinfo1 : (Tryz.prog.info? 3).map (fun i => (i.zero, i.size, i.bytes)) = some (some (.int .i64 0), 1, 8) := by kernel_rfl
  have HI1 := Lib.hid hinfo1
  obtain ⟨W1, hW1⟩ : ∃ W, w.alloc (.cells #[.int .i64 vars, .int .i64 N, .slice a n c] 24) = W := ⟨_, rfl⟩
  have hb1 : Below w.heap.size w W1 := by rw [← hW1]; exact (Below.refl _ _).alloc (Nat.le_refl _) _
  have c1 : W1.cell? ⟨w.heap.size, 1, none⟩ = some (.int .i64 N) := by rw [← hW1]; simp
  have c2 : W1.cell? ⟨w.heap.size, 2, none⟩ = some (.slice a n c) := by rw [← hW1]; simp
  have hs1 : w.heap.size + 1 = W1.heap.size := by rw [← hW1]; simp
  have hlt : w.heap.size < W1.heap.size := by omega
  have HX := Lib.hid (hx.below hb1)
  have HB1 := Lib.hid hb1
  have HV := Lib.hid hv
  have HS := Lib.hid hS
  have HOK := Lib.hid hok
  have HW1 := Lib.hid hW1
  have HB0 : Hid (Below W1.heap.size W1 (W1.alloc (.cells #[] 3))) := Lib.hid ((Below.refl _ _).alloc (Nat.le_refl _) _)
  have HR0 : Hid ((W1.alloc (.cells #[] 3)).ownsRow W1.heap.size 3 1 (.slice (some ⟨w.heap.size + 1, 0, none⟩) 0 0) (ivl 0 0).length ((ivl 0 0).map (.int .i64))) := Lib.hid (by rw [hs1]; simpa [ivl] using own_new (base := W1.heap.size) (w := W1) #[] 3 (by omega) (by simp))
  clear hx hok hv hS hb1 hinfo1 hs1 hW1
  go_enter Tryz.func15, Tryz.ntmps15
  go_wp2
  rw [HW1.out]
  go_loopg [3, 4] N (fun gg u3 u4 wx => ∃ (j : Nat) (rv : Value), j + gg = N ∧ u4 = .int .i64 ((j : Int) + 1) ∧ u3 = rv ∧ Hid (Below W1.heap.size W1 wx) ∧ Hid (wx.ownsRow W1.heap.size 3 1 rv (ivl 0 j).length ((ivl 0 j).map (.int .i64))))
  case atStart => exact ⟨0, _, by omega, by go_num, rfl, HB0, HR0⟩
  case round =>
  clear HB0 HR0
  obtain ⟨j, rv, hjg, rfl, rfl, HB, HR⟩ := hrel
  obtain ⟨ra, rc, hrv⟩ := own_form HR.out
  rw [ivl_len] at hrv
  subst hrv
  have hszr := HB.out.size
  have q1 := below_c HB.out hlt c1
  have q2 := below_c HB.out hlt c2
  by_cases hj : j < N
  case neg =>
    have hd : decide ((j : Int) + 1 ≤ N) = false := decide_eq_false (by omega)
    obtain rfl : j = N := by omega
    have hcap := own_cap (by have := HR.out; rw [ivl_len] at this; exact this)
    have hints : Ints (fun _ => True) wr (.slice ra j rc) (ivl 0 j) := ⟨(ownsRow_sl1 HR.out (by rw [ivl_len]; omega)).mono fun _ _ => trivial, fun x hx => by rw [ivl_mem] at hx; unfold I64; omega⟩
    have HC := Lib.hid (count_any k (ivl 0 j) S _ _ _ ra j rc cs wr HV.out HS.out hk (HX.out.below HB.out) HOK.out hints hcap (fun u hu => by rw [ivl_mem] at hu; omega) (by rw [ivl_len]; exact hN))
    clear hints hcap HR
    go_wp2_with fail
    refine HC.out.mono ?_
    rintro e w3 ⟨rfl, hb3⟩
    have HF : Hid (Below w.heap.size w w3) := Lib.hid (HB1.out.trans ((HB.out.trans (hb3.mono hszr)).mono (by omega)))
    clear hb3 HC
    go_wp2_with fail
    go_ret
    exact ⟨rfl, HF.out⟩
  have hd : decide ((j : Int) + 1 ≤ N) = true := decide_eq_true (by omega)
  have hown := HR.out
  rw [ivl_len] at hown
  have hw2 : IntKind.i64.wrap ((j : Int) + 1 + 1) = (j : Int) + 1 + 1 := IntWalk.i64_in _ ⟨by omega, by omega⟩
  go_wp2_with (at_builtin; go_loud (refine wpList_push1 rfl _ _ 32 rfl 3 (.int .i64 0) 8 Tryz.underlying32 HI1.out rfl W1.heap.size (.slice ra j rc) j ((ivl 0 j).map (.int .i64)) wr (.int .i64 ((j : Int) + 1)) rfl rfl hown rfl (by omega) (by omega) (by omega) ?_); intro g7 cap7 w7 hown7 hg7 hs7 hgb hgl hat; have HB7 := Lib.hid (HB.out.grown hg7 (by omega) (fun k hk => (hown.lt k hk).1)); have HO7 : Hid (w7.ownsRow W1.heap.size 3 1 (.slice (some ⟨g7, 0, none⟩) (j + 1) cap7) (ivl 0 (j + 1)).length ((ivl 0 (j + 1)).map (.int .i64))) := Lib.hid (by rw [ivl_len, ivl_succ, List.map_append, show (0 : Int) + j + 1 = j + 1 by omega]; exact hown7); clear hown7 hg7 hown HR)
  go_roundg (gk - 1)
  case measure => omega
  case rel => exact ⟨j + 1, _, by omega, by go_num, rfl, HB7, HO7⟩
end Go.Proofs.YthanfjpmcckbhaaGreatDoor
