/- (Trace seat) Plain: accepted claims have the projected count of their clauses; the total is the projected count of the formula. No program in sight. -/
import Derived.Test.YthanfjpmcckbhaaGreatDoorVz
import Derived.Test.YthanfjpmcckbhaaGreatDoorVp
import Derived.Test.YthanfjpmcckbhaaGreatDoorIv
namespace Go.Proofs.YthanfjpmcckbhaaGreatDoor
open Go.RowKit
set_option linter.unusedVariables false

theorem acc_good {keep : Int} {ts : List Claim} (hall : ∀ i : Nat, i < ts.length → ccM keep ts i = 0) : ∀ (n i : Nat), i < n → i < ts.length → Good keep (ts.getD i clNil)
  | 0, i, h, _ => absurd h (Nat.not_lt_zero i)
  | n + 1, i, h, hi => by
    obtain ⟨_, _, _, hcan, h0, _, hk, hf⟩ := cc_count (hall i hi)
    refine fol_good (canB_cn hcan) (fun k hk' => ?_) h0 hf
    unfold kidsM at hk'
    obtain ⟨x, hx, rfl⟩ := List.mem_map.1 hk'
    have := hk x hx
    exact acc_good hall n x.toNat (by omega) (by omega)
theorem acc_tot {vars keep : Int} {cs : List (List Int)} {ts : List Claim} (h : tckM vars keep cs ts = 0) : totA vars keep cs ts = (Pc keep cs : Int) * 2 ^ (keep - (keptM keep (occM cs)).length).toNat := by
  obtain ⟨_, _, hpos, hall, hlast⟩ := tck_acc h
  have hg := acc_good hall ts.length (ts.length - 1) (by omega) (by omega)
  unfold totA totN
  rw [if_pos h, hg.2, hlast]
theorem agree {vars keep : Int} {cs : List (List Int)} {ts us : List Claim} (h1 : tckM vars keep cs ts = 0) (h2 : tckM vars keep cs us = 0) : totA vars keep cs ts = totA vars keep cs us := by
  rw [acc_tot h1, acc_tot h2]

theorem check_dims {vars keep : Int} {cs : List (List Int)} (h : checkM vars keep cs = 0) : 0 ≤ keep ∧ keep ≤ vars := by
  unfold checkM at h
  by_cases h1 : vars < 0 ∨ keep < 0 ∨ vars < keep
  · rw [if_pos h1] at h; cases h
  · omega
theorem acc_cn {vars keep : Int} {cs : List (List Int)} {ts : List Claim} (h : tckM vars keep cs ts = 0) : Cn' cs := by
  obtain ⟨_, _, hpos, hall, hlast⟩ := tck_acc h
  have hg := acc_good hall ts.length (ts.length - 1) (by omega) (by omega)
  rw [← hlast]
  exact hg.1
theorem filter_parts {α : Type} (p : α → Bool) : ∀ l : List α, l.length = (l.filter p).length + (l.filter fun v => !p v).length
  | [] => rfl
  | x :: r => by
    have := filter_parts p r
    rw [List.filter_cons, List.filter_cons]
    rcases p x with _ | _ <;> simp <;> omega
/-- the projected count over 1, .., N -/
theorem proj_eq {cs : List (List Int)} (hc : Cn' cs) (N : Nat) : ((cntN (Ev cs) (ivl 0 N) : Nat) : Int) = (Pc N cs : Int) * 2 ^ ((N : Int) - (keptM N (occM cs)).length).toNat := by
  rw [cnt_skip (ivl 0 N) (fun v => (occM cs).contains v) (Ev cs) (ivl_nodup N 0) fun v _ hp => hc.inv (by simpa using hp)]
  have hn := (ivl_nodup N 0).filter fun v => (occM cs).contains v
  have hm : ∀ x, x ∈ (ivl 0 N).filter (fun v => (occM cs).contains v) ↔ x ∈ keptM N (occM cs) := fun x => by
    rw [List.mem_filter, kept_mem, ivl_mem]
    constructor
    · rintro ⟨h1, h2⟩
      exact ⟨by simpa using h2, by omega⟩
    · rintro ⟨h1, h2⟩
      have := occM_range h1
      exact ⟨by omega, by simpa using h1⟩
  have hp := (List.perm_ext_iff_of_nodup hn (kept_nodup (N : Int) cs)).2 hm
  rw [cnt_perm hp]
  have hl := hp.length_eq
  have ht := filter_parts (fun v => (occM cs).contains v) (ivl 0 N)
  rw [ivl_len, hl] at ht
  show _ = ((cntN (Ev cs) (keptM N (occM cs)) : Nat) : Int) * _
  rw [show ((N : Int) - (keptM N (occM cs)).length).toNat = ((ivl 0 N).filter fun v => !(occM cs).contains v).length by omega, Int.mul_comm]
  simp
theorem sound {vars : Int} {N : Nat} {cs : List (List Int)} {ts : List Claim} (h : tckM vars N cs ts = 0) : totA vars N cs ts = (cntM ((occM cs).length + 1) (ivl 0 N) cs : Int) ∧ Vs (occM cs) cs ∧ ∀ v ∈ occM cs, v ≤ 1000000 := by
  have hc := acc_cn h
  have hS : ∀ v ∈ occM cs, v ≤ 1000000 := fun v hv => by have := occM_range hv; omega
  have h40 : N ≤ 40 := by have := (tck_acc h).2.1; omega
  refine ⟨?_, hc.vs, hS⟩
  rw [acc_tot h, ← proj_eq hc, cnt_eq _ (ivl 0 N) (occM cs) cs hc.1 hc.vs hS (Nat.lt_succ_self _) (ivl_nodup N 0) fun v hv => by rw [ivl_mem] at hv; omega]
  rfl
end Go.Proofs.YthanfjpmcckbhaaGreatDoor
