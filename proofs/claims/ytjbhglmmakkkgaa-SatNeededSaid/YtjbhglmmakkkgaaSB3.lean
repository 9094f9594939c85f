/- Walks: sat.Core, and the statement's core. -/
import Derived.Test.YtjbhglmmakkkgaaSe
namespace Go.Proofs.Ytjbhglmmakkkgaa
open Go.ChangeShapes Go.WideShapes Go.ChangeAt Go.RowKit
set_option linter.unusedVariables false

theorem rest_at {dr : List Bool} {i : Nat} {cs : List (List Int)} {k : Nat} {c : List Int} (e : cs.drop k = c :: cs.drop (k + 1)) :
    restGo dr i (cs.drop k) k = if k ≠ i ∧ dr.getD k false = false then c :: restGo dr i (cs.drop (k + 1)) (k + 1) else restGo dr i (cs.drop (k + 1)) (k + 1) := by
  rw [e, restGo]
theorem restGo_len {dr : List Bool} {i : Nat} : ∀ (cs : List (List Int)) (k : Nat), (restGo dr i cs k).length ≤ cs.length
  | [], _ => by simp [restGo]
  | c :: r, k => by
    have := restGo_len (dr := dr) (i := i) r (k + 1)
    rw [restGo]
    split <;> simp <;> omega

set_option maxRecDepth 100000 in
set_option maxHeartbeats 16000000 in
theorem Core_any {F : Nat → Prop} (vars keep : Int) (cv : Value) (cs : List (List Int)) (w : World) (hc : Clss F w cv cs) (hv : I64 vars) (hk : I64 keep) (hV : vars ≤ 24) (hn1 : cs.length ≤ 1000) :
    Calls Try.prog 28 #[.agg #[.int .i64 vars, .int .i64 keep, cv]] w (IntsCPost w (coreM vars keep cs)) := by
  obtain ⟨a, n, c, rfl, HN, hn⟩ := hc.form'
  have hb : Below w.heap.size w (w.alloc (.cells #[.int .i64 vars, .int .i64 keep, .slice a n c] 24)) := (Below.refl _ _).alloc (Nat.le_refl _) _
  have HB := Lib.hid hb
  have HX := Lib.hid (hc.below hb)
  have hck := Solve_any vars keep (.slice a n c) cs _ (hc.below hb) hv hk hV
  obtain ⟨R, hR⟩ : ∃ R, coreM vars keep cs = R := ⟨_, rfl⟩
  have HR := Lib.hid hR
  rw [hR]
  obtain ⟨S, hS⟩ : ∃ C, solvesM vars keep cs = C := ⟨_, rfl⟩
  have HS := Lib.hid hS
  rw [hS] at hck
  have HCK := Lib.hid hck
  have hn2 : n ≤ 1000 := by rw [HN.out]; exact hn1
  clear hck hR hS hb hc
  go_enter Try.func28, Try.ntmps28
  go_wp2_with fail
  refine HCK.out.mono ?_
  rintro e w1 ⟨mv, rfl, hm, hb1⟩
  have HB1 : Hid (Below w.heap.size w w1) := Lib.hid (HB.out.trans (hb1.mono (by simp)))
  have c0 := below_c hb1 (show w.heap.size < _ by simp) (o := 0) (v := .int .i64 vars) (by simp)
  have c2 := below_c hb1 (show w.heap.size < _ by simp) (o := 2) (v := .slice a n c) (by simp)
  have HX1 := Lib.hid (HX.out.below hb1)
  have hs1 := block_lt c0
  obtain ⟨ma, mn, mc, rfl⟩ : ∃ a n c, mv = .slice a n c := by
    obtain ⟨a, c, h, _⟩ := hm.form
    exact ⟨a, _, c, h⟩
  clear hb1 HX HCK HB hm
  by_cases h0 : checkM vars keep cs = 0
  case neg =>
    have HF : Hid (R = ([], 1)) := Lib.hid (by rw [← HR.out, coreM, if_pos h0])
    obtain rfl : S = ([], false, 1) := by rw [← HS.out, solvesM, if_pos h0]
    simp only
    clear h0
    go_wp2_with fail
    go_ret2
    exact ⟨_, by rw [HF.out]; rfl, by rw [HF.out]; exact Ints.nil _ _, HB1.out⟩
  obtain ⟨V, rfl, hV2, _, _, hcl, hlo, _⟩ := check_ok h0
  have HF : Hid (R = if (solveM V cs []).1.isSome = true then ([], 11) else (leftGo (dropGo V cs cs.length 0 (List.replicate cs.length false)) 0, 0)) := Lib.hid (by rw [← HR.out, coreM, if_neg (by omega)]; rfl)
  have HSS : Hid (S = match (solveM V cs []).1 with | some x => (x, true, 0) | none => ([], false, 0)) := Lib.hid (by rw [← HS.out, solvesM, if_neg (by omega)]; rfl)
  have HLO := Lib.hid hlo
  obtain ⟨r, hr⟩ : ∃ r, (solveM V cs []).1 = r := ⟨_, rfl⟩
  rw [hr] at HF HSS
  clear h0 HS HR hr hlo
  rcases r with _ | x
  case some =>
    have HF2 : Hid (R = ([], 11)) := Lib.hid HF.out
    obtain rfl : S = (x, true, 0) := HSS.out
    simp only
    clear HF HSS
    go_wp2_with fail
    go_ret2
    exact ⟨_, by rw [HF2.out]; rfl, by rw [HF2.out]; exact Ints.nil _ _, HB1.out⟩
  obtain ⟨DD, hDD⟩ : ∃ d, dropGo V cs cs.length 0 (List.replicate cs.length false) = d := ⟨_, rfl⟩
  have HF2 : Hid (R = (leftGo DD 0, 0)) := Lib.hid (by rw [← hDD]; exact HF.out)
  have HD0 : Hid (DD = dropGo V cs n 0 (List.replicate n false)) := Lib.hid (by rw [← hDD, HN.out])
  obtain rfl : S = ([], false, 0) := HSS.out
  simp only
  have hinfo : (Try.prog.info? 3).map (fun i => (i.zero, i.size, i.bytes)) = some (some (.int .i64 0), 1, 8) := by kernel_rfl
  have hinfo2 : (Try.prog.info? 25).map (fun i => (i.zero, i.size, i.bytes)) = some (some (.slice none 0 0), 1, 24) := by kernel_rfl
  have hinfo3 : (Try.prog.info? 4).map (fun i => (i.zero, i.size, i.bytes)) = some (some (.bool false), 1, 1) := by kernel_rfl
  obtain ⟨i0, g1, g2, g3, g4⟩ := info_parts hinfo3
  have G1 := Lib.hid g1
  have G2 := Lib.hid g2
  have G3 := Lib.hid g3
  have G4 := Lib.hid g4
  have HI := Lib.hid hinfo
  have HI2 := Lib.hid hinfo2
  clear HF HSS hDD hinfo hinfo2 hinfo3 g1 g2 g3 g4
  go_upto_region 7 with (at_make; refine wpList_make_full _ rfl _ _ 37 rfl w1.heap.size 4 i0 (.bool false) 1 (by kernel_rfl) G1.out G2.out G3.out .i64 .i64 _ _ n rfl rfl (by simp) (by simp) (by rw [G4.out]; omega) (by unfold maxLen; omega) (by simp) ?_; intro w5 hown5 hg5; have HB5 := Lib.hid ((Below.refl _ _).grown hg5 (Nat.le_refl _) (by intro k hk; cases hk)); have HO5 := Lib.hid hown5; clear hown5 hg5)
  have hown6 := HO5.out
  rw [made_bools] at hown6
  have HOW6 := Lib.hid hown6
  have e0 := below_c HB5.out hs1 c0
  have e2 := below_c HB5.out hs1 c2
  clear HO5 hown6
  go_wp2
  go_loopg [34] n (fun gg u34 wx => ∃ (i : Nat) (dr : List Bool), i + gg = n ∧ u34 = .int .i64 i ∧ Hid (wx.ownsRow w1.heap.size 4 1 (.slice (some ⟨w1.heap.size, 0, none⟩) n n) n (dr.map .bool)) ∧ Hid (Below w1.heap.size w1 wx) ∧ Hid (DD = dropGo V cs gg i dr))
  case atStart => exact ⟨0, _, by omega, rfl, HOW6, HB5, HD0⟩
  case round =>
  clear HOW6 HB5 HD0 e0 e2
  obtain ⟨i, dr, hig, rfl, HOW, HBX, HDX⟩ := hrel
  obtain ⟨GK, hGK⟩ : ∃ G, G = gk := ⟨_, rfl⟩
  subst hGK
  have e0 := below_c HBX.out hs1 c0
  have e2 := below_c HBX.out hs1 c2
  have hsx := HBX.out.size
  have hdl : dr.length = n := by simpa using HOW.out.1
  have hblk : w1.heap.size < wr.heap.size := (HOW.out.lt _ rfl).2
  obtain ⟨w8, hw8⟩ : ∃ x, x = wr := ⟨_, rfl⟩
  subst hw8
  by_cases hi : i < n
  case pos =>
    obtain ⟨f, rfl⟩ : ∃ f, GK = f + 1 := ⟨GK - 1, by omega⟩
    obtain ⟨RS, hRS⟩ : ∃ r, restGo dr i cs 0 = r := ⟨_, rfl⟩
    have HRS0 : Hid (RS = [] ++ restGo dr i (cs.drop 0) 0) := Lib.hid hRS.symm
    have HRL : Hid (LitsOk V RS) := Lib.hid (by rw [← hRS]; exact restLits HLO.out)
    have hrl : RS.length ≤ 1000 := by rw [← hRS]; exact Nat.le_trans (restGo_len _ _) hn1
    have HDY : Hid (DD = dropGo V cs f (i + 1) (dr.set i (solveM V RS []).1.isNone)) := Lib.hid (by rw [HDX.out, dropGo, hRS])
    have HR00 : Hid (RowsX w8 w8.heap.size (.slice none 0 0) []) := Lib.hid ⟨[], World.ownsRow_nil _ _ _ _, rfl, by simp⟩
    clear HDX hRS
    go_wp2
    go_loopg [9, 40] n (fun gg u9 u40 wx => ∃ (k : Nat) (acc : List (List Int)), k + gg = n ∧ u40 = .int .i64 k ∧ Hid (RowsX wx w8.heap.size u9 acc) ∧ Hid (Below w8.heap.size w8 wx) ∧ acc.length ≤ k ∧ Hid (RS = acc ++ restGo dr i (cs.drop k) k))
    case atStart => exact ⟨0, [], by omega, rfl, HR00, Lib.hid (Below.refl _ _), by simp, HRS0⟩
    case round =>
    clear HRS0 HR00
    obtain ⟨k, acc, hkg, rfl, HRX, HBY, hal, HRZ⟩ := hrel
    have hsy := HBY.out.size
    obtain ⟨ua, uc, rfl⟩ := HRX.out.form
    by_cases hk : k < n
    case pos =>
      obtain ⟨cl, hcl, ecl⟩ := drop_at (xs := cs) (k := k) (by have := HN.out; omega)
      have hcw := (HX1.out.below HBX.out).below HBY.out
      have hcl8 := (HX1.out.below HBX.out)
      obtain ⟨b, o, u, rfl, _, hb, hcc, hu⟩ := hcl8.at hcl
      obtain ⟨va, un, vc, rfl, HUN, hun⟩ := hu.form'
      have hcc' := below_c HBY.out hb hcc
      have HUI := Lib.hid (hu.lt.below HBY.out)
      obtain ⟨dk, hdk⟩ : ∃ d, dr[k]? = some d := ⟨_, List.getElem?_eq_getElem (by omega)⟩
      have HRE : Hid (RS = acc ++ (if k ≠ i ∧ dk = false then cl :: restGo dr i (cs.drop (k + 1)) (k + 1) else restGo dr i (cs.drop (k + 1)) (k + 1))) := Lib.hid (by rw [HRZ.out, rest_at ecl, List.getD, hdk]; rfl)
      have howk := own_below HOW.out HBY.out
      obtain ⟨x0, hx0, hc0, _⟩ := own_at .bool howk hk
      obtain rfl : x0 = dk := by rw [hdk] at hx0; injection hx0 with hx0; exact hx0.symm
      clear hcl ecl hcw hcl8 hu hcc hdk hx0 howk HRZ
      by_cases hki : k = i
      · have HRN : Hid (RS = acc ++ restGo dr i (cs.drop (k + 1)) (k + 1)) := Lib.hid (by rw [HRE.out, if_neg (by omega)])
        have hd : ((k : Int) != (i : Int)) = false := by rw [bne_eq_false_iff_eq]; omega
        clear HRE hki
        go_wp2
        go_roundg (gk - 1)
        case measure => omega
        case rel => exact ⟨k + 1, acc, by omega, by go_num, HRX, HBY, by omega, HRN⟩
      have hd : ((k : Int) != (i : Int)) = true := by rw [bne_iff_ne]; omega
      rcases bool2 x0 with rfl | rfl
      · have HRN : Hid (RS = acc ++ restGo dr i (cs.drop (k + 1)) (k + 1)) := Lib.hid (by rw [HRE.out, if_neg (by simp)])
        clear HRE hki
        go_wp2
        go_roundg (gk - 1)
        case measure => omega
        case rel => exact ⟨k + 1, acc, by omega, by go_num, HRX, HBY, by omega, HRN⟩
      · have HRN : Hid (RS = (acc ++ [cl]) ++ restGo dr i (cs.drop (k + 1)) (k + 1)) := Lib.hid (by rw [HRE.out, if_pos ⟨hki, rfl⟩, List.append_assoc]; rfl)
        obtain ⟨us, hown, hus, hrow⟩ := HRX.out
        have HUS := Lib.hid hus
        have HROW := Lib.hid hrow
        have HUX : Hid (Ints (fun b => (Value.slice ua acc.length uc).ownBlock ≠ some b) wr (.slice va un vc) cl) := Lib.hid (HUI.out.mono fun b hb e => by have := (hown.lt b e).1; omega)
        clear HRE hki hus hrow
        go_wp2_with (at_builtin; go_loud (refine wpList_push1 rfl _ _ 22 rfl 25 (.slice none 0 0) 24 Try.underlying22 HI2.out rfl w8.heap.size (.slice ua acc.length uc) acc.length us _ (.slice va un vc) rfl rfl hown rfl (by omega) (by omega) (by omega) ?_); intro g3 cap3 w3 hown3 hg3 hs3 hgb hgl hat; have HX3 := Lib.hid (RowsX.push HUS.out HROW.out HUX.out hown3 hg3 hat); have HB3 := Lib.hid (HBY.out.grown hg3 (by omega) (fun k hk => (hown.lt k hk).1)); clear hown3 hg3 hat hown)
        go_roundg (gk - 1)
        case measure => omega
        case rel => exact ⟨k + 1, acc ++ [cl], by omega, by go_num, HX3, HB3, by simp; omega, HRN⟩
    have HRA : Hid (RS = acc) := Lib.hid (by rw [HRZ.out, List.drop_eq_nil_of_le (by have := HN.out; omega), restGo, List.append_nil])
    have hk2 : n ≤ k := by omega
    have hdk : decide (k < n) = false := decide_eq_false hk
    have hrs := HRA.out
    subst hrs
    have hsol := solve_any (G := fun _ => True) V (.slice ua RS.length uc) (.slice none 0 0) RS [] wr (HRX.out.clss (by omega)) (Ints.nil _ _) (by omega) HRL.out (by simp) (by omega) (by simp)
    have e0' := below_c HBY.out (by omega) e0
    obtain ⟨r, hr⟩ : ∃ r, solveM V RS [] = r := ⟨_, rfl⟩
    rw [hr] at hsol HDY
    have HSOL := Lib.hid hsol
    clear hk HRZ HRA hsol hr
    go_wp2_with fail
    refine HSOL.out.mono ?_
    rintro e w9 ⟨p, o, L, cv5, lv5, mv5, rfl, ho, _, _, _, _, hb9⟩
    have HB9 : Hid (Below w8.heap.size w8 w9) := Lib.hid (HBY.out.trans (hb9.mono hsy))
    have hown9 := own_below HOW.out HB9.out
    obtain ⟨x1, hx1, hc1, hz1, _, hlt1, hset⟩ := own_at .bool hown9 hi
    have HSET := Lib.hid hset
    have hs9 := HB9.out.size
    clear hb9 HSOL hown9 hset hx1
    obtain ⟨r1, r2⟩ := r
    rcases r1 with _ | y
    · obtain rfl : o = 0 := ho
      have HDZ : Hid (DD = dropGo V cs f (i + 1) (dr.set i true)) := Lib.hid HDY.out
      have HOZ := Lib.hid (HSET.out true)
      have HBZ := Lib.hid ((HBX.out.trans (HB9.out.mono hsx)).setCell (p := ⟨w1.heap.size, i, none⟩) (Nat.le_refl _) (.bool true))
      clear HDY
      go_wp2_with fail
      go_roundg f
      case measure => omega
      case rel => exact ⟨i + 1, _, by omega, by go_num, HOZ, HBZ, HDZ⟩
    · obtain rfl : o = 1 := ho
      have HDZ : Hid (DD = dropGo V cs f (i + 1) (dr.set i false)) := Lib.hid HDY.out
      have HOZ := Lib.hid (HSET.out false)
      have HBZ := Lib.hid ((HBX.out.trans (HB9.out.mono hsx)).setCell (p := ⟨w1.heap.size, i, none⟩) (Nat.le_refl _) (.bool false))
      clear HDY
      go_wp2_with fail
      go_roundg f
      case measure => omega
      case rel => exact ⟨i + 1, _, by omega, by go_num, HOZ, HBZ, HDZ⟩
  have hDr : DD = dr := by rw [HDX.out, show GK = 0 by omega, dropGo]
  subst hDr
  have hdi : decide (i < n) = false := decide_eq_false hi
  have HO0 : Hid (OwnI w8 w8.heap.size (.slice none 0 0) []) := Lib.hid (OwnI.nil _ _)
  obtain ⟨LL, hLL⟩ : ∃ l, leftGo DD 0 = l := ⟨_, rfl⟩
  have HF3 : Hid (R = (LL, 0)) := Lib.hid (by rw [HF2.out, hLL])
  have HL0 : Hid (LL = [] ++ leftGo (DD.drop 0) 0) := Lib.hid hLL.symm
  clear hi HDX hLL
  go_wp2
  go_loopg [14, 77] n (fun gg u14 u77 wx => ∃ (k : Nat) (acc : List Int), k + gg = n ∧ u77 = .int .i64 k ∧ Hid (OwnI wx w8.heap.size u14 acc) ∧ Hid (Below w8.heap.size w8 wx) ∧ acc.length ≤ k ∧ Hid (∀ x ∈ acc, I64 x) ∧ Hid (LL = acc ++ leftGo (DD.drop k) k))
  case atStart => exact ⟨0, [], by omega, rfl, HO0, Lib.hid (Below.refl _ _), by simp, Lib.hid (by simp), HL0⟩
  case round =>
  clear HO0 HL0
  obtain ⟨k, acc, hkg, rfl, HOI, HBY, hal, HAX, HLZ⟩ := hrel
  have hsy := HBY.out.size
  obtain ⟨ua, uc, rfl⟩ : ∃ a c, u14 = .slice a acc.length c := own_form HOI.out
  by_cases hk : k < n
  case neg =>
    have HLA : Hid (LL = acc) := Lib.hid (by rw [HLZ.out, List.drop_eq_nil_of_le (by omega), leftGo, List.append_nil])
    have hk2 : n ≤ k := by omega
    clear hk HLZ
    go_wp2
    go_ret2
    exact ⟨_, by rw [HF3.out]; rfl, by rw [HF3.out, HLA.out]; exact (HOI.out.ints (by omega) HAX.out).mono fun _ _ => trivial, HB1.out.trans ((HBX.out.trans (HBY.out.mono hsx)).mono (by have := HB1.out.size; omega))⟩
  have howk := own_below HOW.out HBY.out
  obtain ⟨dk, hdk, hc0, _⟩ := own_at .bool howk hk
  have HLE : Hid (LL = acc ++ (if dk = true then leftGo (DD.drop (k + 1)) (k + 1) else (k : Int) :: leftGo (DD.drop (k + 1)) (k + 1))) := Lib.hid (by rw [HLZ.out, leftGo_drop hdk])
  clear howk hdk HLZ
  rcases bool2 dk with rfl | rfl
  · have HLN : Hid (LL = acc ++ leftGo (DD.drop (k + 1)) (k + 1)) := Lib.hid (by rw [HLE.out, if_pos rfl])
    clear HLE
    go_wp2
    go_roundg (gk - 1)
    case measure => omega
    case rel => exact ⟨k + 1, acc, by omega, by go_num, HOI, HBY, by omega, HAX, HLN⟩
  · have HLN : Hid (LL = (acc ++ [(k : Int)]) ++ leftGo (DD.drop (k + 1)) (k + 1)) := Lib.hid (by rw [HLE.out, if_neg (by simp), List.append_assoc]; rfl)
    have hown := HOI.out
    unfold OwnI at hown
    clear HLE
    go_wp2_with (at_builtin; go_loud (refine wpList_push1 rfl _ _ 25 rfl 3 (.int .i64 0) 8 Try.underlying25 HI.out rfl w8.heap.size (.slice ua acc.length uc) acc.length _ _ (.int .i64 (k : Int)) rfl rfl hown rfl (by omega) (by omega) (by omega) ?_); intro g5 cap5 w5 hown5 hg5 hs5 hgb hgl hat; have HB6 := Lib.hid (HBY.out.grown hg5 (by omega) (fun k hk => (hown.lt k hk).1)); have HO6 := Lib.hid (OwnI.snoc rfl hown5); clear hown5 hg5 hown)
    go_roundg (gk - 1)
    case measure => omega
    case rel =>
      refine ⟨k + 1, acc ++ [(k : Int)], by omega, by go_num, HO6, HB6, by simp; omega, Lib.hid (fun x hx => ?_), HLN⟩
      rcases List.mem_append.1 hx with hx | hx
      · exact HAX.out x hx
      · simp at hx; subst hx; unfold I64; omega
end Go.Proofs.Ytjbhglmmakkkgaa
