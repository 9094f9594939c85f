/- Walks of layer 33: what the statements' own 'part' answers, decisions. -/
import Derived.Test.YteadlkecngfcoaaGreatDoorChecked
import Derived.Test.YteadlkecngfcoaaGreatDoorDd
import Derived.Deep.DeepCutAuto
import Derived.Deep.LoopGhost
namespace Go.Proofs.YteadlkecngfcoaaGreatDoor
open Go.ChangeShapes Go.WideShapes Go.ChangeAt Go.RowKit
set_option linter.unusedVariables false

set_option maxRecDepth 100000 in
set_option maxHeartbeats 8000000 in
theorem part_c4 {F : Nat → Prop} (V : Nat) (lit : Int) (kids : List Int) (pv mv kv : Value) (mss : List (List Bool)) (w : World)
    (hm : Rows1 Bools F w mv mss) (hk : Ints F w kv kids) (hv1 : V ≤ 40) (hn : kids.length = 2) (hl1 : 1 ≤ lit) (hl2 : lit ≤ V) (hrow : ∀ r ∈ mss, r.length = V + 1) (hkr : ∀ k ∈ kids, 0 ≤ k ∧ k < mss.length) :
    Calls Tryz.prog 19 #[.agg #[.int .i64 V, pv], mv, .int .i64 mss.length, .agg #[.int .i64 4, .int .i64 lit, kv]] w (PartPost w (match kids1 4 lit mss kids ((List.replicate (V + 1) false).set lit.toNat true) with | none => (2, []) | some m => (0, kids2 mss kids m))) := by
  obtain ⟨ma, mc, rfl, hml⟩ := hm.form
  obtain ⟨ka, n, kc, rfl, HN, hkl⟩ := hk.form'
  have hinfo : (Tryz.prog.info? 4).map (fun i => (i.zero, i.size, i.bytes)) = some (some (.bool false), 1, 1) := by kernel_rfl
  obtain ⟨i0, g1, g2, g3, g4⟩ := info_parts hinfo
  have G1 := Lib.hid g1
  have G2 := Lib.hid g2
  have G3 := Lib.hid g3
  have G4 := Lib.hid g4
  clear g1 g2 g3 g4 hinfo
  have HROW := Lib.hid hrow
  have HKR := Lib.hid hkr
  have l0 : (lit == 0) = false := by rw [beq_eq_false_iff_ne]; omega
  have hnn : ((n : Int) != 2) = false := by rw [bne_eq_false_iff_eq]; have := HN.out; omega
  clear hn
  obtain ⟨K1, hK1⟩ : ∃ K1, kids1 4 lit mss kids ((List.replicate (V + 1) false).set lit.toNat true) = K1 := ⟨_, rfl⟩
  obtain ⟨M, hM⟩ : ∃ M, (match K1 with | none => ((2 : Int), ([] : List Bool)) | some m => (0, kids2 mss kids m)) = M := ⟨_, rfl⟩
  rw [hK1, hM]
  have HM : Hid (M = match K1 with | none => ((2 : Int), ([] : List Bool)) | some m => (0, kids2 mss kids m)) := Lib.hid hM.symm
  have HK1 : Hid (K1 = kids1 4 lit mss (kids.drop 0) ((List.replicate (V + 1) false).set lit.toNat true)) := Lib.hid hK1.symm
  clear hrow hkr hK1 hM
  go_enter Tryz.func19, Tryz.ntmps19
  go_upto_region 2 with (at_make; refine wpList_make_full _ rfl _ _ 36 rfl (w.heap.size + 2) 4 i0 (.bool false) 1 Tryz.underlying36 G1.out G2.out G3.out .i64 .i64 _ _ (V + 1) rfl rfl (by simp) (by simp) (by rw [G4.out]; omega) (by unfold maxLen; omega) (by simp) ?_; intro w1 hown1 hg1)
  have hsz1 : w.heap.size + 2 < w1.heap.size := by have := hown1.lt (w.heap.size + 1 + 1) (by simp [Value.ownBlock]); omega
  have HO1 : Hid (w1.ownsRow (w.heap.size + 2) 4 1 (.slice (some ⟨w.heap.size + 1 + 1, 0, none⟩) (V + 1) (V + 1)) (V + 1) ((List.replicate (V + 1) false).map .bool)) := Lib.hid (by rw [made_bools] at hown1; simpa using hown1)
  have hbw : Below w.heap.size w w1 := ((((Below.refl w.heap.size w).alloc (Nat.le_refl _) (.cells #[.int .i64 V, pv] 29)).alloc (by simp) (.cells #[.int .i64 4, .int .i64 lit, .slice ka n kc] 43)).grown hg1 (by simp; omega) (by intro k hk; cases hk))
  have HB1 := Lib.hid hbw
  have d0 : w1.cell? ⟨w.heap.size, 0, none⟩ = some (.int .i64 V) := hg1.cell (by simp) (by simp)
  have p0 : w1.cell? ⟨w.heap.size + 1, 0, none⟩ = some (.int .i64 4) := hg1.cell (by simp) (by simp)
  have p1 : w1.cell? ⟨w.heap.size + 1, 1, none⟩ = some (.int .i64 lit) := hg1.cell (by simp) (by simp)
  have p2 : w1.cell? ⟨w.heap.size + 1, 2, none⟩ = some (.slice ka n kc) := hg1.cell (by simp) (by simp)
  clear hown1 hg1 hbw
  go_wp2
  go_loopg [8, 9, 125] n (fun g u8 u9 u wx => ∃ j : Nat, j + g = n ∧ u8 = .slice none 0 0 ∧ u9 = .int .i64 0 ∧ u = .int .i64 j ∧ wx = w1)
  case atStart => exact ⟨0, by omega, rfl, rfl, rfl, rfl⟩
  case round =>
  obtain ⟨j, hjg, rfl, rfl, rfl, rfl⟩ := hrel
  by_cases hj : j < n
  · obtain ⟨x, hx⟩ : ∃ x, kids[j]? = some x := ⟨_, List.getElem?_eq_getElem (by have := HN.out; omega)⟩
    obtain ⟨kb, koff, rfl, _, hkb, hck, hxi⟩ := (hk.below HB1.out).at hx
    obtain ⟨hx1, hx2⟩ := hxi
    have hxr := HKR.out x (List.mem_of_getElem? hx)
    obtain ⟨hx3, hx4⟩ := hxr
    clear hx
    go_wp2
    go_roundg (gk - 1)
    case measure => omega
    case rel => exact ⟨j + 1, by omega, rfl, rfl, by go_num, rfl⟩
  have hj2 : n = j := by omega
  clear hj
  subst hj2
  obtain ⟨u0, s0, s1, s2, _, _, hst⟩ := own_at .bool HO1.out (show lit.toNat < V + 1 by omega)
  have HST := Lib.hid (hst true)
  clear hst s0
  have hll : ((lit.toNat : Nat) : Int) = lit := by omega
  have HLL := Lib.hid hll
  clear hll
  go_wp2
  go_loopg [8, 9, 149] n (fun g u8 u9 u wx => ∃ (j : Nat) (ms : List Bool), j + g = n ∧ u8 = .slice none 0 0 ∧ u9 = .int .i64 0 ∧ u = .int .i64 j ∧ Hid (K1 = kids1 4 lit mss (kids.drop j) ms) ∧
    wx.ownsRow (w.heap.size + 2) 4 1 (.slice (some ⟨w.heap.size + 1 + 1, 0, none⟩) (V + 1) (V + 1)) (V + 1) (ms.map .bool) ∧ Below w.heap.size w wx ∧
    wx.cell? ⟨w.heap.size + 1, 0, none⟩ = some (.int .i64 4) ∧ wx.cell? ⟨w.heap.size + 1, 1, none⟩ = some (.int .i64 lit) ∧ wx.cell? ⟨w.heap.size + 1, 2, none⟩ = some (.slice ka n kc))
  case atStart => exact ⟨0, (List.replicate (V + 1) false).set lit.toNat true, by omega, rfl, rfl, rfl, HK1, HST.out, HB1.out.setCell (by show _ ≤ _; simp; omega) _, set_ne (by omega) p0, set_ne (by omega) p1, set_ne (by omega) p2⟩
  case round =>
  obtain ⟨j, ms, hjg, rfl, rfl, rfl, hinv, hown, hB, q0, q1, q2⟩ := hrel
  have hwlt : w.heap.size + 2 < wr.heap.size := by have := hown.lt (w.heap.size + 1 + 1) rfl; omega
  have hw2 : w.heap.size < wr.heap.size := by omega
  have hw3 : w.heap.size + 1 < wr.heap.size := by omega
  have g0 : ∃ G, G = gk := ⟨_, rfl⟩
  obtain ⟨G, hG⟩ := g0
  subst hG
  have HOW := Lib.hid hown
  have HBB := Lib.hid hB
  clear hown hB
  by_cases hj : j < n
  · obtain ⟨x, hx⟩ : ∃ x, kids[j]? = some x := ⟨_, List.getElem?_eq_getElem (by have := HN.out; omega)⟩
    obtain ⟨kb, koff, rfl, _, hkb, hck, hxi⟩ := (hk.below HBB.out).at hx
    obtain ⟨hx3, hx4⟩ := HKR.out x (List.mem_of_getElem? hx)
    obtain ⟨x, rfl⟩ := Int.eq_ofNat_of_zero_le hx3
    have hxl : x < mss.length := by omega
    obtain ⟨mb, moff, rv, rfl, _, hmb, hcm, hroww⟩ := hm.at (List.getElem?_eq_getElem hxl)
    obtain ⟨ra, rc, rfl, hrl⟩ := hroww.form
    have hmb' : mb < wr.heap.size := by have := HBB.out.size; omega
    replace hcm := below_c HBB.out hmb hcm
    have hrl2 : (mss[x]).length = V + 1 := HROW.out _ (List.getElem_mem hxl)
    obtain ⟨row, hrw⟩ : ∃ row, mss[x] = row := ⟨_, rfl⟩
    rw [hrw] at hroww hrl hrl2 hcm
    obtain ⟨rl, hrll⟩ : ∃ rl, row.length = rl := ⟨_, rfl⟩
    rw [hrll] at hcm hrl hrl2 hroww
    have hrow := hroww.below HBB.out
    have hr1 : rl ≤ V + 1 := by omega
    have hr2 : V + 1 ≤ rl := by omega
    have HRL := Lib.hid hrll
    have HSTEP : Hid (K1 = if clash 4 lit ms row 0 then none else kids1 4 lit mss (kids.drop (j + 1)) (andGo 4 row 0 ms)) := Lib.hid (by
      have e : kids.drop j = (x : Int) :: kids.drop (j + 1) := by
        obtain ⟨hlt, he⟩ := List.getElem?_eq_some_iff.1 hx
        rw [List.drop_eq_getElem_cons hlt, he]
      have e2 : mss.getD ((x : Int)).toNat [] = row := by simp [List.getD, List.getElem?_eq_getElem hxl, hrw]
      rw [hinv.out, e]
      simp only [kids1, e2])
    clear hrll hrl2 hrw hinv hx
    go_wp2
    go_loopg [8, 9, 158] rl (fun g u8 u9 u wx => ∃ v : Nat, v + g = rl ∧ u8 = .slice none 0 0 ∧ u9 = .int .i64 0 ∧ u = .int .i64 v ∧ wx = wr ∧ Hid (clash 4 lit ms row 0 = clash 4 lit ms (row.drop v) v))
    case atStart => exact ⟨0, by omega, rfl, rfl, rfl, rfl, rfl⟩
    case round =>
    obtain ⟨v, hvg, rfl, rfl, rfl, hwx, hcl⟩ := hrel
    subst hwx
    by_cases hv : v < rl
    · obtain ⟨b, hb⟩ : ∃ b, row[v]? = some b := ⟨_, List.getElem?_eq_getElem (by have := HRL.out; omega)⟩
      obtain ⟨rb, roff, rfl, _, hrb, hcb⟩ := hrow.at hb
      obtain ⟨c, hc, hcc, hcf, _, _, _⟩ := own_at .bool HOW.out (show v < V + 1 by omega)
      have HC : Hid (clash 4 lit ms row 0 = ((b && c && (decide (4 = 3) || decide ((v : Int) = lit))) || clash 4 lit ms (row.drop (v + 1)) (v + 1))) := Lib.hid (by
        have e : row.drop v = b :: row.drop (v + 1) := by
          obtain ⟨hlt, he⟩ := List.getElem?_eq_some_iff.1 hb
          rw [List.drop_eq_getElem_cons hlt, he]
        rw [hcl.out, e]
        simp only [clash, List.getD, hc, Option.getD_some] <;> rfl)
      clear hb hc hcl
      cases b
      · go_wp2
        go_roundg (gk - 1)
        case measure => omega
        case rel => exact ⟨v + 1, by omega, rfl, rfl, by go_num, rfl, Lib.hid (by rw [HC.out]; simp)⟩
      · cases c
        · go_wp2
          go_roundg (gk - 1)
          case measure => omega
          case rel => exact ⟨v + 1, by omega, rfl, rfl, by go_num, rfl, Lib.hid (by rw [HC.out]; simp)⟩
        · rcases bool2 ((v : Int) == lit) with tv | tv
          · go_wp2
            go_ret2
            exact PartPost.no HBB.out (by
              have tv' : (v : Int) = lit := by simpa using tv
              rw [HM.out, HSTEP.out, HC.out]; simp [tv']) (by decide)
          · go_wp2
            go_roundg (gk - 1)
            case measure => omega
            case rel => exact ⟨v + 1, by omega, rfl, rfl, by go_num, rfl, Lib.hid (by
              have tv' : ¬ (v : Int) = lit := by simpa using tv
              rw [HC.out]; simp [tv'])⟩
    have hv2 : rl = v := by omega
    have HNC : Hid (clash 4 lit ms row 0 = false) := Lib.hid (by
      rw [hcl.out, List.drop_eq_nil_of_le (by have := HRL.out; omega)]; rfl)
    clear hv hcl
    subst hv2
    go_wp2
    go_loopg [187] rl (fun g u wx => ∃ (v : Nat) (ms' : List Bool), v + g = rl ∧ u = .int .i64 v ∧ Hid (andGo 4 row 0 ms = andGo 4 (row.drop v) v ms') ∧
      wx.ownsRow (w.heap.size + 2) 4 1 (.slice (some ⟨w.heap.size + 1 + 1, 0, none⟩) (V + 1) (V + 1)) (V + 1) (ms'.map .bool) ∧ Below w.heap.size w wx ∧
      wx.cell? ⟨w.heap.size + 1, 0, none⟩ = some (.int .i64 4) ∧ wx.cell? ⟨w.heap.size + 1, 1, none⟩ = some (.int .i64 lit) ∧ wx.cell? ⟨w.heap.size + 1, 2, none⟩ = some (.slice (some ⟨kb, koff, none⟩) n kc))
    case atStart => exact ⟨0, ms, by omega, rfl, rfl, HOW.out, HBB.out, q0, q1, q2⟩
    case round =>
    obtain ⟨v, ms', hvg, rfl, hag, hown, hB, q0, q1, q2⟩ := hrel
    have HOW' := Lib.hid hown
    have HBB' := Lib.hid hB
    clear hown hB
    by_cases hv : v < rl
    · obtain ⟨b, hb⟩ : ∃ b, row[v]? = some b := ⟨_, List.getElem?_eq_getElem (by have := HRL.out; omega)⟩
      obtain ⟨rb, roff, rfl, _, hrb, hcb⟩ := (hroww.below HBB'.out).at hb
      obtain ⟨c, hc, hcc, hcf, hgb, hgl, hset⟩ := own_at .bool HOW'.out (show v < V + 1 by omega)
      have HA : Hid (andGo 4 row 0 ms = andGo 4 (row.drop (v + 1)) (v + 1) (if b = true ∧ (4 : Int) = 3 then ms'.set v true else ms')) := Lib.hid (by
        have e : row.drop v = b :: row.drop (v + 1) := by
          obtain ⟨hlt, he⟩ := List.getElem?_eq_some_iff.1 hb
          rw [List.drop_eq_getElem_cons hlt, he]
        rw [hag.out, e]
        simp only [andGo])
      have hws : w.heap.size + 2 < wr.heap.size := by omega
      have hws1 : w.heap.size + 1 < wr.heap.size := by omega
      clear hb hc hag
      cases b
      · go_wp2
        go_roundg (gk - 1)
        case measure => omega
        case rel => exact ⟨v + 1, ms', by omega, by go_num, Lib.hid (by rw [HA.out]; simp), HOW'.out, HBB'.out, q0, q1, q2⟩
      · go_wp2
        go_roundg (gk - 1)
        case measure => omega
        case rel => exact ⟨v + 1, ms', by omega, by go_num, Lib.hid (by rw [HA.out]; simp), HOW'.out, HBB'.out, q0, q1, q2⟩
    have hv2 : v = rl := by omega
    have HAG : Hid (andGo 4 row 0 ms = ms') := Lib.hid (by
      rw [hag.out, List.drop_eq_nil_of_le (by have := HRL.out; omega)]; rfl)
    have hws : w.heap.size + 2 < wr.heap.size := by have := HOW'.out.lt (w.heap.size + 1 + 1) rfl; omega
    subst hv2
    clear hv hag
    go_wp2
    go_roundg (G - 1)
    case measure => omega
    case rel => exact ⟨j + 1, ms', by omega, rfl, rfl, by go_num, Lib.hid (by rw [HSTEP.out, HNC.out, HAG.out]; rfl), HOW'.out, HBB'.out, q0, q1, q2⟩
  have hj2 : n = j := by omega
  clear hj
  subst hj2
  have HK2 : Hid (K1 = some ms) := Lib.hid (by rw [hinv.out, List.drop_eq_nil_of_le (by have := HN.out; omega)]; rfl)
  have HM2 : Hid (M = (0, kids2 mss kids ms)) := Lib.hid (by rw [HM.out, HK2.out])
  clear hinv
  obtain ⟨R, hR⟩ : ∃ R, kids2 mss kids ms = R := ⟨_, rfl⟩
  have HR0 : Hid (R = kids2 mss (kids.drop 0) ms) := Lib.hid hR.symm
  have HM3 : Hid (M = (0, R)) := Lib.hid (by rw [HM2.out, hR])
  clear hR
  go_wp2
  go_loopg [206] n (fun g u wx => ∃ (j : Nat) (ms : List Bool), j + g = n ∧ u = .int .i64 j ∧ Hid (R = kids2 mss (kids.drop j) ms) ∧
    wx.ownsRow (w.heap.size + 2) 4 1 (.slice (some ⟨w.heap.size + 1 + 1, 0, none⟩) (V + 1) (V + 1)) (V + 1) (ms.map .bool) ∧ Below w.heap.size w wx)
  case atStart => exact ⟨0, ms, by omega, rfl, HR0, HOW.out, HBB.out⟩
  case round =>
  clear HOW HBB q0 q1 q2 hwlt hw2 hw3
  obtain ⟨j, ms, hjg, rfl, hinv, hown, hB⟩ := hrel
  have hwlt : w.heap.size + 2 < wr.heap.size := by have := hown.lt (w.heap.size + 1 + 1) rfl; omega
  have g0 : ∃ G, G = gk := ⟨_, rfl⟩
  obtain ⟨G, hG⟩ := g0
  subst hG
  have HOW := Lib.hid hown
  have HBB := Lib.hid hB
  clear hown hB
  by_cases hj : j < n
  · obtain ⟨x, hx⟩ : ∃ x, kids[j]? = some x := ⟨_, List.getElem?_eq_getElem (by have := HN.out; omega)⟩
    obtain ⟨kb, koff, rfl, _, hkb, hck, hxi⟩ := (hk.below HBB.out).at hx
    obtain ⟨hx3, hx4⟩ := HKR.out x (List.mem_of_getElem? hx)
    obtain ⟨x, rfl⟩ := Int.eq_ofNat_of_zero_le hx3
    have hxl : x < mss.length := by omega
    obtain ⟨mb, moff, rv, rfl, _, hmb, hcm, hroww⟩ := hm.at (List.getElem?_eq_getElem hxl)
    obtain ⟨ra, rc, rfl, hrl⟩ := hroww.form
    have hmb' : mb < wr.heap.size := by have := HBB.out.size; omega
    replace hcm := below_c HBB.out hmb hcm
    have hrl2 : (mss[x]).length = V + 1 := HROW.out _ (List.getElem_mem hxl)
    obtain ⟨row, hrw⟩ : ∃ row, mss[x] = row := ⟨_, rfl⟩
    rw [hrw] at hroww hrl hrl2 hcm
    obtain ⟨rl, hrll⟩ : ∃ rl, row.length = rl := ⟨_, rfl⟩
    rw [hrll] at hcm hrl hrl2 hroww
    have hr1 : rl ≤ V + 1 := by omega
    have hr2 : V + 1 ≤ rl := by omega
    have HRL := Lib.hid hrll
    have HSTEP : Hid (R = kids2 mss (kids.drop (j + 1)) (orGo row 0 ms)) := Lib.hid (by
      have e : kids.drop j = (x : Int) :: kids.drop (j + 1) := by
        obtain ⟨hlt, he⟩ := List.getElem?_eq_some_iff.1 hx
        rw [List.drop_eq_getElem_cons hlt, he]
      have e2 : mss.getD ((x : Int)).toNat [] = row := by simp [List.getD, List.getElem?_eq_getElem hxl, hrw]
      rw [hinv.out, e]
      simp only [kids2, e2])
    clear hrll hrl2 hrw hinv hx
    go_wp2
    go_loopg [215] rl (fun g u wx => ∃ (v : Nat) (ms' : List Bool), v + g = rl ∧ u = .int .i64 v ∧ Hid (orGo row 0 ms = orGo (row.drop v) v ms') ∧
      wx.ownsRow (w.heap.size + 2) 4 1 (.slice (some ⟨w.heap.size + 1 + 1, 0, none⟩) (V + 1) (V + 1)) (V + 1) (ms'.map .bool) ∧ Below w.heap.size w wx)
    case atStart => exact ⟨0, ms, by omega, rfl, rfl, HOW.out, HBB.out⟩
    case round =>
    obtain ⟨v, ms', hvg, rfl, hag, hown, hB⟩ := hrel
    have HOW' := Lib.hid hown
    have HBB' := Lib.hid hB
    clear hown hB
    by_cases hv : v < rl
    · obtain ⟨b, hb⟩ : ∃ b, row[v]? = some b := ⟨_, List.getElem?_eq_getElem (by have := HRL.out; omega)⟩
      obtain ⟨rb, roff, rfl, _, hrb, hcb⟩ := (hroww.below HBB'.out).at hb
      obtain ⟨c, hc, hcc, hcf, hgb, hgl, hset⟩ := own_at .bool HOW'.out (show v < V + 1 by omega)
      have HA : Hid (orGo row 0 ms = orGo (row.drop (v + 1)) (v + 1) (ms'.set v (c || b))) := Lib.hid (by
        have e : row.drop v = b :: row.drop (v + 1) := by
          obtain ⟨hlt, he⟩ := List.getElem?_eq_some_iff.1 hb
          rw [List.drop_eq_getElem_cons hlt, he]
        rw [hag.out, e]
        simp only [orGo, List.getD, hc, Option.getD_some])
      have HSET := Lib.hid (hset (c || b))
      have hws : w.heap.size + 2 < wr.heap.size := by omega
      clear hb hc hag hset
      cases c <;>
      · go_wp2
        go_roundg (gk - 1)
        case measure => omega
        case rel => exact ⟨v + 1, _, by omega, by go_num, HA, by simpa using HSET.out, HBB'.out.setCell (by show _ ≤ _; simp; omega) _⟩
    have hv2 : v = rl := by omega
    have HAG : Hid (orGo row 0 ms = ms') := Lib.hid (by
      rw [hag.out, List.drop_eq_nil_of_le (by have := HRL.out; omega)]; rfl)
    subst hv2
    clear hv hag
    go_wp2
    go_roundg (G - 1)
    case measure => omega
    case rel => exact ⟨j + 1, ms', by omega, by go_num, Lib.hid (by rw [HSTEP.out, HAG.out]), HOW'.out, HBB'.out⟩
  have hj2 : n = j := by omega
  clear hj
  subst hj2
  have HRR : Hid (R = ms) := Lib.hid (by rw [hinv.out, List.drop_eq_nil_of_le (by have := HN.out; omega)]; rfl)
  clear hinv
  go_wp2
  go_ret2
  refine PartPost.yes HBB.out (by rw [HM3.out]) ?_
  rw [HM3.out, HRR.out]
  exact (ownsRow_sl1 HOW.out (by omega)).mono fun b hb => by omega

end Go.Proofs.YteadlkecngfcoaaGreatDoor
