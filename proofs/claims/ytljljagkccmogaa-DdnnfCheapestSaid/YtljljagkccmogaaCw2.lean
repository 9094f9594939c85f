/- Walk: a normal form with literals fixed. -/
import Derived.Test.YtljljagkccmogaaCw1
import Derived.Test.YtljljagkccmogaaCp
import Derived.Test.YtljljagkccmogaaDb
import Derived.Deep.CutBlock
import Derived.Deep.RegionHeld3
import Derived.Handy
namespace Go.Proofs.Ytljljagkccmogaa
open Go.ChangeShapes Go.WideShapes Go.ChangeAt Go.RowKit
set_option linter.unusedVariables false

/-- a normal form as an answer, its parts in new blocks -/
def CondPost (W : World) (d : Dnnf) (e : Ending) (w' : World) : Prop :=
  ∃ pv, e = .returned (.agg #[.int .i64 d.vars, pv]) ∧ Parts (fun b => W.heap.size ≤ b) w' pv d.parts ∧ Below W.heap.size W w'
theorem made_ints (n : Nat) : (madeCells (Value.cells (.int .i64 0)) (n * 1)).toList = (List.replicate n (0 : Int)).map (.int .i64) := by
  apply List.ext_getElem?
  intro i
  by_cases h : i < n <;> simp [madeCells, Value.cells, h, Nat.mod_one]

theorem held3 {W w w' : World} {b : Nat} {x y z : Value} (h : w.cell? ⟨b, 0, none⟩ = some x ∧ w.cell? ⟨b, 1, none⟩ = some y ∧ w.cell? ⟨b, 2, none⟩ = some z ∧ Hid (Below (b + 1) W w)) (hb : Below (b + 1) w w') :
    w'.cell? ⟨b, 0, none⟩ = some x ∧ w'.cell? ⟨b, 1, none⟩ = some y ∧ w'.cell? ⟨b, 2, none⟩ = some z ∧ Hid (Below (b + 1) W w') :=
  ⟨below_c hb (by omega) h.1, below_c hb (by omega) h.2.1, below_c hb (by omega) h.2.2.1, Lib.hid (h.2.2.2.out.trans hb)⟩

set_option maxRecDepth 100000 in
set_option maxHeartbeats 8000000 in
theorem conditioned_any {F G : Nat → Prop} (V : Nat) (pv lv : Value) (ps : List Part) (lits : List Int) (w : World) (hp : Parts F w pv ps) (hl : Ints G w lv lits) (hV : V ≤ 40) (hsh : shGo V ps) (hlits : LitsOk V lits)
    (hps : ps.length ≤ 16384) (hks : ∀ p ∈ ps, p.kids.length ≤ 16384) :
    Calls Try.prog 35 #[.agg #[.int .i64 V, pv], lv] w (CondPost w (condM ⟨V, ps⟩ lits)) := by
  obtain ⟨pa, pn, pc, rfl, HPN, hpn⟩ : ∃ a n c, pv = .slice a n c ∧ Hid (n = ps.length) ∧ n ≤ 16384 := by
    obtain ⟨a, c, h1, h2⟩ := hp.form
    exact ⟨a, _, c, h1, rfl, hps⟩
  obtain ⟨la, ln, lc, rfl, HLN, hln⟩ := hl.form'
  have hinfo : (Try.prog.info? 3).map (fun i => (i.zero, i.size, i.bytes)) = some (some (.int .i64 0), 1, 8) := by kernel_rfl
  obtain ⟨i0, g1, g2, g3, g4⟩ := info_parts hinfo
  have G1 := Lib.hid g1
  have G2 := Lib.hid g2
  have G3 := Lib.hid g3
  have G4 := Lib.hid g4
  have hinfo3 : (Try.prog.info? 61).map (fun i => (i.zero, i.size, i.bytes)) = some (some (.agg #[.int .i64 0, .int .i64 0, .slice none 0 0]), 3, 40) := by kernel_rfl
  have HI3 := Lib.hid hinfo3
  obtain ⟨M, hM⟩ : ∃ M, fixM V lits = M := ⟨_, rfl⟩
  have hcm : condM ⟨V, ps⟩ lits = ⟨V, ps.map (condPart M)⟩ := by unfold condM; simp [hM]
  have HM : Hid (M = fixGo (lits.drop 0) (List.replicate (V + 1) 0)) := Lib.hid (by rw [← hM]; rfl)
  rw [hcm]
  have HP := Lib.hid hp
  have HL := Lib.hid hl
  have HSH := Lib.hid hsh
  have HLO := Lib.hid hlits
  have HKS := Lib.hid hks
  obtain ⟨B0, HB0⟩ : ∃ B0, Hid (B0 = w.heap.size) := ⟨_, rfl⟩
  clear g1 g2 g3 g4 hinfo hinfo3 hM hcm hp hl hsh hlits hks hps
  go_enter Try.func35, Try.ntmps35
  go_upto_region 2 with (at_make; refine wpList_make_full _ rfl _ _ 35 rfl (w.heap.size + 2) 3 i0 (.int .i64 0) 1 Try.underlying35 G1.out G2.out G3.out .i64 .i64 _ _ (V + 1) rfl rfl (by simp) (by simp) (by rw [G4.out]; omega) (by unfold maxLen; omega) (by simp) ?_; intro w1 hown1 hg1)
  have hsz1 : w.heap.size + 2 < w1.heap.size := by have := hown1.lt (w.heap.size + 1 + 1) (by simp [Value.ownBlock]); omega
  have HO1 : Hid (w1.ownsRow (w.heap.size + 2) 3 1 (.slice (some ⟨w.heap.size + 1 + 1, 0, none⟩) (V + 1) (V + 1)) (V + 1) ((List.replicate (V + 1) (0 : Int)).map (.int .i64))) := Lib.hid (by rw [made_ints] at hown1; simpa using hown1)
  have hbw : Below w.heap.size w w1 := ((((Below.refl w.heap.size w).alloc (Nat.le_refl _) (.cells #[.int .i64 V, .slice pa pn pc] 24)).alloc (by simp) (.cells #[.int .i64 0, .slice none 0 0] 24)).grown hg1 (by simp; omega) (by intro k hk; cases hk))
  have HB1 := Lib.hid hbw
  have d0 : w1.cell? ⟨w.heap.size, 0, none⟩ = some (.int .i64 V) := hg1.cell (by simp) (by simp)
  have d1 : w1.cell? ⟨w.heap.size, 1, none⟩ = some (.slice pa pn pc) := hg1.cell (by simp) (by simp)
  have RB : Hid (w1.heap[w.heap.size + 1]? = some (.cells #[.int .i64 0, .slice none 0 0] 24)) := Lib.hid ((hg1.block _ (by simp) (by simp)).trans (new_at' _ _ (by simp)))
  clear hown1 hg1 hbw
  go_wp2
  go_loopg [20] ln (fun g u20 wx => ∃ (k : Nat) (fx : List Int), k + g = ln ∧ u20 = .int .i64 k ∧ Hid (M = fixGo (lits.drop k) fx) ∧ Hid (∀ f ∈ fx, I64 f) ∧
    wx.ownsRow (w.heap.size + 2) 3 1 (.slice (some ⟨w.heap.size + 1 + 1, 0, none⟩) (V + 1) (V + 1)) (V + 1) (fx.map (.int .i64)) ∧ Hid (Below (w.heap.size + 2) w1 wx))
  case atStart => exact ⟨0, _, by omega, rfl, HM, Lib.hid (by intro f hf; rw [List.eq_of_mem_replicate hf]; simp [I64]), HO1.out, Lib.hid (Below.refl _ _)⟩
  case round =>
  obtain ⟨k, fx, hkg, rfl, hinv, hfx, hown, HBW⟩ := hrel
  have HOW := Lib.hid hown
  clear hown
  have hww := HBW.out.size
  have dr0 := below_c HBW.out (by omega) d0
  have dr1 := below_c HBW.out (by omega) d1
  by_cases hlt : k < ln
  · obtain ⟨l, hy⟩ : ∃ y, lits[k]? = some y := ⟨_, List.getElem?_eq_getElem (by have := HLN.out; omega)⟩
    have hlw := (HL.out.below (HB1.out.trans (HBW.out.mono (by omega))))
    obtain ⟨b, off, rfl, _, hb, hc, hyi⟩ := hlw.at hy
    have e : lits.drop k = l :: lits.drop (k + 1) := by
      obtain ⟨hlt, he⟩ := List.getElem?_eq_some_iff.1 hy
      rw [List.drop_eq_getElem_cons hlt, he]
    have HI : Hid (M = fixGo (lits.drop (k + 1)) (fx.set l.natAbs l)) := Lib.hid (by rw [hinv.out, e]; rfl)
    have hlo := HLO.out l (List.mem_of_getElem? hy)
    obtain ⟨_, _, hcell, hfz, hg1, hg2, hset⟩ := own_at (.int .i64) HOW.out (show l.natAbs < V + 1 by omega)
    have hrow := hset l
    have HRW : Hid ((wr.setCell ⟨w.heap.size + 1 + 1, l.natAbs, none⟩ (.int .i64 l)).ownsRow (w.heap.size + 2) 3 1 (.slice (some ⟨w.heap.size + 1 + 1, 0, none⟩) (V + 1) (V + 1)) (V + 1) ((fx.set l.natAbs l).map (.int .i64))) := Lib.hid hrow
    have HFX : Hid (∀ f ∈ fx.set l.natAbs l, I64 f) := Lib.hid (by
      intro f hf
      rcases List.mem_or_eq_of_mem_set hf with h | h
      · exact hfx.out f h
      · subst h; exact hyi)
    have hlb : l ≤ (V : Int) ∧ -(V : Int) ≤ l := by omega
    clear hset hrow e hy hfx hinv hlw
    obtain ⟨m, hm1, hm⟩ : ∃ m : Nat, 1 ≤ m ∧ (l = m ∨ l = -(m : Int)) := ⟨l.natAbs, by omega, by omega⟩
    have hmV : m < V + 1 := by omega
    have hmV2 : m ≤ 40 := by omega
    obtain ⟨z, hz⟩ : ∃ z, l.natAbs = z := ⟨_, rfl⟩
    have hzm : z = m := by omega
    subst hzm
    rw [hz] at HI HRW HFX hcell hfz
    clear hz hlb hlo hyi
    rcases hm with rfl | rfl
    all_goals
      go_wp2
      go_roundg (gk - 1)
      case measure => omega
      case rel =>
        exact ⟨k + 1, _, by omega, by go_num, HI, HFX, HRW.out, Lib.hid (HBW.out.setCell (by simp) _)⟩
  · have hk : k = ln := by omega
    have HMF : Hid (M = fx) := Lib.hid (by rw [hinv.out, List.drop_eq_nil_of_le (by have := HLN.out; omega)]; rfl)
    subst hk
    have HBR : Hid (Below w.heap.size w wr) := Lib.hid (HB1.out.trans (HBW.out.mono (by omega)))
    have RB1 : Hid (wr.heap[w.heap.size + 1]? = some (.cells #[.int .i64 0, .slice none 0 0] 24)) := Lib.hid ((HBW.out.block _ (by omega)).trans RB.out)
    have hz0 : w.heap.size < wr.heap.size := by omega
    have hz1 : w.heap.size + 1 < wr.heap.size := by omega
    have hz2 : w.heap.size + 1 + 1 < wr.heap.size := by omega
    have FXL : Hid (fx.length = V + 1) := Lib.hid (by have := HOW.out.1; simpa using this)
    rw [HMF.out]
    clear hinv hlt d0 d1 HBW hww hsz1 HB1 RB HO1 HM HLN hkg HL
    go_wp2
    obtain ⟨N, hN⟩ : ∃ N, wr.heap.size = N := ⟨_, rfl⟩
    rw [hN] at hz0 hz1 hz2 ⊢
    have hw2b : Below N wr (wr.alloc (.cells #[.int .i64 V, .slice none 0 0] 24)) := (Below.refl _ _).alloc (by rw [hN]; exact Nat.le_refl _) _
    have HOW2 := Lib.hid (own_below HOW.out (hw2b.mono (by rw [hN]; exact Nat.le_refl _)))
    obtain ⟨W2, hW2⟩ : ∃ W2, wr.alloc (.cells #[.int .i64 V, .slice none 0 0] 24) = W2 := ⟨_, rfl⟩
    have n0 : W2.cell? ⟨N, 0, none⟩ = some (.int .i64 V) := by rw [← hW2, ← hN]; simp
    have n1 : W2.cell? ⟨N, 1, none⟩ = some (.slice none 0 0) := by rw [← hW2, ← hN]; simp
    have nf : W2.frozen? ⟨N, 1, none⟩ = false := by rw [← hW2, ← hN]; simp
    have nz : N < W2.heap.size := by rw [← hW2, ← hN]; simp
    rw [hW2] at hw2b HOW2 ⊢
    have HBR2 : Hid (Below w.heap.size w W2) := Lib.hid (HBR.out.trans (hw2b.mono (by omega)))
    have RB2 : Hid (W2.heap[w.heap.size + 1]? = some (.cells #[.int .i64 0, .slice none 0 0] 24)) := Lib.hid ((hw2b.block _ (by omega)).trans RB1.out)
    have HFR : Hid (Ints (fun b => b < N) W2 (.slice (some ⟨w.heap.size + 1 + 1, 0, none⟩) (V + 1) (V + 1)) fx) := Lib.hid
      ⟨(ownsRow_sl1 HOW2.out (by omega)).mono fun b hb => by have := hb.2; simp [Value.ownBlock] at this; omega, hfx.out⟩
    have e0 := below_c hw2b hz0 dr0
    have e1 := below_c hw2b hz0 dr1
    clear hw2b hW2 HOW RB1 HBR dr0 dr1 hN
    go_loopg [38] pn (fun g u38 wx => ∃ (k : Nat) (pvx : Value), k + g = pn ∧ u38 = .int .i64 k ∧ Hid (PartsOwn wx (N + 1) 61 pvx ((ps.map (condPart fx)).take k)) ∧
      wx.cell? ⟨N, 0, none⟩ = some (.int .i64 V) ∧ wx.cell? ⟨N, 1, none⟩ = some pvx ∧ wx.frozen? ⟨N, 1, none⟩ = false ∧ Hid (Below N W2 wx))
    case atStart => exact ⟨0, _, by omega, rfl, Lib.hid (PartsOwn.nil _ _ _), n0, n1, nf, Lib.hid (Below.refl _ _)⟩
    case round =>
    obtain ⟨k, pvx, hkg, rfl, HPO, c0, c1, cf, HBX⟩ := hrel
    have hsx := HBX.out.size
    have f0 := below_c HBX.out hz0 e0
    have f1 := below_c HBX.out hz0 e1
    clear n0 n1 nf
    by_cases hlt : k < pn
    · obtain ⟨p, hy⟩ : ∃ y, ps[k]? = some y := ⟨_, List.getElem?_eq_getElem (by have := HPN.out; omega)⟩
      have HBY : Hid (Below w.heap.size w wr) := Lib.hid (HBR2.out.trans (HBX.out.mono (by omega)))
      obtain ⟨pb, poff, kv, rfl, _, hpb, k0, k1, k2, hks, i1, i2⟩ := (HP.out.below HBY.out).at hy
      obtain ⟨ka, kn, kc, rfl, HKN, hkl⟩ := hks.form'
      have hsp := shaped_kind (HSH.out p (List.mem_of_getElem? hy))
      have hkl2 : kn ≤ 16384 := by have := HKS.out p (List.mem_of_getElem? hy); have := HKN.out; omega
      have HMV : Hid (∀ w', Below (wr.heap.size + 1) (wr.alloc (.cells #[.int .i64 p.kind, .int .i64 p.lit, .slice ka kn kc] 61)) w' → Ints F w' (.slice ka kn kc) p.kids) := Lib.hid fun w' hb =>
        hks.below (((Below.refl _ _).alloc (Nat.le_refl _) _).trans (hb.mono (by omega)))
      have HKLL : Hid (p.kids.length ≤ 16777216) := Lib.hid (by have := HKN.out; omega)
      go_upto_region 11 with fail
      clear k0 k1 k2 hks
      obtain ⟨N3, hN3⟩ : ∃ N3, wr.heap.size = N3 := ⟨_, rfl⟩
      obtain ⟨W3, hW3⟩ : ∃ W3, wr.alloc (.cells #[.int .i64 p.kind, .int .i64 p.lit, .slice ka kn kc] 61) = W3 := ⟨_, rfl⟩
      have q0 : W3.cell? ⟨N3, 0, none⟩ = some (.int .i64 p.kind) := by rw [← hW3, ← hN3]; simp
      have q1 : W3.cell? ⟨N3, 1, none⟩ = some (.int .i64 p.lit) := by rw [← hW3, ← hN3]; simp
      have q2 : W3.cell? ⟨N3, 2, none⟩ = some (.slice ka kn kc) := by rw [← hW3, ← hN3]; simp
      have qz : N3 < W3.heap.size := by rw [← hW3, ← hN3]; simp
      have qz2 : W3.heap.size ≤ N3 + 1 := by rw [← hW3, ← hN3]; simp
      have qz3 : wr.heap.size ≤ N3 ∧ N3 ≤ wr.heap.size := by omega
      have HB3 : Hid (Below N3 wr W3) := Lib.hid (by rw [← hW3, ← hN3]; exact (Below.refl _ _).alloc (Nat.le_refl _) _)
      rw [hW3, hN3] at HMV
      rw [hW3, hN3]
      clear hW3 hN3
      go_cut [11] (fun u11 wx => ∃ (qb : Nat) (kv2 : Value), u11 = .pointer (some ⟨qb, 0, none⟩) ∧ N3 < qb ∧ wx.cell? ⟨qb, 0, none⟩ = some (.int .i64 p.kind) ∧ wx.cell? ⟨qb, 1, none⟩ = some (.int .i64 p.lit) ∧ wx.cell? ⟨qb, 2, none⟩ = some kv2 ∧
        (wx.frozen? ⟨qb, 0, none⟩ = false ∧ wx.frozen? ⟨qb, 1, none⟩ = false ∧ wx.frozen? ⟨qb, 2, none⟩ = false) ∧ Hid (Ints (fun b => N3 < b ∧ b ≠ qb) wx kv2 p.kids) ∧ Hid (Below (N3 + 1) W3 wx))
      case first =>
        -- fold
        have hS : W3.cell? ⟨N3, 0, none⟩ = some (.int .i64 p.kind) ∧ W3.cell? ⟨N3, 1, none⟩ = some (.int .i64 p.lit) ∧ W3.cell? ⟨N3, 2, none⟩ = some (.slice ka kn kc) ∧ Hid (Below (N3 + 1) W3 W3) := ⟨q0, q1, q2, Lib.hid (Below.refl _ _)⟩
        go_region_held3 (fun w' => w'.cell? ⟨N3, 0, none⟩ = some (.int .i64 p.kind) ∧ w'.cell? ⟨N3, 1, none⟩ = some (.int .i64 p.lit) ∧ w'.cell? ⟨N3, 2, none⟩ = some (.slice ka kn kc) ∧ Hid (Below (N3 + 1) W3 w'))
          ((refine held3 hS ?_; repeat' (first
            | exact Below.refl _ _
            | with_reducible refine Below.drew ?_
            | with_reducible refine Below.setCell ?_ ?_ _
            | with_reducible refine Below.alloc ?_ ?_ _
            | with_reducible refine Below.trans ?_ (hb4.mono ?_)
            | go_size))) (first | (go_at_call 45; refine (clone_any F _ p.kids _ (HMV.out _ (by go_split_ands; assumption)) HKLL.out).mono ?_; rintro e w4 ⟨kv2, rfl, hi4, hb4⟩; obtain ⟨a4, n4, c4, rfl, HN4, _⟩ := hi4.form'; obtain ⟨hc4, hf4⟩ := bcell hb4; have hs4 := hb4.size; try simp only [World.size_alloc, World.size_drew] at hs4))
        · have hi5 := hi4.lt.mono (G := fun b => N3 < b ∧ b ≠ w4.heap.size) fun b hb => by simp at hb; omega
          have hin := hi5.below ((Below.refl w4.heap.size w4).alloc (Nat.le_refl _) (.cells #[.int .i64 p.kind, .int .i64 p.lit, .slice a4 n4 c4] 61))
          have hbb : Below (N3 + 1) W3 (w4.alloc (.cells #[.int .i64 p.kind, .int .i64 p.lit, .slice a4 n4 c4] 61)) := (((Below.refl _ _).drew).trans (hb4.mono (by simp; omega))).alloc (by omega) _
          clear hc4 hf4
          go_wp2_with fail
          go_meet
          exact ⟨w4.heap.size, _, rfl, by omega, by simp, by simp, by simp, ⟨by simp, by simp, by simp⟩, Lib.hid hin, Lib.hid hbb⟩
        · have hi5 := hi4.mono (G := fun b => N3 < b ∧ b ≠ W3.heap.size) fun b hb => by simp at hb; omega
          have hw : W3.heap.size < w4.heap.size := by omega
          have t0 : w4.cell? ⟨W3.heap.size, 0, none⟩ = some (.int .i64 0) := (hc4 _ _ (by simp)).trans (by simp)
          have t1 : w4.cell? ⟨W3.heap.size, 1, none⟩ = some (.int .i64 0) := (hc4 _ _ (by simp)).trans (by simp)
          have t2 : w4.cell? ⟨W3.heap.size, 2, none⟩ = some (.slice none 0 0) := (hc4 _ _ (by simp)).trans (by simp)
          have z0 : w4.frozen? ⟨W3.heap.size, 0, none⟩ = false := (hf4 _ _ (by simp)).trans (by simp)
          have z1 : w4.frozen? ⟨W3.heap.size, 1, none⟩ = false := (hf4 _ _ (by simp)).trans (by simp)
          have z2 : w4.frozen? ⟨W3.heap.size, 2, none⟩ = false := (hf4 _ _ (by simp)).trans (by simp)
          have hbb : Below (N3 + 1) W3 (((w4.setCell ⟨W3.heap.size, 0, none⟩ (.int .i64 p.kind)).setCell ⟨W3.heap.size, 1, none⟩ (.int .i64 p.lit)).setCell ⟨W3.heap.size, 2, none⟩ (.slice a4 n4 c4)) :=
            ((((((Below.refl _ _).drew).alloc (by simp; omega) _).trans (hb4.mono (by simp; omega))).setCell (by show N3 + 1 ≤ W3.heap.size; omega) _).setCell (by show N3 + 1 ≤ W3.heap.size; omega) _).setCell (by show N3 + 1 ≤ W3.heap.size; omega) _
          have hin := hi5.move (w' := ((w4.setCell ⟨W3.heap.size, 0, none⟩ (.int .i64 p.kind)).setCell ⟨W3.heap.size, 1, none⟩ (.int .i64 p.lit)).setCell ⟨W3.heap.size, 2, none⟩ (.slice a4 n4 c4)) (fun b hb _ => by
            rw [Below.heap_setCell _ _ _ _ (by show _ ≠ W3.heap.size; exact hb.2), Below.heap_setCell _ _ _ _ (by show _ ≠ W3.heap.size; exact hb.2), Below.heap_setCell _ _ _ _ (by show _ ≠ W3.heap.size; exact hb.2)])
          clear hc4 hf4
          go_wp2_with fail
          go_meet
          exact ⟨W3.heap.size, _, rfl, by omega, set_ne (by omega) (set_ne (by omega) (set_eq t0)), set_ne (by omega) (set_eq (set_ne (by omega) t1)), set_eq (set_ne (by omega) (set_ne (by omega) t2)),
            ⟨by rw [World.frozen?_setCell, World.frozen?_setCell, World.frozen?_setCell]; exact z0, by rw [World.frozen?_setCell, World.frozen?_setCell, World.frozen?_setCell]; exact z1, by rw [World.frozen?_setCell, World.frozen?_setCell, World.frozen?_setCell]; exact z2⟩, Lib.hid hin, Lib.hid hbb⟩
        -- unfold
      case rest =>
      obtain ⟨qb, kv2, rfl, hqb, t0, t1, t2, ⟨z0, z1, z2⟩, HQ, HBC⟩ := hcut
      obtain ⟨qa, qn, qc, rfl, HQN, _⟩ := HQ.out.form'
      have p0 := below_c HBC.out (by omega) q0
      have p1 := below_c HBC.out (by omega) q1
      have p2 := below_c HBC.out (by omega) q2
      have HBWC : Hid (Below N3 wr wc) := Lib.hid (HB3.out.trans (HBC.out.mono (by omega)))
      have HBN : Hid (Below N W2 wc) := Lib.hid (HBX.out.trans (HBWC.out.mono (by omega)))
      have HPO2 := Lib.hid (HPO.out.below (HBWC.out.mono (by omega)))
      have HFR2 : Hid (Ints (fun b => b < N) wc (.slice (some ⟨w.heap.size + 1 + 1, 0, none⟩) (V + 1) (V + 1)) fx) := Lib.hid (HFR.out.move fun b hb _ => HBN.out.block b hb)
      have s0 := below_c HBWC.out (by omega) c0
      have s1 := below_c HBWC.out (by omega) c1
      have sf := below_z HBWC.out (by omega) cf
      have HKC : Hid (Ints F wc (.slice ka kn kc) p.kids) := Lib.hid (HMV.out wc HBC.out)
      clear HMV q0 q1 q2
      go_upto_if 52 with fail
      go_cut [12] (fun u12 wx => u12 = .int .i64 (fixOf fx p.lit) ∧ wx = wc)
      case first =>
        -- fold
        by_cases hl0 : p.lit = 0
        · have hz : (p.lit != 0) = false := by simp [hl0]
          have hf : fixOf fx p.lit = 0 := by unfold fixOf; rw [if_pos hl0]
          have HF := Lib.hid hf
          clear hl0 hf
          go_wp2
          go_meet
          exact ⟨by rw [HF.out], rfl⟩
        · have hz : (p.lit != 0) = true := by simp [hl0]
          have hlb : p.lit ≤ (V : Int) ∧ -(V : Int) ≤ p.lit := by omega
          obtain ⟨m, hm1, hm⟩ : ∃ m : Nat, 1 ≤ m ∧ (p.lit = m ∨ p.lit = -(m : Int)) := ⟨p.lit.natAbs, by omega, by omega⟩
          have hmV : m < V + 1 := by omega
          have hna : p.lit.natAbs = m := by omega
          obtain ⟨f, hf⟩ : ∃ f, fx[m]? = some f := ⟨_, List.getElem?_eq_getElem (by have := FXL.out; omega)⟩
          have HF : Hid (fixOf fx p.lit = f) := Lib.hid (by unfold fixOf; rw [if_neg hl0, hna]; simp [List.getD, hf])
          obtain ⟨_, _, he, _, hfb, hfc, hfi⟩ := HFR2.out.at hf
          injection he with he
          injection he with e1 e2
          subst e1 e2
          rw [Nat.zero_add] at hfc
          clear hl0 hna hf hlb
          generalize fixOf fx p.lit = FO at *
          rcases hm with hm | hm
          all_goals
            have HL := Lib.hid hm
            rw [hm] at p1
            clear hm
            go_wp2
            go_meet
            exact ⟨by rw [HF.out], rfl⟩
        -- unfold
      case rest =>
      obtain ⟨rfl, rfl⟩ := hcut
      have HCP : Hid (∃ q, q = condPart fx p) := Lib.hid ⟨_, rfl⟩
      go_upto_block 4 with fail
      go_cut [] (fun wx => ∃ cv : Value, wx.cell? ⟨qb, 0, none⟩ = some (.int .i64 (condPart fx p).kind) ∧ wx.cell? ⟨qb, 1, none⟩ = some (.int .i64 (condPart fx p).lit) ∧ wx.cell? ⟨qb, 2, none⟩ = some cv ∧
        Hid (Ints (fun b => N3 < b ∧ b ≠ qb) wx cv (condPart fx p).kids) ∧ Hid (Below (N3 + 1) W3 wx) ∧ Hid (I64 (condPart fx p).kind ∧ I64 (condPart fx p).lit))
      case first =>
        -- fold
        have hk4 : p.kind ≤ 4 ∧ 0 ≤ p.kind := by omega
        have HSP := Lib.hid hsp
        clear hsp
        by_cases hf0 : fixOf fx p.lit = 0
        · have HE : Hid (condPart fx p = p) := Lib.hid (by unfold condPart; rw [if_pos hf0])
          have hz : (fixOf fx p.lit == 0) = true := by simp [hf0]
          clear hf0
          go_wp2
          go_meet
          rw [HE.out]
          exact ⟨_, t0, t1, t2, HQ, HBC, Lib.hid ⟨i1, i2⟩⟩
        have hz : (fixOf fx p.lit == 0) = false := by simp [hf0]
        by_cases hk2 : p.kind = 2
        · have HE : Hid (condPart fx p = ⟨if fixOf fx p.lit = p.lit then 0 else 1, 0, []⟩) := Lib.hid (by unfold condPart; rw [if_neg hf0, if_pos hk2])
          have hz2 : (p.kind == 2) = true := by simp [hk2]
          clear hf0 hk2
          have hne0 : ∀ (j : Nat) (x y z : Value), (((wc.setCell ⟨qb, 0, none⟩ x).setCell ⟨qb, 1, none⟩ y).setCell ⟨qb, 2, none⟩ z).cell? ⟨qb, 0, none⟩ = some x ∧ (((wc.setCell ⟨qb, 0, none⟩ x).setCell ⟨qb, 1, none⟩ y).setCell ⟨qb, 2, none⟩ z).cell? ⟨qb, 1, none⟩ = some y ∧
              (((wc.setCell ⟨qb, 0, none⟩ x).setCell ⟨qb, 1, none⟩ y).setCell ⟨qb, 2, none⟩ z).cell? ⟨qb, 2, none⟩ = some z ∧ Below (N3 + 1) wc (((wc.setCell ⟨qb, 0, none⟩ x).setCell ⟨qb, 1, none⟩ y).setCell ⟨qb, 2, none⟩ z) := fun _ x y z =>
            ⟨set_ne (by omega) (set_ne (by omega) (set_eq t0)), set_ne (by omega) (set_eq (set_ne (by omega) t1)), set_eq (set_ne (by omega) (set_ne (by omega) t2)),
              (((Below.refl _ _).setCell (by show N3 + 1 ≤ qb; omega) _).setCell (by show N3 + 1 ≤ qb; omega) _).setCell (by show N3 + 1 ≤ qb; omega) _⟩
          have HNE := Lib.hid hne0
          clear hne0
          by_cases hfl : fixOf fx p.lit = p.lit
          · have HE2 : Hid (condPart fx p = ⟨0, 0, []⟩) := Lib.hid (by rw [HE.out, if_pos hfl])
            have hz3 : (fixOf fx p.lit == p.lit) = true := by simp [hfl]
            clear hfl HE
            go_wp2
            go_meet
            rw [HE2.out]
            obtain ⟨b0, b1, b2, bb⟩ := HNE.out 0 (.int .i64 1) (.int .i64 0) (.slice none 0 0)
            exact ⟨_, set_eq b0, set_ne (by omega) b1, set_ne (by omega) b2, Lib.hid (Ints.nil _ _), Lib.hid (HBC.out.trans (bb.setCell (by show N3 + 1 ≤ qb; omega) _)), Lib.hid (by simp [I64])⟩
          · have HE2 : Hid (condPart fx p = ⟨1, 0, []⟩) := Lib.hid (by rw [HE.out, if_neg hfl])
            have hz3 : (fixOf fx p.lit == p.lit) = false := by simp [hfl]
            clear hfl HE
            go_wp2
            go_meet
            rw [HE2.out]
            obtain ⟨b0, b1, b2, bb⟩ := HNE.out 0 (.int .i64 1) (.int .i64 0) (.slice none 0 0)
            exact ⟨_, b0, b1, b2, Lib.hid (Ints.nil _ _), Lib.hid (HBC.out.trans bb), Lib.hid (by simp [I64])⟩
        · have HE : Hid (condPart fx p = ⟨3, 0, [if 0 < fixOf fx p.lit then p.kids.getD 1 0 else p.kids.getD 0 0]⟩) := Lib.hid (by unfold condPart; rw [if_neg hf0, if_neg hk2])
          have hz2 : (p.kind == 2) = false := by simp [hk2]
          have hk44 : p.kind = 4 := by
            have hl0 : p.lit ≠ 0 := fun e => hf0 (by unfold fixOf; rw [if_pos e])
            have := HSP.out.2.2.2.1
            omega
          obtain ⟨x0, x1, hkk⟩ : ∃ x0 x1, p.kids = [x0, x1] := by
            have := (HSP.out.2.2.2.2.1 hk44).1
            match hks : p.kids, this with
            | [x, y], _ => exact ⟨x, y, rfl⟩
          have hkc := HKC.out
          have hkn2 : kn = 2 := by have := HKN.out; rw [hkk] at this; simpa using this
          rw [hkk] at hkc HE
          obtain ⟨kb, koff, rfl, _, hkb, hkc0, hki0⟩ := hkc.at (k := 0) (x := x0) rfl
          obtain ⟨_, _, he, _, _, hkc1, hki1⟩ := hkc.at (k := 1) (x := x1) rfl
          injection he with he
          injection he with e1 e2
          subst e1 e2 hkn2
          rw [Nat.add_zero] at hkc0
          clear hf0 hk2 hk44 hkk hkc
          have hqs := block_lt t0
          have hcl : ∀ (x : Int), I64 x → ∀ (y0 y1 : Value) (Z : World), Z = ((wc.setCell ⟨qb, 0, none⟩ y0).setCell ⟨qb, 1, none⟩ y1).setCell ⟨qb, 2, none⟩ (.slice (some ⟨wc.heap.size, 0, none⟩) 1 1) →
              (Z.alloc (.cells #[.int .i64 x] 3)).cell? ⟨qb, 0, none⟩ = some y0 ∧ (Z.alloc (.cells #[.int .i64 x] 3)).cell? ⟨qb, 1, none⟩ = some y1 ∧
              (Z.alloc (.cells #[.int .i64 x] 3)).cell? ⟨qb, 2, none⟩ = some (.slice (some ⟨wc.heap.size, 0, none⟩) 1 1) ∧ Below (N3 + 1) wc (Z.alloc (.cells #[.int .i64 x] 3)) ∧
              Ints (fun b => N3 < b ∧ b ≠ qb) (Z.alloc (.cells #[.int .i64 x] 3)) (.slice (some ⟨wc.heap.size, 0, none⟩) 1 1) [x] := by
            intro x hx y0 y1 Z hZ
            have hzs : Z.heap.size = wc.heap.size := by rw [hZ]; simp
            have b0 : Z.cell? ⟨qb, 0, none⟩ = some y0 := by rw [hZ]; exact set_ne (by omega) (set_ne (by omega) (set_eq t0))
            have b1 : Z.cell? ⟨qb, 1, none⟩ = some y1 := by rw [hZ]; exact set_ne (by omega) (set_eq (set_ne (by omega) t1))
            have b2 : Z.cell? ⟨qb, 2, none⟩ = some (.slice (some ⟨wc.heap.size, 0, none⟩) 1 1) := by rw [hZ]; exact set_eq (set_ne (by omega) (set_ne (by omega) t2))
            have bb : Below (N3 + 1) wc Z := by rw [hZ]; exact (((Below.refl _ _).setCell (by show N3 + 1 ≤ qb; omega) _).setCell (by show N3 + 1 ≤ qb; omega) _).setCell (by show N3 + 1 ≤ qb; omega) _
            refine ⟨cell_alloc _ b0, cell_alloc _ b1, cell_alloc _ b2, bb.alloc (by omega) _, ?_⟩
            exact (ints_block [x] 1 (w := Z.alloc (.cells #[.int .i64 x] 3)) (b := wc.heap.size) (arr := #[.int .i64 x]) (T := 3) (fr := (0, 0)) (new_at' _ _ hzs.symm) (by simp) rfl (by simpa using hx)).mono fun b hb => by subst hb; omega
          have HCL := Lib.hid hcl
          clear hcl
          by_cases hpos : 0 < fixOf fx p.lit
          · have HE2 : Hid (condPart fx p = ⟨3, 0, [x1]⟩) := Lib.hid (by rw [HE.out, if_pos hpos]; rfl)
            clear HE
            go_upto_region 18 with fail
            have u0 := cell_alloc (.cells #[.int .i64 x1] 3) t0
            have u1 := cell_alloc (.cells #[.int .i64 x1] 3) t1
            have u2 := cell_alloc (.cells #[.int .i64 x1] 3) t2
            clear i1 i2 hk4 hkc0 hkc1 p0 p1 p2 s0 s1 sf e0 e1 f0 f1 c0 c1 cf hz hz2 hpos
            go_wp2_with fail
            go_meet
            rw [HE2.out]
            obtain ⟨b0, b1, b2, b3, b4⟩ := HCL.out x1 hki1 (.int .i64 3) (.int .i64 0) _ rfl
            exact ⟨_, b0, b1, b2, Lib.hid b4, Lib.hid (HBC.out.trans b3), Lib.hid (by simp [I64])⟩
          · have HE2 : Hid (condPart fx p = ⟨3, 0, [x0]⟩) := Lib.hid (by rw [HE.out, if_neg hpos]; rfl)
            clear HE
            go_upto_region 18 with fail
            have u0 := cell_alloc (.cells #[.int .i64 x0] 3) t0
            have u1 := cell_alloc (.cells #[.int .i64 x0] 3) t1
            have u2 := cell_alloc (.cells #[.int .i64 x0] 3) t2
            clear i1 i2 hk4 hkc0 hkc1 p0 p1 p2 s0 s1 sf e0 e1 f0 f1 c0 c1 cf hz hz2 hpos
            go_wp2_with fail
            go_meet
            rw [HE2.out]
            obtain ⟨b0, b1, b2, b3, b4⟩ := HCL.out x0 hki0 (.int .i64 3) (.int .i64 0) _ rfl
            exact ⟨_, b0, b1, b2, Lib.hid b4, Lib.hid (HBC.out.trans b3), Lib.hid (by simp [I64])⟩
        -- unfold
      case rest =>
      obtain ⟨cv, v0, v1, v2, HV, HBV, HII⟩ := hcut
      obtain ⟨ca, cn, cc, rfl, HCN, _⟩ := HV.out.form'
      have HBW2 : Hid (Below N3 wr wc) := Lib.hid (HB3.out.trans (HBV.out.mono (by omega)))
      have HPO3 : Hid (PartsOwn wc (N + 1) 61 pvx ((ps.map (condPart fx)).take k)) := Lib.hid (HPO.out.below (HBW2.out.mono (by omega)))
      have r0 := below_c HBW2.out (by omega) c0
      have r1 := below_c HBW2.out (by omega) c1
      have rf := below_z HBW2.out (by omega) cf
      have hlk : ((ps.map (condPart fx)).take k).length = k := by simp; have := HPN.out; omega
      have HTK : Hid ((ps.map (condPart fx)).take (k + 1) = (ps.map (condPart fx)).take k ++ [condPart fx p]) := Lib.hid (by
        obtain ⟨h1, h2⟩ := List.getElem?_eq_some_iff.1 hy
        rw [List.take_succ_eq_append_getElem (by simpa using h1), List.getElem_map, h2])
      have HLK := Lib.hid hlk
      have hkk : k ≤ 16384 := by omega
      obtain ⟨us, hown, hul, hel⟩ := HPO3.out
      rw [hlk] at hown
      have hVs : N3 + 1 ≤ wc.heap.size := by have := HBV.out.size; omega
      have HEL := Lib.hid hel
      have HUL := Lib.hid hul
      obtain ⟨i5, i6⟩ := HII.out
      generalize condPart fx p = q at *
      clear hel hul hlk i1 i2 s0 s1 sf t0 t1 t2 z0 z1 z2 p0 p1 p2 c0 c1 cf hsp hy hkl hkl2 HSH
      go_wp2_with (at_builtin; go_loud (refine wpList_push3 rfl _ _ 22 rfl 61 (.agg #[.int .i64 0, .int .i64 0, .slice none 0 0]) 40 Try.underlying22 HI3.out rfl (N + 1) pvx k _ wc _ _ _ rfl rfl hown rfl rfl rfl (by omega) (by omega) (by omega) ?_); intro g3 cap3 w3 hown3 hg3 hs3 hgb hgl hat; have HB9 := Lib.hid ((Below.refl (N + 1) wc).grown hg3 (by omega) (fun k hk => (hown.lt k hk).1)); have HG3 := Lib.hid hg3; have HO3 := Lib.hid hown3; have y0 := below_c HB9.out (Nat.lt_succ_self N) r0; have y1 := below_c HB9.out (Nat.lt_succ_self N) r1; have yf := below_z HB9.out (Nat.lt_succ_self N) rf; clear hown3 hg3 hown)
      have HPP := PartsOwn.push (p := q) HUL.out HEL.out (HV.out.mono (G := fun b => N + 1 ≤ b ∧ pvx.ownBlock ≠ some b) fun b hb => by
        refine ⟨by omega, fun e => ?_⟩
        have := (HPO.out.lt b e).2
        omega) i5 i6 (by rw [HLK.out]; exact HO3.out) HG3.out hat
      rw [HLK.out, ← HTK.out] at HPP
      go_roundg (gk - 1)
      case measure => omega
      case rel =>
        refine ⟨k + 1, _, by omega, by go_num, Lib.hid (HPP.move fun b hb hlt => Below.heap_setCell _ _ _ _ (by show b ≠ N; omega)), set_ne (by omega) y0, set_eq y1, by rw [World.frozen?_setCell]; exact yf, Lib.hid (((HBX.out.trans (HBW2.out.mono (by omega))).trans (HB9.out.mono (by omega))).setCell (by show N ≤ N; omega) _)⟩
    · have hkn : k = pn := by omega
      have hpl : (ps.map (condPart fx)).length = k := by simp; have := HPN.out; omega
      have HPF := HPO.out.parts (by simp; omega)
      rw [List.take_of_length_le (by omega)] at HPF
      have HPF2 := Lib.hid HPF
      obtain ⟨xa, xn, xc, hpx⟩ : ∃ a n c, pvx = .slice a n c := by
        obtain ⟨a, c, h, _⟩ := HPF.form
        exact ⟨a, _, c, h⟩
      subst hpx
      subst hkn
      have hrb := (HBX.out.block _ hz1).trans RB2.out
      have g0 : wr.cell? ⟨w.heap.size + 1, 0, none⟩ = some (.int .i64 0) := by rw [cell_of_row _ _ _ _ _ _ hrb]; rfl
      have g1 : wr.cell? ⟨w.heap.size + 1, 1, none⟩ = some (.slice none 0 0) := by rw [cell_of_row _ _ _ _ _ _ hrb]; rfl
      have k0 : wr.frozen? ⟨w.heap.size + 1, 0, none⟩ = false := by simp [World.frozen?, hrb]
      have k1 : wr.frozen? ⟨w.heap.size + 1, 1, none⟩ = false := by simp [World.frozen?, hrb]
      have v0 := set_ne (b := w.heap.size + 1) (b' := w.heap.size + 1) (o := 0) (o' := 1) (u := (.slice xa xn xc)) (by omega) (set_eq (u := .int .i64 (V : Int)) g0)
      have v1 := set_eq (u := (.slice xa xn xc)) (set_ne (o' := 0) (b' := w.heap.size + 1) (u := .int .i64 (V : Int)) (by omega) g1)
      have HBF : Hid (Below w.heap.size w wr) := Lib.hid (HBR2.out.trans (HBX.out.mono (by omega)))
      clear hlt HPF hpl hrb
      go_wp2
      refine bodyPost_ret (v := .agg #[.int .i64 V, (.slice xa xn xc)]) (by simp [results, Try.results35, go_sem, v0, v1]) rfl ?_
      have hbb : Below w.heap.size w ((wr.setCell ⟨w.heap.size + 1, 0, none⟩ (.int .i64 V)).setCell ⟨w.heap.size + 1, 1, none⟩ (.slice xa xn xc)) := (HBF.out.setCell (by simp) _).setCell (by simp) _
      have hpp : Parts (fun b => w.heap.size ≤ b) ((wr.setCell ⟨w.heap.size + 1, 0, none⟩ (.int .i64 V)).setCell ⟨w.heap.size + 1, 1, none⟩ (.slice xa xn xc)) (.slice xa xn xc) (ps.map (condPart fx)) :=
        (HPF2.out.move fun b hb _ => by rw [Below.heap_setCell _ _ _ _ (by show b ≠ w.heap.size + 1; omega), Below.heap_setCell _ _ _ _ (by show b ≠ w.heap.size + 1; omega)]).mono fun b hb => by omega
      rw [HMF.out]
      exact ⟨(.slice xa xn xc), rfl, hpp, hbb⟩
end Go.Proofs.Ytljljagkccmogaa
