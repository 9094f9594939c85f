/- Walk: the statement's core. -/
import Derived.Test.YtjbhglmmakkkgaaSB3
import Derived.Test.YtjbhglmmakkkgaaSB2
namespace Go.Proofs.Ytjbhglmmakkkgaa
open Go.ChangeShapes Go.WideShapes Go.ChangeAt Go.RowKit
set_option linter.unusedVariables false

set_option maxRecDepth 100000 in
set_option maxHeartbeats 8000000 in
theorem core_any {F : Nat → Prop} (V : Nat) (keep : Int) (cv : Value) (cs : List (List Int)) (w : World) (hc : Clss F w cv cs) (hlo : LitsOk V cs) (hV : V ≤ 24) (hn1 : cs.length ≤ 1000) :
    Calls Try.prog 29 #[.agg #[.int .i64 (V : Int), .int .i64 keep, cv]] w (IntsP w (scoreM V cs)) := by
  obtain ⟨a, n, c, rfl, HN, hn⟩ := hc.form'
  have hb : Below w.heap.size w (w.alloc (.cells #[.int .i64 (V : Int), .int .i64 keep, .slice a n c] 24)) := (Below.refl _ _).alloc (Nat.le_refl _) _
  have hinfo : (Try.prog.info? 3).map (fun i => (i.zero, i.size, i.bytes)) = some (some (.int .i64 0), 1, 8) := by kernel_rfl
  have hinfo3 : (Try.prog.info? 4).map (fun i => (i.zero, i.size, i.bytes)) = some (some (.bool false), 1, 1) := by kernel_rfl
  obtain ⟨i0, g1, g2, g3, g4⟩ := info_parts hinfo3
  have G1 := Lib.hid g1
  have G2 := Lib.hid g2
  have G3 := Lib.hid g3
  have G4 := Lib.hid g4
  have HI := Lib.hid hinfo
  have HB := Lib.hid hb
  have HX := Lib.hid (hc.below hb)
  have hn2 : n ≤ 1000 := by rw [HN.out]; exact hn1
  obtain ⟨R, hR⟩ : ∃ R, scoreM V cs = R := ⟨_, rfl⟩
  rw [hR]
  have HR : Hid (R = [] ++ coreGo V cs n 0 (List.replicate n true)) := Lib.hid (by rw [← hR, scoreM, ← HN.out]; rfl)
  have HLO := Lib.hid hlo
  clear hR hb hc hlo hinfo hinfo3 g1 g2 g3 g4
  go_enter Try.func29, Try.ntmps29
  have c0 : (w.alloc (.cells #[.int .i64 (V : Int), .int .i64 keep, .slice a n c] 24)).cell? ⟨w.heap.size, 0, none⟩ = some (.int .i64 V) := by simp
  have c1 : (w.alloc (.cells #[.int .i64 (V : Int), .int .i64 keep, .slice a n c] 24)).cell? ⟨w.heap.size, 1, none⟩ = some (.int .i64 keep) := by simp
  have c2 : (w.alloc (.cells #[.int .i64 (V : Int), .int .i64 keep, .slice a n c] 24)).cell? ⟨w.heap.size, 2, none⟩ = some (.slice a n c) := by simp
  go_upto_region 1 with fail
  generalize w.alloc (.cells #[.int .i64 (V : Int), .int .i64 keep, .slice a n c] 24) = w0 at *
  have hs0 := block_lt c0
  have hsw := HB.out.size
  go_upto_region 2 with (at_make; refine wpList_make_full _ rfl _ _ 37 rfl w0.heap.size 4 i0 (.bool false) 1 (by kernel_rfl) G1.out G2.out G3.out .i64 .i64 _ _ n rfl rfl (by simp) (by simp) (by rw [G4.out]; omega) (by unfold maxLen; omega) (by simp) ?_; intro w5 hown5 hg5; have HB5 := Lib.hid ((Below.refl _ _).grown hg5 (Nat.le_refl _) (by intro k hk; cases hk)); have HO5 := Lib.hid hown5; clear hown5 hg5)
  have hown6 := HO5.out
  rw [made_bools] at hown6
  clear HO5
  go_wp2
  go_loopg [13] n (fun gg u13 wx => ∃ (i : Nat) (xs : List Bool), i + gg = n ∧ u13 = .int .i64 i ∧ wx.ownsRow w0.heap.size 4 1 (.slice (some ⟨w0.heap.size, 0, none⟩) n n) n (xs.map .bool) ∧ Hid (Below w0.heap.size w0 wx) ∧ Hid (xs.take i = List.replicate i true))
  case atStart => exact ⟨0, _, by omega, rfl, hown6, HB5, Lib.hid (by simp)⟩
  case round =>
  clear hown6 HB5
  obtain ⟨i, xs, hig, rfl, hown, HBX, HXS⟩ := hrel
  have hxl : xs.length = n := by simpa using hown.1
  by_cases hi : i < n
  case pos =>
    obtain ⟨x1, hx1, hc1, hz1, _, hlt1, hset⟩ := own_at .bool hown hi
    have HOW2 := Lib.hid (hset true)
    have HX2 : Hid ((xs.set i true).take (i + 1) = List.replicate (i + 1) true) := Lib.hid (by
      rw [List.take_succ_eq_append_getElem (by simp; omega), List.take_set_of_le (Nat.le_refl _), HXS.out, List.replicate_succ']
      simp)
    have HB2 := Lib.hid (HBX.out.setCell (p := ⟨w0.heap.size, i, none⟩) (Nat.le_refl _) (.bool true))
    clear hset hown hx1 HXS
    go_wp2
    go_roundg (gk - 1)
    case measure => omega
    case rel => exact ⟨i + 1, _, by omega, by go_num, HOW2.out, HB2, HX2⟩
  have hxr : xs = List.replicate n true := by
    have := HXS.out
    rw [List.take_of_length_le (by omega)] at this
    rw [this, show i = n by omega]
  have hdi : decide (i < n) = false := decide_eq_false hi
  subst hxr
  have HOW := Lib.hid hown
  have hblk : w0.heap.size < wr.heap.size := (hown.lt _ rfl).2
  have hsz := HBX.out.size
  have hb5 : Below wr.heap.size wr (wr.alloc (.cells #[] 3)) := (Below.refl _ _).alloc (Nat.le_refl _) _
  have HO5 : Hid (OwnI (wr.alloc (.cells #[] 3)) (w0.heap.size + 1) (.slice (some ⟨wr.heap.size, 0, none⟩) 0 0) []) := Lib.hid (by simpa [OwnI] using own_new (base := w0.heap.size + 1) (w := wr) #[] 3 (by omega) (by simp))
  have HOK5 := Lib.hid (own_below hown hb5)
  have HB5 : Hid (Below w0.heap.size w0 (wr.alloc (.cells #[] 3))) := Lib.hid (HBX.out.trans (hb5.mono hsz))
  clear hi HXS hown hb5 HOW
  go_wp2
  go_loopg [5, 23] n (fun gg u5 u23 wx => ∃ (k : Nat) (acc : List Int) (ks : List Bool), k + gg = n ∧ u23 = .int .i64 k ∧ Hid (OwnI wx (w0.heap.size + 1) u5 acc) ∧ Hid (wx.ownsRow w0.heap.size 4 1 (.slice (some ⟨w0.heap.size, 0, none⟩) n n) n (ks.map .bool)) ∧ Hid (Below w0.heap.size w0 wx) ∧ acc.length ≤ k ∧ Hid (∀ x ∈ acc, I64 x) ∧ Hid (R = acc ++ coreGo V cs gg k ks))
  case atStart => exact ⟨0, [], _, by omega, rfl, HO5, HOK5, HB5, by simp, Lib.hid (by simp), HR⟩
  case round =>
  clear HO5 HOK5 HB5 HR hblk hsz
  obtain ⟨k, acc, ks, hkg, rfl, HOI, HOK, HBY, hal, HAX, HRZ⟩ := hrel
  have hsy := HBY.out.size
  obtain ⟨ua, uc, rfl⟩ : ∃ a c, u5 = .slice a acc.length c := own_form HOI.out
  have hkl : ks.length = n := by simpa using HOK.out.1
  by_cases hk : k < n
  case neg =>
    have HRA : Hid (R = acc) := Lib.hid (by rw [HRZ.out, show gk = 0 by omega, coreGo, List.append_nil])
    have hk2 : n ≤ k := by omega
    clear hk HRZ
    go_wp2
    go_ret
    exact ⟨_, rfl, by rw [HRA.out]; exact (HOI.out.ints (by omega) HAX.out).mono fun _ _ => trivial, HB.out.trans (HBY.out.mono hsw)⟩
  obtain ⟨f, rfl⟩ : ∃ f, gk = f + 1 := ⟨gk - 1, by omega⟩
  obtain ⟨x1, hx1, hc1, hz1, _, hlt1, hset⟩ := own_at .bool HOK.out hk
  have hw3 := hset false
  have HOI3 := Lib.hid (own_set (p := ⟨w0.heap.size, k, none⟩) HOI.out (fun e => by have := (HOI.out.lt _ e).1; simp at this; omega) (.bool false))
  have HB3 := Lib.hid (HBY.out.setCell (p := ⟨w0.heap.size, k, none⟩) (Nat.le_refl _) (.bool false))
  have HOK3 := Lib.hid hw3
  have HRY : Hid (R = acc ++ (if 0 ≤ leastM V cs (ks.set k false) then (k : Int) :: coreGo V cs f (k + 1) ((ks.set k false).set k true) else coreGo V cs f (k + 1) (ks.set k false))) := Lib.hid (by rw [HRZ.out, coreGo])
  clear hx1 hset hw3 HRZ HOK
  go_upto_region 12 with fail
  generalize wr.setCell ⟨w0.heap.size, k, none⟩ (.bool false) = w3 at *
  have f0 := below_c HB3.out hs0 c0
  have f1 := below_c HB3.out hs0 c1
  have f2 := below_c HB3.out hs0 c2
  have hs3 := HB3.out.size
  obtain ⟨KS, hKS⟩ : ∃ x, ks.set k false = x := ⟨_, rfl⟩
  rw [hKS] at HOK3 HRY
  have hKl : KS.length = n := by rw [← hKS]; simpa using hkl
  have hfl : Flags (fun _ => True) w3 (.slice (some ⟨w0.heap.size, 0, none⟩) n n) KS cs.length := by
    refine ⟨by rw [hKl]; exact HN.out, .inr ⟨_, _, by rw [← HN.out], ?_⟩⟩
    exact (ownsRow_sl1 HOK3.out (by omega)).mono fun _ _ => trivial
  have hle := least_any V keep (.slice a n c) _ cs KS w3 (HX.out.below HB3.out) hfl HLO.out hV
  obtain ⟨LE, hLE⟩ : ∃ l, leastM V cs KS = l := ⟨_, rfl⟩
  rw [hLE] at hle HRY
  have HLE := Lib.hid hle
  clear hKS hfl hle hLE c1
  go_wp2_with fail
  refine HLE.out.mono ?_
  rintro e w4 ⟨rfl, hb4⟩
  have HB4 : Hid (Below w0.heap.size w0 w4) := Lib.hid (HB3.out.trans (hb4.mono hs3))
  have HOI4 : Hid (OwnI w4 (w0.heap.size + 1) (.slice ua acc.length uc) acc) := Lib.hid (own_below HOI3.out hb4)
  have hok4 := own_below HOK3.out hb4
  have hs4 := HB4.out.size
  clear hb4 HLE
  have hlt4 : w0.heap.size < w4.heap.size := (hok4.lt _ rfl).2
  by_cases hL : 0 ≤ LE
  case neg =>
    have hd : decide (0 ≤ LE) = false := decide_eq_false hL
    have HRN : Hid (R = acc ++ coreGo V cs f (k + 1) KS) := Lib.hid (by rw [HRY.out, if_neg hL])
    have HOK4 := Lib.hid hok4
    clear hL HRY hok4
    go_wp2
    go_roundg f
    case measure => omega
    case rel => exact ⟨k + 1, acc, KS, by omega, by go_num, HOI4, HOK4, HB4, by omega, HAX, HRN⟩
  have hd : decide (0 ≤ LE) = true := decide_eq_true hL
  have HRN : Hid (R = (acc ++ [(k : Int)]) ++ coreGo V cs f (k + 1) (KS.set k true)) := Lib.hid (by rw [HRY.out, if_pos hL, List.append_assoc]; rfl)
  obtain ⟨x2, hx2, hc2, hz2, _, hlt2, hset2⟩ := own_at .bool hok4 hk
  have HOK5 := Lib.hid (hset2 true)
  have hown := own_set (p := ⟨w0.heap.size, k, none⟩) HOI4.out (fun e => by have := (HOI4.out.lt _ e).1; simp at this; omega) (.bool true)
  have HB5 := Lib.hid (HB4.out.setCell (p := ⟨w0.heap.size, k, none⟩) (Nat.le_refl _) (.bool true))
  clear hL HRY hset2 hx2 hok4
  go_upto_region 14 with fail
  generalize w4.setCell ⟨w0.heap.size, k, none⟩ (.bool true) = w5 at *
  have hlt5 : w0.heap.size < w5.heap.size := (HOK5.out.lt _ rfl).2
  have hne : (Value.slice ua acc.length uc).ownBlock ≠ some w0.heap.size := fun e => by have := (hown.lt _ e).1; omega
  have HNE := Lib.hid hne
  clear hne
  go_wp2_with (at_builtin; go_loud (refine wpList_push1 rfl _ _ 25 rfl 3 (.int .i64 0) 8 Try.underlying25 HI.out rfl (w0.heap.size + 1) (.slice ua acc.length uc) acc.length _ _ (.int .i64 (k : Int)) rfl rfl hown rfl (by omega) (by omega) (by omega) ?_); intro g5 cap5 w6 hown5 hg5 hs5 hgb hgl hat; have HB6 := Lib.hid (HB5.out.grown hg5 (by omega) (fun k hk => by have := (hown.lt k hk).1; omega)); have HO6 := Lib.hid (OwnI.snoc rfl hown5); have HOK6 := Lib.hid (HOK5.out.kept hg5 (.inr (fun e => HNE.out e.symm))); clear hown5 hg5 hown)
  go_roundg f
  case measure => omega
  case rel =>
    refine ⟨k + 1, acc ++ [(k : Int)], KS.set k true, by omega, by go_num, HO6, HOK6, HB6, by simp; omega, Lib.hid (fun x hx => ?_), HRN⟩
    rcases List.mem_append.1 hx with hx | hx
    · exact HAX.out x hx
    · simp at hx; subst hx; unfold I64; omega
end Go.Proofs.Ytjbhglmmakkkgaa
