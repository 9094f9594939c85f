/- Walks of layer 33: count. -/
import Derived.Test.YteadlkecngfcoaaGreatDoorDw3
import Derived.Test.YteadlkecngfcoaaGreatDoorDb
import Derived.BigQuiet
import Derived.Deep.QuietTactic
import Derived.WalkSmall
import Derived.Deep.CutBlock
namespace Go.Proofs.YteadlkecngfcoaaGreatDoor
open Go.ChangeShapes Go.WideShapes Go.ChangeAt Go.RowKit
set_option linter.unusedVariables false

def mulGo (cs : List Nat) : List Int → Nat → Nat
  | [], n => n
  | k :: r, n => mulGo cs r (n * cs.getD k.toNat 0)
def sumGo (rest : Nat) (ms cs : List Nat) : List Int → Nat → Nat
  | [], n => n
  | k :: r, n => sumGo rest ms cs r (n + cs.getD k.toNat 0 * 2 ^ gapM rest (ms.getD k.toNat 0))
def restM (lit : Int) (m : Nat) : Nat := m &&& (18446744073709551615 - 2 ^ (lit.toNat - 1))
def stepM (p : Part) (m : Nat) (ms cs : List Nat) : Nat :=
  if p.kind = 1 then 0 else if p.kind = 3 then mulGo cs p.kids 1 else if p.kind = 4 then sumGo (restM p.lit m) ms cs p.kids 0 else 1
def countGo (ms : List Nat) : List Part → List Nat → List Nat
  | [], cs => cs
  | p :: r, cs => countGo ms r (cs ++ [stepM p (ms.getD cs.length 0) ms cs])
/-- no step passes 2^40, and the kids are earlier parts -/
def mulSafe (cs : List Nat) : List Int → Nat → Prop
  | [], _ => True
  | k :: r, n => n * cs.getD k.toNat 0 ≤ 1099511627776 ∧ mulSafe cs r (n * cs.getD k.toNat 0)
def sumSafe (rest : Nat) (ms cs : List Nat) : List Int → Nat → Prop
  | [], _ => True
  | k :: r, n => gapM rest (ms.getD k.toNat 0) ≤ 40 ∧ n + cs.getD k.toNat 0 * 2 ^ gapM rest (ms.getD k.toNat 0) ≤ 1099511627776 ∧ sumSafe rest ms cs r (n + cs.getD k.toNat 0 * 2 ^ gapM rest (ms.getD k.toNat 0))
def partSafe (p : Part) (m : Nat) (ms cs : List Nat) : Prop :=
  (∀ k ∈ p.kids, 0 ≤ k ∧ k < cs.length) ∧ (p.kind = 3 → mulSafe cs p.kids 1) ∧ (p.kind = 4 → 1 ≤ p.lit ∧ p.lit ≤ 40 ∧ sumSafe (restM p.lit m) ms cs p.kids 0)
def countSafe (ms : List Nat) : List Part → List Nat → Prop
  | [], _ => True
  | p :: r, cs => partSafe p (ms.getD cs.length 0) ms cs ∧ countSafe ms r (cs ++ [stepM p (ms.getD cs.length 0) ms cs])
def countM (d : Dnnf) (ms : List Nat) : Nat :=
  (countGo ms d.parts []).getD (d.parts.length - 1) 0 * 2 ^ (d.vars.toNat - Pop.pop 64 (ms.getD (d.parts.length - 1) 0))

theorem mul_le {cs : List Nat} : ∀ (ks : List Int) (n : Nat), n ≤ 1099511627776 → mulSafe cs ks n → mulGo cs ks n ≤ 1099511627776
  | [], n, h, _ => h
  | k :: r, n, h, hs => mul_le r _ hs.1 hs.2
theorem sum_le {rest : Nat} {ms cs : List Nat} : ∀ (ks : List Int) (n : Nat), n ≤ 1099511627776 → sumSafe rest ms cs ks n → sumGo rest ms cs ks n ≤ 1099511627776
  | [], n, h, _ => h
  | k :: r, n, h, hs => sum_le r _ hs.2.1 hs.2.2
theorem stepM_le {p : Part} {m : Nat} {ms cs : List Nat} (h : partSafe p m ms cs) : stepM p m ms cs ≤ 1099511627776 := by
  unfold stepM
  split
  · omega
  · split
    · rename_i h3; exact mul_le _ _ (by omega) (h.2.1 h3)
    · split
      · rename_i h4; exact sum_le _ _ (by omega) (h.2.2 h4).2.2
      · omega
theorem quiet_add_sameD {P : Program} {f : FuncId} {args : Array Value} {w : World} {a n : Nat} {v : Value}
    (h : Calls P f args (w.drewN (a + n)) fun e w' => e = .returned v ∧ w' = w.drewN (a + n)) :
    Calls P f args (w.drewN (a + n)) fun e w'' => e = .returned v ∧ ∃ m, w'' = w.drewN (a + m) :=
  h.mono fun _ _ ⟨he, hm⟩ => ⟨he, n, hm⟩
theorem shl_add (q c gp : Nat) (h : q + c * 2 ^ gp ≤ 1099511627776) : wrap64 ((q : Int) + wrap64 ((c : Int) * 2 ^ gp)) = ((q + c * 2 ^ gp : Nat) : Int) := by
  have e1 : (c : Int) * 2 ^ gp = ((c * 2 ^ gp : Nat) : Int) := by simp
  rw [e1]
  generalize c * 2 ^ gp = y at *
  rw [IntWalk.wrap64_in (y : Int) ⟨by omega, by omega⟩, IntWalk.wrap64_in _ ⟨by omega, by omega⟩]
  omega
theorem rest_eq (lit : Int) (m : Nat) (h1 : 1 ≤ lit) (h2 : lit ≤ 40) (hm : m < 18446744073709551616) : bits .andNot .u64 (m : Int) (IntKind.u64.wrap (2 ^ (lit.toNat - 1))) = (restM lit m : Int) := by
  have e := wrap_own lit lit.toNat (by omega) (by omega) h2 (by omega)
  have hl := ownM_lt lit (by omega) h2
  rw [e, u64_andNot_nat m (ownM lit) hm (by omega)]
  unfold restM ownM
  rw [if_neg (by omega), show lit.natAbs = lit.toNat by omega]

set_option maxRecDepth 100000 in
set_option maxHeartbeats 8000000 in
theorem count_any {F G : Nat → Prop} (vars : Int) (pv mv : Value) (ps : List Part) (ms : List Nat) (b : Nat) (w : World) (hp : Parts F w pv ps) (hms : Nats G w mv ms)
    (f0 : w.cell? ⟨b, 0, none⟩ = some (.int .i64 vars)) (f1 : w.cell? ⟨b, 1, none⟩ = some pv) (f2 : w.cell? ⟨b, 2, none⟩ = some mv) (hv0 : 0 ≤ vars) (hv1 : vars ≤ 40)
    (hlen : ms.length = ps.length) (h0 : 0 < ps.length) (hsafe : countSafe ms ps [])
    (hlast : (Pop.pop 64 (ms.getD (ps.length - 1) 0) : Int) ≤ vars ∧ (countGo ms ps []).getD (ps.length - 1) 0 * 2 ^ (vars.toNat - Pop.pop 64 (ms.getD (ps.length - 1) 0)) ≤ 1099511627776) (hps : ps.length ≤ 16384) :
    Calls Tryz.prog 21 #[.pointer (some ⟨b, 0, none⟩)] w fun e w' => e = .returned (.int .i64 (countM ⟨vars, ps⟩ ms)) ∧ Below w.heap.size w w' := by
  obtain ⟨pa, pc, rfl, hpl⟩ := hp.form
  obtain ⟨ma, ml, mc, rfl, hml, hmll⟩ : ∃ a n c, mv = .slice a n c ∧ Hid (n = ms.length) ∧ n ≤ 9223372036854775807 := by
    obtain ⟨a, c, h1, h2⟩ := hms.form
    exact ⟨a, _, c, h1, rfl, h2⟩
  have hmll2 : ml = ps.length := by rw [hml.out, hlen]
  subst hmll2
  have HLEN := Lib.hid hlen
  obtain ⟨C, hC⟩ : ∃ C, countGo ms ps [] = C := ⟨_, rfl⟩
  have HC : Hid (C = countGo ms (ps.drop 0) []) := Lib.hid hC.symm
  rw [hC] at hlast
  have HS : Hid (countSafe ms (ps.drop 0) []) := Lib.hid hsafe
  have HR : Hid (countM ⟨vars, ps⟩ ms = C.getD (ps.length - 1) 0 * 2 ^ (vars.toNat - Pop.pop 64 (ms.getD (ps.length - 1) 0))) := Lib.hid (by rw [← hC]; rfl)
  have HLAST := Lib.hid hlast
  obtain ⟨Rn, hRn⟩ : ∃ r, countM ⟨vars, ps⟩ ms = r := ⟨_, rfl⟩
  rw [hRn] at HR ⊢
  clear hlen hC hlast hsafe hRn hml
  have hinfo : (Tryz.prog.info? 3).map (fun i => (i.zero, i.size, i.bytes)) = some (some (.int .i64 0), 1, 8) := by kernel_rfl
  have HI := Lib.hid hinfo
  have hbb := block_lt f0
  clear hinfo
  go_enter Tryz.func21, Tryz.ntmps21
  go_wp2
  go_loopg [3, 19] (ps.length) (fun g u3 u19 wx => ∃ (k : Nat) (cs : List Nat), k + g = ps.length ∧ u19 = .int .i64 k ∧ Hid (C = countGo ms (ps.drop k) cs) ∧ Hid (countSafe ms (ps.drop k) cs) ∧ Hid (cs.length = k) ∧
    wx.ownsRow w.heap.size 3 1 u3 k (cs.map fun (c : Nat) => .int .i64 (c : Int)) ∧ Below w.heap.size w wx ∧ Hid (∀ c ∈ cs, c ≤ 1099511627776))
  case atStart => exact ⟨0, [], by omega, rfl, HC, HS, rfl, World.ownsRow_nil _ _ _ _, Below.refl _ _, Lib.hid (by simp)⟩
  case round =>
  obtain ⟨k, cs, hkg, rfl, hinv, hsafe, hcl, hown, hB, hcs⟩ := hrel
  have HOW := Lib.hid hown
  have HBB := Lib.hid hB
  have f0' := below_c hB hbb f0
  have f1' := below_c hB hbb f1
  have f2' := below_c hB hbb f2
  have hsz := hB.size
  have hbb' : b < wr.heap.size := by omega
  clear hown hB
  rcases hd : ps.drop k with _ | ⟨p, r⟩
  · have hge := drop_nil hd
    have hk : ps.length = k := by omega
    have HCC : Hid (C = cs) := Lib.hid (by rw [hinv.out, hd]; rfl)
    subst hk
    have hk1 : ps.length - 1 < ps.length := by omega
    obtain ⟨g3, cap3, c, rfl, hc, hcc, hg31, hg32⟩ := own_any (fun (c : Nat) => .int .i64 (c : Int)) HOW.out hk1
    obtain ⟨m, hm⟩ : ∃ m, ms[ps.length - 1]? = some m := ⟨_, List.getElem?_eq_getElem (by have := HLEN.out; omega)⟩
    obtain ⟨mb, moff, rfl, _, hmb, hcm, hml2⟩ := (hms.below HBB.out).at hm
    have e2 : C.getD (ps.length - 1) 0 = c := by rw [HCC.out]; simp [List.getD, hc]
    have e3 : ms.getD (ps.length - 1) 0 = m := by simp [List.getD, hm]
    have HRR : Hid (Rn = c * 2 ^ (vars.toNat - Pop.pop 64 m)) := Lib.hid (by rw [HR.out, e2, e3])
    have HLL : Hid ((Pop.pop 64 m : Int) ≤ vars ∧ c * 2 ^ (vars.toNat - Pop.pop 64 m) ≤ 1099511627776) := Lib.hid (by have := HLAST.out; rw [e2, e3] at this; exact this)
    have HON := Lib.hid (fun wz => ones_any m wz (by omega))
    have hpl2 := HLL.out.1
    generalize Pop.pop 64 m = pm at *
    obtain ⟨L, hL⟩ : ∃ L, L + 1 = ps.length := ⟨ps.length - 1, by omega⟩
    have hL2 : ps.length - 1 = L := by omega
    rw [hL2] at hcc hcm
    have HLe := Lib.hid hL
    have hL3 : L < ps.length := by omega
    have hlen1 : wrap64 ((ps.length : Int) - 1) = (L : Int) := by rw [IntWalk.wrap64_in _ ⟨by omega, by omega⟩]; omega
    have hlen2 : ((ps.length : Int) - 1) = (L : Int) := by omega
    clear hd hinv hsafe hc hm e2 e3 hL hL2
    go_upto_region 26 with fail
    go_quiet ((go_at_call 35; exact Calls.quiet_of_same (HON.out _)))
    go_wp2
    go_ret
    refine ⟨?_, below_drewN HBB.out _⟩
    show Ending.returned (.int .i64 (wrap64 ((c : Int) * 2 ^ (vars.toNat - pm)))) = _
    have h2 := HLL.out.2
    rw [HRR.out, show ((c : Int) * 2 ^ (vars.toNat - pm)) = ((c * 2 ^ (vars.toNat - pm) : Nat) : Int) by simp, IntWalk.wrap64_in _ ⟨by omega, by omega⟩]
  · obtain ⟨hd1, hd2, hd3⟩ := drop_cons hd
    have HSP : Hid (partSafe p (ms.getD k 0) ms cs) := Lib.hid (by
      have := hsafe.out; rw [hd] at this; rw [← hcl.out]; exact this.1)
    have HSN : Hid (countSafe ms (ps.drop (k + 1)) (cs ++ [stepM p (ms.getD k 0) ms cs])) := Lib.hid (by
      have := hsafe.out; rw [hd] at this; rw [hd2]; have h2 := this.2; rw [hcl.out] at h2; exact h2)
    have HCN : Hid (C = countGo ms (ps.drop (k + 1)) (cs ++ [stepM p (ms.getD k 0) ms cs])) := Lib.hid (by
      rw [hinv.out, hd, hd2]; simp only [countGo]; rw [hcl.out])
    obtain ⟨pb, poff, kv, rfl, _, hpb, e1, e2, e3, hks, i1, i2⟩ := (hp.below HBB.out).at hd1
    obtain ⟨ka, n, kc, rfl, HN, hkl⟩ := hks.form'
    clear hd hd1 hd2 hinv hsafe
    go_upto_block 2 with fail
    go_cut [6] (fun u6 wx => u6 = .int .i64 (stepM p (ms.getD k 0) ms cs) ∧ ∃ nq, wx = (wr.alloc (.cells #[.int .i64 p.kind, .int .i64 p.lit, .slice ka n kc] 43)).drewN nq)
    case first =>
      rcases kind6 p.kind with ⟨t0, t1, t2, t3, t4, n3, n4⟩ | ⟨t0, t1, t2, t3, t4, n3, n4⟩ | ⟨t0, t1, t2, t3, t4, n3, n4⟩ | ⟨t0, t1, t2, t3, t4, n3, n4⟩ | ⟨t0, t1, t2, t3, t4, n3, n4⟩ | ⟨t0, t1, t2, t3, t4, n3, n4⟩
      · go_wp2
        go_meet
        exact ⟨by simp at t1 t3 t4; simp [stepM, t1, t3, t4], 0, rfl⟩
      · go_wp2
        go_meet
        exact ⟨by simp at t1 t3 t4; simp [stepM, t1], 0, rfl⟩
      · go_wp2
        go_meet
        exact ⟨by simp at t1 t3 t4; simp [stepM, t1, t3, t4], 0, rfl⟩
      · have hs := HSP.out.2.1 (by simpa using t3)
        have HST : Hid (stepM p (ms.getD k 0) ms cs = mulGo cs (p.kids.drop 0) 1) := Lib.hid (by simp at t1 t3; simp [stepM, t3])
        have HMS : Hid (mulSafe cs (p.kids.drop 0) 1) := Lib.hid hs
        have HKR := Lib.hid HSP.out.1
        clear hs
        go_wp2
        go_loopg [6, 33] n (fun g u6 u33 wx => ∃ (j q : Nat), j + g = n ∧ u33 = .int .i64 j ∧ u6 = .int .i64 q ∧ q ≤ 1099511627776 ∧ Hid (stepM p (ms.getD k 0) ms cs = mulGo cs (p.kids.drop j) q) ∧ Hid (mulSafe cs (p.kids.drop j) q) ∧
          wx = wr.alloc (.cells #[.int .i64 p.kind, .int .i64 p.lit, .slice ka n kc] 43))
        case atStart => exact ⟨0, 1, by omega, rfl, rfl, by omega, HST, HMS, rfl⟩
        case round =>
        obtain ⟨j, q, hjg, rfl, rfl, hq, hst, hms2, rfl⟩ := hrel
        by_cases hj : j < n
        · obtain ⟨x, hx⟩ : ∃ x, p.kids[j]? = some x := ⟨_, List.getElem?_eq_getElem (by have := HN.out; omega)⟩
          obtain ⟨kb, koff, rfl, _, hkb, hck, hxi⟩ := hks.at hx
          obtain ⟨hx3, hx4⟩ := HKR.out x (List.mem_of_getElem? hx)
          obtain ⟨x, rfl⟩ := Int.eq_ofNat_of_zero_le hx3
          have hxl : x < k := by rw [← hcl.out]; omega
          have hxp : x < ps.length := by omega
          obtain ⟨g3, cap3, c, rfl, hc, hcc, hg31, hg32⟩ := own_any (fun (c : Nat) => .int .i64 (c : Int)) HOW.out hxl
          have e : p.kids.drop j = (x : Int) :: p.kids.drop (j + 1) := by
            obtain ⟨hlt, he⟩ := List.getElem?_eq_some_iff.1 hx
            rw [List.drop_eq_getElem_cons hlt, he]
          have e2 : cs.getD ((x : Int)).toNat 0 = c := by simp [List.getD, hc]
          have h2 := hms2.out
          rw [e] at h2
          simp only [mulSafe, e2] at h2
          have HST2 : Hid (stepM p (ms.getD k 0) ms cs = mulGo cs (p.kids.drop (j + 1)) (q * c)) := Lib.hid (by rw [hst.out, e]; simp only [mulGo, e2])
          have HMS2 := Lib.hid h2.2
          have hqc : q * c ≤ 1099511627776 := h2.1
          have hg33 : g3 < wr.heap.size + 1 := by omega
          have hcl2 : c ≤ 1099511627776 := hcs.out c (List.mem_of_getElem? hc)
          have hmul : (q : Int) * (c : Int) = ((q * c : Nat) : Int) := by simp
          have HMUL := Lib.hid hmul
          have hw1 : wrap64 ((q : Int) * (c : Int)) = ((q * c : Nat) : Int) := by rw [hmul]; exact IntWalk.wrap64_in _ ⟨by omega, by omega⟩
          generalize q * c = qc at *
          clear hx e e2 h2 hst hms2 hc hmul
          go_wp2
          go_roundg (gk - 1)
          case measure => omega
          case rel => exact ⟨j + 1, qc, by omega, by go_num, by first | rw [hw1] | rw [HMUL.out], hqc, HST2, HMS2, rfl⟩
        have hjn : n = j := by omega
        have HF : Hid (stepM p (ms.getD k 0) ms cs = q) := Lib.hid (by rw [hst.out, List.drop_eq_nil_of_le (by have := HN.out; omega)]; rfl)
        subst hjn
        clear hj hst hms2
        go_wp2
        go_meet
        exact ⟨by rw [HF.out], 0, rfl⟩
      · obtain ⟨hl1, hl2, hs⟩ := HSP.out.2.2 (by simpa using t4)
        obtain ⟨m, hm⟩ : ∃ m, ms[k]? = some m := ⟨_, List.getElem?_eq_getElem (by have := HLEN.out; omega)⟩
        have hmk : ms.getD k 0 = m := by simp [List.getD, hm]
        rw [hmk] at hs
        have HST : Hid (stepM p (ms.getD k 0) ms cs = sumGo (restM p.lit m) ms cs (p.kids.drop 0) 0) := Lib.hid (by rw [hmk]; simp at t1 t3 t4; simp [stepM, t4])
        have HSS : Hid (sumSafe (restM p.lit m) ms cs (p.kids.drop 0) 0) := Lib.hid hs
        have HKR := Lib.hid HSP.out.1
        obtain ⟨mb, moff, rfl, _, hmb, hcm, hml2⟩ := (hms.below HBB.out).at hm
        have hrl : restM p.lit m < 18446744073709551616 := Nat.lt_of_le_of_lt Nat.and_le_left (by omega)
        have HMS := Lib.hid (hms.below HBB.out)
        clear hs hm hmk
        go_upto_region 16 with fail
        go_cut [9] (fun u9 wx => u9 = .int .u64 (restM p.lit m) ∧ ∃ nq, wx = (wr.alloc (.cells #[.int .i64 p.kind, .int .i64 p.lit, .slice ka n kc] 43)).drewN nq)
        case first =>
          go_quiet (fail)
          go_wp2
          go_meet
          exact ⟨by rw [rest_eq p.lit m hl1 hl2 (by omega)], nq, rfl⟩
        case rest =>
        obtain ⟨rfl, nq, rfl⟩ := hcut
        generalize restM p.lit m = rm at *
        go_wp2
        go_loopg [6, 61] n (fun g u6 u61 wx => ∃ (j q nq : Nat), j + g = n ∧ u61 = .int .i64 j ∧ u6 = .int .i64 q ∧ q ≤ 1099511627776 ∧ Hid (stepM p (ms.getD k 0) ms cs = sumGo rm ms cs (p.kids.drop j) q) ∧ Hid (sumSafe rm ms cs (p.kids.drop j) q) ∧
          wx = (wr.alloc (.cells #[.int .i64 p.kind, .int .i64 p.lit, .slice ka n kc] 43)).drewN nq)
        case atStart => exact ⟨0, 0, _, by omega, rfl, rfl, by omega, HST, HSS, rfl⟩
        case round =>
        obtain ⟨j, q, nq, hjg, rfl, rfl, hq, hst, hss2, rfl⟩ := hrel
        by_cases hj : j < n
        · obtain ⟨x, hx⟩ : ∃ x, p.kids[j]? = some x := ⟨_, List.getElem?_eq_getElem (by have := HN.out; omega)⟩
          obtain ⟨kb, koff, rfl, _, hkb, hck, hxi⟩ := hks.at hx
          obtain ⟨hx3, hx4⟩ := HKR.out x (List.mem_of_getElem? hx)
          obtain ⟨x, rfl⟩ := Int.eq_ofNat_of_zero_le hx3
          have hxl : x < k := by rw [← hcl.out]; omega
          have hxp : x < ps.length := by omega
          obtain ⟨g3, cap3, c, rfl, hc, hcc, hg31, hg32⟩ := own_any (fun (c : Nat) => .int .i64 (c : Int)) HOW.out hxl
          obtain ⟨mx, hmx⟩ : ∃ m, ms[x]? = some m := ⟨_, List.getElem?_eq_getElem (by have := HLEN.out; omega)⟩
          obtain ⟨_, _, heq, _, _, hcmx, hmx2⟩ := HMS.out.at hmx
          injection heq with heq
          injection heq with hq1 hq2 _
          subst hq1 hq2
          have e : p.kids.drop j = (x : Int) :: p.kids.drop (j + 1) := by
            obtain ⟨hlt, he⟩ := List.getElem?_eq_some_iff.1 hx
            rw [List.drop_eq_getElem_cons hlt, he]
          have e2 : cs.getD ((x : Int)).toNat 0 = c := by simp [List.getD, hc]
          have e3 : ms.getD ((x : Int)).toNat 0 = mx := by simp [List.getD, hmx]
          have h2 := hss2.out
          rw [e] at h2
          simp only [sumSafe, e2, e3] at h2
          have HST2 : Hid (stepM p (ms.getD k 0) ms cs = sumGo rm ms cs (p.kids.drop (j + 1)) (q + c * 2 ^ gapM rm mx)) := Lib.hid (by rw [hst.out, e]; simp only [sumGo, e2, e3])
          have HSS2 := Lib.hid h2.2.2
          have hqc : q + c * 2 ^ gapM rm mx ≤ 1099511627776 := h2.2.1
          have hgp : gapM rm mx ≤ 40 := h2.1
          have HGC := fun wz => gap_any rm mx wz hrl (by omega)
          have HGC' := Lib.hid HGC
          have hg33 : g3 < wr.heap.size + 1 := by omega
          have hcl2 : c ≤ 1099511627776 := hcs.out c (List.mem_of_getElem? hc)
          generalize gapM rm mx = gp at *
          clear HGC hx e e2 e3 h2 hst hss2 hc hmx
          go_upto_region 21 with fail
          go_quiet ((go_at_call 34; exact quiet_add_sameD (HGC'.out _)))
          go_wp2
          go_roundg (gk - 1)
          case measure => omega
          case rel =>
            exact ⟨j + 1, q + c * 2 ^ gp, _, by omega, by go_num, by rw [shl_add q c gp hqc], hqc, HST2, HSS2, rfl⟩
        have hjn : n = j := by omega
        have HF : Hid (stepM p (ms.getD k 0) ms cs = q) := Lib.hid (by rw [hst.out, List.drop_eq_nil_of_le (by have := HN.out; omega)]; rfl)
        subst hjn
        clear hj hst hss2
        go_wp2
        go_meet
        exact ⟨by rw [HF.out], nq, rfl⟩
      · go_wp2
        go_meet
        exact ⟨by simp at t1 t3 t4; simp [stepM, t1, t3, t4], 0, rfl⟩
    case rest =>
    obtain ⟨rfl, nq, rfl⟩ := hcut
    have hsle : stepM p (ms.getD k 0) ms cs ≤ 1099511627776 := stepM_le HSP.out
    generalize stepM p (ms.getD k 0) ms cs = sv at *
    have hb1 : Below w.heap.size w ((wr.alloc (.cells #[.int .i64 p.kind, .int .i64 p.lit, .slice ka n kc] 43)).drewN nq) := below_drewN (HBB.out.alloc (by omega) _) nq
    have ho1 : ((wr.alloc (.cells #[.int .i64 p.kind, .int .i64 p.lit, .slice ka n kc] 43)).drewN nq).ownsRow w.heap.size 3 1 u3 k (cs.map fun (c : Nat) => .int .i64 (c : Int)) := HOW.out.alloc _
    have hs1 : ((wr.alloc (.cells #[.int .i64 p.kind, .int .i64 p.lit, .slice ka n kc] 43)).drewN nq).heap.size = wr.heap.size + 1 := by simp [World.drewN]
    obtain ⟨w1, hw1⟩ : ∃ w1, (wr.alloc (.cells #[.int .i64 p.kind, .int .i64 p.lit, .slice ka n kc] 43)).drewN nq = w1 := ⟨_, rfl⟩
    rw [hw1] at hb1 ho1 hs1 ⊢
    have HB1 := Lib.hid hb1
    have HS1 := Lib.hid hs1
    have hge : wr.heap.size < w1.heap.size := by omega
    clear hw1 hb1 hs1 e1 e2 e3 hks
    go_wp2_with (at_builtin; go_loud (refine wpList_push1 rfl _ _ 26 rfl 3 (.int .i64 0) 8 Tryz.underlying26 HI.out rfl w.heap.size u3 k _ w1 (.int .i64 sv) rfl rfl ho1 rfl (by omega) (by omega) (by omega) ?_); intro g3 cap3 w3 hown3 hg3 hs3 hgb hgl _; have HB3 := Lib.hid (HB1.out.grown hg3 (by omega) (fun k hk => (ho1.lt k hk).1)); have HO3 := Lib.hid hown3; clear hown3 hg3 ho1)
    go_roundg (gk - 1)
    case measure => omega
    case rel =>
      exact ⟨k + 1, cs ++ [sv], by omega, by go_num, HCN, HSN, Lib.hid (by simp [hcl.out]), by simpa using HO3.out, HB3.out, Lib.hid (fun x hx => by
        rcases List.mem_append.1 hx with h | h
        · exact hcs.out x h
        · simp at h; omega)⟩

/-- what makes a count safe -/
def CountOk (d : Dnnf) (ms : List Nat) : Prop :=
  ms.length = d.parts.length ∧ 0 < d.parts.length ∧ d.parts.length ≤ 16384 ∧ 0 ≤ d.vars ∧ d.vars ≤ 40 ∧ countSafe ms d.parts [] ∧
  (Pop.pop 64 (ms.getD (d.parts.length - 1) 0) : Int) ≤ d.vars ∧ (countGo ms d.parts []).getD (d.parts.length - 1) 0 * 2 ^ (d.vars.toNat - Pop.pop 64 (ms.getD (d.parts.length - 1) 0)) ≤ 1099511627776
/-- what Count answers -/
def countA (d : Dnnf) : Int := if (checkedM d).1 = 0 then (countM d (checkedM d).2 : Nat) else 0

set_option maxHeartbeats 1000000 in
theorem Count_any (F : Nat → Prop) (vars : Int) (pv : Value) (ps : List Part) (w : World) (hp : Parts F w pv ps) (hv : I64 vars) (hok : (checkedM ⟨vars, ps⟩).1 = 0 → CountOk ⟨vars, ps⟩ (checkedM ⟨vars, ps⟩).2) :
    Calls Tryz.prog 12 #[.agg #[.int .i64 vars, pv]] w fun e w' => e = .returned (.tuple #[.int .i64 (countA ⟨vars, ps⟩), .int .i64 (checkedM ⟨vars, ps⟩).1]) ∧ Below w.heap.size w w' := by
  obtain ⟨pa, pc, rfl, hlen⟩ := hp.form
  have hbel : Below w.heap.size w (w.alloc (.cells #[.int .i64 vars, .slice pa ps.length pc] 29)) := (Below.refl _ _).alloc (Nat.le_refl _) _
  have HB := Lib.hid hbel
  have hp1 := hp.below hbel
  have HOK := Lib.hid hok
  have HA : Hid (countA ⟨vars, ps⟩ = if (checkedM ⟨vars, ps⟩).1 = 0 then ((countM ⟨vars, ps⟩ (checkedM ⟨vars, ps⟩).2 : Nat) : Int) else (0 : Int)) := Lib.hid rfl
  obtain ⟨A, hA⟩ : ∃ A, countA ⟨vars, ps⟩ = A := ⟨_, rfl⟩
  obtain ⟨M, hM⟩ : ∃ M, checkedM ⟨vars, ps⟩ = M := ⟨_, rfl⟩
  have hchk := checked_any F vars _ ps _ hp1 hv
  rw [hM] at HOK hchk HA
  rw [hA] at HA
  rw [hA, hM]
  have HCH := Lib.hid hchk
  clear hbel hok hA hM hchk
  go_enter Tryz.func12, Tryz.ntmps12
  go_wp2_with fail
  refine HCH.out.mono ?_
  rintro e w1 ⟨fv, rfl, hb1, hn, hf⟩
  have HB1 : Hid (Below w.heap.size w w1) := Lib.hid (HB.out.trans (hb1.mono (by simp)))
  obtain ⟨c, ms⟩ := M
  have HF := Lib.hid hf
  have HP1 := Lib.hid (hp1.below hb1)
  clear hb1 hn hf hp1 hp
  by_cases hc : c = 0
  · subst hc
    obtain ⟨b, mv, rfl, hbb, k0, k1, k2, kn⟩ := HF.out rfl
    obtain ⟨o1, o2, o3, o4, o5, o6, o7⟩ := HOK.out rfl
    have HO6 := Lib.hid o6
    have HO7 := Lib.hid o7
    have HO1 := Lib.hid o1
    clear o6 o7 o1
    go_wp2_with fail
    refine (count_any vars _ mv ps ms b _ HP1.out kn k0 k1 k2 o4 o5 HO1.out o2 HO6.out HO7.out o3).mono ?_
    rintro e w2 ⟨rfl, hb2⟩
    have HB2 : Hid (Below w.heap.size w w2) := Lib.hid (HB1.out.trans (hb2.mono HB1.out.size))
    have HAA : Hid (A = (countM ⟨vars, ps⟩ ms : Nat)) := Lib.hid (by rw [HA.out]; simp)
    clear hb2
    generalize countM ⟨vars, ps⟩ ms = q at *
    go_wp2_with fail
    go_ret2
    exact ⟨by rw [HAA.out]; rfl, HB2.out⟩
  · have hne : (c != 0) = true := by simp [hc]
    have HAA : Hid (A = 0) := Lib.hid (by rw [HA.out]; simp [hc])
    clear hc
    go_wp2_with fail
    go_ret2
    exact ⟨by rw [HAA.out]; rfl, HB1.out⟩
end Go.Proofs.YteadlkecngfcoaaGreatDoor
