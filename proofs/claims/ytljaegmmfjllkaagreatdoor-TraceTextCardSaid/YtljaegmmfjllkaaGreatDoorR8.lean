/- (Trace text seat) What parsing a trace's text means, as plain Lean. No condition. -/
import Derived.Test.YtljaegmmfjllkaaGreatDoorR1
import Derived.Test.YtljaegmmfjllkaaGreatDoorNy
import Derived.Lib.Strings
import Derived.Test.YtljaegmmfjllkaaGreatDoorR6
import Derived.Test.YtljaegmmfjllkaaGreatDoorR3
import Derived.Test.YtljaegmmfjllkaaGreatDoorVh
import Derived.Test.YtljaegmmfjllkaaGreatDoorTp
import Derived.Shelf.Small.Wraps
namespace Go.Proofs.YtljaegmmfjllkaaGreatDoor
open Go.RowKit Go.Lib
set_option linter.unusedVariables false
set_option linter.unusedSimpArgs false

def ExpT (ts : List Claim) (t : Bts) : Prop := (∀ c ∈ ts, NumC c) ∧ zeroB ts = false ∧ GoodT t ∧ ts.length ≤ 100000 ∧ t = trcT ts
theorem pre_hit (m : Bts) : Lib.hasPrefix (wTrc ++ m) wTrc = true ∧ Lib.trimPrefix (wTrc ++ m) wTrc = m := by
  have h : Lib.hasPrefix (wTrc ++ m) wTrc = true := List.isPrefixOf_iff_prefix.2 (List.prefix_append _ _)
  exact ⟨h, by unfold Lib.trimPrefix; rw [if_pos h, List.drop_left]⟩
theorem exp_pre {ts : List Claim} {t : Bts} (h : ExpT ts t) : Lib.hasPrefix t wTrc = true ∧ Lib.trimPrefix t wTrc = restT [(ts.length : Int)] (clmsT ts) := by
  obtain ⟨_, _, _, _, e⟩ := h
  rw [e, trc_rest]
  exact pre_hit _
theorem exp_all {ts : List Claim} {t : Bts} {n : Int} {t1 t2 : Bts} {b1 b2 : Bool} {cs : List Claim} (h : ExpT ts t) (hs : StepR (Lib.trimPrefix t wTrc) false n t1 b1) (hc : ClmsR t1 b1 cs t2 b2) (hl : cs.length ≤ n.toNat) :
    n.toNat = ts.length ∧ b2 = false ∧ cs = ts.take cs.length := by
  have e1 := (exp_pre h).2
  obtain ⟨h1, h2, h3, h4, h5⟩ := h
  have hg : GoodT (restT [(ts.length : Int)] (clmsT ts)) := by
    rw [h5, trc_rest] at h3
    exact ⟨fun b hb => h3.1 b (List.mem_append_right _ hb), by have := h3.2; rw [List.length_append] at this; omega⟩
  rw [e1] at hs
  obtain ⟨q1, q2, q3⟩ := hs.exact rfl (ts.length : Int) [] (clmsT ts) (by unfold I64; omega) hg rfl
  have hg2 : GoodT (clmsT ts) := good_drop [(ts.length : Int)] [] _ hg
  have q4 : n.toNat = ts.length := by rw [q1]; simp
  obtain ⟨r1, r2, r3⟩ := hc.exact q3 ts h1 hg2 q2 (zero_no h2) (by omega)
  exact ⟨q4, r3, r1⟩
theorem nz_zero {cs : List Claim} (h : ∀ c ∈ cs, ∀ x ∈ c.cls, ∀ n ∈ x, n ≠ 0) : zeroB cs = false := by
  unfold zeroB
  rw [List.any_eq_false]
  intro c hc hh
  obtain ⟨x, hx, hx0⟩ := List.any_eq_true.1 hh
  exact h c hc x hx 0 (by simpa using hx0) rfl
/-- the numbers of a claim that was read -/
theorem ClmR.num {t t' : Bts} {b b' : Bool} {c : Claim} (h : ClmR t b c t' b') (e : b' = false) (ht : t.length ≤ 4194304) : NumC c := by
  have hl := h.len e
  have hll := line_len c
  obtain ⟨nk, nc, t1, b1, h1, _, _, h2, _⟩ := h
  have i1 := h1.i64
  have i2 := h2.i64
  intro n hn
  unfold lineM at hn
  simp only [List.mem_cons, List.mem_append] at hn
  rcases hn with rfl | rfl | rfl | rfl | hn | rfl | hn
  · exact i1 _ (by simp)
  · exact i1 _ (by simp)
  · exact i1 _ (by simp)
  · unfold I64; omega
  · exact i1 n (by simp [hn])
  · unfold I64; omega
  · exact i2 n (by simp [hn])
theorem ClmsR.num {t t' : Bts} {b b' : Bool} {l : List Claim} (h : ClmsR t b l t' b') (ht : t.length ≤ 4194304) : b' = false → ∀ c ∈ l, NumC c := by
  induction h with
  | nil => intro _ c hc; cases hc
  | snoc h h1 ih =>
    intro e c hc
    have hle := h.le
    rcases List.mem_append.1 hc with hc | hc
    · exact ih (h1.mono e) c hc
    · rw [List.mem_singleton.1 hc]; exact h1.num e (by omega)
theorem lineS_mem : ∀ {cs : List Claim} {c : Claim}, c ∈ cs → (lineM c).length ≤ lineS cs
  | d :: r, c, h => by
    unfold lineS
    rw [List.map_cons, List.sum_cons]
    rcases List.mem_cons.1 h with rfl | h
    · omega
    · have := lineS_mem h
      unfold lineS at this
      omega
theorem lineS_len : ∀ (cs : List Claim), 5 * cs.length ≤ lineS cs
  | [] => by simp [lineS]
  | c :: r => by
    have := lineS_len r
    have h2 := line_len c
    unfold lineS at this ⊢
    rw [List.map_cons, List.sum_cons, List.length_cons]
    omega
theorem clms_lenS : ∀ {cs : List Claim}, (∀ c ∈ cs, NumC c) → (clmsT cs).length ≤ lineS cs * 21 + cs.length
  | [], _ => by simp [clmsT]
  | c :: r, h => by
    have h1 := clms_lenS fun d hd => h d (List.mem_cons_of_mem _ hd)
    have h2 := tail_bound (h c (List.mem_cons_self ..))
    have h3 := line_le (lineM c)
    rw [clmsT, clmT, List.length_append, List.length_append, List.length_singleton, List.length_cons]
    unfold lineS at h1 ⊢
    rw [List.map_cons, List.sum_cons, Nat.add_mul]
    omega
theorem trc_lenS {cs : List Claim} (h : ∀ c ∈ cs, NumC c) (hl : lineS cs ≤ 80000) : (trcT cs).length ≤ 4000000 := by
  have h1 := clms_lenS h
  have h4 := lineS_len cs
  have h2 := itoa_all20 (n := (cs.length : Int)) (by omega) (by omega)
  unfold trcT
  rw [List.length_append, List.length_append, List.length_cons]
  have h3 : wTrc.length = 6 := rfl
  omega

/- (Trace text seat) Walk: trace.Parse. Condition: the table of powers and the two errors of strconv lie as laid. Printed by genpa.py. -/
open Go.ChangeShapes Go.WideShapes Go.ChangeAt Go.RowKit Go.Lib
set_option linter.unusedVariables false
set_option linter.unusedSimpArgs false

theorem claimV_and {F : Nat → Prop} {w : World} {u : Row5} {c : Claim} (h : ClaimV F w u c) : ClaimV (fun b => b < w.heap.size ∧ F b) w u c := by
  have h1 := h.lt
  obtain ⟨⟨hcl, e1, e2, hki, e4⟩, hI⟩ := h
  refine ⟨⟨?_, e1, e2, (hki.lt).mono fun b hb => ⟨hb.2, hb.1⟩, e4⟩, hI⟩
  obtain ⟨us, h1, h2, h3⟩ := hcl
  exact ⟨us, h1.lt.mono fun b hb => ⟨hb.2, hb.1⟩, h2, fun j u x hu hx => ((h3 j u x hu hx).lt).mono fun b hb => ⟨hb.2, hb.1⟩⟩
/-- the trace that is written: the block T, its row of claims behind it; the claims' parts lie below s or behind T -/
def TrP (w : World) (s T : Nat) (v : Value) (ts : List Claim) : Prop :=
  w.cell? ⟨T, 0, none⟩ = some v ∧ (∀ o, w.frozen? ⟨T, o, none⟩ = false) ∧
  ∃ us : List Row5, w.ownsRow (T + 1) 45 5 v ts.length (cells5 us) ∧ us.length = ts.length ∧ ∀ (j : Nat) u c, us[j]? = some u → ts[j]? = some c → ClaimV (fun b => (b < s ∨ T + 1 ≤ b) ∧ v.ownBlock ≠ some b) w u c
theorem TrP.same {w w' : World} {s T : Nat} {v : Value} {ts : List Claim} (h : TrP w s T v ts) (hs : s ≤ T) (hm : ∀ b, b < w.heap.size → b < s ∨ T ≤ b → w'.heap[b]? = w.heap[b]?) : TrP w' s T v ts := by
  obtain ⟨h0, hf, us, ho, hl, hr⟩ := h
  have hlt := block_lt h0
  have hT := hm T hlt (.inr (Nat.le_refl _))
  refine ⟨(World.cell?_of_block hT).trans h0, fun o => (World.frozen?_of_block (a := ⟨T, o, none⟩) hT).trans (hf o), us, own_same ho fun b e => hm b (ho.lt b e).2 (.inr (by have := (ho.lt b e).1; omega)), hl, fun j u c hu hc => ((claimV_and (hr j u c hu hc)).move fun b hb _ => hm b hb.1 ?_).mono fun b hb => hb.2⟩
  rcases hb.2.1 with h | h
  · exact .inl h
  · exact .inr (by omega)
theorem TrP.below {w w' : World} {s T : Nat} {v : Value} {ts : List Claim} (h : TrP w s T v ts) (hs : s ≤ T) (hb : Below w.heap.size w w') : TrP w' s T v ts := h.same hs fun b h1 _ => hb.block b h1
theorem TrP.push {w w7 : World} {s T g cap n : Nat} {v r0 r1 r2 r3 r4 : Value} {ts : List Claim} {c : Claim} {us : List Row5} (hs : s ≤ T)
    (h : TrP w s T v ts) (hn : n = ts.length) (h1 : w.ownsRow (T + 1) 45 5 v n (cells5 us)) (h2 : us.length = ts.length) (h3 : ∀ (j : Nat) u c, us[j]? = some u → ts[j]? = some c → ClaimV (fun b => (b < s ∨ T + 1 ≤ b) ∧ v.ownBlock ≠ some b) w u c) (hr : ClaimV (fun b => (b < s ∨ T + 1 ≤ b) ∧ v.ownBlock ≠ some b) w (r0, r1, r2, r3, r4) c)
    (hown : w7.ownsRow (T + 1) 45 5 (.slice (some ⟨g, 0, none⟩) (n + 1) cap) (n + 1) (cells5 us ++ [r0, r1, r2, r3, r4])) (hg : w.grownBy w7 v.ownBlock) (hat : v.ownBlock = some g ∨ w.heap.size ≤ g) :
    TrP (w7.setCell ⟨T, 0, none⟩ (.slice (some ⟨g, 0, none⟩) (n + 1) cap)) s T (.slice (some ⟨g, 0, none⟩) (n + 1) cap) (ts ++ [c]) := by
  subst hn
  obtain ⟨c0, hf, _⟩ := h
  have hlt := block_lt c0
  have hne : some T ≠ v.ownBlock := fun e => by have := (h1.lt T e.symm).1; omega
  have hgB : T + 1 ≤ g := (hown.lt g rfl).1
  have mv : ∀ u m, ClaimV (fun b => (b < s ∨ T + 1 ≤ b) ∧ v.ownBlock ≠ some b) w u m → ClaimV (fun b => (b < s ∨ T + 1 ≤ b) ∧ (Value.slice (some ⟨g, 0, none⟩) (ts.length + 1) cap).ownBlock ≠ some b) (w7.setCell ⟨T, 0, none⟩ (.slice (some ⟨g, 0, none⟩) (ts.length + 1) cap)) u m := by
    intro u m hu
    refine ((claimV_and hu).move (w' := w7.setCell ⟨T, 0, none⟩ (.slice (some ⟨g, 0, none⟩) (ts.length + 1) cap)) fun b hb hlt => ?_).mono fun b hb => ?_
    · exact (Below.heap_setCell _ _ _ _ (show b ≠ T by have := hb.2.1; omega)).trans (hg.block b hlt (fun e => hb.2.2 e.symm))
    · refine ⟨hb.2.1, ?_⟩
      simp only [Value.ownBlock]
      intro e
      injection e with e
      subst e
      rcases hat with h | h
      · exact hb.2.2 h
      · have := hb.1; omega
  refine ⟨set_eq (grown_c2 hg hne c0), fun o => ?_, us ++ [(r0, r1, r2, r3, r4)], ?_, by simp [h2], fun j u x hu hx => ?_⟩
  · rw [World.frozen?_setCell]
    exact (World.frozen?_of_block (a := ⟨T, o, none⟩) (hg.block T hlt hne)).trans (hf o)
  · rw [List.length_append, cells5_snoc]
    refine own_same hown fun b e => Below.heap_setCell _ _ _ _ ?_
    have : g = b := by simpa [Value.ownBlock] using e
    show b ≠ T
    omega
  · rcases Nat.lt_or_ge j us.length with hj | hj
    · rw [List.getElem?_append_left hj] at hu
      rw [List.getElem?_append_left (by omega)] at hx
      exact mv u x (h3 j u x hu hx)
    · rw [List.getElem?_append_right hj] at hu
      rw [List.getElem?_append_right (by omega)] at hx
      rw [h2] at hu
      rcases hk : j - ts.length with _ | k
      · rw [hk] at hu hx
        simp at hu hx
        subst hu hx
        exact mv _ c hr
      · rw [hk] at hu
        simp at hu
theorem TrP.claims {w : World} {s T : Nat} {v : Value} {ts : List Claim} (h : TrP w s T v ts) (hn : ts.length ≤ 9223372036854775807) : Claims (fun b => b < s ∨ T + 1 ≤ b) w v ts := by
  obtain ⟨_, _, us, h1, h2, h3⟩ := h
  refine ⟨us, ?_, h2, fun j u c hu hc => (h3 j u c hu hc).mono fun b hb => hb.1⟩
  rcases h1.2 with ⟨rfl, h0⟩ | ⟨g, cap, cur, rfl, _⟩
  · have : us = [] := List.eq_nil_of_length_eq_zero (by omega)
    subst this
    exact ⟨none, 0, rfl, by simp, fun j u hu => by simp at hu⟩
  · have hg := (h1.lt g rfl).1
    refine ⟨some ⟨g, 0, none⟩, cap, by rw [h2], by omega, fun j u hu => ⟨g, 0, rfl, .inr hg, ?_⟩⟩
    have hc := h1.cells (g := g) rfl
    obtain ⟨e1, e2, e3, e4, e5⟩ := cells5_get us j u hu
    have f1 := hc _ _ e1
    have f2 := hc _ _ e2
    have f3 := hc _ _ e3
    have f4 := hc _ _ e4
    have f5 := hc _ _ e5
    rw [add_at] at f1 f2 f3 f4 f5
    rw [Nat.zero_add] at f1 f2 f3 f4 f5 ⊢
    exact ⟨f1, f2, f3, f4, f5⟩

theorem claims_nilP (F : Nat → Prop) (w : World) : Claims F w (.slice none 0 0) [] := ⟨[], ⟨none, 0, rfl, by simp, fun j u hu => by simp at hu⟩, rfl, fun j u c hu _ => by simp at hu⟩
theorem TrP.kp {w w' : World} {R T : Nat} {v : Value} {ts : List Claim} (h : TrP w 0 T v ts) (hRT : R < T) (hk : KpR R w w') : TrP w' 0 T v ts :=
  h.same (Nat.zero_le _) fun b hb hc => hk.block b hb (fun e => by injection e with e; omega)
def TpsPost (W : World) (t : Bts) (e : Ending) (w' : World) : Prop :=
  ∃ (v : Value) (code : Int) (cs : List Claim), e = .returned (.tuple #[.agg #[v], .int .i64 code]) ∧ Claims (fun _ => True) w' v cs ∧ Below W.heap.size W w' ∧
    Hid ((code = 0 ∧ trcT cs = t ∧ zeroB cs = false ∧ (∀ c ∈ cs, NumC c) ∧ lineS cs ≤ t.length) ∨ (code = 6 ∧ cs = [])) ∧ Hid (∀ ts, ExpT ts t → code = 0 ∧ cs = ts)
set_option maxRecDepth 100000 in
set_option maxHeartbeats 32000000 in
theorem parse_gen (B0 : Nat) (T : ByteArray) (t : Bts) (w : World) (hT : T = BA t) (htl : t.length ≤ 80000) (he : ErrT B0 w) (htb : TabT B0 w) (hB : B0 ≤ w.heap.size) :
    Calls Tryz.prog 9 #[.string T] w (TpsPost w t) := by
  obtain ⟨q, hq⟩ : ∃ b, w.heap.size = b := ⟨_, rfl⟩
  obtain ⟨W1, hW1⟩ : ∃ W, w.alloc (.cells #[.slice none 0 0] 24) = W := ⟨_, rfl⟩
  have hb1 : Below w.heap.size w W1 := by rw [← hW1]; exact (Below.refl _ _).alloc (Nat.le_refl _) _
  have hr1 : W1.heap[q]? = some (.cells #[.slice none 0 0] 24) := by rw [← hW1]; exact new_at' _ _ hq.symm
  have hs1 : W1.heap.size = q + 1 := by rw [← hW1]; simp; omega
  have hsz : T.size = t.length := by rw [hT, ba_size]
  have hd0 : decide (4194304 < (T.size : Int)) = false := decide_eq_false (by omega)
  have hd0' : decide (4194304 < T.size) = false := decide_eq_false (by omega)
  obtain ⟨Z, hZ⟩ : ∃ Z : ByteArray, (⟨(Lib.trimPrefix T.data.toList (⟨#[116, 114, 97, 99, 101, 32]⟩ : ByteArray).data.toList).toArray⟩ : ByteArray) = Z := ⟨_, rfl⟩
  obtain ⟨hp, hhp⟩ : ∃ b, Lib.hasPrefix T.data.toList (⟨#[116, 114, 97, 99, 101, 32]⟩ : ByteArray).data.toList = b := ⟨_, rfl⟩
  have hCP := fun W => Any.strings_CutPrefix cutPre T ⟨#[116, 114, 97, 99, 101, 32]⟩ W
  rw [hZ, hhp] at hCP
  have HCP := Lib.hid hCP
  have htt : T.data.toList = t := by rw [hT]; simp
  obtain ⟨r, hr⟩ : ∃ r, Lib.trimPrefix t wTrc = r := ⟨_, rfl⟩
  have HZ : Hid (Z = BA r) := Lib.hid (by rw [← hZ, ← hr, htt]; rfl)
  have HHP : Hid (Lib.hasPrefix t wTrc = hp) := Lib.hid (by rw [← hhp, htt]; rfl)
  have hrl : r.length ≤ t.length := by
    rw [← hr]
    unfold Lib.trimPrefix
    split
    · rw [List.length_drop]; omega
    · exact Nat.le_refl _
  have HRR := Lib.hid hr
  have HRL := Lib.hid hrl
  have HTL := Lib.hid htl
  have HSZ := Lib.hid hsz
  have HTT := Lib.hid hT
  have HR1 := Lib.hid hr1
  have HB1 := Lib.hid hb1
  have HS1 := Lib.hid hs1
  have HW1 := Lib.hid hW1
  have HQ := Lib.hid hq
  have hBq : B0 ≤ q := by omega
  have HE1 := Lib.hid (he.below hb1 hB)
  have HT1 := Lib.hid (htb.below hb1 hB)
  have q0 : W1.cell? ⟨q, 0, none⟩ = some (.slice none 0 0) := by rw [cell_of_row _ _ _ _ _ _ hr1]; rfl
  have HQF : Hid (∀ wx, Below (q + 1) W1 wx → wx.cell? ⟨q, 0, none⟩ = some (.slice none 0 0) ∧ wx.frozen? ⟨q, 0, none⟩ = false) := Lib.hid fun wx hb => ⟨below_c hb (by omega) q0, below_z hb (by omega) (by simp only [World.frozen?, hr1]; simp)⟩
  have HBAD : Hid (∀ wx, Below (q + 1) W1 wx → (∀ ts, ExpT ts t → False) → TpsPost w t (.returned (.tuple #[.agg #[.slice none 0 0], .int .i64 6])) (wx.setCell ⟨q, 0, none⟩ (.slice none 0 0))) := Lib.hid fun wx hb hx =>
    ⟨_, 6, [], rfl, claims_nilP _ _, (hb1.trans (hb.mono (by omega))).setCell (by show w.heap.size ≤ q; omega) _, Lib.hid (.inr ⟨rfl, rfl⟩), Lib.hid fun ts h => (hx ts h).elim⟩
  clear hb1 hr1 hW1 hq hsz hZ hhp hCP htt hr hrl htl hT he htb hs1 hB q0
  go_enter Tryz.func9, Tryz.ntmps9
  go_upto_region 1 with fail
  try rw [HW1.out, HQ.out]
  clear HW1
  go_wp2_with fail
  refine (HCP.out _).mono ?_
  rintro e w2 ⟨rfl, hww⟩
  subst hww
  rcases bool2 hp with rfl | rfl
  case inr =>
    obtain ⟨q0, qf⟩ := HQF.out w2 (Below.refl _ _)
    have HF := Lib.hid (HBAD.out w2 (Below.refl _ _) fun ts h => by have := (exp_pre h).1; rw [HHP.out] at this; cases this)
    clear HQF HBAD
    go_wp2_with fail
    refine bodyPost_ret (v := .tuple #[.agg #[.slice none 0 0], .int .i64 6]) (by simp [results, Tryz.results9, go_sem, set_eq q0]) rfl ?_
    exact HF.out
  obtain ⟨R, hR⟩ : ∃ R, q + 1 = R := ⟨_, rfl⟩
  obtain ⟨W2, hW2⟩ : ∃ W, w2.alloc (.cells #[.string Z, .bool false] 65) = W := ⟨_, rfl⟩
  have hb2 : Below w2.heap.size w2 W2 := by rw [← hW2]; exact (Below.refl _ _).alloc (Nat.le_refl _) _
  have hr2 : W2.heap[R]? = some (.cells #[.string Z, .bool false] 65) := by rw [← hW2]; exact new_at' _ _ (by have := HS1.out; omega)
  have HRD2 : Hid (RdB W2 R r false) := Lib.hid ⟨by rw [cell_of_row _ _ _ _ _ _ hr2, ← HZ.out]; rfl, by rw [cell_of_row _ _ _ _ _ _ hr2]; rfl, fun o => by simp only [World.frozen?, hr2]; simp⟩
  have hs2 : W2.heap.size = R + 1 := by rw [← hW2]; have := HS1.out; simp; omega
  have HB2 : Hid (Below (q + 1) w2 W2) := Lib.hid (hb2.mono (by have := HS1.out; omega))
  have HE2 := Lib.hid (HE1.out.below HB2.out (by omega))
  have HT2 := Lib.hid (HT1.out.below HB2.out (by omega))
  have hBR : B0 ≤ R := by omega
  have HNM := Lib.hid (rdnum_gen B0 R r false W2 HRD2.out (by have := HRL.out; have := HTL.out; omega) HE2.out (by omega))
  have HW2 := Lib.hid hW2
  have HRE := Lib.hid hR
  have HS2 := Lib.hid hs2
  clear hb2 hr2 hW2 hR hs2
  go_upto_region 7 with fail
  try rw [HW2.out, HS1.out, HRE.out]
  clear HW2
  go_wp2_with fail
  refine HNM.out.mono ?_
  rintro e w3 ⟨n, t1, b1, rfl, HST, hr3, hk3⟩
  obtain ⟨D, hD⟩ : ∃ D, w3.heap.size = D := ⟨_, rfl⟩
  have hRD : R < D := by rw [← hD]; exact block_lt hr3.c0
  obtain ⟨W4, hW4⟩ : ∃ W, w3.alloc (.cells #[.slice none 0 0] 24) = W := ⟨_, rfl⟩
  have hb4 : Below w3.heap.size w3 W4 := by rw [← hW4]; exact (Below.refl _ _).alloc (Nat.le_refl _) _
  have hr4 : W4.heap[D]? = some (.cells #[.slice none 0 0] 24) := by rw [← hW4]; exact new_at' _ _ hD.symm
  have HO4 : Hid (TrP W4 0 D (.slice none 0 0) []) := Lib.hid ⟨by rw [cell_of_row _ _ _ _ _ _ hr4]; rfl, fun o => by simp only [World.frozen?, hr4]; simp, [], World.ownsRow_nil _ _ _ _, rfl, by simp⟩
  have HRD4 := Lib.hid (hr3.below hb4)
  have hkk : KpR R W2 W4 := kpr_trans hk3 (kpr_below hb4)
  have HB4 : Hid (Below R W2 W4) := Lib.hid (kpr_b hkk (Nat.le_refl _) (by have := HS2.out; omega))
  have HW4 := Lib.hid hW4
  have HDD := Lib.hid hD
  have HC0 : Hid (ClmsR t1 b1 [] t1 b1) := Lib.hid .nil
  obtain ⟨N, hN⟩ : ∃ N, t.length = N := ⟨_, rfl⟩
  have HNN := Lib.hid hN
  have hNb : N ≤ 80000 := by have := HTL.out; omega
  have HT1L : Hid (t1.length ≤ N) := Lib.hid (by have := HST.out.le; have := HRL.out; omega)
  have HG0 : Hid (1 ≤ N + 2 ∧ (b1 = false → t1.length + 2 ≤ N + 2 ∧ 0 + t1.length ≤ N)) := Lib.hid (by have := HT1L.out; exact ⟨by omega, fun _ => by omega⟩)
  have HI5 := Lib.hid (show (Tryz.prog.info? 45).map (fun i => (i.zero, i.size, i.bytes)) = some (some (.agg #[.slice none 0 0, .int .i64 0, .int .i64 0, .slice none 0 0, .int .i64 0]), 5, 72) by kernel_rfl)
  clear hb4 hr4 hr3 hk3 hkk hW4 hD hN HNM
  go_upto_region 9 with fail
  try rw [HW4.out, HDD.out]
  clear HW4
  go_wp2_with fail
  go_loopg [9] (N + 2) (fun gg u9 wx => ∃ (k : Nat) (oa : Option Addr) (oc : Nat) (cs : List Claim) (t2 : Bts) (b2 : Bool), u9 = .int .i64 k ∧ Hid (k = cs.length) ∧ Hid (k ≤ n.toNat) ∧ k ≤ N + 1 ∧ Hid (RdB wx R t2 b2) ∧ Hid (TrP wx 0 D (.slice oa k oc) cs) ∧ Hid (Below R W2 wx) ∧ Hid (ClmsR t1 b1 cs t2 b2) ∧ Hid (1 ≤ gg ∧ (b2 = false → t2.length + 2 ≤ gg ∧ k + t2.length ≤ N)))
  case atStart => exact ⟨0, none, 0, [], t1, b1, rfl, Lib.hid rfl, Lib.hid (Nat.zero_le _), by omega, HRD4, HO4, HB4, HC0, HG0⟩
  case round =>
  clear HRD4 HO4 HB4 HC0 HG0
  obtain ⟨k, oa, oc, cs, t2, b2, rfl, HKC, HKT, hkN, HRD, HO, HB, HCS, HGG⟩ := hrel
  have c1 := HRD.out.c1
  have HBQ : Hid (Below (q + 1) w2 wr) := Lib.hid (HB2.out.trans (HB.out.mono (by have := HRE.out; omega)))
  have HEND : Hid (b2 = true ∨ k = n.toNat → ∀ ts, ExpT ts t → b2 = false ∧ cs = ts) := Lib.hid fun hx ts h => by
    obtain ⟨e1, e2, e3⟩ := exp_all h (by rw [HRR.out]; exact HST.out) HCS.out (by rw [← HKC.out]; exact HKT.out)
    refine ⟨e2, ?_⟩
    rcases hx with hx | hx
    · rw [e2] at hx; cases hx
    · rw [e3, ← HKC.out, hx, e1, List.take_length]
  by_cases hk : (k : Int) < n
  case neg =>
    have hdk : decide ((k : Int) < n) = false := decide_eq_false hk
    have HEN := Lib.hid (HEND.out (.inr (by have := HKT.out; omega)))
    clear HEND hk
    rcases bool2 b2 with rfl | rfl
    · obtain ⟨q0, qf⟩ := HQF.out wr HBQ.out
      have HF := Lib.hid (HBAD.out wr HBQ.out fun ts h => by cases (HEN.out ts h).1)
      clear HQF HBAD HRD HO HB HCS HBQ HEN HGG
      go_wp2_with fail
      refine bodyPost_ret (v := .tuple #[.agg #[.slice none 0 0], .int .i64 6]) (by simp [results, Tryz.results9, go_sem, set_eq q0]) rfl ?_
      exact HF.out
    · have HZZ := Lib.hid (nz_zero HCS.out.nz)
      have HLS : Hid (lineS cs ≤ t.length) := Lib.hid (by have h1 := HCS.out.len rfl; have h2 := HST.out.le; have h3 := HRL.out; omega)
      have HNU : Hid (∀ c ∈ cs, NumC c) := Lib.hid (HCS.out.num (by have := HT1L.out; omega) rfl)
      have HCLM := Lib.hid (HO.out.claims (by rw [← HKC.out]; omega))
      have k0 : wr.cell? ⟨D, 0, none⟩ = some (.slice oa k oc) := HO.out.1
      have HPR := Lib.hid (tprint_any B0 (.slice oa k oc) cs wr (HCLM.out.mono fun _ _ => trivial) (fun _ => trc_lenS HNU.out (by have := HLS.out; have := HTL.out; omega)) (fun c hc => by have h1 := lineS_mem hc; have h2 := HLS.out; have h3 := HTL.out; omega) HNU.out (by have h1 := lineS_len cs; have h2 := HLS.out; have h3 := HTL.out; omega) (HT2.out.on (HB.out.mono hBR)) (by have := HB.out.size; have := HS2.out; omega))
      have HBW : Hid (R ≤ wr.heap.size ∧ D < wr.heap.size) := Lib.hid ⟨by have := HB.out.size; have := HS2.out; omega, block_lt HO.out.1⟩
      clear HRD HO HCS HGG
      go_wp2_with fail
      refine HPR.out.mono ?_
      rintro e w6 ⟨S, rfl, HSS, hb6⟩
      rw [HZZ.out] at HSS
      have hS : S = BA (trcT cs) := HSS.out
      have HBQ6 : Hid (Below (q + 1) w2 w6) := Lib.hid (HBQ.out.trans (hb6.mono (by have := HBW.out.1; have := HRE.out; omega)))
      have HCL6 := Lib.hid (HCLM.out.below hb6)
      have k6 := below_c hb6 HBW.out.2 k0
      obtain ⟨q0, qf⟩ := HQF.out w6 HBQ6.out
      simp only [HZZ.out, Bool.false_eq_true, if_false]
      by_cases heq : trcT cs = t
      · have hne : (S.toList == T.toList) = true := by rw [hS, HTT.out, heq]; simp
        have HF : Hid (TpsPost w t (.returned (.tuple #[.agg #[.slice oa k oc], .int .i64 0])) (w6.setCell ⟨q, 0, none⟩ (.slice oa k oc))) := Lib.hid ⟨_, 0, cs, rfl, (HCL6.out.move fun b hb _ => Below.heap_setCell _ _ _ _ (show b ≠ q by have := HRE.out; omega)).mono fun _ _ => trivial, (HB1.out.trans (HBQ6.out.mono (by have := HQ.out; omega))).setCell (by show w.heap.size ≤ q; have := HQ.out; omega) _, Lib.hid (.inl ⟨rfl, heq, HZZ.out, HNU.out, HLS.out⟩), Lib.hid fun ts h => ⟨rfl, (HEN.out ts h).2⟩⟩
        have hST : S = T := by rw [hS, HTT.out, heq]
        clear heq hb6 HSS hS HQF HBAD HEN HPR
        go_wp2_with fail
        refine bodyPost_ret (v := .tuple #[.agg #[.slice oa k oc], .int .i64 0]) (by simp [results, Tryz.results9, go_sem, set_eq q0]) rfl ?_
        exact HF.out
      · have hne : (S.toList == T.toList) = false := by
          rw [hS, HTT.out, Lib.toList_data, Lib.toList_data]
          simpa using heq
        have HF := Lib.hid (HBAD.out w6 HBQ6.out fun ts h => heq (by rw [(HEN.out ts h).2]; exact h.2.2.2.2.symm))
        clear heq hb6 HSS hS HQF HBAD HEN HPR
        go_wp2_with fail
        refine bodyPost_ret (v := .tuple #[.agg #[.slice none 0 0], .int .i64 6]) (by simp [results, Tryz.results9, go_sem, set_eq q0]) rfl ?_
        exact HF.out
  have hdk : decide ((k : Int) < n) = true := decide_eq_true hk
  rcases bool2 b2 with rfl | rfl
  · have HEN := Lib.hid (HEND.out (.inl rfl))
    clear HEND hk
    obtain ⟨q0, qf⟩ := HQF.out wr HBQ.out
    have HF := Lib.hid (HBAD.out wr HBQ.out fun ts h => by cases (HEN.out ts h).1)
    clear HQF HBAD HRD HO HB HCS HBQ HEN
    go_wp2_with fail
    refine bodyPost_ret (v := .tuple #[.agg #[.slice none 0 0], .int .i64 6]) (by simp [results, Tryz.results9, go_sem, set_eq q0]) rfl ?_
    exact HF.out
  have HKK : Hid (k + 1 ≤ n.toNat) := Lib.hid (by omega)
  have HG7 := Lib.hid (HGG.out.2 rfl)
  have hT2 : t2.length ≤ 4194304 := by have := HG7.out; omega
  have HCR := Lib.hid (rdclaim_gen B0 R t2 false wr.drew ⟨HRD.out.c0, HRD.out.c1, HRD.out.fz⟩ hT2 (HE2.out.on (HB.out.mono hBR).drew) hBR)
  obtain ⟨W5, hW5⟩ : ∃ W, W = wr := ⟨_, rfl⟩
  subst hW5
  have k0 : W5.drew.cell? ⟨D, 0, none⟩ = some (.slice oa k oc) := HO.out.1
  have hDl := block_lt HO.out.1
  clear HEND HGG hk hT2
  go_upto_region 12 with fail
  refine wp_region_held_drew (S := fun _ => True) (by kernel_rfl) (by trivial) (fun hHeld => ?_)
  refine wpAnyH_take (i := 0) (v := ?_) rfl (by kernel_rfl) (by kernel_rfl) (by kernel_rfl) (fun _ _ _ h => h) (Or.inl ⟨by rfl, ?_⟩) (by assumption) ?_
  rotate_left
  · intro w hSw
    try dsimp only at hSw
    go_simp
    try with_reducible rfl
  try simp only [Act.put, List.getElem_toArray, List.getElem_cons_succ, List.getElem_cons_zero, List.setIfInBounds_toArray, List.set_cons_zero, List.set_cons_succ]
  refine wpAnyH_take (i := 2) (v := ?_) rfl (by kernel_rfl) (by kernel_rfl) (by kernel_rfl) (fun _ _ _ h => h) (Or.inl ⟨by rfl, ?_⟩) (by assumption) ?_
  rotate_left
  · intro w hSw
    try dsimp only at hSw
    go_simp
    try with_reducible rfl
  try simp only [Act.put, List.getElem_toArray, List.getElem_cons_succ, List.getElem_cons_zero, List.setIfInBounds_toArray, List.set_cons_zero, List.set_cons_succ]
  refine wpAnyH_ready (rs := [1, 3]) (by kernel_rfl) (by simp) ?_
  refine AllReadyH.cons rfl (fun K hK => ?_) (AllReadyH.cons rfl (fun K hK => ?_) AllReadyH.nil)
  · go_simp
    refine hK.out _ _ trivial (fun _ => ?_)
    clear hK K
    try simp only [Act.put, List.getElem_toArray, List.getElem_cons_succ, List.getElem_cons_zero, List.setIfInBounds_toArray, List.set_cons_zero, List.set_cons_succ]
    refine wpAnyH_ready (rs := [3]) (by kernel_rfl) (by simp) ?_
    refine AllReadyH.cons rfl (fun K hK => ?_) AllReadyH.nil
    go_simp
    go_at_call 25
    (with_reducible refine (HCR.out).mono ?_)
    rintro e w8 ⟨c, t3, b3, cv, kv, rfl, hcv, HCM, hr8, hk8⟩
    obtain ⟨da, dn, dc, rfl, _, _⟩ := (show Clss (fun b => W5.drew.heap.size ≤ b) w8 cv c.cls from hcv.1.1).form'
    obtain ⟨ea, en, ec, rfl, _, _⟩ := (show Ints (fun b => W5.drew.heap.size ≤ b) w8 kv c.kids from hcv.1.2.2.2.1).form'
    have hk8w : KpR R W5 w8 := ⟨hk8.os, hk8.tape, hk8.output, hk8.size, hk8.block⟩
    have HO8 := Lib.hid (HO.out.kp hRD hk8w)
    have HRD8 := Lib.hid hr8
    have HB8 : Hid (Below R W2 w8) := Lib.hid (HB.out.trans (kpr_b hk8w (Nat.le_refl _) (block_lt HRD.out.c0)))
    have HCV : Hid (ClaimV (fun b => W5.heap.size ≤ b) w8 (.slice da dn dc, .int .i64 c.rule, .int .i64 c.lit, .slice ea en ec, .int .i64 c.count) c) := Lib.hid hcv
    have k0 : w8.cell? ⟨D, 0, none⟩ = some (.slice oa k oc) := HO8.out.1
    have HZ8 : Hid (W5.heap.size ≤ w8.heap.size) := Lib.hid hk8.size
    clear hcv hr8 hk8 hk8w
    go_wp2_with fail
    refine hK.out _ _ trivial (fun _ => ?_)
    clear hK K
    try simp only [Act.put, List.getElem_toArray, List.getElem_cons_succ, List.getElem_cons_zero, List.setIfInBounds_toArray, List.set_cons_zero, List.set_cons_succ]
    refine wpAnyH_ready (rs := [4]) (by kernel_rfl) (by simp) ?_
    refine AllReadyH.cons rfl (fun K hK => ?_) AllReadyH.nil
    go_simp
    refine hK.out _ _ trivial (fun _ => ?_)
    clear hK K
    try simp only [Act.put, List.getElem_toArray, List.getElem_cons_succ, List.getElem_cons_zero, List.setIfInBounds_toArray, List.set_cons_zero, List.set_cons_succ]
    refine wpAnyH_ready (rs := [5]) (by kernel_rfl) (by simp) ?_
    refine AllReadyH.cons rfl (fun K hK => ?_) AllReadyH.nil
    obtain ⟨W8, hW8⟩ : ∃ W, w8.alloc (.cells #[.slice da dn dc, .int .i64 c.rule, .int .i64 c.lit, .slice ea en ec, .int .i64 c.count] 45) = W := ⟨_, rfl⟩
    have hb9 : Below w8.heap.size w8 W8 := by rw [← hW8]; exact (Below.refl _ _).alloc (Nat.le_refl _) _
    have HO9 := Lib.hid (HO8.out.below (Nat.zero_le _) hb9)
    have HRD9 := Lib.hid (HRD8.out.below hb9)
    obtain ⟨us, ho1, ho2, ho3⟩ := HO9.out.2.2
    rw [← HKC.out] at ho1
    have hnr : W8.heap[w8.heap.size]? = some (.cells #[.slice da dn dc, .int .i64 c.rule, .int .i64 c.lit, .slice ea en ec, .int .i64 c.count] 45) := by rw [← hW8]; exact new_at _ _
    have n0 : W8.cell? ⟨w8.heap.size, 0, none⟩ = some (.slice da dn dc) := by rw [cell_of_row _ _ _ _ _ _ hnr]; rfl
    have n1 : W8.cell? ⟨w8.heap.size, 1, none⟩ = some (.int .i64 c.rule) := by rw [cell_of_row _ _ _ _ _ _ hnr]; rfl
    have n2 : W8.cell? ⟨w8.heap.size, 2, none⟩ = some (.int .i64 c.lit) := by rw [cell_of_row _ _ _ _ _ _ hnr]; rfl
    have n3 : W8.cell? ⟨w8.heap.size, 3, none⟩ = some (.slice ea en ec) := by rw [cell_of_row _ _ _ _ _ _ hnr]; rfl
    have n4 : W8.cell? ⟨w8.heap.size, 4, none⟩ = some (.int .i64 c.count) := by rw [cell_of_row _ _ _ _ _ _ hnr]; rfl
    have HOW : Hid (∀ b, (Value.slice oa k oc).ownBlock = some b → b < W5.heap.size) := Lib.hid fun b e => by obtain ⟨us', h1, _⟩ := HO.out.2.2; exact (h1.lt b e).2
    have HCN : Hid (ClaimV (fun b => (b < 0 ∨ D + 1 ≤ b) ∧ (Value.slice oa k oc).ownBlock ≠ some b) W8 (.slice da dn dc, .int .i64 c.rule, .int .i64 c.lit, .slice ea en ec, .int .i64 c.count) c) := Lib.hid ((HCV.out.below hb9).mono fun b hb => ⟨.inr (by omega), fun e => by have := HOW.out b e; omega⟩)
    have HO3 := Lib.hid ho3
    have HO21 := Lib.hid ho2
    have hbb : D + 1 ≤ W8.heap.size := by have h1 := hb9.size; have h2 := HZ8.out; omega
    have HB9 : Hid (Below R W2 W8) := Lib.hid (HB8.out.trans (hb9.mono (by have h2 := HZ8.out; omega)))
    have HO1 := Lib.hid ho1
    try rw [hW8]
    clear ho2 ho3 hb9 hW8 hnr
    refine step_push5 rfl _ _ 22 rfl 45 (.agg #[.slice none 0 0, .int .i64 0, .int .i64 0, .slice none 0 0, .int .i64 0]) 72 Tryz.underlying22 HI5.out rfl (D + 1) (.slice oa k oc) k (cells5 us) w8.heap.size (.slice da dn dc) (.int .i64 c.rule) (.int .i64 c.lit) (.slice ea en ec) (.int .i64 c.count) rfl rfl n0 n1 n2 n3 n4 ho1 rfl rfl rfl rfl rfl (by omega) (by omega) hbb ?_
    intro g9 cap9 w9 hown9 hg9 hat9
    have hne9 : some D ≠ (Value.slice oa k oc).ownBlock := fun e => by have := (HO1.out.lt _ e.symm).1; omega
    have k0 := grown_c2 hg9 hne9 HO9.out.1
    have kf : w9.frozen? ⟨D, 0, none⟩ = false := (World.frozen?_of_block (a := ⟨D, 0, none⟩) (hg9.block D (block_lt HO9.out.1) hne9)).trans (HO9.out.2.1 0)
    have HO10 : Hid (TrP (w9.setCell ⟨D, 0, none⟩ (.slice (some ⟨g9, 0, none⟩) (k + 1) cap9)) 0 D (.slice (some ⟨g9, 0, none⟩) (k + 1) cap9) (cs ++ [c])) := Lib.hid (HO9.out.push (Nat.zero_le _) HKC.out HO1.out HO21.out HO3.out HCN.out hown9 hg9 hat9)
    have HB10 : Hid (Below R W2 (w9.setCell ⟨D, 0, none⟩ (.slice (some ⟨g9, 0, none⟩) (k + 1) cap9))) := Lib.hid ((HB9.out.grown hg9 (by omega) (fun b e => by have := (HO1.out.lt b e).1; omega)).setCell (show R ≤ D by omega) _)
    have HRD10 : Hid (RdB (w9.setCell ⟨D, 0, none⟩ (.slice (some ⟨g9, 0, none⟩) (k + 1) cap9)) R t3 b3) := Lib.hid (HRD9.out.same ((Below.heap_setCell _ _ _ _ (show R ≠ D by omega)).trans (hg9.block R (block_lt HRD9.out.c0) (fun e => by have := (HO1.out.lt _ e.symm).1; omega))))
    clear hown9 hg9 hat9 ho1
    refine hK.out _ _ trivial (fun _ => ?_)
    clear hK K
    try simp only [Act.put, List.getElem_toArray, List.getElem_cons_succ, List.getElem_cons_zero, List.setIfInBounds_toArray, List.set_cons_zero, List.set_cons_succ]
    refine wpAnyH_take (i := 6) (v := ?_) rfl (by kernel_rfl) (by kernel_rfl) (by kernel_rfl) (fun _ _ _ h => h) (Or.inl ⟨by rfl, ?_⟩) (by assumption) ?_
    rotate_left
    · intro w hSw
      try dsimp only at hSw
      go_simp
      try with_reducible rfl
    try simp only [Act.put, List.getElem_toArray, List.getElem_cons_succ, List.getElem_cons_zero, List.setIfInBounds_toArray, List.set_cons_zero, List.set_cons_succ]
    refine wpAnyH_ready (rs := [7]) (by kernel_rfl) (by simp) ?_
    refine AllReadyH.cons rfl (fun K hK => ?_) AllReadyH.nil
    go_simp
    refine hK.out _ _ trivial (fun _ => ?_)
    clear hK K
    try simp only [Act.put, List.getElem_toArray, List.getElem_cons_succ, List.getElem_cons_zero, List.setIfInBounds_toArray, List.set_cons_zero, List.set_cons_succ]
    refine wpAnyH_done (by kernel_rfl) ?_ _
    have HCN2 : Hid (ClmsR t1 b1 (cs ++ [c]) t3 b3) := Lib.hid (.snoc HCS.out HCM.out)
    have HGN : Hid (1 ≤ gk - 1 ∧ (b3 = false → t3.length + 2 ≤ gk - 1 ∧ k + 1 + t3.length ≤ N)) := Lib.hid (by
      have h1 := HG7.out
      refine ⟨by omega, fun hb => ?_⟩
      have h2 := HCM.out.len hb
      have h3 := line_len c
      omega)
    have HGP : Hid (1 ≤ gk) := Lib.hid (by have := HG7.out; omega)
    have hkN2 : k + 1 ≤ N + 1 := by have := HG7.out; omega
    go_wp2_with fail
    go_roundg (gk - 1)
    case measure => have := HGP.out; omega
    case rel => exact ⟨k + 1, _, cap9, cs ++ [c], t3, b3, by go_num, Lib.hid (by rw [HKC.out]; simp), HKK, hkN2, HRD10, HO10, HB10, HCN2, HGN⟩
  · go_simp
    go_at_call 25
    (with_reducible refine (HCR.out).mono ?_)
    rintro e w8 ⟨c, t3, b3, cv, kv, rfl, hcv, HCM, hr8, hk8⟩
    obtain ⟨da, dn, dc, rfl, _, _⟩ := (show Clss (fun b => W5.drew.heap.size ≤ b) w8 cv c.cls from hcv.1.1).form'
    obtain ⟨ea, en, ec, rfl, _, _⟩ := (show Ints (fun b => W5.drew.heap.size ≤ b) w8 kv c.kids from hcv.1.2.2.2.1).form'
    have hk8w : KpR R W5 w8 := ⟨hk8.os, hk8.tape, hk8.output, hk8.size, hk8.block⟩
    have HO8 := Lib.hid (HO.out.kp hRD hk8w)
    have HRD8 := Lib.hid hr8
    have HB8 : Hid (Below R W2 w8) := Lib.hid (HB.out.trans (kpr_b hk8w (Nat.le_refl _) (block_lt HRD.out.c0)))
    have HCV : Hid (ClaimV (fun b => W5.heap.size ≤ b) w8 (.slice da dn dc, .int .i64 c.rule, .int .i64 c.lit, .slice ea en ec, .int .i64 c.count) c) := Lib.hid hcv
    have k0 : w8.cell? ⟨D, 0, none⟩ = some (.slice oa k oc) := HO8.out.1
    have HZ8 : Hid (W5.heap.size ≤ w8.heap.size) := Lib.hid hk8.size
    clear hcv hr8 hk8 hk8w
    go_wp2_with fail
    refine hK.out _ _ trivial (fun _ => ?_)
    clear hK K
    try simp only [Act.put, List.getElem_toArray, List.getElem_cons_succ, List.getElem_cons_zero, List.setIfInBounds_toArray, List.set_cons_zero, List.set_cons_succ]
    refine wpAnyH_ready (rs := [1, 4]) (by kernel_rfl) (by simp) ?_
    refine AllReadyH.cons rfl (fun K hK => ?_) (AllReadyH.cons rfl (fun K hK => ?_) AllReadyH.nil)
    · go_simp
      refine hK.out _ _ trivial (fun _ => ?_)
      clear hK K
      try simp only [Act.put, List.getElem_toArray, List.getElem_cons_succ, List.getElem_cons_zero, List.setIfInBounds_toArray, List.set_cons_zero, List.set_cons_succ]
      refine wpAnyH_ready (rs := [4]) (by kernel_rfl) (by simp) ?_
      refine AllReadyH.cons rfl (fun K hK => ?_) AllReadyH.nil
      go_simp
      refine hK.out _ _ trivial (fun _ => ?_)
      clear hK K
      try simp only [Act.put, List.getElem_toArray, List.getElem_cons_succ, List.getElem_cons_zero, List.setIfInBounds_toArray, List.set_cons_zero, List.set_cons_succ]
      refine wpAnyH_ready (rs := [5]) (by kernel_rfl) (by simp) ?_
      refine AllReadyH.cons rfl (fun K hK => ?_) AllReadyH.nil
      obtain ⟨W8, hW8⟩ : ∃ W, w8.alloc (.cells #[.slice da dn dc, .int .i64 c.rule, .int .i64 c.lit, .slice ea en ec, .int .i64 c.count] 45) = W := ⟨_, rfl⟩
      have hb9 : Below w8.heap.size w8 W8 := by rw [← hW8]; exact (Below.refl _ _).alloc (Nat.le_refl _) _
      have HO9 := Lib.hid (HO8.out.below (Nat.zero_le _) hb9)
      have HRD9 := Lib.hid (HRD8.out.below hb9)
      obtain ⟨us, ho1, ho2, ho3⟩ := HO9.out.2.2
      rw [← HKC.out] at ho1
      have hnr : W8.heap[w8.heap.size]? = some (.cells #[.slice da dn dc, .int .i64 c.rule, .int .i64 c.lit, .slice ea en ec, .int .i64 c.count] 45) := by rw [← hW8]; exact new_at _ _
      have n0 : W8.cell? ⟨w8.heap.size, 0, none⟩ = some (.slice da dn dc) := by rw [cell_of_row _ _ _ _ _ _ hnr]; rfl
      have n1 : W8.cell? ⟨w8.heap.size, 1, none⟩ = some (.int .i64 c.rule) := by rw [cell_of_row _ _ _ _ _ _ hnr]; rfl
      have n2 : W8.cell? ⟨w8.heap.size, 2, none⟩ = some (.int .i64 c.lit) := by rw [cell_of_row _ _ _ _ _ _ hnr]; rfl
      have n3 : W8.cell? ⟨w8.heap.size, 3, none⟩ = some (.slice ea en ec) := by rw [cell_of_row _ _ _ _ _ _ hnr]; rfl
      have n4 : W8.cell? ⟨w8.heap.size, 4, none⟩ = some (.int .i64 c.count) := by rw [cell_of_row _ _ _ _ _ _ hnr]; rfl
      have HOW : Hid (∀ b, (Value.slice oa k oc).ownBlock = some b → b < W5.heap.size) := Lib.hid fun b e => by obtain ⟨us', h1, _⟩ := HO.out.2.2; exact (h1.lt b e).2
      have HCN : Hid (ClaimV (fun b => (b < 0 ∨ D + 1 ≤ b) ∧ (Value.slice oa k oc).ownBlock ≠ some b) W8 (.slice da dn dc, .int .i64 c.rule, .int .i64 c.lit, .slice ea en ec, .int .i64 c.count) c) := Lib.hid ((HCV.out.below hb9).mono fun b hb => ⟨.inr (by omega), fun e => by have := HOW.out b e; omega⟩)
      have HO3 := Lib.hid ho3
      have HO21 := Lib.hid ho2
      have hbb : D + 1 ≤ W8.heap.size := by have h1 := hb9.size; have h2 := HZ8.out; omega
      have HB9 : Hid (Below R W2 W8) := Lib.hid (HB8.out.trans (hb9.mono (by have h2 := HZ8.out; omega)))
      have HO1 := Lib.hid ho1
      try rw [hW8]
      clear ho2 ho3 hb9 hW8 hnr
      refine step_push5 rfl _ _ 22 rfl 45 (.agg #[.slice none 0 0, .int .i64 0, .int .i64 0, .slice none 0 0, .int .i64 0]) 72 Tryz.underlying22 HI5.out rfl (D + 1) (.slice oa k oc) k (cells5 us) w8.heap.size (.slice da dn dc) (.int .i64 c.rule) (.int .i64 c.lit) (.slice ea en ec) (.int .i64 c.count) rfl rfl n0 n1 n2 n3 n4 ho1 rfl rfl rfl rfl rfl (by omega) (by omega) hbb ?_
      intro g9 cap9 w9 hown9 hg9 hat9
      have hne9 : some D ≠ (Value.slice oa k oc).ownBlock := fun e => by have := (HO1.out.lt _ e.symm).1; omega
      have k0 := grown_c2 hg9 hne9 HO9.out.1
      have kf : w9.frozen? ⟨D, 0, none⟩ = false := (World.frozen?_of_block (a := ⟨D, 0, none⟩) (hg9.block D (block_lt HO9.out.1) hne9)).trans (HO9.out.2.1 0)
      have HO10 : Hid (TrP (w9.setCell ⟨D, 0, none⟩ (.slice (some ⟨g9, 0, none⟩) (k + 1) cap9)) 0 D (.slice (some ⟨g9, 0, none⟩) (k + 1) cap9) (cs ++ [c])) := Lib.hid (HO9.out.push (Nat.zero_le _) HKC.out HO1.out HO21.out HO3.out HCN.out hown9 hg9 hat9)
      have HB10 : Hid (Below R W2 (w9.setCell ⟨D, 0, none⟩ (.slice (some ⟨g9, 0, none⟩) (k + 1) cap9))) := Lib.hid ((HB9.out.grown hg9 (by omega) (fun b e => by have := (HO1.out.lt b e).1; omega)).setCell (show R ≤ D by omega) _)
      have HRD10 : Hid (RdB (w9.setCell ⟨D, 0, none⟩ (.slice (some ⟨g9, 0, none⟩) (k + 1) cap9)) R t3 b3) := Lib.hid (HRD9.out.same ((Below.heap_setCell _ _ _ _ (show R ≠ D by omega)).trans (hg9.block R (block_lt HRD9.out.c0) (fun e => by have := (HO1.out.lt _ e.symm).1; omega))))
      clear hown9 hg9 hat9 ho1
      refine hK.out _ _ trivial (fun _ => ?_)
      clear hK K
      try simp only [Act.put, List.getElem_toArray, List.getElem_cons_succ, List.getElem_cons_zero, List.setIfInBounds_toArray, List.set_cons_zero, List.set_cons_succ]
      refine wpAnyH_take (i := 6) (v := ?_) rfl (by kernel_rfl) (by kernel_rfl) (by kernel_rfl) (fun _ _ _ h => h) (Or.inl ⟨by rfl, ?_⟩) (by assumption) ?_
      rotate_left
      · intro w hSw
        try dsimp only at hSw
        go_simp
        try with_reducible rfl
      try simp only [Act.put, List.getElem_toArray, List.getElem_cons_succ, List.getElem_cons_zero, List.setIfInBounds_toArray, List.set_cons_zero, List.set_cons_succ]
      refine wpAnyH_ready (rs := [7]) (by kernel_rfl) (by simp) ?_
      refine AllReadyH.cons rfl (fun K hK => ?_) AllReadyH.nil
      go_simp
      refine hK.out _ _ trivial (fun _ => ?_)
      clear hK K
      try simp only [Act.put, List.getElem_toArray, List.getElem_cons_succ, List.getElem_cons_zero, List.setIfInBounds_toArray, List.set_cons_zero, List.set_cons_succ]
      refine wpAnyH_done (by kernel_rfl) ?_ _
      have HCN2 : Hid (ClmsR t1 b1 (cs ++ [c]) t3 b3) := Lib.hid (.snoc HCS.out HCM.out)
      have HGN : Hid (1 ≤ gk - 1 ∧ (b3 = false → t3.length + 2 ≤ gk - 1 ∧ k + 1 + t3.length ≤ N)) := Lib.hid (by
        have h1 := HG7.out
        refine ⟨by omega, fun hb => ?_⟩
        have h2 := HCM.out.len hb
        have h3 := line_len c
        omega)
      have HGP : Hid (1 ≤ gk) := Lib.hid (by have := HG7.out; omega)
      have hkN2 : k + 1 ≤ N + 1 := by have := HG7.out; omega
      go_wp2_with fail
      go_roundg (gk - 1)
      case measure => have := HGP.out; omega
      case rel => exact ⟨k + 1, _, cap9, cs ++ [c], t3, b3, by go_num, Lib.hid (by rw [HKC.out]; simp), HKK, hkN2, HRD10, HO10, HB10, HCN2, HGN⟩
    · go_simp
      refine hK.out _ _ trivial (fun _ => ?_)
      clear hK K
      try simp only [Act.put, List.getElem_toArray, List.getElem_cons_succ, List.getElem_cons_zero, List.setIfInBounds_toArray, List.set_cons_zero, List.set_cons_succ]
      refine wpAnyH_ready (rs := [1]) (by kernel_rfl) (by simp) ?_
      refine AllReadyH.cons rfl (fun K hK => ?_) AllReadyH.nil
      have ka0 := cell_alloc (.cells #[.slice da dn dc, .int .i64 c.rule, .int .i64 c.lit, .slice ea en ec, .int .i64 c.count] 45) k0
      go_simp
      refine hK.out _ _ trivial (fun _ => ?_)
      clear hK K
      try simp only [Act.put, List.getElem_toArray, List.getElem_cons_succ, List.getElem_cons_zero, List.setIfInBounds_toArray, List.set_cons_zero, List.set_cons_succ]
      refine wpAnyH_ready (rs := [5]) (by kernel_rfl) (by simp) ?_
      refine AllReadyH.cons rfl (fun K hK => ?_) AllReadyH.nil
      obtain ⟨W8, hW8⟩ : ∃ W, w8.alloc (.cells #[.slice da dn dc, .int .i64 c.rule, .int .i64 c.lit, .slice ea en ec, .int .i64 c.count] 45) = W := ⟨_, rfl⟩
      have hb9 : Below w8.heap.size w8 W8 := by rw [← hW8]; exact (Below.refl _ _).alloc (Nat.le_refl _) _
      have HO9 := Lib.hid (HO8.out.below (Nat.zero_le _) hb9)
      have HRD9 := Lib.hid (HRD8.out.below hb9)
      obtain ⟨us, ho1, ho2, ho3⟩ := HO9.out.2.2
      rw [← HKC.out] at ho1
      have hnr : W8.heap[w8.heap.size]? = some (.cells #[.slice da dn dc, .int .i64 c.rule, .int .i64 c.lit, .slice ea en ec, .int .i64 c.count] 45) := by rw [← hW8]; exact new_at _ _
      have n0 : W8.cell? ⟨w8.heap.size, 0, none⟩ = some (.slice da dn dc) := by rw [cell_of_row _ _ _ _ _ _ hnr]; rfl
      have n1 : W8.cell? ⟨w8.heap.size, 1, none⟩ = some (.int .i64 c.rule) := by rw [cell_of_row _ _ _ _ _ _ hnr]; rfl
      have n2 : W8.cell? ⟨w8.heap.size, 2, none⟩ = some (.int .i64 c.lit) := by rw [cell_of_row _ _ _ _ _ _ hnr]; rfl
      have n3 : W8.cell? ⟨w8.heap.size, 3, none⟩ = some (.slice ea en ec) := by rw [cell_of_row _ _ _ _ _ _ hnr]; rfl
      have n4 : W8.cell? ⟨w8.heap.size, 4, none⟩ = some (.int .i64 c.count) := by rw [cell_of_row _ _ _ _ _ _ hnr]; rfl
      have HOW : Hid (∀ b, (Value.slice oa k oc).ownBlock = some b → b < W5.heap.size) := Lib.hid fun b e => by obtain ⟨us', h1, _⟩ := HO.out.2.2; exact (h1.lt b e).2
      have HCN : Hid (ClaimV (fun b => (b < 0 ∨ D + 1 ≤ b) ∧ (Value.slice oa k oc).ownBlock ≠ some b) W8 (.slice da dn dc, .int .i64 c.rule, .int .i64 c.lit, .slice ea en ec, .int .i64 c.count) c) := Lib.hid ((HCV.out.below hb9).mono fun b hb => ⟨.inr (by omega), fun e => by have := HOW.out b e; omega⟩)
      have HO3 := Lib.hid ho3
      have HO21 := Lib.hid ho2
      have hbb : D + 1 ≤ W8.heap.size := by have h1 := hb9.size; have h2 := HZ8.out; omega
      have HB9 : Hid (Below R W2 W8) := Lib.hid (HB8.out.trans (hb9.mono (by have h2 := HZ8.out; omega)))
      have HO1 := Lib.hid ho1
      try rw [hW8]
      clear ho2 ho3 hb9 hW8 hnr
      refine step_push5 rfl _ _ 22 rfl 45 (.agg #[.slice none 0 0, .int .i64 0, .int .i64 0, .slice none 0 0, .int .i64 0]) 72 Tryz.underlying22 HI5.out rfl (D + 1) (.slice oa k oc) k (cells5 us) w8.heap.size (.slice da dn dc) (.int .i64 c.rule) (.int .i64 c.lit) (.slice ea en ec) (.int .i64 c.count) rfl rfl n0 n1 n2 n3 n4 ho1 rfl rfl rfl rfl rfl (by omega) (by omega) hbb ?_
      intro g9 cap9 w9 hown9 hg9 hat9
      have hne9 : some D ≠ (Value.slice oa k oc).ownBlock := fun e => by have := (HO1.out.lt _ e.symm).1; omega
      have k0 := grown_c2 hg9 hne9 HO9.out.1
      have kf : w9.frozen? ⟨D, 0, none⟩ = false := (World.frozen?_of_block (a := ⟨D, 0, none⟩) (hg9.block D (block_lt HO9.out.1) hne9)).trans (HO9.out.2.1 0)
      have HO10 : Hid (TrP (w9.setCell ⟨D, 0, none⟩ (.slice (some ⟨g9, 0, none⟩) (k + 1) cap9)) 0 D (.slice (some ⟨g9, 0, none⟩) (k + 1) cap9) (cs ++ [c])) := Lib.hid (HO9.out.push (Nat.zero_le _) HKC.out HO1.out HO21.out HO3.out HCN.out hown9 hg9 hat9)
      have HB10 : Hid (Below R W2 (w9.setCell ⟨D, 0, none⟩ (.slice (some ⟨g9, 0, none⟩) (k + 1) cap9))) := Lib.hid ((HB9.out.grown hg9 (by omega) (fun b e => by have := (HO1.out.lt b e).1; omega)).setCell (show R ≤ D by omega) _)
      have HRD10 : Hid (RdB (w9.setCell ⟨D, 0, none⟩ (.slice (some ⟨g9, 0, none⟩) (k + 1) cap9)) R t3 b3) := Lib.hid (HRD9.out.same ((Below.heap_setCell _ _ _ _ (show R ≠ D by omega)).trans (hg9.block R (block_lt HRD9.out.c0) (fun e => by have := (HO1.out.lt _ e.symm).1; omega))))
      clear hown9 hg9 hat9 ho1
      refine hK.out _ _ trivial (fun _ => ?_)
      clear hK K
      try simp only [Act.put, List.getElem_toArray, List.getElem_cons_succ, List.getElem_cons_zero, List.setIfInBounds_toArray, List.set_cons_zero, List.set_cons_succ]
      refine wpAnyH_take (i := 6) (v := ?_) rfl (by kernel_rfl) (by kernel_rfl) (by kernel_rfl) (fun _ _ _ h => h) (Or.inl ⟨by rfl, ?_⟩) (by assumption) ?_
      rotate_left
      · intro w hSw
        try dsimp only at hSw
        go_simp
        try with_reducible rfl
      try simp only [Act.put, List.getElem_toArray, List.getElem_cons_succ, List.getElem_cons_zero, List.setIfInBounds_toArray, List.set_cons_zero, List.set_cons_succ]
      refine wpAnyH_ready (rs := [7]) (by kernel_rfl) (by simp) ?_
      refine AllReadyH.cons rfl (fun K hK => ?_) AllReadyH.nil
      go_simp
      refine hK.out _ _ trivial (fun _ => ?_)
      clear hK K
      try simp only [Act.put, List.getElem_toArray, List.getElem_cons_succ, List.getElem_cons_zero, List.setIfInBounds_toArray, List.set_cons_zero, List.set_cons_succ]
      refine wpAnyH_done (by kernel_rfl) ?_ _
      have HCN2 : Hid (ClmsR t1 b1 (cs ++ [c]) t3 b3) := Lib.hid (.snoc HCS.out HCM.out)
      have HGN : Hid (1 ≤ gk - 1 ∧ (b3 = false → t3.length + 2 ≤ gk - 1 ∧ k + 1 + t3.length ≤ N)) := Lib.hid (by
        have h1 := HG7.out
        refine ⟨by omega, fun hb => ?_⟩
        have h2 := HCM.out.len hb
        have h3 := line_len c
        omega)
      have HGP : Hid (1 ≤ gk) := Lib.hid (by have := HG7.out; omega)
      have hkN2 : k + 1 ≤ N + 1 := by have := HG7.out; omega
      go_wp2_with fail
      go_roundg (gk - 1)
      case measure => have := HGP.out; omega
      case rel => exact ⟨k + 1, _, cap9, cs ++ [c], t3, b3, by go_num, Lib.hid (by rw [HKC.out]; simp), HKK, hkN2, HRD10, HO10, HB10, HCN2, HGN⟩
end Go.Proofs.YtljaegmmfjllkaaGreatDoor
