/- (Trace seat) The data of claims, and what the checker of claims computes, as plain Lean. -/
import Derived.Test.YtljaegmmfjllkaaGreatDoorQ8
import Derived.Test.YtljaegmmfjllkaaGreatDoorKx
namespace Go.Proofs.YtljaegmmfjllkaaGreatDoor
open Go.ChangeShapes Go.WideShapes Go.ChangeAt Go.RowKit
set_option linter.unusedVariables false

structure Claim where
  cls : List (List Int)
  rule : Int
  lit : Int
  kids : List Int
  count : Int
def clNil : Claim := ⟨[], 0, 0, [], 0⟩

/-! ### what occurs -/
def occM (cs : List (List Int)) : List Int := cptM ((mags cs).mergeSort fun x y => decide (x ≤ y))
theorem occM_mem {cs : List (List Int)} {x : Int} : x ∈ occM cs ↔ x ∈ mags cs := by
  unfold occM
  rw [cptM_in]
  simp
theorem occM_strict (cs : List (List Int)) : Strict cmpM (occM cs) := asc_cpt (merge_asc _)
theorem occ_eq {cs : List (List Int)} {os : List Int} (h : Strict cmpM os) (hm : ∀ x, x ∈ os ↔ x ∈ mags cs) : os = occM cs :=
  strict_ext cmpCmp _ _ h (occM_strict cs) fun x => by rw [hm, occM_mem]
theorem strict_nodup {l : List Int} (h : Strict cmpM l) : l.Nodup := h.imp fun {a b} hab e => by subst e; rw [cmpM_lt] at hab; omega
theorem occM_nodup (cs : List (List Int)) : (occM cs).Nodup := strict_nodup (occM_strict cs)
theorem occM_range {cs : List (List Int)} {x : Int} (h : x ∈ occM cs) : 1 ≤ x ∧ x ≤ 20000 := mags_I64 (occM_mem.1 h)

/-! ### the checker -/
def keptM (keep : Int) (vs : List Int) : List Int := vs.filter fun v => decide (v ≤ keep)
def varK (lit : Int) : List Int → Int
  | [] => 0
  | v :: r => if lit = v ∨ lit = -v then v else varK lit r
def lostM (v : Int) (left there : List Int) : Nat := (left.filter fun w => decide (w ≠ v) && !there.contains w).length
def dblM : Nat → Int → Int
  | 0, n => n
  | t + 1, n => if 1099511627776 < n then -1 else dblM t (n * 2)
def resB (c : Claim) (ks : List Claim) (i : Nat) (lit : Int) : Bool := (ks.getD i clNil).cls == resM c.cls lit
/-- the count of a kid, doubled for what is lost -/
def liftM (keep v : Int) (vs : List Int) (k : Claim) : Int := dblM (lostM v (keptM keep vs) (occM k.cls)) k.count
def unitM (keep : Int) (c : Claim) (ks : List Claim) (vs : List Int) : Bool :=
  if varK c.lit vs = 0 ∨ ks.length ≠ 1 ∨ (c.cls.any fun x => x == [c.lit]) = false then false
  else resB c ks 0 c.lit && (c.count == liftM keep (varK c.lit vs) vs (ks.getD 0 clNil))
def decM (keep : Int) (c : Claim) (ks : List Claim) (vs : List Int) : Bool :=
  if varK c.lit vs = 0 ∨ c.lit ≠ varK c.lit vs ∨ keep < varK c.lit vs ∨ ks.length ≠ 2 ∨ resB c ks 0 (-varK c.lit vs) = false ∨ resB c ks 1 (varK c.lit vs) = false then false
  else decide (0 ≤ liftM keep (varK c.lit vs) vs (ks.getD 0 clNil)) && (decide (0 ≤ liftM keep (varK c.lit vs) vs (ks.getD 1 clNil)) && (c.count == liftM keep (varK c.lit vs) vs (ks.getD 0 clNil) + liftM keep (varK c.lit vs) vs (ks.getD 1 clNil)))
def disjGo : List Claim → List Int → Bool
  | [], _ => true
  | k :: r, seen => if (occM k.cls).any (fun v => seen.contains v) = true then false else disjGo r (seen ++ occM k.cls)
def allM (ks : List Claim) : List (List Int) := ks.flatMap Claim.cls
def prodGo (cnt : Int) : List Claim → Int → Bool
  | [], p => cnt == p
  | k :: r, p => if 1099511627776 / k.count < p then false else prodGo cnt r (p * k.count)
def splitM (c : Claim) (ks : List Claim) : Bool :=
  if c.lit ≠ 0 ∨ ks.length < 2 then false
  else if disjGo ks [] = false then false
  else if (allM ks).length ≠ c.cls.length ∨ (canM (allM ks) == c.cls) = false then false
  else if (ks.any fun k => decide (k.count = 0)) = true then c.count == 0
  else prodGo c.count ks 1
def tryM (keep : Int) (c : Claim) (ks : List Claim) (vs : List Int) : Bool :=
  if varK c.lit vs = 0 ∨ ks.length ≠ 1 ∨ 0 < (keptM keep vs).length ∨ resB c ks 0 c.lit = false then false
  else ((ks.getD 0 clNil).count == 1) && (c.count == 1)
def bothM (c : Claim) (ks : List Claim) (vs : List Int) : Bool :=
  if varK c.lit vs = 0 ∨ c.lit ≠ varK c.lit vs ∨ ks.length ≠ 2 ∨ resB c ks 0 (-varK c.lit vs) = false ∨ resB c ks 1 (varK c.lit vs) = false then false
  else ((ks.getD 0 clNil).count == 0) && (((ks.getD 1 clNil).count == 0) && (c.count == 0))
def folM (keep : Int) (c : Claim) (ks : List Claim) (vs : List Int) : Bool :=
  if (ks.any fun k => decide (k.count < 0) || decide (1099511627776 < k.count)) = true then false
  else if c.rule = 0 then (c.lit == 0) && (decide (ks.length = 0) && (decide (c.cls.length = 0) && (c.count == 1)))
  else if c.rule = 1 then (c.lit == 0) && (decide (ks.length = 0) && ((c.cls.any fun x => decide (x.length = 0)) && (c.count == 0)))
  else if c.rule = 2 then unitM keep c ks vs
  else if c.rule = 3 then decM keep c ks vs
  else if c.rule = 4 then splitM c ks
  else if c.rule = 5 then tryM keep c ks vs
  else if c.rule = 6 then bothM c ks vs
  else false
def litOk (x : Int) : Bool := !((x == 0) || (decide (20000 < x) || decide (x < -20000)))
/-- canonical -/
def canB (cs : List (List Int)) : Bool := (cs.all fun c => c.all litOk) && (canM cs == cs)
def kidsM (ts : List Claim) (c : Claim) : List Claim := c.kids.map fun k => ts.getD k.toNat clNil
/-- CheckClaim's code -/
def ccM (keep : Int) (ts : List Claim) (i : Int) : Int :=
  if keep < 0 ∨ 40 < keep ∨ i < 0 ∨ (ts.length : Int) ≤ i then 3
  else if canB (ts.getD i.toNat clNil).cls = false then 1
  else if (ts.getD i.toNat clNil).count < 0 ∨ 2 ^ (keptM keep (occM (ts.getD i.toNat clNil).cls)).length < (ts.getD i.toNat clNil).count then 3
  else if ((ts.getD i.toNat clNil).kids.any fun k => decide (k < 0) || decide (i ≤ k)) = true then 10
  else if folM keep (ts.getD i.toNat clNil) (kidsM ts (ts.getD i.toNat clNil)) (occM (ts.getD i.toNat clNil).cls) = false then 13
  else 0
def ccGo (keep : Int) (ts : List Claim) : Nat → Nat → Int
  | 0, _ => 0
  | n + 1, i => if ccM keep ts i ≠ 0 then ccM keep ts i else ccGo keep ts n (i + 1)
/-- Check's code -/
def tckM (vars keep : Int) (cs : List (List Int)) (ts : List Claim) : Int :=
  if checkM vars keep cs ≠ 0 then checkM vars keep cs
  else if 40 < keep ∨ 65536 < ts.length then 4
  else if ts.length = 0 then 11
  else if ccGo keep ts ts.length 0 ≠ 0 then ccGo keep ts ts.length 0
  else if ((ts.getD (ts.length - 1) clNil).cls == cs) = false then 2
  else 0
/-- Total's number -/
def totN (keep : Int) (cs : List (List Int)) (ts : List Claim) : Int := (ts.getD (ts.length - 1) clNil).count * 2 ^ (keep - (keptM keep (occM cs)).length).toNat

/-! ### claims in memory -/
abbrev Row5 := Value × Value × Value × Value × Value
def Sl5 (F : Nat → Prop) (w : World) (v : Value) (us : List Row5) : Prop :=
  ∃ a cap, v = .slice a us.length cap ∧ us.length ≤ 9223372036854775807 ∧ ∀ (j : Nat) (u : Row5), us[j]? = some u →
    ∃ b off, a = some ⟨b, off, none⟩ ∧ F b ∧ w.cell? ⟨b, off + j * 5, none⟩ = some u.1 ∧ w.cell? ⟨b, off + j * 5 + 1, none⟩ = some u.2.1 ∧ w.cell? ⟨b, off + j * 5 + 2, none⟩ = some u.2.2.1 ∧
      w.cell? ⟨b, off + j * 5 + 3, none⟩ = some u.2.2.2.1 ∧ w.cell? ⟨b, off + j * 5 + 4, none⟩ = some u.2.2.2.2
/-- five values that read as a claim -/
def ClaimV (F : Nat → Prop) (w : World) (u : Row5) (c : Claim) : Prop :=
  (Clss F w u.1 c.cls ∧ u.2.1 = .int .i64 c.rule ∧ u.2.2.1 = .int .i64 c.lit ∧ Ints F w u.2.2.2.1 c.kids ∧ u.2.2.2.2 = .int .i64 c.count) ∧ I64 c.rule ∧ I64 c.lit ∧ I64 c.count
def Claims (F : Nat → Prop) (w : World) (v : Value) (cs : List Claim) : Prop :=
  ∃ us : List Row5, Sl5 F w v us ∧ us.length = cs.length ∧ ∀ (j : Nat) u c, us[j]? = some u → cs[j]? = some c → ClaimV F w u c
section claims
variable {F G : Nat → Prop} {w w' : World} {v : Value} {cs : List Claim}
theorem Sl5.mono {us : List Row5} (h : Sl5 F w v us) (hg : ∀ b, F b → G b) : Sl5 G w v us := by
  obtain ⟨a, cap, h1, h2, h3⟩ := h
  exact ⟨a, cap, h1, h2, fun j u hu => let ⟨b, off, e1, e2, e3⟩ := h3 j u hu; ⟨b, off, e1, hg b e2, e3⟩⟩
theorem Sl5.move {us : List Row5} (h : Sl5 F w v us) (hm : ∀ b, F b → b < w.heap.size → w'.heap[b]? = w.heap[b]?) : Sl5 F w' v us := by
  obtain ⟨a, cap, h1, h2, h3⟩ := h
  refine ⟨a, cap, h1, h2, fun j u hu => ?_⟩
  obtain ⟨b, off, e1, e2, e3, e4, e5, e6, e7⟩ := h3 j u hu
  have hk := hm b e2 (block_lt e3)
  exact ⟨b, off, e1, e2, (World.cell?_of_block hk).trans e3, (World.cell?_of_block hk).trans e4, (World.cell?_of_block hk).trans e5, (World.cell?_of_block hk).trans e6, (World.cell?_of_block hk).trans e7⟩
theorem ClaimV.mono {u : Row5} {c : Claim} (h : ClaimV F w u c) (hg : ∀ b, F b → G b) : ClaimV G w u c :=
  ⟨⟨Rows1.mono (fun _ _ _ _ _ h hg => h.mono hg) h.1.1 hg, h.1.2.1, h.1.2.2.1, h.1.2.2.2.1.mono hg, h.1.2.2.2.2⟩, h.2⟩
theorem ClaimV.move {u : Row5} {c : Claim} (h : ClaimV F w u c) (hm : ∀ b, F b → b < w.heap.size → w'.heap[b]? = w.heap[b]?) : ClaimV F w' u c :=
  ⟨⟨Rows1.move (fun _ _ _ _ _ h hm => h.move hm) h.1.1 hm, h.1.2.1, h.1.2.2.1, h.1.2.2.2.1.move hm, h.1.2.2.2.2⟩, h.2⟩
theorem ClaimV.below {u : Row5} {c : Claim} (h : ClaimV F w u c) (hb : Below w.heap.size w w') : ClaimV F w' u c := h.move fun b _ hlt => hb.block b hlt
theorem Claims.mono (h : Claims F w v cs) (hg : ∀ b, F b → G b) : Claims G w v cs := by
  obtain ⟨us, h1, h2, h3⟩ := h
  exact ⟨us, h1.mono hg, h2, fun j u c hu hc => (h3 j u c hu hc).mono hg⟩
theorem Claims.move (h : Claims F w v cs) (hm : ∀ b, F b → b < w.heap.size → w'.heap[b]? = w.heap[b]?) : Claims F w' v cs := by
  obtain ⟨us, h1, h2, h3⟩ := h
  exact ⟨us, h1.move hm, h2, fun j u c hu hc => (h3 j u c hu hc).move hm⟩
theorem Claims.below (h : Claims F w v cs) (hb : Below w.heap.size w w') : Claims F w' v cs := h.move fun b _ hlt => hb.block b hlt
theorem Claims.nil (F : Nat → Prop) (w : World) : Claims F w (.slice none 0 0) [] := ⟨[], ⟨none, 0, rfl, by simp, fun j u hu => by simp at hu⟩, rfl, by simp⟩
theorem Claims.form (h : Claims F w v cs) : ∃ a n c, v = .slice a n c ∧ Hid (n = cs.length) ∧ n ≤ 9223372036854775807 := by
  obtain ⟨us, ⟨a, cap, h1, h2, _⟩, h3, _⟩ := h
  exact ⟨a, _, cap, h1, Lib.hid h3, h2⟩
theorem Claims.at {a : Option Addr} {n cap k : Nat} {c : Claim} (h : Claims F w (.slice a n cap) cs) (hc : cs[k]? = some c) :
    ∃ b off cv kv, a = some ⟨b, off, none⟩ ∧ F b ∧ b < w.heap.size ∧ w.cell? ⟨b, off + k * 5, none⟩ = some cv ∧ w.cell? ⟨b, off + k * 5 + 1, none⟩ = some (.int .i64 c.rule) ∧ w.cell? ⟨b, off + k * 5 + 2, none⟩ = some (.int .i64 c.lit) ∧
      w.cell? ⟨b, off + k * 5 + 3, none⟩ = some kv ∧ w.cell? ⟨b, off + k * 5 + 4, none⟩ = some (.int .i64 c.count) ∧ ClaimV F w (cv, .int .i64 c.rule, .int .i64 c.lit, kv, .int .i64 c.count) c := by
  obtain ⟨us, ⟨a', cap', h1, h2, h3⟩, hl, h4⟩ := h
  injection h1 with e1 e2 e3
  subst e1
  have hk : k < us.length := by rw [hl]; exact (List.getElem?_eq_some_iff.1 hc).1
  obtain ⟨b, off, e1, e2, e3, e4, e5, e6, e7⟩ := h3 k _ (List.getElem?_eq_getElem hk)
  have hv := h4 k _ c (List.getElem?_eq_getElem hk) hc
  obtain ⟨⟨v1, v2, v3, v4, v5⟩, v6⟩ := hv
  rw [v2] at e4
  rw [v3] at e5
  rw [v5] at e7
  exact ⟨b, off, _, _, e1, e2, block_lt e3, e3, e4, e5, e6, e7, ⟨v1, rfl, rfl, v4, rfl⟩, v6⟩
end claims
/-- sizes -/
def SzC (c : Claim) : Prop := c.cls.length ≤ 4000 ∧ (∀ x ∈ c.cls, x.length ≤ 4000) ∧ c.kids.length ≤ 4000
/-- a checker in block b -/
def Ckr (w : World) (b : Nat) (keep : Int) (cv kv qv vv : Value) (c : Claim) (ks : List Claim) (vs : List Int) : Prop :=
  (w.cell? ⟨b, 0, none⟩ = some (.int .i64 keep) ∧ w.cell? ⟨b, 1, none⟩ = some cv ∧ w.cell? ⟨b, 2, none⟩ = some (.int .i64 c.rule) ∧ w.cell? ⟨b, 3, none⟩ = some (.int .i64 c.lit) ∧
    w.cell? ⟨b, 4, none⟩ = some kv ∧ w.cell? ⟨b, 5, none⟩ = some (.int .i64 c.count) ∧ w.cell? ⟨b, 6, none⟩ = some qv ∧ w.cell? ⟨b, 7, none⟩ = some vv) ∧
  Clss (fun _ => True) w cv c.cls ∧ Claims (fun _ => True) w qv ks ∧ Ints (fun _ => True) w vv vs ∧ I64 c.lit ∧ I64 c.count ∧ I64 keep
theorem Ckr.below {w w' : World} {b : Nat} {keep : Int} {cv kv qv vv : Value} {c : Claim} {ks : List Claim} {vs : List Int} (h : Ckr w b keep cv kv qv vv c ks vs) (hb : Below w.heap.size w w') : Ckr w' b keep cv kv qv vv c ks vs := by
  obtain ⟨⟨e0, e1, e2, e3, e4, e5, e6, e7⟩, h2, h3, h4, h5⟩ := h
  have hl := block_lt e0
  exact ⟨⟨below_c hb hl e0, below_c hb hl e1, below_c hb hl e2, below_c hb hl e3, below_c hb hl e4, below_c hb hl e5, below_c hb hl e6, below_c hb hl e7⟩, h2.below hb, h3.below hb, h4.below hb, h5⟩
theorem Ckr.lt {w : World} {b : Nat} {keep : Int} {cv kv qv vv : Value} {c : Claim} {ks : List Claim} {vs : List Int} (h : Ckr w b keep cv kv qv vv c ks vs) : b < w.heap.size := block_lt h.1.1
end Go.Proofs.YtljaegmmfjllkaaGreatDoor
