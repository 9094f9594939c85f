/- Walk: cnf.sorted. No condition but the length. -/
import Derived.Test.YtihkknploioakaaGreatKj
namespace Go.Proofs.YtihkknploioakaaGreat
open Go.ChangeShapes Go.WideShapes Go.ChangeAt Go.RowKit
set_option linter.unusedVariables false

/-- the canonical order, each content once; the rows are old ones -/
def CanPost (W : World) (base : Nat) (v : Value) (ps : List (Value × List Int)) (r : Ending) (w' : World) : Prop :=
  ∃ (v' : Value) (qs : List (Value × List Int)), r = .returned v' ∧ w'.ownsRow base 40 1 v' qs.length (qs.map Prod.fst) ∧ qs.map Prod.snd = cptM (srtC clsC (ps.map Prod.snd)) ∧ (∀ q ∈ qs, q ∈ ps) ∧ v'.ownBlock = v.ownBlock ∧ W.grownBy w' v.ownBlock
theorem grown_trans {w w1 w2 : World} {b : Option Nat} (h1 : w.grownBy w1 b) (h2 : w1.grownBy w2 b) : w.grownBy w2 b :=
  ⟨h2.os.trans h1.os, h2.tape.trans h1.tape, h2.output.trans h1.output, Nat.le_trans h1.size h2.size, fun k hk hne => (h2.block k (Nat.lt_of_lt_of_le hk h1.size) hne).trans (h1.block k hk hne)⟩
set_option maxHeartbeats 1000000 in
theorem sorted_any (w : World) (base : Nat) (v : Value) (ps : List (Value × List Int)) (hown : w.ownsRow base 40 1 v ps.length (ps.map Prod.fst)) (hps : ∀ p ∈ ps, Ints (fun b => v.ownBlock ≠ some b) w p.1 p.2) (hl : ps.length ≤ 1048576) :
    Calls Tryz.prog 78 #[v] w (CanPost w base v ps) := by
  have HS := Lib.hid (sortcls_own w base v ps hown hps hl)
  have HP := Lib.hid hps
  obtain ⟨a, c, hv⟩ := own_form hown
  obtain ⟨n, hn⟩ : ∃ n, ps.length = n := ⟨_, rfl⟩
  rw [hn] at hv
  have HN := Lib.hid hn
  clear hown hps hn
  subst hv
  go_enter Tryz.func78, Tryz.ntmps78
  go_wp2_with fail
  refine HS.out.mono ?_
  rintro e w1 ⟨rfl, qs, hp, hq, ho, hg⟩
  have hlen : qs.length = ps.length := hp.length_eq
  have HC := Lib.hid (compactf_any w1 base (.slice a n c) qs (by rw [hlen]; exact ho) (fun p hp' => ((HP.out p (hp.subset hp')).lt.move fun k hk _ => hg.block k hk.2 fun e => hk.1 e.symm).mono fun _ h => h.1) (by omega))
  have HG := Lib.hid hg
  have HQ : Hid ((cptP none qs).map Prod.snd = cptM (srtC clsC (ps.map Prod.snd)) ∧ ∀ q ∈ cptP none qs, q ∈ ps) := Lib.hid ⟨by rw [cptP_snd, hq]; rfl, fun q hq' => hp.subset (cptP_mem _ _ q hq')⟩
  clear ho hg hp hq hlen HS HP
  go_wp2_with fail
  refine HC.out.mono ?_
  rintro e w2 ⟨v', rfl, ho, hb, hg⟩
  have HF : Hid (CanPost w base (.slice a n c) ps (.returned v') w2) := Lib.hid ⟨v', _, rfl, ho, HQ.out.1, HQ.out.2, hb, grown_trans HG.out hg⟩
  obtain ⟨a3, c3, rfl⟩ := own_form ho
  clear ho hb hg HC HG HQ
  go_wp2_with fail
  go_ret
  exact HF.out
end Go.Proofs.YtihkknploioakaaGreat
