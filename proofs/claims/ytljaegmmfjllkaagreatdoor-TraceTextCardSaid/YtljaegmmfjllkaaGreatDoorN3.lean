/- (Trace text seat) Walk: numbers, of the reader of the package trace, where printed numbers stand. -/
import Derived.Test.YtljaegmmfjllkaaGreatDoorN2
import Derived.Test.YtljaegmmfjllkaaGreatDoorNw
import Derived.Test.YtljaegmmfjllkaaGreatDoorKf
import Derived.Deep.LoopGhost
namespace Go.Proofs.YtljaegmmfjllkaaGreatDoor
open Go.ChangeShapes Go.WideShapes Go.ChangeAt Go.RowKit Go.Lib
set_option linter.unusedVariables false
set_option linter.unusedSimpArgs false

/-- a text that the reader can take -/
def GoodT (t : Bts) : Prop := (∀ b ∈ t, b.toNat < 128) ∧ t.length ≤ 4194304
theorem GoodT.tail {l m : Bts} {s : UInt8} (h : GoodT (l ++ s :: m)) : GoodT m := by
  obtain ⟨h1, h2⟩ := h
  rw [List.length_append, List.length_cons] at h2
  exact ⟨fun b hb => h1 b (List.mem_append_right _ (List.mem_cons_of_mem _ hb)), by omega⟩
theorem kpr_grown {R : Nat} {w w1 w2 : World} {row : Option Nat} (h : KpR R w w1) (h2 : w1.grownBy w2 row) (hr : ∀ g, row = some g → w.heap.size ≤ g) : KpR R w w2 :=
  ⟨h2.os.trans h.os, h2.tape.trans h.tape, h2.output.trans h.output, Nat.le_trans h.size h2.size, fun k hk hne => (h2.block k (Nat.lt_of_lt_of_le hk h.size) (fun e => by have := hr k e.symm; omega)).trans (h.block k hk hne)⟩
/-- the reader's number at a printed number of a line -/
theorem rdnum_line (R : Nat) (n : Int) (l : List Int) (m : Bts) (w : World) (h : RdT w R (BA (restT (n :: l) m))) (hn : I64 n) (hg : GoodT (restT (n :: l) m)) :
    Calls Tryz.prog 24 #[.pointer (some ⟨R, 0, none⟩)] w (RnPost w R n (restT l m)) ∧ GoodT (restT l m) := by
  obtain ⟨s, hs, e⟩ := rest_step n l m
  rw [e] at h hg
  have hg2 := hg.tail
  exact ⟨rdnum_any R _ n s _ w h rfl hs hn hg2.1 hg2.2, hg2⟩
def RnsPost (W : World) (R : Nat) (l : List Int) (r : Bts) (e : Ending) (w' : World) : Prop := ∃ v, e = .returned v ∧ Ints (fun b => W.heap.size ≤ b) w' v l ∧ RdT w' R (BA r) ∧ KpR R W w'
set_option maxRecDepth 100000 in
set_option maxHeartbeats 8000000 in
theorem rdnums_any (R : Nat) (l r : List Int) (m : Bts) (w : World) (h : RdT w R (BA (restT (l ++ r) m))) (hn : ∀ x ∈ l, I64 x) (hg : GoodT (restT (l ++ r) m)) (hl : l.length ≤ 1000000) :
    Calls Tryz.prog 44 #[.pointer (some ⟨R, 0, none⟩), .int .i64 l.length] w (RnsPost w R l (restT r m)) := by
  obtain ⟨N, hN⟩ : ∃ N, l.length = N := ⟨_, rfl⟩
  obtain ⟨LB, hLB⟩ : ∃ b, w.heap.size = b := ⟨_, rfl⟩
  have hRL : R < LB := by rw [← hLB]; exact block_lt h.c0
  have HINI := Lib.hid (show (Tryz.prog.info? 3).map (fun i => (i.zero, i.size, i.bytes)) = some (some (.int .i64 0), 1, 8) by kernel_rfl)
  have HR0 : Hid (RdT w R (BA (restT (l.drop 0 ++ r) m))) := Lib.hid h
  have HG0 : Hid (GoodT (restT (l.drop 0 ++ r) m)) := Lib.hid hg
  have HK0 : Hid (KpR R w w) := Lib.hid (kpr_below (Below.refl _ _))
  have HL0 : Hid (w.ownsRow LB 3 1 (.slice none 0 0) 0 ((l.take 0).map (.int .i64))) := Lib.hid (World.ownsRow_nil _ _ _ _)
  have HN := Lib.hid hn
  have HNN := Lib.hid hN
  have HLB := Lib.hid hLB
  have hNb : N ≤ 1000000 := by omega
  rw [hN]
  clear h hn hg hl hN hLB
  go_enter Tryz.func44, Tryz.ntmps44
  go_wp2_with fail
  go_loopg [5, 6] N (fun gg u5 u6 wx => ∃ (k : Nat) (la : Option Addr) (lc : Nat), k + gg = N ∧ u6 = .int .i64 k ∧ u5 = .slice la k lc ∧ Hid (RdT wx R (BA (restT (l.drop k ++ r) m))) ∧ Hid (GoodT (restT (l.drop k ++ r) m)) ∧ Hid (KpR R w wx) ∧ Hid (wx.ownsRow LB 3 1 (.slice la k lc) k ((l.take k).map (.int .i64))))
  case atStart => exact ⟨0, none, 0, by omega, rfl, rfl, HR0, HG0, HK0, HL0⟩
  case round =>
  obtain ⟨k, la, lc, hkg, rfl, rfl, HR, HG, HK, HL⟩ := hrel
  by_cases hk : k < N
  case neg =>
    obtain rfl : k = N := by omega
    have hdk : decide ((k : Int) < k) = false := by simp
    have hdk' : decide (k < k) = false := decide_eq_false (by omega)
    have hI : Ints (fun b => w.heap.size ≤ b) wr (.slice la k lc) l := by
      have h1 := ownsRow_sl1 HL.out (by omega)
      rw [List.take_of_length_le (by rw [HNN.out]; exact Nat.le_refl _)] at h1
      exact ⟨h1.mono fun b hb => by rw [HLB.out]; exact hb.1, HN.out⟩
    have hRr : RdT wr R (BA (restT r m)) := by
      have h1 := HR.out
      rw [List.drop_eq_nil_of_le (by rw [HNN.out]; exact Nat.le_refl _)] at h1
      exact h1
    have HF : Hid (RnsPost w R l (restT r m) (.returned (.slice la k lc)) wr) := Lib.hid ⟨_, rfl, hI, hRr, HK.out⟩
    clear hI hRr HR HG HK HL
    go_wp2_with fail
    go_ret
    exact HF.out
  obtain ⟨x, hx, ex⟩ := drop_at (xs := l) (k := k) (by rw [HNN.out]; exact hk)
  have hx64 := HN.out x (List.mem_of_getElem? hx)
  have hr := HR.out
  have hg := HG.out
  rw [ex, List.cons_append] at hr hg
  obtain ⟨hc, hg2⟩ := rdnum_line R x _ m wr hr hx64 hg
  have HCL := Lib.hid hc
  have HG2 := Lib.hid hg2
  have HTK : Hid (l.take (k + 1) = l.take k ++ [x]) := Lib.hid (by rw [List.take_add_one, hx]; rfl)
  have c1 := HR.out.c1
  have hdk : decide ((k : Int) < N) = true := by simp; omega
  have hdk' : decide (k < N) = true := decide_eq_true hk
  clear hc hg2 hr hg hx ex HG
  go_wp2_with fail
  refine HCL.out.mono ?_
  rintro e w2 ⟨rfl, hr2, hk2⟩
  have HR2 := Lib.hid hr2
  have hlt2 : ∀ g, (Value.slice la k lc).ownBlock = some g → LB ≤ g ∧ g < wr.heap.size := fun g e => HL.out.lt g e
  have hown : w2.ownsRow LB 3 1 (.slice la k lc) k ((l.take k).map (.int .i64)) := own_same HL.out fun g e => hk2.block g (hlt2 g e).2 (fun e2 => by injection e2 with e2; have := (hlt2 g e).1; omega)
  have HK2 := Lib.hid (kpr_trans HK.out hk2)
  have hsz : LB ≤ w2.heap.size := by rw [← HLB.out]; exact HK2.out.size
  have hRsz : R < w2.heap.size := by omega
  have HOW := Lib.hid hown
  clear hr2 hk2 HR HK HL HCL hlt2
  go_wp2_with (at_builtin; go_loud (refine wpList_push1 rfl _ _ 43 rfl 3 (.int .i64 0) 8 Tryz.underlying43 HINI.out rfl LB (.slice la k lc) k ((l.take k).map (.int .i64)) w2 (.int .i64 x) rfl rfl hown rfl (by omega) (by omega) hsz ?_); intro g7 cap7 w7 hown7 hg7 hs7 hgb hgl7 hat; have HK7 : Hid (KpR R w w7) := Lib.hid (kpr_grown HK2.out hg7 (fun g e => by have := (HOW.out.lt g e).1; rw [HLB.out]; exact this)); have HR7 : Hid (RdT w7 R (BA (restT (l.drop (k + 1) ++ r) m))) := Lib.hid (HR2.out.same (hg7.block R hRsz (fun e => by have := (HOW.out.lt R e.symm).1; omega))); have HW7 : Hid (w7.ownsRow LB 3 1 (.slice (some ⟨g7, 0, none⟩) (k + 1) cap7) (k + 1) ((l.take (k + 1)).map (.int .i64))) := Lib.hid (by rw [HTK.out, List.map_append]; exact hown7); clear hown7 hg7 hat hown hgb hgl7 hs7; refine Hid.out ?_)
  refine Lib.hid ?_
  go_wp2_with fail
  go_roundg (gk - 1)
  case measure => omega
  case rel => exact ⟨k + 1, _, cap7, by omega, by go_num, rfl, HR7, HG2, HK7, HW7⟩
end Go.Proofs.YtljaegmmfjllkaaGreatDoor
