/- Proved here: the whole statement for amberlaw21.ReplayReads: for all bytes and every list of legs the law returns true and changes nothing of what it was handed. -/
import Derived.Test.YtoebhddgpicegaaZe
import Derived.Test.YtoebhddgpicegaaZf
import Derived.Test.YtoebhddgpicegaaZg
import Derived.Test.YtoebhddgpicegaaPReplayApartx5
import Derived.Test.YtoebhddgpicegaaRows
import Derived.WalkKit
import Derived.ProofKit
import Derived.OpenShut
import Derived.ShutString
import Derived.ChangeOld
import Derived.Below
import Derived.SizedLaws
namespace Go.Proofs.Ytoebhddgpicegaa
open Go.RowKit Go.Proofs.YtoebhddgpicegaaW.PrintWords
theorem fle_bound {l : List Int} (h : Byt l) {n : Nat} (hn : l.length ≤ n) (h7 : n ≤ 7) : 0 ≤ fle l ∧ fle l < 72057594037927936 := by
  have hf := fle_range h
  refine ⟨hf.1, Int.lt_of_lt_of_le hf.2 ?_⟩
  have e : (72057594037927936 : Int) = 256 ^ 7 := by decide
  rw [e]; exact pow_mono (by omega)
set_option maxHeartbeats 1000000 in
/-- got: the number of n bytes at a place. -/
theorem rgot_calls (A : Option Addr) (c : Nat) (l : List Int) (hb : Byt l) (hl : l.length ≤ 140737488355328) (w : World) (hC : Kd.C (Kd.int .u8) w A l.length l) (i : Int) (p n : Nat) (hi : i = p) (hn : n ≤ 8) (hp : p + n ≤ l.length) :
    Calls Try.prog 46 #[.slice A l.length c, .int .i64 i, .int .i64 n] w fun e w' => e = .returned (.int .i64 (s64 (fle ((l.drop p).take n)))) ∧ w = w' := by
  subst hi
  obtain ⟨r, hr⟩ : ∃ r, r = (l.drop p).take n := ⟨_, rfl⟩
  have hrl : r.length = n := by rw [hr, List.length_take, List.length_drop]; omega
  have hrb : Byt r := by rw [hr]; exact (hb.drop _).take _
  rw [← hr]
  have HR := Lib.hid hr
  have HRL := Lib.hid hrl
  have HRB := Lib.hid hrb
  have HC := Lib.hid hC
  have HB := Lib.hid hb
  obtain ⟨m, hm⟩ : ∃ m, m = l.length := ⟨_, rfl⟩
  have HM := Lib.hid hm
  rw [← hm] at hl hp HC ⊢
  clear hr hrl hrb hC hb hm
  go_enter Try.func46, Try.ntmps46
  go_wp2
  go_loop [7, 8] (fun v i => ∃ j : Nat, j ≤ n ∧ i = .int .i64 ((j : Int) - 1) ∧ v = .int .u64 (fle (r.drop j))) (fun _ i => (intOf i + 1).toNat)
  case atStart => exact ⟨n, Nat.le_refl _, rfl, by rw [List.drop_of_length_le (Nat.le_of_eq HRL.out)]; rfl⟩
  case round =>
    obtain ⟨j, hj, rfl, rfl⟩ := hrel
    by_cases hlt : 0 < j
    · obtain ⟨q, rfl⟩ : ∃ q : Nat, j = q + 1 := ⟨j - 1, by omega⟩
      have hgj : r.getD q 0 = l.getD (p + q) 0 := by
        rw [HR.out, List.getD_eq_getElem?_getD, List.getD_eq_getElem?_getD, List.getElem?_take_of_lt (by omega), List.getElem?_drop]
      have hCC : Kd.C (Kd.int .u8) w A l.length l := by rw [← HM.out]; exact HC.out
      obtain ⟨ad, b, rfl, cb, hb⟩ := at_int hCC (p + q) (by rw [← HM.out]; omega)
      have hbr : 0 ≤ b ∧ b < 256 := by rw [← hb.out]; exact HB.out.get (by rw [← HM.out]; omega)
      have hfd := fle_drop (l := r) (j := q) (by rw [HRL.out]; omega)
      rw [hgj, hb.out] at hfd
      obtain ⟨hf0, hpw⟩ := fle_bound (HRB.out.drop (q + 1)) (n := 7) (by rw [List.length_drop, HRL.out]; omega) (by omega)
      have HFD := Lib.hid hfd
      clear hgj hfd hCC hb
      generalize hfv : fle (r.drop (q + 1)) = fv at *
      clear hfv
      have hx : ((p : Int) + (q : Int)).toNat = p + q := by omega
      go_wp2
      go_round
      case rel =>
        refine ⟨q, by omega, rfl, ?_⟩
        rw [HFD.out, Int.mul_comm fv 256, Int.add_comm]
      case measure => simp [intOf]
    · obtain rfl : j = 0 := by omega
      rw [List.drop_zero]
      go_wp2
      go_ret
      exact ⟨rfl, rfl⟩
theorem rgot4_calls (A : Option Addr) (c : Nat) (l : List Int) (hb : Byt l) (hl : l.length ≤ 140737488355328) (w : World) (hC : Kd.C (Kd.int .u8) w A l.length l) (i : Int) (p : Nat) (hi : i = p) (hp : p + 4 ≤ l.length) :
    Calls Try.prog 46 #[.slice A l.length c, .int .i64 i, .int .i64 4] w fun e w' => e = .returned (.int .i64 (wordAt l p)) ∧ w = w' := by
  have := rgot_calls A c l hb hl w hC i p 4 hi (by omega) hp
  rw [show s64 (fle ((l.drop p).take 4)) = wordAt l p by have := wordAt_range hb p; unfold s64; unfold wordAt at this ⊢; unfold wrap64; omega] at this
  exact this
end Go.Proofs.Ytoebhddgpicegaa
namespace Go.Proofs.Ytoebhddgpicegaa
open Go.RowKit Go.Proofs.YtoebhddgpicegaaW.PrintWords
open PReplayApart
section
variable {P : Program} {ops : Array Oper} {o : Oper} {a : Act} {Q : Exit → Act → World → Prop} {Kc : Act → World → Prop}
/-- An append stands here. -/
theorem app_gate {Wa : World} (s x : Operand) (t : TypeId) (_ : o.op = .call { callee := .builtin .append, args := #[s, x], argTypes := #[t, t] })
    (h : if Region.wanted o (yielded ops a.tmps) = true then Oper.wp P o a Wa Kc Q else Kc (a.put o.dst undef) Wa) : if Region.wanted o (yielded ops a.tmps) = true then Oper.wp P o a Wa Kc Q else Kc (a.put o.dst undef) Wa := h
end
/-- While the document's leg is read: the two blocks for legs; what lies in the leg so far. -/
structure RInv (w : World) (sm : Int) (wr : World) (ps : List S80) (ws : List Int) : Prop where
  own : ∃ P0 q0 P1 q1, wr.heap[w.heap.size + 1]? = some (.cells #[.slice P0 ps.length q0, .slice P1 ws.length q1, .int .u32 sm] 50 (0, 0)) ∧
    Kd.R k80 80 wr 0 (fun k => w.heap.size + 2 ≤ k) (.slice P0 ps.length q0) ps ∧ Kd.R (Kd.int .u32) 35 wr 0 (fun k => w.heap.size + 2 ≤ k) (.slice P1 ws.length q1) ws
  res : wr.heap[w.heap.size]? = some (.cells #[.slice none 0 0, .slice none 0 0, .int .u32 0] 50 (0, 0))
  frm : Frm Nun w wr
  size : w.heap.size + 2 ≤ wr.heap.size
section
variable {w wr w1 : World} {sm : Int} {ps : List S80} {ws : List Int}
theorem RInv.drew (h : RInv w sm wr ps ws) : RInv w sm wr.drew ps ws := ⟨h.own, h.res, h.frm.drew, h.size⟩
/-- One pick more. -/
theorem RInv.pick (h : RInv w sm wr ps ws) {p : S80} {P0 P1 N0 : Option Addr} {q0 q1 n0 : Nat}
    (h1 : wr.heap[w.heap.size + 1]? = some (.cells #[.slice P0 ps.length q0, .slice P1 ws.length q1, .int .u32 sm] 50 (0, 0))) (h2 : Kd.R k80 80 wr 0 (fun k => w.heap.size + 2 ≤ k) (.slice P0 ps.length q0) ps) (h3 : Kd.R (Kd.int .u32) 35 wr 0 (fun k => w.heap.size + 2 ≤ k) (.slice P1 ws.length q1) ws)
    (hn : Kd.R k80 80 w1 0 (fun k => w.heap.size + 2 ≤ k) (.slice N0 (ps ++ [p]).length n0) (ps ++ [p])) (hg : wr.grownBy w1 (Value.slice P0 ps.length q0).ownBlock) :
    RInv w sm (w1.setCell ⟨w.heap.size + 1, 0, none⟩ (.slice N0 (ps.length + 1) n0)) (ps ++ [p]) ws := by
  have hne : some (w.heap.size + 1) ≠ (Value.slice P0 ps.length q0).ownBlock := fun e => by have := h2.1 _ e.symm; omega
  have hf : Frm (fun k => w.heap.size + 2 ≤ k) wr w1 := (Frm.refl _ _).grown hg (fun k hk => .inl (h2.1 k hk))
  have hs : Frm (fun k => k = w.heap.size + 1) w1 (w1.setCell ⟨w.heap.size + 1, 0, none⟩ (.slice N0 (ps.length + 1) n0)) := (Frm.refl (fun k => k = w.heap.size + 1) _).set (p := ⟨w.heap.size + 1, 0, none⟩) (.inl rfl) _
  refine ⟨⟨N0, n0, P1, q1, ?_, R_frm hn hs (fun k hk e => by omega), R_frm (Kd.R_over h3 h2 (by decide) hg) hs (fun k hk e => by omega)⟩, ?_, ?_, Nat.le_trans h.size (Nat.le_trans hg.size hs.size)⟩
  · rw [show (ps ++ [p]).length = ps.length + 1 by simp]
    exact blk_set (blk_grown h1 hg hne) 0 _
  · exact blk_far (hf.blk h.res (fun k => by omega)) (by dsimp only; omega) _
  · exact (h.frm.trans hf (fun i hi => .inr (by omega))).trans hs (fun i hi => .inr (by omega))
/-- One answer more. -/
theorem RInv.word (h : RInv w sm wr ps ws) {a : Int} {P0 P1 N1 : Option Addr} {q0 q1 n1 : Nat}
    (h1 : wr.heap[w.heap.size + 1]? = some (.cells #[.slice P0 ps.length q0, .slice P1 ws.length q1, .int .u32 sm] 50 (0, 0))) (h2 : Kd.R k80 80 wr 0 (fun k => w.heap.size + 2 ≤ k) (.slice P0 ps.length q0) ps) (h3 : Kd.R (Kd.int .u32) 35 wr 0 (fun k => w.heap.size + 2 ≤ k) (.slice P1 ws.length q1) ws)
    (hn : Kd.R (Kd.int .u32) 35 w1 0 (fun k => w.heap.size + 2 ≤ k) (.slice N1 (ws ++ [a]).length n1) (ws ++ [a])) (hg : wr.grownBy w1 (Value.slice P1 ws.length q1).ownBlock) :
    RInv w sm (w1.setCell ⟨w.heap.size + 1, 1, none⟩ (.slice N1 (ws.length + 1) n1)) ps (ws ++ [a]) := by
  have hne : some (w.heap.size + 1) ≠ (Value.slice P1 ws.length q1).ownBlock := fun e => by have := h3.1 _ e.symm; omega
  have hf : Frm (fun k => w.heap.size + 2 ≤ k) wr w1 := (Frm.refl _ _).grown hg (fun k hk => .inl (h3.1 k hk))
  have hs : Frm (fun k => k = w.heap.size + 1) w1 (w1.setCell ⟨w.heap.size + 1, 1, none⟩ (.slice N1 (ws.length + 1) n1)) := (Frm.refl (fun k => k = w.heap.size + 1) _).set (p := ⟨w.heap.size + 1, 1, none⟩) (.inl rfl) _
  refine ⟨⟨P0, q0, N1, n1, ?_, R_frm (Kd.R_over h2 h3 (by decide) hg) hs (fun k hk e => by omega), R_frm hn hs (fun k hk e => by omega)⟩, ?_, ?_, Nat.le_trans h.size (Nat.le_trans hg.size hs.size)⟩
  · rw [show (ws ++ [a]).length = ws.length + 1 by simp]
    exact blk_set (blk_grown h1 hg hne) 1 _
  · exact blk_far (hf.blk h.res (fun k => by omega)) (by dsimp only; omega) _
  · exact (h.frm.trans hf (fun i hi => .inr (by omega))).trans hs (fun i hi => .inr (by omega))
theorem RInv.cells (h : RInv w sm wr ps ws) : ∃ P0 q0 P1 q1, wr.cell? ⟨w.heap.size + 1, 0, none⟩ = some (.slice P0 ps.length q0) ∧ wr.cell? ⟨w.heap.size + 1, 1, none⟩ = some (.slice P1 ws.length q1) ∧ wr.cell? ⟨w.heap.size + 1, 2, none⟩ = some (.int .u32 sm) ∧
    wr.cell? ⟨w.heap.size, 0, none⟩ = some (.slice none 0 0) ∧ wr.cell? ⟨w.heap.size, 1, none⟩ = some (.slice none 0 0) ∧ wr.cell? ⟨w.heap.size, 2, none⟩ = some (.int .u32 0) ∧ wr.frozen? ⟨w.heap.size + 1, 0, none⟩ = false ∧ wr.frozen? ⟨w.heap.size + 1, 1, none⟩ = false ∧
    wr.frozen? ⟨w.heap.size, 0, none⟩ = false ∧ wr.frozen? ⟨w.heap.size, 1, none⟩ = false ∧ wr.frozen? ⟨w.heap.size, 2, none⟩ = false ∧ w.heap.size + 1 < wr.heap.size ∧
    Hid (wr.heap[w.heap.size + 1]? = some (.cells #[.slice P0 ps.length q0, .slice P1 ws.length q1, .int .u32 sm] 50 (0, 0))) ∧
    Hid (Kd.R k80 80 wr 0 (fun k => w.heap.size + 2 ≤ k) (.slice P0 ps.length q0) ps) ∧ Hid (Kd.R (Kd.int .u32) 35 wr 0 (fun k => w.heap.size + 2 ≤ k) (.slice P1 ws.length q1) ws) := by
  obtain ⟨P0, q0, P1, q1, h1, h2, h3⟩ := h.own
  have h4 := h.res
  exact ⟨P0, q0, P1, q1, (blk_cell h1 0).trans rfl, (blk_cell h1 1).trans rfl, (blk_cell h1 2).trans rfl, (blk_cell h4 0).trans rfl, (blk_cell h4 1).trans rfl, (blk_cell h4 2).trans rfl, blk_frozen h1 0, blk_frozen h1 1, blk_frozen h4 0, blk_frozen h4 1, blk_frozen h4 2, blk_lt h1, Lib.hid h1, Lib.hid h2, Lib.hid h3⟩
end
/-- What leg answers. -/
def RLegIs (w w' : World) (b : List Int) (v0 v1 : Value) (sm n : Int) : Prop :=
  match legAt b with
  | none => n = 0 ∧ v0 = .slice none 0 0 ∧ v1 = .slice none 0 0
  | some l => n = sizeL l ∧ l.f2 = sm ∧ Kd.R k80 80 w' 0 (Nw Nun w) v0 l.f0 ∧ Kd.R (Kd.int .u32) 35 w' 0 (Nw Nun w) v1 l.f1
def RLegPost (w : World) (b : List Int) (e : Ending) (w' : World) : Prop :=
  ∃ v0 v1 sm n, e = .returned (.tuple #[.agg #[v0, v1, .int .u32 sm], .int .i64 n]) ∧ Frm Nun w w' ∧ RLegIs w w' b v0 v1 sm n
theorem leg_none {b : List Int} (h : ¬ (24 ≤ b.length ∧ wordAt b 16 = vn (crc (b.take 16)) ∧ b.take 4 = [65, 77, 66, 76] ∧ 24 + (16 * wordAt b 4 + 4 * wordAt b 8).toNat ≤ b.length ∧
      wordAt b (20 + (16 * wordAt b 4 + 4 * wordAt b 8).toNat) = vn (crc ((b.drop 20).take (16 * wordAt b 4 + 4 * wordAt b 8).toNat)))) : legAt b = none := by
  unfold legAt; rw [if_neg h]
theorem rleg_no {w W : World} {b : List Int} (h : legAt b = none) (hf : Frm Nun w W) :
    RLegPost w b (.returned (.tuple #[.agg #[.slice none 0 0, .slice none 0 0, .int .u32 0], .int .i64 0])) W := ⟨_, _, _, _, rfl, hf, by unfold RLegIs; rw [h]; exact ⟨rfl, rfl, rfl⟩⟩
theorem rleg_none {w W : World} {b : List Int} {u0 u1 u2 : Value} (h : legAt b = none) (hf : Frm Nun w W) :
    RLegPost w b (.returned (.tuple #[.agg #[.slice none 0 0, .slice none 0 0, .int .u32 0], .int .i64 0])) (((W.setCell ⟨w.heap.size, 0, none⟩ u0).setCell ⟨w.heap.size, 1, none⟩ u1).setCell ⟨w.heap.size, 2, none⟩ u2) := by
  refine ⟨_, _, _, _, rfl, ?_, by unfold RLegIs; rw [h]; exact ⟨rfl, rfl, rfl⟩⟩
  exact ((hf.set (p := ⟨w.heap.size, 0, none⟩) (.inr (Nat.le_refl _)) _).set (p := ⟨w.heap.size, 1, none⟩) (.inr (Nat.le_refl _)) _).set (p := ⟨w.heap.size, 2, none⟩) (.inr (Nat.le_refl _)) _
theorem str_magic {l : List Int} (hb : Byt l) : ((strOfNums l).toList == [65, 77, 66, 76]) = decide (l = [65, 77, 66, 76]) := by
  rw [ByteArray.toList_eq, strOfNums, Bool.eq_iff_iff, beq_iff_eq, decide_eq_true_eq]
  simp only
  have key : ∀ (n : Int) (m : Nat), 0 ≤ n → n < 256 → m < 256 → UInt8.ofNat n.toNat = UInt8.ofNat m → n = m := by
    intro n m h0 h1 h2 h
    have := congrArg UInt8.toNat h
    simp at this
    omega
  constructor
  · intro h
    match l, hb, h with
    | [a, b, c, d], hb, h =>
      simp only [List.map_cons, List.map_nil, List.cons.injEq, and_true] at h
      obtain ⟨h1, h2, h3, h4⟩ := h
      have e1 := key a 65 (hb a (by simp)).1 (hb a (by simp)).2 (by omega) h1
      have e2 := key b 77 (hb b (by simp)).1 (hb b (by simp)).2 (by omega) h2
      have e3 := key c 66 (hb c (by simp)).1 (hb c (by simp)).2 (by omega) h3
      have e4 := key d 76 (hb d (by simp)).1 (hb d (by simp)).2 (by omega) h4
      rw [e1, e2, e3, e4]; rfl
    | [], _, h => simp at h
    | [a], _, h => simp at h
    | [a, b], _, h => simp at h
    | [a, b, c], _, h => simp at h
    | a :: b :: c :: d :: e :: l, _, h => simp at h
  · rintro rfl; rfl
set_option maxHeartbeats 2000000 in
set_option maxRecDepth 100000 in
theorem rleg_calls (A : Option Addr) (c : Nat) (b : List Int) (hb : Byt b) (hl : b.length ≤ 140737488355328) (hc : b.length ≤ c) (w : World) (hC : Kd.C (Kd.int .u8) w A b.length b) :
    Calls Try.prog 28 #[.slice A b.length c] w (RLegPost w b) := by
  obtain ⟨m, hm⟩ : ∃ m, m = b.length := ⟨_, rfl⟩
  have HC := Lib.hid hC
  have HB := Lib.hid hb
  have HM := Lib.hid hm
  rw [← hm] at hl hc ⊢
  clear hC hb hm
  go_enter Try.func28, Try.ntmps28
  by_cases h24 : m < 24
  · go_wp2
    refine bodyPost_ret (v := .tuple #[.agg #[.slice none 0 0, .slice none 0 0, .int .u32 0], .int .i64 0]) (by simp [results, Try.results28, go_sem]) rfl ?_
    exact rleg_no (leg_none (fun h => by have := h.1; rw [← HM.out] at this; omega)) (((Frm.refl _ _).alloc _).alloc _)
  · obtain ⟨i07, hi07, _, hsz7, _⟩ := info_parts info_u8
    have hcut := cut_to (P := Try.prog) 22 5 .i64 Try.underlying22 hi07 A m c 4 (by decide) (by omega) (by omega)
    have hcut2 := cut_to (P := Try.prog) 22 5 .i64 Try.underlying22 hi07 A m c 16 (by decide) (by omega) (by omega)
    have hC4 : Kd.C (Kd.int .u8) w A (b.take 4).length (b.take 4) := Kd.C_take HC.out (by rw [← HM.out]; omega)
    rw [take_len (by rw [← HM.out]; omega)] at hC4
    have hconv : ∀ W, Frm Nun w W → (convert 22 9 (.slice A 4 c)).run Try.prog W = .ok (.string (strOfNums (b.take 4))) W := fun W hf => Kd.C_string (P := Try.prog) (A := A) (c := c) Try.underlying22 Try.underlying5 Try.underlying9 (Kd.C_below hC4 hf.below0)
    obtain ⟨st, hst⟩ : ∃ st, st = strOfNums (b.take 4) := ⟨_, rfl⟩
    rw [← hst] at hconv
    have hcv := hconv _ (((Frm.refl _ w).alloc (.cells #[.slice none 0 0, .slice none 0 0, .int .u32 0] 50)).alloc (.cells #[.slice none 0 0, .slice none 0 0, .int .u32 0] 50))
    have hmg : (st.toList == [65, 77, 66, 76]) = decide (b.take 4 = [65, 77, 66, 76]) := by rw [hst]; exact str_magic (HB.out.take 4)
    have hgot : ∀ W, Frm Nun w W → ∀ (i : Int) (p : Nat), i = p → p + 4 ≤ m → Calls Try.prog 46 #[.slice A m c, .int .i64 i, .int .i64 4] W fun e w' => e = .returned (.int .i64 (wordAt b p)) ∧ W = w' := by
      intro W hf i p hi hp
      rw [HM.out] at hl hp ⊢
      exact rgot4_calls A c b HB.out hl W (Kd.C_below HC.out hf.below0) i p hi hp
    obtain ⟨s16, hs16⟩ : ∃ s, s = vn (crc (b.take 16)) := ⟨_, rfl⟩
    have hsum : ∀ W, Frm Nun w W → Calls Try.prog 41 #[.slice A 16 c] W fun e w' => e = .returned (.int .u32 s16) ∧ W = w' := by
      intro W hf
      have h16 : (b.take 16).length = 16 := take_len (by rw [← HM.out]; omega)
      have := rsum_calls A c (b.take 16) (HB.out.take 16) W (Kd.C_below (Kd.C_take HC.out (by rw [← HM.out]; omega)) hf.below0) (by rw [h16]; decide)
      rw [h16, ← hs16] at this
      exact this
    have hr16 : 0 ≤ s16 ∧ s16 < 4294967296 := by rw [hs16]; exact vn_range _
    have HGOT := Lib.hid hgot
    have HSUM := Lib.hid hsum
    have HS16 := Lib.hid hs16
    clear hC4 hconv hst hi07 hsz7 hgot hsum hs16
    by_cases hmag : b.take 4 = [65, 77, 66, 76]
    · rw [decide_eq_true hmag] at hmg
      have HMAG := Lib.hid hmag
      clear hmag
      go_wp2_with fail
      obtain ⟨W1, hW1⟩ : ∃ W1, W1 = (w.alloc (.cells #[.slice none 0 0, .slice none 0 0, .int .u32 0] 50)).alloc (.cells #[.slice none 0 0, .slice none 0 0, .int .u32 0] 50) := ⟨_, rfl⟩
      have hb1 : W1.heap[w.heap.size + 1]? = some (.cells #[.slice none 0 0, .slice none 0 0, .int .u32 0] 50 (0, 0)) := by
        rw [hW1]
        have := heap_alloc_new (w.alloc (.cells #[.slice none 0 0, .slice none 0 0, .int .u32 0] 50)) (.cells #[.slice none 0 0, .slice none 0 0, .int .u32 0] 50)
        rwa [World.size_alloc] at this
      have hI : RInv w 0 W1 [] [] := by
        rw [hW1] at hb1 ⊢
        refine ⟨⟨none, 0, none, 0, ?_, Kd.R_nil _ _ _ _ _, Kd.R_nil _ _ _ _ _⟩, ?_, ((Frm.refl _ _).alloc _).alloc _, by simp⟩
        · exact hb1
        · rw [Below.heap_alloc _ _ _ (by simp)]; exact heap_alloc_new w _
      rw [← hW1]
      have HI := Lib.hid hI
      have HB1 := Lib.hid hb1
      clear hW1 hI hcv hb1
      refine (HSUM.out _ HI.out.frm).mono ?_
      rintro e w2 ⟨rfl, hw2⟩
      subst hw2
      go_wp2_with fail
      refine (HGOT.out _ HI.out.frm 16 16 rfl (by omega)).mono ?_
      rintro e w2 ⟨rfl, hw2⟩
      subst hw2
      obtain ⟨w16, hw16⟩ : ∃ x, x = wordAt b 16 := ⟨_, rfl⟩
      rw [← hw16]
      have HW16 := Lib.hid hw16
      clear hw16
      have e0 := (blk_cell HI.out.res 0).trans rfl
      have e1 := (blk_cell HI.out.res 1).trans rfl
      have e2 := (blk_cell HI.out.res 2).trans rfl
      have n0 := blk_frozen HI.out.res 0
      have n1 := blk_frozen HI.out.res 1
      have n2 := blk_frozen HI.out.res 2
      have m2 := blk_frozen HB1.out 2
      have hsz := HI.out.size
      have d0 := (blk_cell HB1.out 0).trans rfl
      have d1 := (blk_cell HB1.out 1).trans rfl
      have d2 := (blk_cell HB1.out 2).trans rfl
      cases he : (w16 != s16)
      · have HE := Lib.hid (of_bne he)
        have hgw : ∀ o, 0 ≤ wordAt b o ∧ wordAt b o < 4294967296 := fun o => wordAt_range HB.out o
        have hp := hgw 4
        have ha := hgw 8
        have hx := hgw 12
        obtain ⟨p, hpe⟩ : ∃ p, p = wordAt b 4 := ⟨_, rfl⟩
        obtain ⟨a, hae⟩ : ∃ p, p = wordAt b 8 := ⟨_, rfl⟩
        obtain ⟨x, hxe⟩ : ∃ p, p = wordAt b 12 := ⟨_, rfl⟩
        rw [← hpe] at hp
        rw [← hae] at ha
        obtain ⟨pn, rfl⟩ := Int.eq_ofNat_of_zero_le hp.1
        obtain ⟨an, rfl⟩ := Int.eq_ofNat_of_zero_le ha.1
        rw [← hxe] at hx
        have HPE := Lib.hid hpe
        have HAE := Lib.hid hae
        have HXE := Lib.hid hxe
        clear hpe hae hxe hgw
        go_wp2_with fail
        clear he
        refine (HGOT.out _ HI.out.frm 4 4 rfl (by omega)).mono ?_
        rintro e w2 ⟨rfl, hw2⟩
        subst hw2
        rw [← HPE.out]
        go_wp2_with fail
        refine (HGOT.out _ HI.out.frm 8 8 rfl (by omega)).mono ?_
        rintro e w2 ⟨rfl, hw2⟩
        subst hw2
        rw [← HAE.out]
        by_cases hfit : (m : Int) < 20 + (16 * (pn : Int) + 4 * (an : Int)) + 4
        · go_wp2_with fail
          refine bodyPost_ret (v := .tuple #[.agg #[.slice none 0 0, .slice none 0 0, .int .u32 0], .int .i64 0]) (by simp [results, Try.results28, go_sem, e0, e1, e2]) rfl ?_
          exact rleg_none (leg_none (fun h => by have := h.2.2.2.1; rw [← HPE.out, ← HAE.out, ← HM.out] at this; omega)) HI.out.frm
        · obtain ⟨body, hbody⟩ : ∃ r, r = (b.drop 20).take (16 * pn + 4 * an) := ⟨_, rfl⟩
          have hbn : body.length = 16 * pn + 4 * an := by rw [hbody, List.length_take, List.length_drop, ← HM.out]; omega
          obtain ⟨s2, hs2⟩ : ∃ s, s = vn (crc body) := ⟨_, rfl⟩
          have hr2 : 0 ≤ s2 ∧ s2 < 4294967296 := by rw [hs2]; exact vn_range _
          have hsum2 : Calls Try.prog 41 #[.slice (Option.map (fun x => { block := x.block, off := x.off + 20 }) A) (16 * pn + 4 * an) (c - 20)] W1 fun e w' => e = .returned (.int .u32 s2) ∧ W1 = w' := by
            have h1 := cut_C (c := c) (i := 20) (j := 20 + (16 * (pn : Int) + 4 * (an : Int))) (Kd.C_below HC.out HI.out.frm.below0) (by rw [← HM.out]; exact hc) (by decide) (by omega) (by rw [← HM.out]; omega)
            rw [show ((20 : Int).toNat) = 20 from rfl, if_neg (by omega), show (20 + (16 * (pn : Int) + 4 * (an : Int))).toNat - 20 = 16 * pn + 4 * an by omega, ← hbody] at h1
            rw [← hbn] at h1 ⊢
            have h2 := rsum_calls (A.map (·.add 20)) (c - 20) body (by rw [hbody]; exact (HB.out.drop _).take _) W1 h1 (by omega)
            rw [← hs2] at h2
            exact h2
          have HBODY := Lib.hid hbody
          have HS2 := Lib.hid hs2
          have HSUM2 := Lib.hid hsum2
          clear hbody hs2 hbn hsum2
          go_wp2_with fail
          refine HSUM2.out.mono ?_
          rintro e w2 ⟨rfl, hw2⟩
          subst hw2
          go_wp2_with fail
          refine (HGOT.out _ HI.out.frm (20 + (16 * (pn : Int) + 4 * (an : Int))) (20 + (16 * (pn : Int) + 4 * (an : Int)).toNat) (by omega) (by omega)).mono ?_
          rintro e w2 ⟨rfl, hw2⟩
          subst hw2
          obtain ⟨w2, hw2⟩ : ∃ x, x = wordAt b (20 + (16 * (pn : Int) + 4 * (an : Int)).toNat) := ⟨_, rfl⟩
          rw [← hw2]
          have HW2 := Lib.hid hw2
          clear hw2
          cases he2 : (w2 != s2)
          · have HE2 := Lib.hid (of_bne he2)
            go_wp2_with fail
            clear he2
            refine (HGOT.out _ HI.out.frm 12 12 rfl (by omega)).mono ?_
            rintro e w3 ⟨rfl, hw3⟩
            subst hw3
            rw [← HXE.out]
            go_wp2
            have hI2 : RInv w x (W1.setCell ⟨w.heap.size + 1, 2, none⟩ (.int .u32 x)) (picksOf (b.drop 20) 0) [] := by
              have hs : Frm (fun k => k = w.heap.size + 1) W1 (W1.setCell ⟨w.heap.size + 1, 2, none⟩ (.int .u32 x)) := (Frm.refl (fun k => k = w.heap.size + 1) _).set (p := ⟨w.heap.size + 1, 2, none⟩) (.inl rfl) _
              exact ⟨⟨none, 0, none, 0, blk_set HB1.out 2 _, Kd.R_nil _ _ _ _ _, Kd.R_nil _ _ _ _ _⟩, blk_far HI.out.res (by dsimp only; omega) _, HI.out.frm.trans hs (fun i hi => .inr (by omega)), Nat.le_trans hsz hs.size⟩
            obtain ⟨W2, hW2⟩ : ∃ W, W = W1.setCell ⟨w.heap.size + 1, 2, none⟩ (.int .u32 x) := ⟨_, rfl⟩
            rw [← hW2] at hI2 ⊢
            have HI2 := Lib.hid hI2
            clear hW2 hI2 d0 d1 d2 e0 e1 e2 n0 n1 n2 m2 hsz HB1 HI HSUM2 HSUM
            have hgot8 : ∀ W, Frm Nun w W → ∀ (i : Int) (p : Nat), i = p → p + 8 ≤ m → Calls Try.prog 46 #[.slice A m c, .int .i64 i, .int .i64 8] W fun e w' => e = .returned (.int .i64 (s64 (fle ((b.drop p).take 8)))) ∧ W = w' := by
              intro W hf i p hi hp
              rw [HM.out] at hl hp ⊢
              exact rgot_calls A c b HB.out hl W (Kd.C_below HC.out hf.below0) i p 8 hi (by omega) hp
            have HGOT8 := Lib.hid hgot8
            clear hgot8
            go_loopw [9] (fun i wr => ∃ k : Nat, k ≤ pn ∧ i = .int .i64 k ∧ RInv w x wr (picksOf (b.drop 20) k) []) (fun i _ => pn - (intOf i).toNat)
            case atStart => exact ⟨0, Nat.zero_le _, rfl, HI2.out⟩
            case round =>
              clear HI2
              obtain ⟨k, hk, rfl, hi⟩ := hrel
              by_cases hlt : k < pn
              · obtain ⟨x0, hx0⟩ : ∃ x, x = s64 (fle ((b.drop (20 + 16 * k)).take 8)) := ⟨_, rfl⟩
                obtain ⟨x1, hx1⟩ : ∃ x, x = s64 (fle ((b.drop (20 + 16 * k + 8)).take 8)) := ⟨_, rfl⟩
                have hg1 := HGOT8.out wr.drew hi.frm.drew (20 + 16 * (k : Int)) (20 + 16 * k) (by omega) (by omega)
                have hg2 := HGOT8.out wr.drew hi.frm.drew (20 + 16 * (k : Int) + 8) (20 + 16 * k + 8) (by omega) (by omega)
                rw [← hx0] at hg1
                rw [← hx1] at hg2
                obtain ⟨P0, q0, P1, q1, d0, d1, d2, e0, e1, e2, m0, m1, n0, n1, n2, hsz, HG, HP, HQ⟩ := hi.cells
                have hln : ((picksOf (b.drop 20) k).length + 1) * 16 ≤ 140737488355328 := by unfold picksOf; rw [List.length_map, List.length_range]; omega
                have HLN := Lib.hid hln
                have HK := Lib.hid hi
                have HG1 := Lib.hid hg1
                have HG2 := Lib.hid hg2
                have HX0 := Lib.hid hx0
                have HX1 := Lib.hid hx1
                clear hi hg1 hg2 hx0 hx1 hln
                go_wp2
                have hPd : Kd.R k80 80 wr.drew 0 (fun k => w.heap.size + 2 ≤ k) (.slice P0 (picksOf (b.drop 20) k).length q0) (picksOf (b.drop 20) k) := HP.out
                have hGd : wr.drew.heap[w.heap.size + 1]? = some (.cells #[.slice P0 (picksOf (b.drop 20) k).length q0, .slice P1 ([] : List Int).length q1, .int .u32 x] 50 (0, 0)) := HG.out
                have HPD := Lib.hid hPd
                have HGD := Lib.hid hGd
                clear hPd hGd
                have s1 : IntKind.i64.wrap (16 * (k : Int)) = 16 * (k : Int) := IntWalk.i64_in _ (by omega)
                have s2 : IntKind.i64.wrap (20 + 16 * (k : Int)) = 20 + 16 * (k : Int) := IntWalk.i64_in _ (by omega)
                have s3 : IntKind.i64.wrap (20 + 16 * (k : Int) + 8) = 20 + 16 * (k : Int) + 8 := IntWalk.i64_in _ (by omega)
                go_region_law (first | ((with_reducible refine app_gate (.tmp 69) (.tmp 82) 47 rfl ?_); refine app_step k80 (W := wr.drew) (.tmp 69) (.tmp 82) 47 80 (.agg #[.int .i64 0, .int .i64 0]) 16 (by rfl) rfl Try.underlying47 info80 rfl (by decide) (by decide) (.slice P0 (picksOf (b.drop 20) k).length q0) (picksOf (b.drop 20) k) ⟨x0, x1⟩ [.int .i64 x0, .int .i64 x1] (fun i => w.heap.size + 2 ≤ i) (fun _ => False) rfl rfl rfl (k80_mkM _ _ _ _) (fun _ hk => hk.elim) (fun i hi => Nat.le_trans HK.out.size hi) HPD.out HLN.out ?_; intro v1 w14 ho hg1; obtain ⟨N0, n0', rfl, _, _⟩ := Kd.R_reads ho; have g14 := blk_grown HGD.out hg1 (fun e => absurd (HPD.out.1 _ e.symm) (by omega)); have d14 := (blk_cell g14 0).trans rfl; have f14 := blk_frozen g14 0; simp at d14; have HO := Lib.hid ho; have HGR := Lib.hid hg1; clear ho hg1 g14) | (go_simp; go_at_call 46; (first | (with_reducible refine HG1.out.mono ?_) | (with_reducible refine HG2.out.mono ?_)); rintro e w' ⟨rfl, hw'⟩; subst hw'))
                all_goals
                  clear s1 s2 s3
                  go_wp2
                  go_roundw
                  case rel =>
                    refine ⟨k + 1, by omega, by go_num, ?_⟩
                    rw [picks_snoc, show pickAt (b.drop 20) k = ⟨x0, x1⟩ by rw [HX0.out, HX1.out, pickAt, List.drop_drop, List.drop_drop, Nat.add_assoc]]
                    exact HK.out.drew.pick HGD.out HPD.out HQ.out HO.out HGR.out
                  case measure => simp [intOf]; omega
              · obtain rfl : pn = k := by omega
                have HK := Lib.hid (show RInv w x wr (picksOf (b.drop 20) pn) (wordsOf (b.drop 20) pn 0) from hi)
                clear hi hlt hk HGOT8
                obtain ⟨wo, hwo⟩ : ∃ u, u = wr := ⟨_, rfl⟩
                subst hwo
                go_wp2
                go_loopw [10] (fun i wr => ∃ j : Nat, j ≤ an ∧ i = .int .i64 j ∧ RInv w x wr (picksOf (b.drop 20) pn) (wordsOf (b.drop 20) pn j)) (fun i _ => an - (intOf i).toNat)
                case atStart => exact ⟨0, Nat.zero_le _, rfl, HK.out⟩
                case round =>
                  clear HK
                  obtain ⟨k, hk, rfl, hi⟩ := hrel
                  by_cases hlt : k < an
                  · obtain ⟨x0, hx0⟩ : ∃ x, x = wordAt b (20 + 16 * pn + 4 * k) := ⟨_, rfl⟩
                    have hg1 := HGOT.out wr.drew hi.frm.drew (20 + 16 * (pn : Int) + 4 * (k : Int)) (20 + 16 * pn + 4 * k) (by omega) (by omega)
                    have hr0 := wordAt_range HB.out (20 + 16 * pn + 4 * k)
                    rw [← hx0] at hg1 hr0
                    obtain ⟨P0, q0, P1, q1, d0, d1, d2, e0, e1, e2, m0, m1, n0, n1, n2, hsz, HG, HP, HQ⟩ := hi.cells
                    have hln : ((wordsOf (b.drop 20) pn k).length + 1) * 4 ≤ 140737488355328 := by unfold wordsOf; rw [List.length_map, List.length_range]; omega
                    have hQd : Kd.R (Kd.int .u32) 35 wr.drew 0 (fun k => w.heap.size + 2 ≤ k) (.slice P1 (wordsOf (b.drop 20) pn k).length q1) (wordsOf (b.drop 20) pn k) := HQ.out
                    have hGd : wr.drew.heap[w.heap.size + 1]? = some (.cells #[.slice P0 (picksOf (b.drop 20) pn).length q0, .slice P1 (wordsOf (b.drop 20) pn k).length q1, .int .u32 x] 50 (0, 0)) := HG.out
                    have HLN := Lib.hid hln
                    have HK := Lib.hid hi
                    have HG1 := Lib.hid hg1
                    have HX0 := Lib.hid hx0
                    have HQD := Lib.hid hQd
                    have HGD := Lib.hid hGd
                    clear hi hg1 hx0 hln hQd hGd
                    go_wp2
                    have s1 : IntKind.i64.wrap (16 * (pn : Int)) = 16 * (pn : Int) := IntWalk.i64_in _ (by omega)
                    have s2 : IntKind.i64.wrap (20 + 16 * (pn : Int)) = 20 + 16 * (pn : Int) := IntWalk.i64_in _ (by omega)
                    have s3 : IntKind.i64.wrap (4 * (k : Int)) = 4 * (k : Int) := IntWalk.i64_in _ (by omega)
                    have s4 : IntKind.i64.wrap (20 + 16 * (pn : Int) + 4 * (k : Int)) = 20 + 16 * (pn : Int) + 4 * (k : Int) := IntWalk.i64_in _ (by omega)
                    have s5 : IntKind.u32.wrap x0 = x0 := IntWalk.u32_in _ (by omega)
                    go_region_law (first | ((with_reducible refine app_gate (.tmp 91) (.tmp 101) 48 rfl ?_); refine app_step (Kd.int .u32) (W := wr.drew) (.tmp 91) (.tmp 101) 48 35 (.int .u32 0) 4 (by rfl) rfl Try.underlying48 info35 rfl (by decide) (by decide) (.slice P1 (wordsOf (b.drop 20) pn k).length q1) (wordsOf (b.drop 20) pn k) x0 [.int .u32 x0] (fun i => w.heap.size + 2 ≤ i) (fun _ => False) rfl rfl rfl rfl (fun _ hk => hk.elim) (fun i hi => Nat.le_trans HK.out.size hi) HQD.out HLN.out ?_; intro v1 w14 ho hg1; obtain ⟨N0, n0', rfl, _, _⟩ := Kd.R_reads ho; have g14 := blk_grown HGD.out hg1 (fun e => absurd (HQD.out.1 _ e.symm) (by omega)); have d14 := (blk_cell g14 1).trans rfl; have f14 := blk_frozen g14 1; simp at d14; have HO := Lib.hid ho; have HGR := Lib.hid hg1; clear ho hg1 g14) | (go_simp; go_at_call 46; (with_reducible refine HG1.out.mono ?_); rintro e w' ⟨rfl, hw'⟩; subst hw'))
                    all_goals
                      clear s1 s2 s3 s4 s5
                      go_wp2
                      go_roundw
                      case rel =>
                        refine ⟨k + 1, by omega, by go_num, ?_⟩
                        rw [words_snoc, show wordAt (b.drop 20) (16 * pn + 4 * k) = x0 by rw [HX0.out, wordAt, wordAt, List.drop_drop, Nat.add_assoc]]
                        exact HK.out.drew.word HGD.out HP.out HQD.out HO.out HGR.out
                      case measure => simp [intOf]; omega
                  · obtain rfl : an = k := by omega
                    obtain ⟨P0, q0, P1, q1, d0, d1, d2, e0, e1, e2, m0, m1, n0, n1, n2, hsz, HG, HP, HQ⟩ := hi.cells
                    have HK := Lib.hid hi
                    clear hi hlt hk HGOT
                    go_wp2
                    refine bodyPost_ret (v := .tuple #[.agg #[.slice P0 (picksOf (b.drop 20) pn).length q0, .slice P1 (wordsOf (b.drop 20) pn an).length q1, .int .u32 x], .int .i64 (20 + (16 * (pn : Int) + 4 * (an : Int)) + 4)]) (by simp [results, Try.results28, go_sem, e0, e1, e2]) rfl ?_
                    have hs : Frm (fun k => k = w.heap.size) wr (((wr.setCell ⟨w.heap.size, 0, none⟩ (.slice P0 (picksOf (b.drop 20) pn).length q0)).setCell ⟨w.heap.size, 1, none⟩ (.slice P1 (wordsOf (b.drop 20) pn an).length q1)).setCell ⟨w.heap.size, 2, none⟩ (.int .u32 x)) :=
                      (((Frm.refl (fun k => k = w.heap.size) _).set (p := ⟨w.heap.size, 0, none⟩) (.inl rfl) _).set (p := ⟨w.heap.size, 1, none⟩) (.inl rfl) _).set (p := ⟨w.heap.size, 2, none⟩) (.inl rfl) _
                    have hleg : legAt b = some ⟨picksOf (b.drop 20) pn, wordsOf (b.drop 20) pn an, x⟩ := by
                      have e4 : wordAt b 4 = (pn : Int) := HPE.out.symm
                      have e8 : wordAt b 8 = (an : Int) := HAE.out.symm
                      have eN : (16 * (pn : Int) + 4 * (an : Int)).toNat = 16 * pn + 4 * an := by omega
                      unfold legAt
                      rw [e4, e8, eN, if_pos ⟨by rw [← HM.out]; omega, by rw [← HW16.out, ← HS16.out]; exact HE.out, HMAG.out, by rw [← HM.out]; omega, by rw [← eN, ← HW2.out, eN, ← HBODY.out, ← HS2.out]; exact HE2.out⟩, HXE.out]
                      rfl
                    refine ⟨_, _, _, _, rfl, HK.out.frm.trans hs (fun i hi => .inr (by omega)), ?_⟩
                    unfold RLegIs
                    rw [hleg]
                    refine ⟨?_, rfl, Kd.R_mono (R_frm HP.out hs (fun k hk e => by omega)) (fun k hk => .inr (by omega)), Kd.R_mono (R_frm HQ.out hs (fun k hk e => by omega)) (fun k hk => .inr (by omega))⟩
                    unfold sizeL
                    rw [picksOf_len, wordsOf_len]
                    omega
          · have HE2 := Lib.hid (bne_iff_ne.1 he2)
            go_wp2_with fail
            refine bodyPost_ret (v := .tuple #[.agg #[.slice none 0 0, .slice none 0 0, .int .u32 0], .int .i64 0]) (by simp [results, Try.results28, go_sem, e0, e1, e2]) rfl ?_
            refine rleg_none (leg_none (fun h => HE2.out ?_)) HI.out.frm
            have h5 := h.2.2.2.2
            rw [← HPE.out, ← HAE.out] at h5
            rw [HW2.out, HS2.out, HBODY.out, show 16 * pn + 4 * an = (16 * (pn : Int) + 4 * (an : Int)).toNat by omega]
            exact h5
      · have HE := Lib.hid (bne_iff_ne.1 he)
        go_wp2_with fail
        refine bodyPost_ret (v := .tuple #[.agg #[.slice none 0 0, .slice none 0 0, .int .u32 0], .int .i64 0]) (by simp [results, Try.results28, go_sem, e0, e1, e2]) rfl ?_
        exact rleg_none (leg_none (fun h => HE.out (by rw [HW16.out, HS16.out]; exact h.2.1))) HI.out.frm
    · rw [decide_eq_false hmag] at hmg
      have HMAG := Lib.hid hmag
      clear hmag
      go_wp2_with fail
      refine bodyPost_ret (v := .tuple #[.agg #[.slice none 0 0, .slice none 0 0, .int .u32 0], .int .i64 0]) (by simp [results, Try.results28, go_sem]) rfl ?_
      exact rleg_no (leg_none (fun h => HMAG.out h.2.2.1)) (((Frm.refl _ _).alloc _).alloc _)
end Go.Proofs.Ytoebhddgpicegaa
namespace Go.Proofs.Ytoebhddgpicegaa
open Go.RowKit Go.Proofs.YtoebhddgpicegaaW.PrintWords
open PReplayApart
theorem decT_pGo {b : List Int} (hb : Byt b) (hl : ¬ b.length > 65536) : decT b = match pGo (b.length + 1) b with
  | some ls => (ls, 0)
  | none => ([], 210) := by
  unfold decT
  rw [if_neg hl]
  have e : legsAll b = pGo (b.length + 1) b := legsGo_at _ _ (Rd.new_wf hb (by omega)) rfl
  rw [e]
  cases pGo (b.length + 1) b <;> rfl
theorem legB_nat {l : S50} {n : Int} (h : n = sizeL l) : n.toNat = (legB l).length := by have := legB_len l; omega
/-- What the document's Decode answers. -/
def RDecPost (w : World) (x : List S50 × Int) (e : Ending) (w' : World) : Prop :=
  ∃ v, e = .returned (.tuple #[v, .int .i64 x.2]) ∧ Kd.R k50 50 w' 0 (Nw Nun w) v x.1 ∧ Frm Nun w w'
set_option maxHeartbeats 2000000 in
set_option maxRecDepth 100000 in
theorem rdecode_calls (A : Option Addr) (c : Nat) (b : List Int) (hb : Byt b) (hl : b.length ≤ 140737488355328) (hc : b.length ≤ c) (w : World) (hC : Kd.C (Kd.int .u8) w A b.length b) :
    Calls Try.prog 13 #[.slice A b.length c] w (RDecPost w (decT b)) := by
  obtain ⟨m, hm⟩ : ∃ m, m = b.length := ⟨_, rfl⟩
  have HC := Lib.hid hC
  have HB := Lib.hid hb
  have HM := Lib.hid hm
  rw [← hm] at hl hc ⊢
  clear hC hb hm
  by_cases hbig : m > 65536
  · have hd : decT b = ([], 210) := by unfold decT; rw [if_pos (by rw [← HM.out]; exact hbig)]
    rw [hd]
    clear hd
    go_enter Try.func13, Try.ntmps13
    go_wp2
    go_ret2
    exact ⟨_, rfl, Kd.R_nil _ _ _ _ _, Frm.refl _ _⟩
  · have hd := decT_pGo HB.out (by rw [← HM.out]; exact hbig)
    rw [← HM.out] at hd
    have HD := Lib.hid hd
    clear hd
    go_enter Try.func13, Try.ntmps13
    go_wp2
    go_loopw [4, 5] (fun v i wr => ∃ o j : Nat, ∃ pre, o ≤ m ∧ m - o < j ∧ i = .int .i64 o ∧ pre.length ≤ o ∧ Hid (pGo (m + 1) b = (pGo j (b.drop o)).map (pre ++ ·)) ∧ Kd.R k50 50 wr 0 (Nw Nun w) v pre ∧ Frm Nun w wr) (fun _ i _ => m - (intOf i).toNat)
    case atStart => exact ⟨0, m + 1, [], Nat.zero_le _, by omega, rfl, Nat.zero_le _, Lib.hid (by rw [List.drop_zero]; cases pGo (m + 1) b <;> simp), Kd.R_nil _ _ _ _ _, Frm.refl _ _⟩
    case round =>
      obtain ⟨o, j, pre, ho, hj, rfl, hpl, HP, hr, hf⟩ := hrel
      obtain ⟨A2, q2, rfl, _, _⟩ := Kd.R_reads hr
      have HR := Lib.hid hr
      have HF := Lib.hid hf
      clear hr hf
      by_cases hlt : o < m
      · have hleg : Calls Try.prog 28 #[.slice (Option.map (fun x => x.add o) A) (m - o) (c - o)] wr (RLegPost wr (b.drop o)) := by
          have h1 := cut_C (c := c) (i := (o : Int)) (j := (m : Int)) (Kd.C_below HC.out HF.out.below0) (by rw [← HM.out]; exact hc) (by omega) (by omega) (by rw [← HM.out]; omega)
          rw [show ((o : Int)).toNat = o from rfl, show ((m : Int)).toNat = m from rfl, if_neg (by omega), List.take_of_length_le (by rw [List.length_drop, ← HM.out]; omega)] at h1
          have hdl : (b.drop o).length = m - o := by rw [List.length_drop, ← HM.out]
          rw [← hdl] at h1 ⊢
          exact rleg_calls _ _ _ (HB.out.drop _) (by rw [hdl]; omega) (by rw [hdl]; omega) wr h1
        have HLEG := Lib.hid hleg
        clear hleg
        obtain ⟨wo, hwo⟩ : ∃ u, u = wr := ⟨_, rfl⟩
        subst hwo
        go_wp2_with fail
        refine HLEG.out.mono ?_
        rintro e wa ⟨v0, v1, sm, n, rfl, hfl, hl1⟩
        unfold RLegIs at hl1
        obtain ⟨j', rfl⟩ : ∃ j', j = j' + 1 := ⟨j - 1, by omega⟩
        have hpe : pGo (j' + 1) (b.drop o) = match legAt (b.drop o) with
          | some l => (pGo j' ((b.drop o).drop (legB l).length)).map (l :: ·)
          | none => none := by
          rw [pGo, if_neg (by rw [List.length_drop, ← HM.out]; omega)]
          cases legAt (b.drop o) <;> rfl
        cases hleg : legAt (b.drop o) with
        | none =>
          rw [hleg] at hl1 hpe
          obtain ⟨rfl, rfl, rfl⟩ := hl1
          have T := Lib.hid (show decT b = ([], 210) by rw [HD.out, HP.out, hpe]; rfl)
          clear hpe hleg HLEG HP HD
          have HFL := Lib.hid (HF.out.quiet hfl)
          clear hfl
          go_wp2
          go_ret2
          refine ⟨_, by rw [T.out]; rfl, by rw [T.out]; exact Kd.R_nil _ _ _ _ _, HFL.out.alloc _⟩
        | some l =>
          rw [hleg] at hl1 hpe
          obtain ⟨hn, rfl, h0, h1⟩ := hl1
          have hback := legAt_back (HB.out.drop o) hleg
          have hsz := hback.2.1
          have hs24 := sizeL_pos l
          rw [List.length_drop, ← HM.out] at hsz
          have hnl := legB_nat hn
          obtain ⟨nn, rfl⟩ : ∃ nn : Nat, n = nn := ⟨n.toNat, by omega⟩
          rw [show ((nn : Int)).toNat = nn from rfl] at hnl
          have hnb : 24 ≤ nn ∧ nn ≤ m - o := by omega
          have HN := Lib.hid hn
          have HNL := Lib.hid hnl
          have HPE := Lib.hid hpe
          have HFL := Lib.hid hfl
          obtain ⟨P0, q0, rfl, _, _⟩ := Kd.R_reads h0
          obtain ⟨P1, q1, rfl, _, _⟩ := Kd.R_reads h1
          have H0 := Lib.hid h0
          have H1 := Lib.hid h1
          clear hn hnl hpe hfl h0 h1 hleg HLEG hback hsz hs24
          have hk2 : Frm Nun wo (wa.alloc (.cells #[.slice P0 l.f0.length q0, .slice P1 l.f1.length q1, .int .u32 l.f2] 50)) := HFL.out.alloc _
          have hal : Frm Nun wa (wa.alloc (.cells #[.slice P0 l.f0.length q0, .slice P1 l.f1.length q1, .int .u32 l.f2] 50)) := (Frm.refl _ _).alloc _
          have r0 := Kd.R_mono (R_frm (Kd.R_bound H0.out) hal (fun _ _ h => h)) (ok' := fun k => wo.heap.size ≤ k ∧ k < wa.heap.size) (fun k hk => ⟨hk.1.elim (fun h => h.elim) id, hk.2.2.1⟩)
          have r1 := Kd.R_mono (R_frm (Kd.R_bound H1.out) hal (fun _ _ h => h)) (ok' := fun k => wo.heap.size ≤ k ∧ k < wa.heap.size) (fun k hk => ⟨hk.1.elim (fun h => h.elim) id, hk.2.2.1⟩)
          have HMM := Lib.hid (k50_mkM _ 0 (fun k => wo.heap.size ≤ k ∧ k < wa.heap.size) l r0 r1)
          have HRR := Lib.hid (R_frm HR.out hk2 (fun _ _ h => h))
          have HLT := Lib.hid (fun i hi => Kd.R_lt HR.out i hi)
          have HK2 := Lib.hid hk2
          have hpm : (pre.length + 1) * 56 ≤ 140737488355328 := by omega
          have HPM := Lib.hid hpm
          clear r0 r1 hal hk2 hpm
          go_wp2_with (at_builtin; refine app_list k50 (W := wa.alloc (.cells #[.slice P0 l.f0.length q0, .slice P1 l.f1.length q1, .int .u32 l.f2] 50)) (.tmp 24) (.tmp 26) 23 50 (.agg #[.slice none 0 0, .slice none 0 0, .int .u32 0]) 56 rfl rfl Try.underlying23 info50 rfl (by decide) (by decide) (.slice A2 pre.length q2) pre l [.slice P0 l.f0.length q0, .slice P1 l.f1.length q1, .int .u32 l.f2] (Nw Nun w) (fun k => wo.heap.size ≤ k ∧ k < wa.heap.size) rfl (congrArg (fun n => Value.slice (some ⟨n, 0, none⟩) 1 1) (World.size_alloc _ _).symm) rfl HMM.out (fun k hk => ⟨.inr (Nat.le_trans HF.out.size hk.1), fun e => by have := HLT.out k e.symm; omega⟩) (fun k hk => .inr (Nat.le_trans (HF.out.quiet HK2.out).size hk)) HRR.out HPM.out ?_; intro v3 w3 ho1 hg1; obtain ⟨A3, q3, rfl, _, _⟩ := Kd.R_reads ho1; have HO1 := Lib.hid ho1; have HG1 := Lib.hid hg1; clear ho1 hg1)
          go_roundw
          case rel =>
            refine ⟨o + nn, j', pre ++ [l], by omega, by omega, by go_num, by rw [List.length_append, List.length_singleton]; omega, Lib.hid ?_, by have := HO1.out; rwa [List.length_append, List.length_singleton] at this, (HF.out.quiet HK2.out).grown HG1.out (fun i hi => HRR.out.1 i hi)⟩
            rw [HP.out, HPE.out]
            simp only [List.drop_drop, ← HNL.out]
            cases pGo j' (b.drop (o + nn)) <;> simp
          case measure => simp [intOf]; omega
      · obtain rfl : o = m := by omega
        have T := Lib.hid (show decT b = (pre, 0) by
          obtain ⟨j', rfl⟩ : ∃ j', j = j' + 1 := ⟨j - 1, by omega⟩
          rw [HD.out, HP.out, pGo, if_pos (by rw [List.length_drop, ← HM.out]; omega)]
          simp)
        clear HP HD
        go_wp2
        go_ret2
        exact ⟨_, by rw [T.out]; rfl, by rw [T.out]; exact HR.out, HF.out⟩
end Go.Proofs.Ytoebhddgpicegaa
namespace Go.Proofs.Ytoebhddgpicegaa
open Go.RowKit Go.Proofs.YtoebhddgpicegaaW.PrintWords
open PReplayApart
theorem lengthOf_ev (l : List S50) (hl : l.length ≤ 140737488355328) (hs : sumL l ≤ 1000000000000) : Ev (fun k => amberlaw21_lengthOf.f k l) (sumL l) := by
  have loop : ∀ d i : Nat, i + d = l.length → Ev (fun k => amberlaw21_lengthOf.l0 k l (sumL (l.take i)) (i : Int)) (sumL l) := by
    intro d
    induction d with
    | zero =>
      intro i hi
      refine Ev.step (f := fun _ => some _) (fun k => ?_) (Ev.now _)
      simp only [amberlaw21_lengthOf.l0]
      rw [if_neg (by omega), List.take_of_length_le (by omega)]
    | succ d ih =>
      intro i hi
      have hr : rd_T50 l (i : Int) = l.getD i z50 := by simp [rd_T50]
      refine Ev.step (f := fun k => amberlaw21_lengthOf.l0 k l (sumL (l.take (i + 1))) ((i + 1 : Nat) : Int)) (fun k => ?_) (ih (i + 1) (by omega))
      have h1 : sumL (l.take (i + 1)) = sumL (l.take i) + sizeL (l.getD i z50) := by rw [snocG (by omega) z50, sumL_snoc]
      have h2 := sumL_take l (i + 1)
      have h3 := sumL_nonneg (l.take i)
      have h4 := sizeL_pos (l.getD i z50)
      simp only [amberlaw21_lengthOf.l0]
      rw [if_pos (by omega), if_pos (by omega), wrap_nat (by omega), hr]
      congr 1
      rw [h1]
      unfold sizeL at h4 h1 ⊢
      unfold wrap64
      omega
  have := loop l.length 0 (by omega)
  rw [List.take_zero] at this
  exact this
theorem lengthOf_calls (w : World) (A : Option Addr) (c : Nat) (l : List S50) (hr : Kd.C k50 w A l.length l) (hc : l.length ≤ c) (hl : l.length ≤ 140737488355328) (hs : sumL l ≤ 1000000000000) :
    Calls Try.prog 20 #[.slice A l.length c] w fun e w' => e = .returned (.int .i64 (sumL l)) ∧ Frm Nun w w' := by
  obtain ⟨k, hk⟩ := (lengthOf_ev l hl hs).rounds
  refine (amberlaw21_lengthOf.calls k A c l _ w hr hc hk).mono ?_
  rintro e w' ⟨rfl, h⟩
  exact ⟨rfl, (Frm.refl _ _).drawn h⟩
/-- The legs' numbers are int's. -/
def PkOk (l : List S50) : Prop := ∀ x ∈ l, ∀ p ∈ x.f0, (-9223372036854775808 ≤ p.f0 ∧ p.f0 < 9223372036854775808) ∧ (-9223372036854775808 ≤ p.f1 ∧ p.f1 < 9223372036854775808)
theorem sum_each {l : List S50} {x : S50} (h : x ∈ l) : sizeL x ≤ sumL l := by
  obtain ⟨a, b, rfl⟩ := List.append_of_mem h
  rw [sumL_app]
  have h1 := sumL_nonneg a
  have h2 := sumL_nonneg b
  show _ ≤ sumL a + (sizeL x + sumL b)
  omega
theorem legs_rd {l : List S50} (h : LegsOk l) (hp : PkOk l) (hs : sumL l ≤ 65536) : ∀ x ∈ l, LegRd x := by
  intro x hx
  have h1 := sum_each hx
  have h2 := h.each x hx
  unfold sizeL at h1
  exact ⟨hp x hx, h2.sum, h2.ans, by omega, by omega⟩
theorem rd_ok {l : List S50} (h : ∀ x ∈ l, LegRd x) (hs : sumL l ≤ 65536) : LegsOk l := by
  refine ⟨?_, fun x hx => ⟨(h x hx).sum, (h x hx).ans, by have := (h x hx).n0; omega, by have := (h x hx).n1; omega⟩⟩
  have : ∀ l : List S50, 24 * (l.length : Int) ≤ sumL l := by
    intro l
    induction l with
    | nil => decide
    | cons x l ih => have := sizeL_pos x; simp only [sumL, List.map_cons, List.sum_cons, List.length_cons] at ih ⊢; omega
  have := this l
  omega
theorem enc_fit {l : List S50} (hs : sumL l ≤ 65536) : encT l = (legsB l, 0) := by rw [enc_eq, rencT, if_neg (by omega)]
theorem enc_big {l : List S50} (hs : 65536 < sumL l) : encT l = ([], 2) := by rw [enc_eq, rencT, if_pos hs]
set_option maxHeartbeats 4000000 in
set_option maxRecDepth 100000 in
theorem back_calls (w : World) (A B : Option Addr) (c d : Nat) (legs : List S50) (b : List Int) (hr : Kd.C k50 w A legs.length legs) (hc : legs.length ≤ c) (hb : Kd.C (Kd.int .u8) w B b.length b) (hd : b.length ≤ d)
    (hok : LegsOk legs) (hp : PkOk legs) (hs : sumL legs ≤ 1000000000000) (hby : Byt b) (hbl : b.length ≤ 140737488355328) :
    Calls Try.prog 5 #[.slice A legs.length c, .slice B b.length d] w fun e w' => e = .returned (.bool true) ∧ Frm Nun w w' := by
  have HR := Lib.hid hr
  have HB := Lib.hid hb
  have HOK := Lib.hid hok
  have HBY := Lib.hid hby
  have HP := Lib.hid hp
  clear hr hb hok hby hp
  go_enter Try.func5, Try.ntmps5
  go_wp2_with fail
  refine (fixed_calls w).mono ?_
  rintro e w1 ⟨rfl, k1⟩
  have K1 := Lib.hid k1
  clear k1
  go_wp2_with fail
  refine (lengthOf_calls w1 A c legs (Kd.C_below HR.out K1.out.below0) hc (by have := HOK.out.n; omega) hs).mono ?_
  rintro e w2 ⟨rfl, k2⟩
  have K2 := Lib.hid (K1.out.quiet k2)
  clear k2 K1
  obtain ⟨s, hse⟩ : ∃ s, s = sumL legs := ⟨_, rfl⟩
  rw [← hse] at hs ⊢
  have HSE := Lib.hid hse
  clear hse
  go_wp2_with fail
  refine (ownLegs_calls w2 A c legs (Kd.C_below HR.out K2.out.below0) hc HOK.out).mono ?_
  rintro e w3 ⟨v3, rfl, h3, k3⟩
  obtain ⟨A3, c3, rfl, hc3, hC3⟩ := Kd.S_reads h3
  have K3 := Lib.hid (K2.out.quiet k3)
  have HC3 := Lib.hid hC3
  clear k3 K2 h3 hC3
  go_wp2_with fail
  refine (encode_calls w3 A3 c3 legs HC3.out HOK.out.n HOK.out.each).mono ?_
  rintro e w4 ⟨v4, rfl, h4, k4⟩
  have K4 := Lib.hid (K3.out.quiet k4)
  clear k4 K3
  by_cases hbig : 65536 < s
  · have e1 : (encT legs).1 = [] := by rw [enc_big (by rw [← HSE.out]; exact hbig)]
    have e2 : (encT legs).2 = 2 := by rw [enc_big (by rw [← HSE.out]; exact hbig)]
    obtain ⟨A4, c4, rfl, _, _⟩ := Kd.R_reads h4
    rw [e1, e2, List.length_nil]
    clear e1 e2 h4
    go_wp2
    go_ret
    exact ⟨rfl, K4.out⟩
  · have hs2 : sumL legs ≤ 65536 := by rw [← HSE.out]; omega
    have hfit := enc_fit hs2
    have e1 : (encT legs).1 = legsB legs := by rw [hfit]
    have e2 : (encT legs).2 = 0 := by rw [hfit]
    have hlen : ((legsB legs).length : Int) = s := by rw [legsB_len, HSE.out]
    have hrd := legs_rd HOK.out HP.out hs2
    have hdec := dec_legs legs hrd (by omega)
    rw [e1] at h4
    rw [e2]
    obtain ⟨A4, c4, rfl, hc4, hC4⟩ := Kd.R_reads h4
    have HC4 := Lib.hid hC4
    have HDEC := Lib.hid hdec
    obtain ⟨n, hn⟩ : ∃ n, n = (legsB legs).length := ⟨_, rfl⟩
    have HLB := Lib.hid (legsB_byt legs)
    rw [← hn] at hc4 hlen HC4 ⊢
    have HN := Lib.hid hn
    clear e1 e2 h4 hC4 hdec hfit hn
    go_wp2_with fail
    have hob := ownBytes_calls w4 A4 c4 (legsB legs) (by rw [← HN.out]; exact HC4.out) (by rw [← HN.out]; exact hc4) (by rw [← HN.out]; omega)
    rw [← HN.out] at hob
    refine hob.mono ?_
    rintro e w5 ⟨v5, rfl, h5, k5⟩
    obtain ⟨A5, c5, rfl, hc5, hC5⟩ := Kd.R_reads h5
    rw [← HN.out] at hc5 hC5 ⊢
    have HC5 := Lib.hid hC5
    have K5 := Lib.hid (K4.out.quiet k5)
    clear k5 h5 hC5 K4 hob
    go_wp2_with fail
    have hdc := decode_calls A5 c5 (legsB legs) HLB.out (by rw [← HN.out]; omega) w5 (by rw [← HN.out]; exact HC5.out)
    rw [← HN.out, HDEC.out] at hdc
    refine hdc.mono ?_
    rintro e w6 ⟨v6, rfl, h6, k6⟩
    obtain ⟨A6, c6, rfl, hc6, hC6⟩ := Kd.S_reads h6
    have K6 := Lib.hid (K5.out.quiet k6)
    have HC6 := Lib.hid hC6
    have hsl := sameLegs_self w6 A6 A c6 c legs hC6 hc6 (Kd.C_below HR.out K6.out.below0) hc HOK.out
    have HSL := Lib.hid hsl
    clear k6 h6 hC6 K5 hdc hsl HDEC
    go_wp2_with (first
      | (go_at_call 14; refine HSL.out.mono ?_; rintro e w7 ⟨rfl, k7⟩; have K7 := Lib.hid (K6.out.quiet k7); clear k7)
      | (go_at_call 10; refine (ownBytes_calls w7 B d b (Kd.C_below HB.out K7.out.below0) hd (by omega)).mono ?_; rintro e w8 ⟨v8, rfl, h8, k8⟩; obtain ⟨A8, c8, rfl, hc8, hC8⟩ := Kd.R_reads h8; have HC8 := Lib.hid hC8; have K8 := Lib.hid (K7.out.quiet k8); clear k8 h8 hC8))
    refine (decode_calls A8 c8 b HBY.out (by omega) w8 HC8.out).mono ?_
    rintro e w9 ⟨v9, rfl, h9, k9⟩
    have K9 := Lib.hid (K8.out.quiet k9)
    clear k9
    by_cases hg : (decT b).2 = 0
    · obtain ⟨m, hm⟩ : ∃ m, m = (decT b).1 := ⟨_, rfl⟩
      obtain ⟨y1, y2, y3⟩ := dec_yes HBY.out hg hm.symm
      rw [← hm] at h9
      rw [hg]
      obtain ⟨A9, c9, rfl, hc9, hC9⟩ := Kd.S_reads h9
      have hsm : sumL m ≤ 65536 := by rw [← legsB_len, ← y2]; omega
      have hmok := rd_ok y3 hsm
      have e1 : (encT m).1 = b := by rw [enc_fit hsm, ← y2]
      have e2 : (encT m).2 = 0 := by rw [enc_fit hsm]
      have hen := encode_calls w9 A9 c9 m hC9 hmok.n hmok.each
      rw [e1, e2] at hen
      have HEN := Lib.hid hen
      clear hm y1 y2 y3 h9 hC9 hsm hmok e1 e2 hen hg
      go_wp2_with (first
        | (go_at_call 15; refine HEN.out.mono ?_; rintro e w10 ⟨v10, rfl, h10, k10⟩; obtain ⟨A10, c10, rfl, hc10, hC10⟩ := Kd.R_reads h10; have hs1 := Kd.C_string (P := Try.prog) (A := A10) (c := c10) Try.underlying22 Try.underlying5 Try.underlying9 hC10; have hs2 := Kd.C_string (P := Try.prog) (A := B) (c := d) Try.underlying22 Try.underlying5 Try.underlying9 (Kd.C_below HB.out (K9.out.quiet k10).below0); have K10 := Lib.hid (K9.out.quiet k10); clear k10 h10 hC10))
      go_ret
      exact ⟨rfl, K10.out⟩
    · have hno := dec_no hg
      have e1 : (decT b).1 = [] := by rw [hno]
      have e2 : (decT b).2 = 210 := by rw [hno]
      obtain ⟨A9, c9, rfl, hc9, hC9⟩ := Kd.S_reads h9
      rw [e1, e2, List.length_nil]
      clear h9 hc9 hC9 e1 e2 hno hg
      go_wp2
      go_ret
      exact ⟨rfl, K9.out⟩
end Go.Proofs.Ytoebhddgpicegaa
namespace Go.Proofs.Ytoebhddgpicegaa
open Go.RowKit Go.Proofs.YtoebhddgpicegaaW.PrintWords
open PReplayApart
theorem decT_ok {b : List Int} (hb : Byt b) : LegsOk (decT b).1 := by
  by_cases h : (decT b).2 = 0
  · obtain ⟨h1, h2, h3⟩ := dec_yes hb h rfl
    exact rd_ok h3 (by rw [← legsB_len, ← h2]; omega)
  · rw [dec_no h]
    exact ⟨by simp, fun x hx => by cases hx⟩
set_option maxHeartbeats 4000000 in
set_option maxRecDepth 100000 in
theorem reads_calls (w : World) (A B : Option Addr) (c d : Nat) (b : List Int) (legs : List S50) (hb : Kd.C (Kd.int .u8) w A b.length b) (hc : b.length ≤ c) (hr : Kd.C k50 w B legs.length legs) (hd : legs.length ≤ d)
    (hby : Byt b) (hbl : b.length ≤ 140737488355328) (hok : LegsOk legs) :
    Calls Try.prog 3 #[.slice A b.length c, .slice B legs.length d] w fun e w' => e = .returned (.bool true) ∧ Frm Nun w w' := by
  have HR := Lib.hid hr
  have HB := Lib.hid hb
  have HOK := Lib.hid hok
  have HBY := Lib.hid hby
  have HBL := Lib.hid hbl
  clear hr hb hok hby
  go_enter Try.func3, Try.ntmps3
  go_wp2_with fail
  refine (fixed_calls w).mono ?_
  rintro e w1 ⟨rfl, k1⟩
  have K1 := Lib.hid k1
  clear k1
  go_wp2_with fail
  refine (ownBytes_calls w1 A c b (Kd.C_below HB.out K1.out.below0) hc hbl).mono ?_
  rintro e w2 ⟨v2, rfl, h2, k2⟩
  obtain ⟨A2, c2, rfl, hc2, hC2⟩ := Kd.R_reads h2
  have K2 := Lib.hid (K1.out.quiet k2)
  have HC2 := Lib.hid hC2
  clear k2 K1 h2 hC2
  go_wp2_with fail
  refine (ownLegs_calls w2 B d legs (Kd.C_below HR.out K2.out.below0) hd HOK.out).mono ?_
  rintro e w3 ⟨v3, rfl, h3, k3⟩
  obtain ⟨A3, c3, rfl, hc3, hC3⟩ := Kd.S_reads h3
  have K3 := Lib.hid (K2.out.quiet k3)
  have HC3 := Lib.hid hC3
  have HC2' := Lib.hid (Kd.C_below HC2.out k3.below0)
  clear k3 K2 h3 hC3 HC2
  go_wp2_with fail
  refine (decode_calls A c b HBY.out hbl w3 (Kd.C_below HB.out K3.out.below0)).mono ?_
  rintro e w4 ⟨v4, rfl, h4, k4⟩
  obtain ⟨A4, c4, rfl, hc4, hC4⟩ := Kd.S_reads h4
  have hok4 := decT_ok HBY.out
  obtain ⟨D, hD⟩ : ∃ D, D = decT b := ⟨_, rfl⟩
  rw [← hD] at hc4 hC4 hok4 ⊢
  have K4 := Lib.hid (K3.out.quiet k4)
  have HC4 := Lib.hid hC4
  have HC3' := Lib.hid (Kd.C_below HC3.out k4.below0)
  have HC2'' := Lib.hid (Kd.C_below HC2'.out k4.below0)
  have HOK4 := Lib.hid hok4
  have HD := Lib.hid hD
  clear k4 K3 h4 hC4 HC3 HC2' hok4 hD
  go_wp2_with fail
  refine (rdecode_calls A2 c2 b HBY.out hbl hc2 w4 HC2''.out).mono ?_
  rintro e w5 ⟨v5, rfl, h5, k5⟩
  rw [← HD.out] at h5 ⊢
  obtain ⟨A5, c5, rfl, hc5, hC5⟩ := Kd.R_reads h5
  obtain ⟨D1, D2⟩ := D
  dsimp only at hc4 hc5 HC4 hC5 HOK4 ⊢
  have K5 := Lib.hid (K4.out.quiet k5)
  have hsl := sameLegs_self w5 A4 A5 c4 c5 D1 (Kd.C_below HC4.out k5.below0) hc4 hC5 hc5 HOK4.out
  have HSL := Lib.hid hsl
  have HC3 := Lib.hid (Kd.C_below HC3'.out k5.below0)
  have HC2 := Lib.hid (Kd.C_below HC2''.out k5.below0)
  clear k5 K4 h5 hC5 HC4 HC3' HC2'' hsl HD
  go_wp2_with (first
    | (go_at_call 14; refine HSL.out.mono ?_; rintro e w6 ⟨rfl, k6⟩; have K6 := Lib.hid (K5.out.quiet k6); have HC3b := Lib.hid (Kd.C_below HC3.out k6.below0); have hs1 := Kd.C_string (P := Try.prog) (A := A) (c := c) Try.underlying22 Try.underlying5 Try.underlying9 (Kd.C_below HB.out K6.out.below0); have hs2 := Kd.C_string (P := Try.prog) (A := A2) (c := c2) Try.underlying22 Try.underlying5 Try.underlying9 (Kd.C_below HC2.out k6.below0); clear k6))
  clear hs1 hs2
  refine (encode_calls w6 B d legs (Kd.C_below HR.out K6.out.below0) HOK.out.n HOK.out.each).mono ?_
  rintro e w7 ⟨v7, rfl, h7, k7⟩
  obtain ⟨A7, c7, rfl, hc7, hC7⟩ := Kd.R_reads h7
  have K7 := Lib.hid (K6.out.quiet k7)
  have HC7 := Lib.hid hC7
  have HC3c := Lib.hid (Kd.C_below HC3b.out k7.below0)
  clear k7 h7 hC7 HC3b K6 K5 HC3 HC2 HSL
  have henc := enc_eq legs
  rw [henc] at HC7 hc7 ⊢
  clear henc
  go_wp2_with fail
  refine (rencode_calls w7 A3 c3 legs HC3c.out HOK.out).mono ?_
  rintro e w8 ⟨v8, rfl, h8, k8⟩
  obtain ⟨A8, c8, rfl, hc8, hC8⟩ := Kd.R_reads h8
  obtain ⟨E, hE⟩ : ∃ E, E = rencT legs := ⟨_, rfl⟩
  rw [← hE] at hc7 hc8 HC7 hC8 ⊢
  clear hE
  obtain ⟨E1, E2⟩ := E
  dsimp only at hc7 hc8 HC7 hC8 ⊢
  have K8 := Lib.hid (K7.out.quiet k8)
  have hs1 := Kd.C_string (P := Try.prog) (A := A7) (c := c7) Try.underlying22 Try.underlying5 Try.underlying9 (Kd.C_below HC7.out k8.below0)
  have hs2 := Kd.C_string (P := Try.prog) (A := A8) (c := c8) Try.underlying22 Try.underlying5 Try.underlying9 hC8
  have hsl := sameLegs_self w8 B A3 d c3 legs (Kd.C_below HR.out K8.out.below0) hd (Kd.C_below HC3c.out k8.below0) hc3 HOK.out
  have HSL := Lib.hid hsl
  clear k8 h8 hC8 hsl HC7 HC3c
  go_wp2_with (first
    | (go_at_call 14; refine HSL.out.mono ?_; rintro e w9 ⟨rfl, k9⟩; have K9 := Lib.hid (K8.out.quiet k9); clear k9))
  go_ret
  exact ⟨rfl, K9.out⟩
end Go.Proofs.Ytoebhddgpicegaa
namespace Go.Proofs.Ytoebhddgpicegaa.replayReads
open Go.ChangeShapes Go.WideShapes Go.ChangeAt Go.RowKit
open Go.Proofs.YtoebhddgpicegaaW.PrintWords
theorem own : ownKnob Try.prog.godebug = none := by kernel_rfl
theorem laidOut : laidOutB Try.prog = true := by kernel_rfl
set_option maxRecDepth 100000 in
theorem lifted (os : Os) (started : os.Started) (H : Type) (enc : TypeId × Value → H) :
    ReturnsInHanded {} Try.checked os 3 .any (Rows.replayReadsSpec.pre6 enc Try.prog Try.f3 Rows.replayReadsRow.domain false) (Rows.replayReadsSpec.post enc Try.prog Try.f3 false true false false) := by
  refine returnsInHanded_of_change_sized (C := Try.checked) own started (by kernel_rfl) Try.func3
    (ChangeSpec.witness6 (enc := enc) (C := Try.checked) false ⟨#[], #[.slice none 0 0, .slice none 0 0], []⟩ 8 (by kernel_rfl) (by kernel_rfl) (by kernel_rfl) (by kernel_rfl)) ?_
  intro W base args ds gs before hval0 hW hcnd hsz0 _
  have hsz : (DataW.weightsEach Try.prog (Try.f3.params.toList ++ Rows.replayReadsSpec.plain.varTypes Try.prog) (ds ++ gs)).all (· ≤ reachBytes) = true := hsz0
  have hval : ∀ (j : Nat) t v, Try.f3.params[j]? = some t → args[j]? = some v → Value.okWide Try.prog W .any base t v := hval0
  have hW' := hW
  obtain ⟨p, q, hA0, hV, rfl, hfz, hnd⟩ := hW
  have hA : DataW.TrodAll enc Try.prog W 0 (fun _ => true) true Try.f3.params.toList args.toList ds p := hA0
  rw [Try.params3] at hA hval hsz
  obtain ⟨v0, vs0, d0, ds0, p0, q0, hargs, rfl, rfl, h0, r0⟩ := trodAll_cons hA
  obtain ⟨v1, vs1, d1, ds1, p1, q1, rfl, rfl, rfl, h1, r1⟩ := trodAll_cons r0
  obtain ⟨rfl, rfl, rfl⟩ := trodAll_nil r1
  obtain rfl : args = #[v0, v1] := by cases args; simp_all
  obtain ⟨rfl, rfl⟩ := trodVars_none hV
  obtain ⟨a0, len0, cap0, rfl⟩ := okWide_slice Try.underlying22 (hval 0 22 v0 rfl rfl)
  obtain ⟨a1, len1, cap1, rfl⟩ := okWide_slice Try.underlying23 (hval 1 23 v1 rfl rfl)
  have k0 := h0
  have k1 := h1
  have lt0 : ∀ x ∈ p0, x.block < W.heap.size := by obtain ⟨m, hm⟩ := k0; exact DataW.trod_lt m _ _ _ hm
  have lt1 : ∀ x ∈ p1, x.block < W.heap.size := by obtain ⟨m, hm⟩ := k1; exact DataW.trod_lt m _ _ _ hm
  have hw0 : ∀ n ∈ d0.weights Try.prog 22, n ≤ reachBytes := by
    intro n hn
    have := List.all_eq_true.1 hsz n (DataW.weights_mem_each (j := 0) rfl rfl n hn)
    simpa using this
  have hw1 : ∀ n ∈ d1.weights Try.prog 23, n ≤ reachBytes := by
    intro n hn
    have := List.all_eq_true.1 hsz n (DataW.weights_mem_each (j := 1) rfl rfl n hn)
    simpa using this
  obtain ⟨m0, hm0⟩ := h0
  obtain ⟨m1, hm1⟩ := h1
  obtain ⟨bs, ⟨A, c, hcs, hc, hC⟩, hok, _⟩ := opens_bytes hm0 hw0
  obtain ⟨rfl, rfl, rfl⟩ : a0 = A ∧ len0 = bs.length ∧ cap0 = c := by simpa [Value.cells] using hcs
  obtain ⟨legs, ⟨A', c', hcs', hc', hC'⟩, hok', _⟩ := opens_legs hm1 hw1
  obtain ⟨rfl, rfl, rfl⟩ : a1 = A' ∧ len1 = legs.length ∧ cap1 = c' := by simpa [Value.cells] using hcs'
  have hb := bytes_ok hok
  have hl := legs_ok hok'
  clear hA0 hval0 hsz0 hsz
  refine (reads_calls W a0 a1 cap0 cap1 bs legs hC hc hC' hc' hb.1 (by have := hb.2; omega) hl.1).mono fun e W' ⟨he, fr⟩ => ?_
  subst he
  have bel := fr.below0
  exact ⟨_, rfl, _, _, _, [], _, [], hW', trodAll_mk1 (shut_bool Try.underlying4 _), (trodAll_cons_mk (Below.trod laidOut (by kernel_rfl) (of_decide_eq_true (by kernel_rfl)) k0 bel lt0) (trodAll_cons_mk (Below.trod laidOut (by kernel_rfl) (of_decide_eq_true (by kernel_rfl)) k1 bel lt1) trodAll_mk0)), rfl, bel.frame _, fun h => by cases h⟩
theorem over : Rows.replayReadsRow.holds Try.pinned (OpenSpec.ofChange Rows.replayReadsSpec) :=
  OpenClaim.holds_of_wide 3 Try.f3 rfl rfl rfl rfl rfl rfl rfl ⟨rfl, rfl, rfl, rfl, rfl⟩ rfl rfl rfl rfl rfl (by kernel_rfl) Try.func3 (by kernel_rfl)
    (of_decide_eq_true (by kernel_rfl)) (by unfold Func.isWrapper; first | (rw [if_pos (by decide +kernel)]; kernel_rfl) | (rw [if_neg (by decide +kernel)]; exact ⟨rfl, rfl⟩))
    (fun os started H enc _ => lifted os started H enc)
end Go.Proofs.Ytoebhddgpicegaa.replayReads
namespace Go.Proofs.Ytoebhddgpicegaa
theorem replayReads_holds : Rows.ReplayReadsSaid := replayReads.over
#print axioms replayReads_holds
end Go.Proofs.Ytoebhddgpicegaa
