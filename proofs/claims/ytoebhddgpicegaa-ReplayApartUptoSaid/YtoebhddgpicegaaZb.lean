/- Lemmas for this claim: LegW, Enc, LegR, Free, Iter, Dec. -/
import Derived.Test.YtoebhddgpicegaaZa
import Derived.Test.YtoebhddgpicegaaPReplayApartx0
import Derived.RangeFuncNested
import Derived.RangeFuncBound
import Derived.RangeFuncCalls
import Derived.RangeFuncLeaves
import Derived.Shelf.Abstract
import Derived.OwnWalkIn
import Derived.TacticsInMore
import Derived.LoopNIn
import Derived.LoopIn
import Derived.Maps.AppendAt
namespace Go.Proofs.Ytoebhddgpicegaa
open Go.RowKit Go.Proofs.YtoebhddgpicegaaW.PrintWords
open PReplayApart
theorem at_pick {w : World} {A : Option Addr} {xs : List S80} (h : Kd.C k80 w A xs.length xs) (i : Nat) (h1 : i < xs.length) : ∃ ad p0 p1, A = some ad ∧ w.cell? (ad.add (i * 2)) = some (.int .i64 p0) ∧ w.cell? ⟨(ad.add (i * 2)).block, (ad.add (i * 2)).off + 1, none⟩ = some (.int .i64 p1) ∧ Hid (xs.getD i z80 = ⟨p0, p1⟩) := by
  obtain ⟨ad, e, h2, h3⟩ := at_T80 h (i : Int) (by omega) (by omega)
  exact ⟨ad, _, _, e, by simpa using h2, by simpa using h3, Lib.hid (by simp [rd_T80])⟩
def Wr.picks (x : Wr) (l : List S80) : Wr := l.foldl (fun x p => (x.put (u64 p.f0) 8).put (u64 p.f1) 8) x
def Wr.words (x : Wr) (l : List Int) : Wr := l.foldl (fun x a => x.put a 4) x
def Wr.head (x : Wr) (l : S50) : Wr := ((((x.open_.put 1279413569 4).put ((l.f0.length : Int) % 4294967296) 4).put ((l.f1.length : Int) % 4294967296) 4).put l.f2 4).seal
def Wr.leg (x : Wr) (l : S50) : Wr := (((x.head l).open_.picks l.f0).words l.f1).seal
theorem Wr.picks_wf {x : Wr} (h : x.Wf) (l : List S80) : (x.picks l).Wf := by
  induction l generalizing x with
  | nil => exact h
  | cons p l ih => exact ih (Wr.put_wf (Wr.put_wf h _ _) _ _)
theorem Wr.words_wf {x : Wr} (h : x.Wf) (l : List Int) : (x.words l).Wf := by
  induction l generalizing x with
  | nil => exact h
  | cons p l ih => exact ih (Wr.put_wf h _ _)
theorem Wr.head_wf {x : Wr} (h : x.Wf) (l : S50) : (x.head l).Wf := Wr.seal_wf (Wr.put_wf (Wr.put_wf (Wr.put_wf (Wr.put_wf (Wr.open_wf h) _ _) _ _) _ _) _ _)
theorem IsW.bnd {w : World} {g : Nat} {S : Nat → Prop} {x : Wr} (h : IsW w g S x) : IsW w g (fun k => S k ∧ k < w.heap.size) x := by
  obtain ⟨A, c, B, d, h1, h2, h3, h4⟩ := h
  exact ⟨A, c, B, d, h1, ⟨h2, blk_lt h1⟩, Kd.R_mono (Kd.R_bound h3) (fun k hk => ⟨⟨hk.1.1, hk.2.2.1⟩, hk.1.2⟩), Kd.R_mono (Kd.R_bound h4) (fun k hk => ⟨⟨hk.1.1, hk.2.2.1⟩, hk.1.2⟩)⟩
theorem IsW.lt {w : World} {g : Nat} {S : Nat → Prop} {x : Wr} (h : IsW w g S x) : g < w.heap.size := by obtain ⟨_, _, _, _, h, _⟩ := h; exact blk_lt h
/-- One call more of the same writer. -/
theorem IsW.on {S : Nat → Prop} {W w w' : World} {g : Nat} {y : Wr} (F : Frm (Nw S W) W w) (j : IsW w' g (Nw (Nw S W) w) y) (k : Frm (Nw S W) w w') : IsW w' g (Nw S W) y ∧ Frm (Nw S W) W w' :=
  ⟨j.mono (fun _ h => h.elim id (fun h => .inr (Nat.le_trans F.size h))), F.trans k (fun _ h => .inl h)⟩
set_option maxHeartbeats 2000000 in
set_option maxRecDepth 100000 in
theorem write_calls (w : World) (g : Nat) (S : Nat → Prop) (hb : ∀ k, S k → k < w.heap.size) (x : Wr) (hx : x.Wf) (hw : IsW w g S x) (A0 A1 : Option Addr) (c0 c1 : Nat) (l : S50) (hl0 : l.f0.length ≤ 8796093022208) (hl1 : l.f1.length ≤ 35184372088832)
    (hs : 0 ≤ l.f2 ∧ l.f2 < 4294967296) (ha : ∀ a ∈ l.f1, 0 ≤ a ∧ a < 4294967296) (h0 : ∀ w', Frm S w w' → Kd.C k80 w' A0 l.f0.length l.f0) (h1 : ∀ w', Frm S w w' → Kd.C (Kd.int .u32) w' A1 l.f1.length l.f1) :
    Calls Try.prog 31 #[.pointer (some ⟨g, 0, none⟩), .agg #[.slice A0 l.f0.length c0, .slice A1 l.f1.length c1, .int .u32 l.f2]] w fun e w' => e = .returned (.tuple #[]) ∧ IsW w' g (Nw S w) (x.leg l) ∧ Frm S w w' := by
  have HX := Lib.hid hx
  have H0 := Lib.hid h0
  have H1 := Lib.hid h1
  have hg0 := hw.lt
  obtain ⟨W, hW⟩ : ∃ W, W = w.alloc (.cells #[.slice A0 l.f0.length c0, .slice A1 l.f1.length c1, .int .u32 l.f2] 50) := ⟨_, rfl⟩
  have hS : ∀ k, S k → k ≠ w.heap.size := fun k hk => by have := hb k hk; omega
  have hbx : W.heap[w.heap.size]? = some (.cells #[.slice A0 l.f0.length c0, .slice A1 l.f1.length c1, .int .u32 l.f2] 50 (0, 0)) := by rw [hW]; exact heap_alloc_new w _
  have hF : Frm S w W := by rw [hW]; exact (Frm.refl _ _).alloc _
  have hw1 : IsW W g S x := by rw [hW]; exact hw.frm (S' := Nun) ((Frm.refl _ _).alloc _) (fun _ _ h => h)
  have HW1 := Lib.hid hw1
  have HB := Lib.hid hbx
  have HF := Lib.hid hF
  have HWW := Lib.hid hW
  have hsz : W.heap.size = w.heap.size + 1 := by rw [hW]; simp
  have HSz := Lib.hid hsz
  clear hx h0 h1 hw hw1 hbx hF hsz
  go_enter Try.func31, Try.ntmps31
  go_wp2_with fail
  rw [← hW]
  clear hW
  have HC : Hid (∀ w', Frm (Nw S W) W w' → w'.cell? ⟨w.heap.size, 0, none⟩ = some (.slice A0 l.f0.length c0) ∧ w'.cell? ⟨w.heap.size, 1, none⟩ = some (.slice A1 l.f1.length c1) ∧ w'.cell? ⟨w.heap.size, 2, none⟩ = some (.int .u32 l.f2)) := by
    refine Lib.hid fun w' hf => ?_
    have hb' := hf.blk HB.out (fun h => h.elim (fun h => hS _ h rfl) (fun h => by rw [HSz.out] at h; omega))
    exact ⟨(blk_cell hb' 0).trans rfl, (blk_cell hb' 1).trans rfl, (blk_cell hb' 2).trans rfl⟩
  have i0 : IsW W g (Nw S W) x := HW1.out.mono (fun _ h => .inl h)
  refine (open_calls W g _ x HX.out i0).mono ?_
  rintro e w1 ⟨rfl, i1, k1⟩
  obtain ⟨j1, f1⟩ := IsW.on (Frm.refl _ _) i1 k1
  clear i1 k1 i0
  go_wp2_with fail
  refine (u32_calls w1 g _ _ (Wr.open_wf HX.out) j1 1279413569 (by omega)).mono ?_
  rintro e w2 ⟨rfl, i2, k2⟩
  obtain ⟨j2, f2⟩ := IsW.on f1 i2 k2
  clear i2 k2 j1 f1
  obtain ⟨b0, b1, b2⟩ := HC.out _ f2
  go_wp2_with fail
  refine (u32_calls w2 g _ _ (Wr.put_wf (Wr.open_wf HX.out) _ _) j2 _ (by omega)).mono ?_
  rintro e w3 ⟨rfl, i3, k3⟩
  obtain ⟨j3, f3⟩ := IsW.on f2 i3 k3
  clear i3 k3 j2 f2 b0 b1 b2
  obtain ⟨b0, b1, b2⟩ := HC.out _ f3
  go_wp2_with fail
  refine (u32_calls w3 g _ _ (Wr.put_wf (Wr.put_wf (Wr.open_wf HX.out) _ _) _ _) j3 _ (by omega)).mono ?_
  rintro e w4 ⟨rfl, i4, k4⟩
  obtain ⟨j4, f4⟩ := IsW.on f3 i4 k4
  clear i4 k4 j3 f3 b0 b1 b2
  obtain ⟨b0, b1, b2⟩ := HC.out _ f4
  go_wp2_with fail
  refine (u32_calls w4 g _ _ (Wr.put_wf (Wr.put_wf (Wr.put_wf (Wr.open_wf HX.out) _ _) _ _) _ _) j4 _ hs).mono ?_
  rintro e w5 ⟨rfl, i5, k5⟩
  obtain ⟨j5, f5⟩ := IsW.on f4 i5 k5
  clear i5 k5 j4 f4 b0 b1 b2
  go_wp2_with fail
  refine (seal_calls w5 g _ _ (Wr.put_wf (Wr.put_wf (Wr.put_wf (Wr.put_wf (Wr.open_wf HX.out) _ _) _ _) _ _) _ _) j5).mono ?_
  rintro e w6 ⟨rfl, i6, k6⟩
  obtain ⟨j6, f6⟩ := IsW.on f5 i6 k6
  clear i6 k6 j5 f5
  go_wp2_with fail
  refine (open_calls w6 g _ (x.head l) (Wr.head_wf HX.out l) j6).mono ?_
  rintro e w7 ⟨rfl, i7, k7⟩
  obtain ⟨j7, f7⟩ := IsW.on f6 i7 k7
  clear i7 k7 j6 f6
  obtain ⟨b0, b1, b2⟩ := HC.out _ f7
  have HJ7 := Lib.hid j7
  have HF7 := Lib.hid f7
  clear j7 f7
  go_wp2
  go_loopw [35] (fun i wr => ∃ k : Nat, k ≤ l.f0.length ∧ i = .int .i64 k ∧ IsW wr g (Nw S W) ((x.head l).open_.picks (l.f0.take k)) ∧ Frm (Nw S W) W wr) (fun i _ => l.f0.length - (intOf i).toNat)
  case atStart => exact ⟨0, Nat.zero_le _, rfl, HJ7.out, HF7.out⟩
  case round =>
    obtain ⟨k, hk, rfl, hj, hf⟩ := hrel
    by_cases hlt : k < l.f0.length
    · have hfw : Frm S w wr := HF.out.trans hf (fun i h => h.elim .inl (fun h => .inr (Nat.le_trans HF.out.size h)))
      obtain ⟨ad, p0, p1, rfl, cp0, cp1, hp⟩ := at_pick (H0.out _ hfw) k hlt
      have hwf := Wr.picks_wf (Wr.open_wf (Wr.head_wf HX.out l)) (l.f0.take k)
      have HWF := Lib.hid hwf
      have HJ := Lib.hid hj
      have HFr := Lib.hid hf
      have HP := Lib.hid hp
      clear hwf hj hf hfw hp b0 b1 b2
      go_wp2_with fail
      obtain ⟨W2, hW2⟩ : ∃ W2, W2 = wr.alloc (.cells #[.int .i64 p0, .int .i64 p1] 80) := ⟨_, rfl⟩
      have z2 : W2.heap.size = wr.heap.size + 1 := by rw [hW2]; simp
      have b2 : W2.heap[wr.heap.size]? = some (.cells #[.int .i64 p0, .int .i64 p1] 80 (0, 0)) := by rw [hW2]; exact heap_alloc_new wr _
      have f2 : Frm (Nw S W) W W2 := by rw [hW2]; exact HFr.out.alloc _
      have i2 : IsW W2 g (fun k => Nw S W k ∧ k < wr.heap.size) ((x.head l).open_.picks (l.f0.take k)) := by
        rw [hW2]; exact HJ.out.bnd.frm (S' := Nun) ((Frm.refl _ _).alloc _) (fun _ _ h => h)
      have Z2 := Lib.hid z2
      have B2 := Lib.hid b2
      rw [← hW2]
      clear hW2 z2 b2
      refine (u64_calls W2 g _ _ HWF.out i2 p0).mono ?_
      rintro e w8 ⟨rfl, i8, k8⟩
      have c8 := (blk_cell (k8.blk B2.out (fun h => Nat.lt_irrefl _ h.2)) 1).trans rfl
      simp at c8
      have I8 := Lib.hid i8
      have F8 := Lib.hid (f2.trans k8 (fun i h => .inl h.1))
      clear i8 k8 i2 f2
      go_wp2_with fail
      refine (u64_calls w8 g _ _ (Wr.put_wf HWF.out _ _) I8.out p1).mono ?_
      rintro e w9 ⟨rfl, i9, k9⟩
      have hT : ∀ i, Nw (fun k => Nw S W k ∧ k < wr.heap.size) W2 i → Nw S W i := fun i h => h.elim (fun h => h.1) (fun h => .inr (by have h' : W2.heap.size ≤ i := h; rw [Z2.out] at h'; have := HFr.out.size; omega))
      have I9 := Lib.hid (i9.mono (fun i h => h.elim (hT i) (fun h => .inr (Nat.le_trans F8.out.size h))))
      have F9 := Lib.hid (F8.out.trans k9 (fun i h => .inl (hT i h)))
      clear i9 k9 hT
      go_wp2
      go_roundw
      case rel =>
        refine ⟨k + 1, by omega, by go_num, ?_, F9.out⟩
        rw [List.take_succ_eq_append_getElem hlt, Wr.picks, List.foldl_append]
        have := HP.out
        rw [getD_at hlt] at this
        rw [this]
        exact I9.out
      case measure => simp [intOf]; omega
    · obtain rfl : k = l.f0.length := by omega
      rw [List.take_length] at hj
      clear b0 b1 b2
      obtain ⟨b0, b1, b2⟩ := HC.out _ hf
      have HJ := Lib.hid hj
      have HFr := Lib.hid hf
      have HWF := Lib.hid (Wr.picks_wf (Wr.open_wf (Wr.head_wf HX.out l)) l.f0)
      clear hj hf
      go_wp2
      go_loopw [7, 51] (fun _ i wq => ∃ k : Nat, k ≤ l.f1.length ∧ i = .int .i64 k ∧ IsW wq g (Nw S W) (((x.head l).open_.picks l.f0).words (l.f1.take k)) ∧ Frm (Nw S W) W wq) (fun _ i _ => l.f1.length - (intOf i).toNat)
      case atStart => exact ⟨0, Nat.zero_le _, rfl, HJ.out, HFr.out⟩
      case round =>
        clear hlt hk
        obtain ⟨k, hk, rfl, hj, hf⟩ := hrel
        by_cases hlt : k < l.f1.length
        · have hfw : Frm S w wr := HF.out.trans hf (fun i h => h.elim .inl (fun h => .inr (Nat.le_trans HF.out.size h)))
          obtain ⟨ad, p, rfl, cp, hp⟩ := at_int (H1.out _ hfw) k hlt
          have hpr : 0 ≤ p ∧ p < 4294967296 := ha p (by rw [← hp.out, getD_at hlt]; exact List.getElem_mem _)
          have HWF2 := Lib.hid (Wr.words_wf HWF.out (l.f1.take k))
          have HJ2 := Lib.hid hj
          have HFr2 := Lib.hid hf
          clear hj hf hfw b0 b1 b2
          go_wp2_with fail
          refine (u32_calls wr g _ _ HWF2.out HJ2.out p hpr).mono ?_
          rintro e w9 ⟨rfl, i9, k9⟩
          obtain ⟨i9, k9⟩ := IsW.on HFr2.out i9 k9
          have I9 := Lib.hid i9
          have F9 := Lib.hid k9
          clear i9 k9
          go_wp2
          go_roundw
          case rel =>
            refine ⟨k + 1, by omega, by go_num, ?_, F9.out⟩
            rw [List.take_succ_eq_append_getElem hlt, Wr.words, List.foldl_append]
            have := hp.out
            rw [getD_at hlt] at this
            rw [this]
            exact I9.out
          case measure => simp [intOf]; omega
        · obtain rfl : k = l.f1.length := by omega
          rw [List.take_length] at hj
          have hsz2 := HF.out.size
          have HSz2 := Lib.hid hsz2
          clear hsz2
          go_wp2_with fail
          refine (seal_calls wr g _ _ (Wr.words_wf HWF.out l.f1) hj).mono ?_
          rintro e w9 ⟨rfl, i9, k9⟩
          obtain ⟨i9, k9⟩ := IsW.on hf i9 k9
          go_wp2
          go_end0
          exact ⟨rfl, i9.mono (Nw.mono (fun _ h => h) HSz2.out), HF.out.trans k9 (fun i h => h.elim .inl (fun h => .inr (Nat.le_trans HF.out.size h)))⟩
end Go.Proofs.Ytoebhddgpicegaa
namespace Go.Proofs.Ytoebhddgpicegaa
open Go.RowKit Go.Proofs.YtoebhddgpicegaaW.PrintWords
open PReplayApart
theorem at_leg {w : World} {A : Option Addr} {xs : List S50} (h : Kd.C k50 w A xs.length xs) (i : Nat) (h1 : i < xs.length) : ∃ ad A0 c0 A1 c1, ∃ l : S50, A = some ad ∧ w.cell? (ad.add (i * 3)) = some (.slice A0 l.f0.length c0) ∧ w.cell? ⟨(ad.add (i * 3)).block, (ad.add (i * 3)).off + 1, none⟩ = some (.slice A1 l.f1.length c1) ∧
    w.cell? ⟨(ad.add (i * 3)).block, (ad.add (i * 3)).off + 2, none⟩ = some (.int .u32 l.f2) ∧ l.f0.length ≤ c0 ∧ l.f1.length ≤ c1 ∧ Hid (Kd.C k80 w A0 l.f0.length l.f0) ∧ Hid (Kd.C (Kd.int .u32) w A1 l.f1.length l.f1) ∧ Hid (xs.getD i z50 = l) := by
  obtain ⟨ad, A0, c0, A1, c1, e, h2, h3, h4, h5, h6, h7, h8⟩ := at_T50 h (i : Int) (by omega) (by omega)
  exact ⟨ad, A0, c0, A1, c1, rd_T50 xs i, e, by simpa using h2, by simpa using h3, by simpa using h4, h5, h7, Lib.hid h6, Lib.hid h8, Lib.hid (by simp [rd_T50])⟩
/-- What every leg's numbers are. -/
structure LegOk (l : S50) : Prop where
  sum : 0 ≤ l.f2 ∧ l.f2 < 4294967296
  ans : ∀ a ∈ l.f1, 0 ≤ a ∧ a < 4294967296
  n0 : l.f0.length ≤ 8796093022208
  n1 : l.f1.length ≤ 35184372088832
def encW (legs : List S50) : Wr := legs.foldl Wr.leg (newW 65536)
theorem Wr.leg_wf {x : Wr} (h : x.Wf) (l : S50) : (x.leg l).Wf := Wr.seal_wf (Wr.words_wf (Wr.picks_wf (Wr.open_wf (Wr.head_wf h l)) l.f0) l.f1)
theorem legs_wf {x : Wr} (h : x.Wf) (legs : List S50) : (legs.foldl Wr.leg x).Wf := by
  induction legs generalizing x with
  | nil => exact h
  | cons l legs ih => exact ih (Wr.leg_wf h l)
theorem encW_wf (legs : List S50) : (encW legs).Wf := legs_wf (newW_wf _) legs
theorem encW_snoc (legs : List S50) (l : S50) : encW (legs ++ [l]) = (encW legs).leg l := by unfold encW; rw [List.foldl_append]; rfl
def encT (legs : List S50) : List Int × Int := if (encW legs).told.2 ≠ 0 then ([], 2) else ((encW legs).told.1, 0)
set_option maxHeartbeats 2000000 in
set_option maxRecDepth 100000 in
theorem encode_calls (w : World) (A : Option Addr) (c : Nat) (legs : List S50) (hr : Kd.C k50 w A legs.length legs) (hl : legs.length ≤ 2513169434916) (hok : ∀ l ∈ legs, LegOk l) :
    Calls Try.prog 15 #[.slice A legs.length c] w fun e w' => ∃ v, e = .returned (.tuple #[v, .int .i64 (encT legs).2]) ∧ Kd.R (Kd.int .u8) 5 w' 0 (Nw Nun w) v (encT legs).1 ∧ Frm Nun w w' := by
  have HR := Lib.hid hr
  clear hr
  go_enter Try.func15, Try.ntmps15
  go_wp2_with fail
  refine (new_calls 65536 (by omega) (by omega) w).mono ?_
  rintro e w1 ⟨rfl, i1, k1⟩
  have I1 := Lib.hid i1
  have K1 := Lib.hid k1
  clear i1 k1
  go_wp2
  go_loopw [12] (fun i wr => ∃ k : Nat, k ≤ legs.length ∧ i = .int .i64 k ∧ IsW wr w.heap.size (Nw Nun w) (encW (legs.take k)) ∧ Frm Nun w wr) (fun i _ => legs.length - (intOf i).toNat)
  case atStart => exact ⟨0, Nat.zero_le _, rfl, I1.out, K1.out⟩
  case round =>
    obtain ⟨k, hk, rfl, hj, hf⟩ := hrel
    by_cases hlt : k < legs.length
    · obtain ⟨ad, A0, c0, A1, c1, l, rfl, d0, d1, d2, hc0, hc1, HC0, HC1, hle⟩ := at_leg HR.out k hlt
      replace d0 := hf.cell d0 (fun h => h)
      replace d1 := hf.cell d1 (fun h => h)
      replace d2 := hf.cell d2 (fun h => h)
      have hlok : LegOk l := hok l (by rw [← hle.out, getD_at hlt]; exact List.getElem_mem _)
      have HWF := Lib.hid (encW_wf (legs.take k))
      have HJ := Lib.hid hj
      have HFr := Lib.hid hf
      have HLO := Lib.hid hlok
      clear hj hf hlok hok
      go_wp2_with fail
      obtain ⟨W2, hW2⟩ : ∃ W2, W2 = wr.alloc (.cells #[.slice A0 l.f0.length c0, .slice A1 l.f1.length c1, .int .u32 l.f2] 50) := ⟨_, rfl⟩
      have z2 : W2.heap.size = wr.heap.size + 1 := by rw [hW2]; simp
      have f2 : Frm Nun w W2 := by rw [hW2]; exact HFr.out.alloc _
      have k2 : Frm Nun wr W2 := by rw [hW2]; exact (Frm.refl _ _).alloc _
      have i2 : IsW W2 w.heap.size (fun k => Nw Nun w k ∧ k < wr.heap.size) (encW (legs.take k)) := HJ.out.bnd.frm k2 (fun _ _ h => h)
      have Z2 := Lib.hid z2
      have F2 := Lib.hid f2
      rw [← hW2]
      clear hW2 z2 f2
      have hbel : ∀ w', Frm (fun k => Nw Nun w k ∧ k < wr.heap.size) W2 w' → Below w.heap.size w w' := fun w' h => (F2.out.trans (S := Nun) h (fun i hi => hi.1)).below0
      refine (write_calls W2 w.heap.size _ (fun i hi => by rw [Z2.out]; exact Nat.lt_succ_of_lt hi.2) _ HWF.out i2 A0 A1 c0 c1 l HLO.out.n0 HLO.out.n1 HLO.out.sum HLO.out.ans ?_ ?_).mono ?_
      · exact fun w' h => Kd.C_below HC0.out (hbel w' h)
      · exact fun w' h => Kd.C_below HC1.out (hbel w' h)
      rintro e w8 ⟨rfl, i8, k8⟩
      have I8 := Lib.hid (i8.mono (S' := Nw Nun w) (fun i h => h.elim (fun h => h.1) (fun h => .inr (Nat.le_trans F2.out.size h))))
      have F8 := Lib.hid (F2.out.trans (S := Nun) k8 (fun i hi => hi.1))
      clear i8 k8
      go_wp2
      go_roundw
      case rel =>
        refine ⟨k + 1, by omega, by go_num, ?_, F8.out⟩
        rw [List.take_succ_eq_append_getElem hlt, encW_snoc]
        have := hle.out
        rw [getD_at hlt] at this
        rw [this]
        exact I8.out
      case measure => simp [intOf]; omega
    · obtain rfl : k = legs.length := by omega
      rw [List.take_length] at hj
      have HFr := Lib.hid hf
      clear hf
      go_wp2_with fail
      refine (out_calls wr _ _ _ (encW_wf legs) hj).mono ?_
      rintro e w8 ⟨v, rfl, h8, k8⟩
      cases hT : ((encW legs).told.2 != 0)
      · have T := Lib.hid (show encT legs = ((encW legs).told.1, 0) by rw [encT, if_neg (by simpa using hT)])
        have V := Lib.hid h8
        have F8 := Lib.hid (HFr.out.quiet k8)
        clear h8 k8
        go_wp2
        go_ret2
        exact ⟨_, ret2 (by rw [T.out]), by rw [T.out]; exact Kd.R_mono V.out (Nw.mono (fun _ h => h) HFr.out.size), F8.out⟩
      · have T := Lib.hid (show encT legs = ([], 2) by rw [encT, if_pos (by simpa using hT)])
        have F8 := Lib.hid (HFr.out.quiet k8)
        clear h8 k8
        go_wp2
        go_ret2
        exact ⟨_, ret2 (by rw [T.out]), by rw [T.out]; exact Kd.R_nil _ _ _ _ _, F8.out⟩
end Go.Proofs.Ytoebhddgpicegaa
namespace Go.Proofs.Ytoebhddgpicegaa
open Go.RowKit Go.Proofs.YtoebhddgpicegaaW.PrintWords
open PReplayApart
set_option linter.unusedSimpArgs false
theorem sealed_wf {r : Rd} (h : r.Wf) (n : Int) : (r.sealed n).Wf := by
  unfold Rd.sealed
  split
  · rename_i hc
    simp only [Rd.can, Bool.and_eq_true, beq_iff_eq, decide_eq_true_eq] at hc
    split
    · exact ⟨h.byt, h.lo, h.hi, h.len⟩
    · split
      · exact Rd.at_wf h (by omega) (by omega)
      · exact ⟨h.byt, h.lo, h.hi, h.len⟩
  · unfold Rd.has
    split
    · exact h
    · split
      · exact ⟨h.byt, h.lo, h.hi, h.len⟩
      · split
        · exact ⟨h.byt, h.lo, h.hi, h.len⟩
        · exact h
theorem rd_at (b : List Int) (o m : Nat) (h : o + m ≤ b.length) : (Rd.mk b o 0).num m = fle ((b.drop o).take m) ∧ (Rd.mk b o 0).skip m = ⟨b, ((o + m : Nat) : Int), 0⟩ := by
  have hc : (Rd.mk b o 0).can m = true := by
    simp only [Rd.can, Bool.and_eq_true, beq_iff_eq, decide_eq_true_eq]
    exact ⟨trivial, by omega, by unfold Rd.left; dsimp only; omega⟩
  refine ⟨by rw [Rd.num, if_pos hc]; rfl, ?_⟩
  rw [Rd.skip, if_pos hc]
  show Rd.mk b ((o : Int) + m) 0 = _
  rw [Int.natCast_add]
theorem sealed_ok {r : Rd} {n : Int} (hr : r.Wf) (h0 : r.err = 0) (h : (r.sealed n).err = 0) : 0 ≤ n ∧ (r.body n).length = n.toNat ∧ r.body n = r.run n.toNat ∧ r.sealed n = r.at_ (n + 4) ∧ r.can n = true ∧ 4 ≤ r.left - n ∧ r.fits n := by
  unfold Rd.sealed at h
  split at h
  · rename_i hc
    split at h
    · cases h
    · rename_i h4
      split at h
      · rename_i hf
        have e : r.body n = r.run n.toNat := by rw [Rd.body, if_pos ⟨hc, h4, hf⟩]
        have hc2 := hc
        simp only [Rd.can, Bool.and_eq_true, beq_iff_eq, decide_eq_true_eq] at hc2
        refine ⟨hc2.2.1, ?_, e, by rw [Rd.sealed, if_pos hc, if_neg h4, if_pos hf], hc, by omega, hf⟩
        rw [e, Rd.run, List.length_take, List.length_drop]
        have := hc2.2.2
        unfold Rd.left at this
        have := hc2.2.1
        have hlo := hr.lo
        omega
      · cases h
  · rename_i hc
    unfold Rd.has at h
    rw [if_neg (by simp [h0])] at h
    split at h
    · cases h
    · split at h
      · cases h
      · exfalso
        apply hc
        simp only [Rd.can, Bool.and_eq_true, beq_iff_eq, decide_eq_true_eq]
        exact ⟨h0, by omega, by omega⟩
def wordAt (b : List Int) (o : Nat) : Int := fle ((b.drop o).take 4)
def pickAt (b : List Int) (i : Nat) : S80 := ⟨s64 (fle ((b.drop (16 * i)).take 8)), s64 (fle ((b.drop (16 * i + 8)).take 8))⟩
def picksOf (b : List Int) (p : Nat) : List S80 := (List.range p).map (pickAt b)
theorem picks_snoc (b : List Int) (k : Nat) : picksOf b (k + 1) = picksOf b k ++ [pickAt b k] := by unfold picksOf; rw [List.range_succ, List.map_append]; rfl
def wordsOf (b : List Int) (p a : Nat) : List Int := (List.range a).map (fun j => wordAt b (16 * p + 4 * j))
theorem Rd.body_byt {r : Rd} (h : r.Wf) (n : Int) : Byt (r.body n) := by
  unfold Rd.body; split
  · exact (h.byt.drop _).take _
  · intro x hx; cases hx
theorem Rd.body_len {r : Rd} (h : r.Wf) (n : Int) : (r.body n).length ≤ 140737488355328 := by
  have := h.len
  unfold Rd.body Rd.run; split
  · rw [List.length_take, List.length_drop]; omega
  · simp
theorem Rd.new_wf {l : List Int} (h : Byt l) (hl : l.length ≤ 140737488355328) : (Rd.mk l 0 0).Wf := ⟨h, Int.le_refl _, by dsimp only; omega, hl⟩
/-- A reader that has read n bytes without an error. -/
theorem Rd.skip_wf {r : Rd} (h : r.Wf) (n : Int) : (r.skip n).Wf := by
  unfold Rd.skip
  split
  · rename_i hc
    simp only [Rd.can, Bool.and_eq_true, beq_iff_eq, decide_eq_true_eq] at hc
    exact Rd.at_wf h hc.2.1 hc.2.2
  · unfold Rd.has
    split
    · exact h
    · split
      · exact ⟨h.byt, h.lo, h.hi, h.len⟩
      · split
        · exact ⟨h.byt, h.lo, h.hi, h.len⟩
        · exact h
def Rd.sk (r : Rd) : Nat → Rd
  | 0 => r
  | n + 1 => (r.sk n).skip 4
theorem Rd.sk_wf {r : Rd} (h : r.Wf) (n : Nat) : (r.sk n).Wf := by
  induction n with
  | zero => exact h
  | succ n ih => exact Rd.skip_wf ih 4
/-- The words of a head. -/
def hdw (h : List Int) (i : Nat) : Int := ((Rd.mk h 0 0).sk i).num 4
theorem hdw_range {h : List Int} (hb : Byt h) (hl : h.length ≤ 140737488355328) (i : Nat) : 0 ≤ hdw h i ∧ hdw h i < 4294967296 := Rd.num_range (Rd.sk_wf (Rd.new_wf hb hl) i) 4
theorem words_snoc (b : List Int) (p k : Nat) : wordsOf b p (k + 1) = wordsOf b p k ++ [wordAt b (16 * p + 4 * k)] := by unfold wordsOf; rw [List.range_succ, List.map_append]; rfl
/-- While a leg is read: the two blocks for legs, the log's reader, the body's reader; what lies in the leg so far. -/
structure LInv (w : World) (B M : Nat) (S T : Nat → Prop) (g g2 : Nat) (r2 : Rd) (b : List Int) (sm : Int) (wr : World) (o : Nat) (ps : List S80) (ws : List Int) : Prop where
  own : ∃ P0 q0 P1 q1, wr.heap[B + 1]? = some (.cells #[.slice P0 ps.length q0, .slice P1 ws.length q1, .int .u32 sm] 50 (0, 0)) ∧
    Kd.R k80 80 wr 0 (fun k => M ≤ k) (.slice P0 ps.length q0) ps ∧ Kd.R (Kd.int .u32) 35 wr 0 (fun k => M ≤ k) (.slice P1 ws.length q1) ws
  res : wr.heap[B]? = some (.cells #[.slice none 0 0, .slice none 0 0, .int .u32 0] 50 (0, 0))
  log : IsR wr g S r2
  rd : IsR wr g2 T ⟨b, o, 0⟩
  frm : Frm S w wr
  size : M ≤ wr.heap.size
section
variable {w wr w1 : World} {B M : Nat} {S T : Nat → Prop} {g g2 o o' : Nat} {r2 : Rd} {b : List Int} {sm : Int} {ps : List S80} {ws : List Int}
/-- The body's reader goes on. -/
theorem LInv.read (h : LInv w B M S T g g2 r2 b sm wr o ps ws) (hS : ∀ k, S k → k < B) (hT : ∀ k, T k → B + 2 ≤ k ∧ k < M) (hB : w.heap.size ≤ B) (hi : IsR w1 g2 T ⟨b, o', 0⟩) (hf : Frm T wr w1) : LInv w B M S T g g2 r2 b sm w1 o' ps ws := by
  obtain ⟨P0, q0, P1, q1, h1, h2, h3⟩ := h.own
  refine ⟨⟨P0, q0, P1, q1, hf.blk h1 (fun k => by have := hT _ k; omega), R_frm h2 hf (fun k hk ht => by have := hT _ ht; omega), R_frm h3 hf (fun k hk ht => by have := hT _ ht; omega)⟩, hf.blk h.res (fun k => by have := hT _ k; omega),
    h.log.frm hf (fun k hk ht => by have := hS _ hk; have := hT _ ht; omega), hi, h.frm.trans hf (fun i hi => .inr (by have := hT _ hi; omega)), Nat.le_trans h.size hf.size⟩
/-- One pick more. -/
theorem LInv.pick (h : LInv w B M S T g g2 r2 b sm wr o ps ws) (hS : ∀ k, S k → k < B) (hT : ∀ k, T k → B + 2 ≤ k ∧ k < M) (hB : w.heap.size ≤ B) (hM : B + 2 ≤ M) {p : S80} {P0 P1 N0 : Option Addr} {q0 q1 n0 : Nat}
    (h1 : wr.heap[B + 1]? = some (.cells #[.slice P0 ps.length q0, .slice P1 ws.length q1, .int .u32 sm] 50 (0, 0))) (h2 : Kd.R k80 80 wr 0 (fun k => M ≤ k) (.slice P0 ps.length q0) ps) (h3 : Kd.R (Kd.int .u32) 35 wr 0 (fun k => M ≤ k) (.slice P1 ws.length q1) ws)
    (hn : Kd.R k80 80 w1 0 (fun k => M ≤ k) (.slice N0 (ps ++ [p]).length n0) (ps ++ [p])) (hg : wr.grownBy w1 (Value.slice P0 ps.length q0).ownBlock) :
    LInv w B M S T g g2 r2 b sm (w1.setCell ⟨B + 1, 0, none⟩ (.slice N0 (ps.length + 1) n0)) o (ps ++ [p]) ws := by
  have hne : some (B + 1) ≠ (Value.slice P0 ps.length q0).ownBlock := fun e => by have := h2.1 _ e.symm; omega
  have hf : Frm (fun k => M ≤ k) wr w1 := (Frm.refl _ _).grown hg (fun k hk => .inl (h2.1 k hk))
  have hs : Frm (fun k => k = B + 1) w1 (w1.setCell ⟨B + 1, 0, none⟩ (.slice N0 (ps.length + 1) n0)) := (Frm.refl (fun k => k = B + 1) _).set (p := ⟨B + 1, 0, none⟩) (.inl rfl) _
  refine ⟨⟨N0, n0, P1, q1, ?_, R_frm hn hs (fun k hk e => by omega), R_frm (Kd.R_over h3 h2 (by decide) hg) hs (fun k hk e => by omega)⟩, ?_, ?_, ?_, ?_, Nat.le_trans h.size (Nat.le_trans hg.size hs.size)⟩
  · rw [show (ps ++ [p]).length = ps.length + 1 by simp]
    exact blk_set (blk_grown h1 hg hne) 0 _
  · exact blk_far (hf.blk h.res (fun k => by omega)) (by dsimp only; omega) _
  · exact (h.log.frm hf (fun k hk ht => by have := hS _ hk; omega)).frm hs (fun k hk e => by have := hS _ hk; omega)
  · exact (h.rd.frm hf (fun k hk ht => by have := hT _ hk; omega)).frm hs (fun k hk e => by have := hT _ hk; omega)
  · exact (h.frm.trans hf (fun i hi => .inr (by omega))).trans hs (fun i hi => .inr (by omega))
/-- One answer more. -/
theorem LInv.word (h : LInv w B M S T g g2 r2 b sm wr o ps ws) (hS : ∀ k, S k → k < B) (hT : ∀ k, T k → B + 2 ≤ k ∧ k < M) (hB : w.heap.size ≤ B) (hM : B + 2 ≤ M) {a : Int} {P0 P1 N1 : Option Addr} {q0 q1 n1 : Nat}
    (h1 : wr.heap[B + 1]? = some (.cells #[.slice P0 ps.length q0, .slice P1 ws.length q1, .int .u32 sm] 50 (0, 0))) (h2 : Kd.R k80 80 wr 0 (fun k => M ≤ k) (.slice P0 ps.length q0) ps) (h3 : Kd.R (Kd.int .u32) 35 wr 0 (fun k => M ≤ k) (.slice P1 ws.length q1) ws)
    (hn : Kd.R (Kd.int .u32) 35 w1 0 (fun k => M ≤ k) (.slice N1 (ws ++ [a]).length n1) (ws ++ [a])) (hg : wr.grownBy w1 (Value.slice P1 ws.length q1).ownBlock) :
    LInv w B M S T g g2 r2 b sm (w1.setCell ⟨B + 1, 1, none⟩ (.slice N1 (ws.length + 1) n1)) o ps (ws ++ [a]) := by
  have hne : some (B + 1) ≠ (Value.slice P1 ws.length q1).ownBlock := fun e => by have := h3.1 _ e.symm; omega
  have hf : Frm (fun k => M ≤ k) wr w1 := (Frm.refl _ _).grown hg (fun k hk => .inl (h3.1 k hk))
  have hs : Frm (fun k => k = B + 1) w1 (w1.setCell ⟨B + 1, 1, none⟩ (.slice N1 (ws.length + 1) n1)) := (Frm.refl (fun k => k = B + 1) _).set (p := ⟨B + 1, 1, none⟩) (.inl rfl) _
  refine ⟨⟨P0, q0, N1, n1, ?_, R_frm (Kd.R_over h2 h3 (by decide) hg) hs (fun k hk e => by omega), R_frm hn hs (fun k hk e => by omega)⟩, ?_, ?_, ?_, ?_, Nat.le_trans h.size (Nat.le_trans hg.size hs.size)⟩
  · rw [show (ws ++ [a]).length = ws.length + 1 by simp]
    exact blk_set (blk_grown h1 hg hne) 1 _
  · exact blk_far (hf.blk h.res (fun k => by omega)) (by dsimp only; omega) _
  · exact (h.log.frm hf (fun k hk ht => by have := hS _ hk; omega)).frm hs (fun k hk e => by have := hS _ hk; omega)
  · exact (h.rd.frm hf (fun k hk ht => by have := hT _ hk; omega)).frm hs (fun k hk e => by have := hT _ hk; omega)
  · exact (h.frm.trans hf (fun i hi => .inr (by omega))).trans hs (fun i hi => .inr (by omega))
theorem LInv.cells (h : LInv w B M S T g g2 r2 b sm wr o ps ws) : ∃ P0 q0 P1 q1, wr.cell? ⟨B + 1, 0, none⟩ = some (.slice P0 ps.length q0) ∧ wr.cell? ⟨B + 1, 1, none⟩ = some (.slice P1 ws.length q1) ∧ wr.cell? ⟨B + 1, 2, none⟩ = some (.int .u32 sm) ∧
    wr.cell? ⟨B, 0, none⟩ = some (.slice none 0 0) ∧ wr.cell? ⟨B, 1, none⟩ = some (.slice none 0 0) ∧ wr.cell? ⟨B, 2, none⟩ = some (.int .u32 0) ∧ wr.frozen? ⟨B + 1, 0, none⟩ = false ∧ wr.frozen? ⟨B + 1, 1, none⟩ = false ∧
    wr.frozen? ⟨B, 0, none⟩ = false ∧ wr.frozen? ⟨B, 1, none⟩ = false ∧ wr.frozen? ⟨B, 2, none⟩ = false ∧ B + 1 < wr.heap.size ∧
    Hid (wr.heap[B + 1]? = some (.cells #[.slice P0 ps.length q0, .slice P1 ws.length q1, .int .u32 sm] 50 (0, 0))) ∧
    Hid (Kd.R k80 80 wr 0 (fun k => M ≤ k) (.slice P0 ps.length q0) ps) ∧ Hid (Kd.R (Kd.int .u32) 35 wr 0 (fun k => M ≤ k) (.slice P1 ws.length q1) ws) := by
  obtain ⟨P0, q0, P1, q1, h1, h2, h3⟩ := h.own
  have h4 := h.res
  exact ⟨P0, q0, P1, q1, (blk_cell h1 0).trans rfl, (blk_cell h1 1).trans rfl, (blk_cell h1 2).trans rfl, (blk_cell h4 0).trans rfl, (blk_cell h4 1).trans rfl, (blk_cell h4 2).trans rfl, blk_frozen h1 0, blk_frozen h1 1, blk_frozen h4 0, blk_frozen h4 1, blk_frozen h4 2, blk_lt h1, Lib.hid h1, Lib.hid h2, Lib.hid h3⟩
end
def legRead (r : Rd) : S50 × Bool × Rd :=
  if (r.sealed 16).err ≠ 0 ∨ hdw (r.body 16) 0 ≠ 1279413569 ∨ (r.sealed 16).left < 16 * hdw (r.body 16) 1 + 4 * hdw (r.body 16) 2 then (⟨[], [], hdw (r.body 16) 3⟩, false, r.sealed 16)
  else if ((r.sealed 16).sealed (16 * hdw (r.body 16) 1 + 4 * hdw (r.body 16) 2)).err ≠ 0 then (⟨[], [], hdw (r.body 16) 3⟩, false, (r.sealed 16).sealed (16 * hdw (r.body 16) 1 + 4 * hdw (r.body 16) 2))
  else (⟨picksOf ((r.sealed 16).body (16 * hdw (r.body 16) 1 + 4 * hdw (r.body 16) 2)) (hdw (r.body 16) 1).toNat, wordsOf ((r.sealed 16).body (16 * hdw (r.body 16) 1 + 4 * hdw (r.body 16) 2)) (hdw (r.body 16) 1).toNat (hdw (r.body 16) 2).toNat, hdw (r.body 16) 3⟩, true,
    (r.sealed 16).sealed (16 * hdw (r.body 16) 1 + 4 * hdw (r.body 16) 2))
/-- What read leaves. -/
def LegPost (w : World) (g : Nat) (S : Nat → Prop) (x : S50 × Bool × Rd) (e : Ending) (w' : World) : Prop :=
  ∃ v0 v1, e = .returned (.tuple #[.agg #[v0, v1, .int .u32 x.1.f2], .bool x.2.1]) ∧ Kd.R k80 80 w' 0 (Nw Nun w) v0 x.1.f0 ∧ Kd.R (Kd.int .u32) 35 w' 0 (Nw Nun w) v1 x.1.f1 ∧ IsR w' g S x.2.2 ∧ Frm S w w'
theorem leg_end {w W : World} {g b : Nat} {S : Nat → Prop} {x : S50 × Bool × Rd} {v0 v1 : Value} {u0 u1 u2 : Value} (hb : w.heap.size ≤ b) (hS : ¬ S b) (h0 : Kd.R k80 80 W 0 (fun k => Nw Nun w k ∧ k ≠ b) v0 x.1.f0) (h1 : Kd.R (Kd.int .u32) 35 W 0 (fun k => Nw Nun w k ∧ k ≠ b) v1 x.1.f1) (hI : IsR W g S x.2.2) (hF : Frm S w W) :
    LegPost w g S x (.returned (.tuple #[.agg #[v0, v1, .int .u32 x.1.f2], .bool x.2.1])) (((W.setCell ⟨b, 0, none⟩ u0).setCell ⟨b, 1, none⟩ u1).setCell ⟨b, 2, none⟩ u2) := by
  have hs : Frm (fun k => k = b) W (((W.setCell ⟨b, 0, none⟩ u0).setCell ⟨b, 1, none⟩ u1).setCell ⟨b, 2, none⟩ u2) :=
    (((Frm.refl (fun k => k = b) _).set (p := ⟨b, 0, none⟩) (.inl rfl) _).set (p := ⟨b, 1, none⟩) (.inl rfl) _).set (p := ⟨b, 2, none⟩) (.inl rfl) _
  refine ⟨v0, v1, rfl, Kd.R_mono (R_frm h0 hs (fun k hk e => hk.2 e)) (fun k hk => hk.1), Kd.R_mono (R_frm h1 hs (fun k hk e => hk.2 e)) (fun k hk => hk.1), hI.frm hs (fun k hk e => hS (e ▸ hk)), hF.trans hs (fun i e => .inr (by rw [e]; exact hb))⟩
set_option maxHeartbeats 2000000 in
set_option maxRecDepth 100000 in
theorem read_calls (w : World) (g : Nat) (S : Nat → Prop) (hb : ∀ k, S k → k < w.heap.size) (r : Rd) (hr : r.Wf) (hw : IsR w g S r) :
    Calls Try.prog 45 #[.pointer (some ⟨g, 0, none⟩)] w (LegPost w g S (legRead r)) := by
  have HX := Lib.hid hr
  have hg0 := hw.lt
  obtain ⟨W, hW⟩ : ∃ W, W = (w.alloc (.cells #[.slice none 0 0, .slice none 0 0, .int .u32 0] 50)).alloc (.cells #[.slice none 0 0, .slice none 0 0, .int .u32 0] 50) := ⟨_, rfl⟩
  have hF : Frm Nun w W := by rw [hW]; exact ((Frm.refl _ _).alloc _).alloc _
  have hsz : W.heap.size = w.heap.size + 2 := by rw [hW]; simp
  have hi : IsR W g S r := hw.frm hF (fun _ _ h => h)
  have HI := Lib.hid hi
  have HF := Lib.hid hF
  have HZ := Lib.hid hsz
  clear hr hw hF hsz hi
  go_enter Try.func45, Try.ntmps45
  go_wp2_with fail
  rw [← hW]
  refine (sealed_calls W g S (fun k hk => by have := hb k hk; rw [HZ.out]; omega) r HX.out HI.out 16).mono ?_
  rintro e w1 ⟨v, rfl, hv, i1, k1⟩
  obtain ⟨A1, c1, rfl, hl1, hc1⟩ := Kd.R_reads hv
  have hbyt := Rd.body_byt HX.out 16
  have hlen := Rd.body_len HX.out 16
  have HBL := Lib.hid (And.intro hbyt hlen)
  clear hbyt hlen
  have b4 : W.heap[w.heap.size + 1]? = some (.cells #[.slice none 0 0, .slice none 0 0, .int .u32 0] 50 (0, 0)) := by
    rw [hW]; have := heap_alloc_new (w.alloc (.cells #[.slice none 0 0, .slice none 0 0, .int .u32 0] 50)) (.cells #[.slice none 0 0, .slice none 0 0, .int .u32 0] 50); simpa using this
  have b2 : W.heap[w.heap.size]? = some (.cells #[.slice none 0 0, .slice none 0 0, .int .u32 0] 50 (0, 0)) := by
    rw [hW]; exact ((Frm.refl Nun _).alloc _).blk (heap_alloc_new w _) (fun h => h)
  have hSb : ¬ S w.heap.size ∧ ¬ S (w.heap.size + 1) := ⟨fun h => by have := hb _ h; omega, fun h => by have := hb _ h; omega⟩
  have P4 := Lib.hid (k1.blk b4 hSb.2)
  have P2 := Lib.hid (k1.blk b2 hSb.1)
  have I1 := Lib.hid i1
  have K1 := Lib.hid k1
  have Z1 := Lib.hid (show w.heap.size + 2 ≤ w1.heap.size by rw [← HZ.out]; exact k1.size)
  clear b4 b2 i1 k1 hW HI
  generalize hh : r.body 16 = h at *
  have HH := Lib.hid hh
  clear hh
  go_wp2_with fail
  refine (nreader_calls A1 c1 h w1 HBL.out.2 hc1).mono ?_
  rintro e w2 ⟨g1, rfl, i2, k2⟩
  have hT : ∀ i, Nw Nun w1 i → ¬ S i ∧ i ≠ w.heap.size ∧ i ≠ w.heap.size + 1 := fun i hi => hi.elim (fun h => h.elim) (fun hi => by
    have h1 := Z1.out
    have h2 : w1.heap.size ≤ i := hi
    exact ⟨fun hs => by have := hb i hs; omega, by omega, by omega⟩)
  have HT := Lib.hid hT
  clear hT
  replace k2 : Frm (Nw Nun w1) w1 w2 := k2.mono (fun _ h => h.elim)
  have hwf := Rd.new_wf HBL.out.1 HBL.out.2
  have HWF := Lib.hid hwf
  clear hwf
  have r0 := hdw_range HBL.out.1 HBL.out.2 0
  have r1 := hdw_range HBL.out.1 HBL.out.2 1
  have r2 := hdw_range HBL.out.1 HBL.out.2 2
  have r3 := hdw_range HBL.out.1 HBL.out.2 3
  obtain ⟨fi, hfi⟩ : ∃ x, x = hdw h 0 := ⟨_, rfl⟩
  obtain ⟨p, hp⟩ : ∃ x, x = hdw h 1 := ⟨_, rfl⟩
  obtain ⟨a, ha⟩ : ∃ x, x = hdw h 2 := ⟨_, rfl⟩
  obtain ⟨sm, hsm⟩ : ∃ x, x = hdw h 3 := ⟨_, rfl⟩
  rw [← hfi] at r0
  rw [← hp] at r1
  rw [← ha] at r2
  rw [← hsm] at r3
  have QN := Lib.hid (And.intro hfi (And.intro hp (And.intro ha hsm)))
  clear hfi hp ha hsm
  go_wp2_with fail
  refine (ru32_calls w2 g1 _ _ HWF.out i2).mono ?_
  rintro e w3 ⟨rfl, i3, k3⟩
  replace k3 : Frm (Nw Nun w1) w1 w3 := k2.trans k3 (fun _ h => .inl h)
  rw [show (Rd.mk h 0 0).num 4 = fi from QN.out.1.symm]
  clear i2 k2
  go_wp2_with fail
  refine (ru32_calls w3 g1 _ _ (Rd.sk_wf HWF.out 1) i3).mono ?_
  rintro e w4 ⟨rfl, i4, k4⟩
  replace k4 : Frm (Nw Nun w1) w1 w4 := k3.trans k4 (fun _ h => .inl h)
  rw [show ((Rd.mk h 0 0).sk 1).num 4 = p from QN.out.2.1.symm]
  clear i3 k3
  go_wp2_with fail
  refine (ru32_calls w4 g1 _ _ (Rd.sk_wf HWF.out 2) i4).mono ?_
  rintro e w5 ⟨rfl, i5, k5⟩
  replace k5 : Frm (Nw Nun w1) w1 w5 := k4.trans k5 (fun _ h => .inl h)
  rw [show ((Rd.mk h 0 0).sk 2).num 4 = a from QN.out.2.2.1.symm]
  clear i4 k4
  go_wp2_with fail
  refine (ru32_calls w5 g1 _ _ (Rd.sk_wf HWF.out 3) i5).mono ?_
  rintro e w6 ⟨rfl, i6, k6⟩
  replace k6 : Frm (Nw Nun w1) w1 w6 := k5.trans k6 (fun _ h => .inl h)
  rw [show ((Rd.mk h 0 0).sk 3).num 4 = sm from QN.out.2.2.2.symm]
  clear i5 k5 i6
  have nT : ¬ Nw Nun w1 w.heap.size ∧ ¬ Nw Nun w1 (w.heap.size + 1) := ⟨fun h => (HT.out _ h).2.1 rfl, fun h => (HT.out _ h).2.2 rfl⟩
  have b4 := k6.blk P4.out nT.2
  have b2 := k6.blk P2.out nT.1
  have hi := I1.out.frm k6 (fun k hk hT => (HT.out k hT).1 hk)
  have c42 := (blk_cell b4 2).trans rfl
  have f42 := blk_frozen b4 2
  simp at c42
  have Q4 := Lib.hid b4
  have Q2 := Lib.hid b2
  have QI := Lib.hid hi
  have QK := Lib.hid k6
  have QZ := Lib.hid k6.size
  clear b4 b2 hi k6 nT
  go_wp2_with fail
  obtain ⟨w7, hw7⟩ : ∃ w7, w7 = w6.setCell ⟨w.heap.size + 1, 2, none⟩ (.int .u32 sm) := ⟨_, rfl⟩
  have b4 : w7.heap[w.heap.size + 1]? = some (.cells #[.slice none 0 0, .slice none 0 0, .int .u32 sm] 50 (0, 0)) := by rw [hw7]; exact blk_set Q4.out 2 _
  have b2 : w7.heap[w.heap.size]? = some (.cells #[.slice none 0 0, .slice none 0 0, .int .u32 0] 50 (0, 0)) := by rw [hw7]; exact blk_far Q2.out (by dsimp only; omega) _
  have hS7 : Frm (fun k => k = w.heap.size + 1) w6 w7 := by rw [hw7]; exact (Frm.refl (fun k => k = w.heap.size + 1) _).set (p := ⟨w.heap.size + 1, 2, none⟩) (.inl rfl) _
  have i7 : IsR w7 g S (r.sealed 16) := QI.out.frm hS7 (fun k hk e => hSb.2 (e ▸ hk))
  have f7 : Frm S w w7 := by
    refine (((HF.out.mono (S' := S) (fun _ h => h.elim)).trans K1.out (fun _ h => .inl h)).trans QK.out (fun i hi => .inr ?_)).trans hS7 (fun i hi => .inr (by omega))
    exact hi.elim (fun h => h.elim) (fun h => by have h1 := Z1.out; have h2 : w1.heap.size ≤ i := h; omega)
  rw [← hw7]
  have B4 := Lib.hid b4
  have B2 := Lib.hid b2
  have I7 := Lib.hid i7
  have F7 := Lib.hid f7
  have Z7 := Lib.hid (show w.heap.size + 2 ≤ w7.heap.size from Nat.le_trans (Nat.le_trans Z1.out QZ.out) hS7.size)
  obtain ⟨d0, d1, d2⟩ : w7.cell? ⟨w.heap.size + 1, 0, none⟩ = some (.slice none 0 0) ∧ w7.cell? ⟨w.heap.size + 1, 1, none⟩ = some (.slice none 0 0) ∧ w7.cell? ⟨w.heap.size + 1, 2, none⟩ = some (.int .u32 sm) := ⟨(blk_cell b4 0).trans rfl, (blk_cell b4 1).trans rfl, (blk_cell b4 2).trans rfl⟩
  obtain ⟨e0, e1, e2⟩ : w7.cell? ⟨w.heap.size, 0, none⟩ = some (.slice none 0 0) ∧ w7.cell? ⟨w.heap.size, 1, none⟩ = some (.slice none 0 0) ∧ w7.cell? ⟨w.heap.size, 2, none⟩ = some (.int .u32 0) := ⟨(blk_cell b2 0).trans rfl, (blk_cell b2 1).trans rfl, (blk_cell b2 2).trans rfl⟩
  obtain ⟨m0, m1, m2⟩ : w7.frozen? ⟨w.heap.size, 0, none⟩ = false ∧ w7.frozen? ⟨w.heap.size, 1, none⟩ = false ∧ w7.frozen? ⟨w.heap.size, 2, none⟩ = false := ⟨blk_frozen b2 0, blk_frozen b2 1, blk_frozen b2 2⟩
  clear b4 b2 i7 f7 hw7 hS7 c42 f42 Q4 Q2 QI QK QZ HF K1 Z1 P2 P4
  have hel := err_calls w7 g S (r.sealed 16) I7.out
  have hwr := sealed_wf HX.out 16
  have hll := left_calls w7 g S (r.sealed 16) hwr I7.out
  have HWR := Lib.hid hwr
  generalize hrs : r.sealed 16 = rs at *
  have HRS := Lib.hid hrs
  have HEL := Lib.hid hel
  have HLL := Lib.hid hll
  clear hrs hel hll hwr
  have HU : Hid (∀ (h' : rs.err ≠ 0 ∨ fi ≠ 1279413569 ∨ rs.left < 16 * p + 4 * a), legRead r = (⟨[], [], sm⟩, false, rs)) := by
    refine Lib.hid fun h' => ?_
    rw [QN.out.1, QN.out.2.1, QN.out.2.2.1] at h'
    unfold legRead
    rw [HRS.out, HH.out, if_pos h', ← QN.out.2.2.2]
  cases he : (rs.err != 0)
  · cases hm : (fi != 1279413569)
    · by_cases hlt : rs.left < 16 * p + 4 * a
      · have T := Lib.hid (HU.out (.inr (.inr hlt)))
        refine HEL.out.mono ?_
        rintro e w8 ⟨rfl, rfl⟩
        go_wp2_with fail
        refine HLL.out.mono ?_
        rintro e w8 ⟨rfl, ⟨m, rfl⟩⟩
        go_wp2
        refine bodyPost_ret (v := .tuple #[.agg #[.slice none 0 0, .slice none 0 0, .int .u32 sm], .bool false]) (by simp [results, Try.results45, go_sem, d0, d1, d2, e0, e1, e2]) rfl ?_
        rw [T.out]
        exact leg_end (x := (⟨[], [], sm⟩, false, rs)) (Nat.le_refl _) hSb.1 (Kd.R_nil _ _ _ _ _) (Kd.R_nil _ _ _ _ _) (I7.out.drewN m) (F7.out.drewN m)
      · have hlt' : decide (rs.left < 16 * p + 4 * a) = false := decide_eq_false hlt
        have E0 := Lib.hid (of_bne he)
        have hnr : ¬ (rs.err ≠ 0 ∨ fi ≠ 1279413569 ∨ rs.left < 16 * p + 4 * a) := fun h => h.elim (fun h => h (of_bne he)) (fun h => h.elim (fun h => h (of_bne hm)) hlt)
        have HNR := Lib.hid hnr
        have hn : 0 ≤ 16 * p + 4 * a := by omega
        clear hnr hlt
        refine HEL.out.mono ?_
        rintro e w8 ⟨rfl, rfl⟩
        go_wp2_with fail
        refine HLL.out.mono ?_
        rintro e w8 ⟨rfl, ⟨m, rfl⟩⟩
        go_wp2_with fail
        generalize hnn : 16 * p + 4 * a = n at *
        have HNN := Lib.hid hnn
        clear hnn
        have i8 := I7.out.drewN m
        have f8 := F7.out.drewN m
        have q8 : Frm Nun w7 (w7.drewN m) := (Frm.refl _ _).drewN m
        have b48 := q8.blk B4.out (fun h => h)
        have b28 := q8.blk B2.out (fun h => h)
        have z8 := q8.size
        generalize w7.drewN m = w8 at *
        clear d0 d1 d2 e0 e1 e2 m0 m1 m2 HEL HLL q8
        refine (sealed_calls w8 g S (fun k hk => by have := hb k hk; have := Z7.out; omega) rs HWR.out i8 n).mono ?_
        rintro e w9 ⟨v, rfl, hv, i9, k9⟩
        obtain ⟨A2, c2, rfl, hl2, hc2⟩ := Kd.R_reads hv
        have hbyt2 := Rd.body_byt HWR.out n
        have hlen2 := Rd.body_len HWR.out n
        have hok := sealed_ok (n := n) HWR.out E0.out
        have HOK := Lib.hid hok
        have b49 := k9.blk b48 hSb.2
        have b29 := k9.blk b28 hSb.1
        have z9 : w.heap.size + 2 ≤ w9.heap.size := Nat.le_trans (Nat.le_trans Z7.out z8) k9.size
        have f9 := f8.trans k9 (fun _ h => .inl h)
        generalize hbb : rs.body n = b at *
        have HBB := Lib.hid hbb
        generalize hr2 : rs.sealed n = r2 at *
        have HR2 := Lib.hid hr2
        have HB2 := Lib.hid (And.intro hbyt2 hlen2)
        clear hbb hr2 hok hbyt2 hlen2 i8 b48 b28 z8 k9 f8 hv
        go_wp2_with fail
        refine (nreader_calls A2 c2 b w9 HB2.out.2 hc2).mono ?_
        rintro e w10 ⟨g2, rfl, j10, k10⟩
        obtain ⟨T, hTd⟩ : ∃ T : Nat → Prop, T = (fun k => Nw Nun w9 k ∧ k < w10.heap.size) := ⟨_, rfl⟩
        have hT : ∀ k, T k → w.heap.size + 2 ≤ k ∧ k < w10.heap.size := by
          intro k hk
          rw [hTd] at hk
          exact ⟨hk.1.elim (fun h => h.elim) (fun h => by have h' : w9.heap.size ≤ k := h; omega), hk.2⟩
        have hL : LInv w w.heap.size w10.heap.size S T g g2 r2 b sm w10 0 [] [] :=
          ⟨⟨none, 0, none, 0, k10.blk b49 (fun h => h), Kd.R_nil _ _ _ _ _, Kd.R_nil _ _ _ _ _⟩, k10.blk b29 (fun h => h), i9.frm k10 (fun _ _ h => h), by rw [hTd]; exact j10.bnd, f9.quiet k10, Nat.le_refl _⟩
        have HL := Lib.hid hL
        have HT2 := Lib.hid hT
        have hM : w.heap.size + 2 ≤ w10.heap.size := Nat.le_trans z9 k10.size
        clear hTd hT hL j10 k10 b49 b29 f9 i9 z9 hc2
        have hel := err_calls w10 g S r2 HL.out.log
        have HEL := Lib.hid hel
        clear hel
        obtain ⟨P0, q0, P1, q1, d0, d1, d2, e0, e1, e2, m0, m1, n0, n1, n2, hs10, HG, HP, HQ⟩ := HL.out.cells
        cases he2 : (r2.err != 0)
        · go_wp2_with fail
          refine HEL.out.mono ?_
          rintro e w11 ⟨rfl, rfl⟩
          go_wp2
          have hbl : b.length = n.toNat := HOK.out (of_bne he2) |>.2.1
          have HBl := Lib.hid hbl
          have HE2 := Lib.hid (of_bne he2)
          clear hbl d0 d1 d2 e0 e1 e2 m0 m1 n0 n1 n2 hs10 HG HP HQ HEL
          obtain ⟨pn, hpn⟩ : ∃ pn : Nat, p = pn := ⟨p.toNat, by omega⟩
          obtain ⟨an, han⟩ : ∃ an : Nat, a = an := ⟨a.toNat, by omega⟩
          have HPN := Lib.hid hpn
          have HAN := Lib.hid han
          have hbn : 16 * pn + 4 * an = b.length := by have := HBl.out; have := HNN.out; omega
          have HBN := Lib.hid hbn
          have hpb : pn < 4294967296 := by omega
          have hab : an < 4294967296 := by omega
          subst hpn
          subst han
          clear hbn hlt' r1 r2 he he2 hm
          go_loopw [10, 56] (fun _ i wr => ∃ k : Nat, k ≤ pn ∧ i = .int .i64 k ∧ LInv w w.heap.size w10.heap.size S T g g2 r2 b sm wr (16 * k) (picksOf b k) []) (fun _ i _ => pn - (intOf i).toNat)
          case atStart => exact ⟨0, Nat.zero_le _, rfl, HL.out⟩
          case round =>
            obtain ⟨k, hk, rfl, hL⟩ := hrel
            by_cases hlt : k < pn
            · have hnw : (Rd.mk b ((16 * k : Nat) : Int) 0).num 8 = fle ((b.drop (16 * k)).take 8) ∧ (Rd.mk b ((16 * k : Nat) : Int) 0).skip 8 = ⟨b, ((16 * k + 8 : Nat) : Int), 0⟩ := rd_at b (16 * k) 8 (by have := HBN.out; omega)
              have hnx : (Rd.mk b ((16 * k + 8 : Nat) : Int) 0).num 8 = fle ((b.drop (16 * k + 8)).take 8) ∧ (Rd.mk b ((16 * k + 8 : Nat) : Int) 0).skip 8 = ⟨b, ((16 * k + 8 + 8 : Nat) : Int), 0⟩ := rd_at b (16 * k + 8) 8 (by have := HBN.out; omega)
              have HX1 := Lib.hid hnw
              have HX2 := Lib.hid hnx
              have HLk := Lib.hid hL
              have hwf1 : (Rd.mk b ((16 * k : Nat) : Int) 0).Wf := ⟨HB2.out.1, by dsimp only; omega, by have := HBN.out; dsimp only; omega, HB2.out.2⟩
              have hwf2 : (Rd.mk b ((16 * k + 8 : Nat) : Int) 0).Wf := ⟨HB2.out.1, by dsimp only; omega, by have := HBN.out; dsimp only; omega, HB2.out.2⟩
              have HW1 := Lib.hid hwf1
              have HW2 := Lib.hid hwf2
              clear hL hnw hnx hwf1 hwf2
              go_wp2_with fail
              refine (ru64_calls wr g2 T _ HW1.out HLk.out.rd).mono ?_
              rintro e w12 ⟨rfl, i12, k12⟩
              rw [HX1.out.1]
              rw [HX1.out.2] at i12
              have HL12 := Lib.hid (HLk.out.read hb HT2.out (Nat.le_refl _) i12 k12)
              clear i12 k12 HLk
              obtain ⟨P0, q0, P1, q1, d0, d1, d2, e0, e1, e2, m0, m1, n0, n1, n2, hs12, HG, HP, HQ⟩ := HL12.out.cells
              obtain ⟨x0, hx0⟩ : ∃ x, x = s64 (fle ((b.drop (16 * k)).take 8)) := ⟨_, rfl⟩
              obtain ⟨x1, hx1⟩ : ∃ x, x = s64 (fle ((b.drop (16 * k + 8)).take 8)) := ⟨_, rfl⟩
              rw [← hx0]
              have HX3 := Lib.hid (And.intro hx0 hx1)
              clear hx0 hx1
              have hc2 : Calls Try.prog 55 #[.pointer (some ⟨g2, 0, none⟩)] w12.drew fun e w' => e = .returned (.int .i64 x1) ∧ IsR w' g2 T ⟨b, ((16 * k + 8 + 8 : Nat) : Int), 0⟩ ∧ Frm T w12.drew w' := by
                have := ru64_calls w12.drew g2 T _ HW2.out (HL12.out.rd.drewN 1)
                rw [HX2.out.1, HX2.out.2, ← HX3.out.2] at this
                exact this
              have HC2 := Lib.hid hc2
              clear hc2
              go_wp2
              have hL12d : LInv w w.heap.size w10.heap.size S T g g2 r2 b sm w12.drew (16 * k + 8) (picksOf b k) [] := ⟨HL12.out.own, HL12.out.res, HL12.out.log, HL12.out.rd, HL12.out.frm.drew, HL12.out.size⟩
              have HLD := Lib.hid hL12d
              have hln : ((picksOf b k).length + 1) * 16 ≤ 140737488355328 := by unfold picksOf; rw [List.length_map, List.length_range]; omega
              have HLN := Lib.hid hln
              clear hL12d hln
              go_region_law (first | (refine app_step k80 (W := w13) (.tmp 61) (.tmp 66) 47 80 (.agg #[.int .i64 0, .int .i64 0]) 16 (by rfl) rfl Try.underlying47 info80 rfl (by decide) (by decide) (.slice P0 (picksOf b k).length q0) (picksOf b k) ⟨x0, x1⟩ [.int .i64 x0, .int .i64 x1] (fun i => w10.heap.size ≤ i) (fun _ => False) rfl rfl rfl (k80_mkM _ _ _ _) (fun _ hk => hk.elim) (fun i hi => Nat.le_trans L13.out.size hi) P13.out HLN.out ?_; intro v1 w14 ho hg1; obtain ⟨N0, n0', rfl, _, _⟩ := Kd.R_reads ho; have g14 := blk_grown G13.out hg1 (fun e => absurd (P13.out.1 _ e.symm) (Nat.not_le.2 hM)); have d14 := (blk_cell g14 0).trans rfl; have f14 := blk_frozen g14 0; simp at d14; have HO := Lib.hid ho; have HG1 := Lib.hid hg1; clear ho hg1 g14) | (go_simp; go_at_call 55; refine HC2.out.mono ?_; rintro e w13 ⟨rfl, i13, k13⟩; have G13 := Lib.hid (k13.blk (w := w12.drew) HG.out (fun h => absurd (HT2.out _ h).1 (by omega))); have P13 := Lib.hid (R_frm (w := w12.drew) HP.out k13 (fun k hk ht => absurd (HT2.out _ ht).2 (Nat.not_lt.2 hk))); have Q13 := Lib.hid (R_frm (w := w12.drew) HQ.out k13 (fun k hk ht => absurd (HT2.out _ ht).2 (Nat.not_lt.2 hk))); have L13 := Lib.hid (HLD.out.read hb HT2.out (Nat.le_refl _) i13 k13); have d13 := (blk_cell G13.out 0).trans rfl; simp at d13; have s13 := blk_lt G13.out; clear i13 k13))
              all_goals
                go_wp2
                go_roundw
                case rel =>
                  refine ⟨k + 1, by omega, by go_num, ?_⟩
                  rw [picks_snoc, show pickAt b k = ⟨x0, x1⟩ by rw [HX3.out.1, HX3.out.2]; rfl, show 16 * (k + 1) = 16 * k + 8 + 8 by omega]
                  exact L13.out.pick hb HT2.out (Nat.le_refl _) hM G13.out P13.out Q13.out HO.out HG1.out
                case measure => simp [intOf]; omega
            · obtain rfl : k = pn := by omega
              have HLk := Lib.hid hL
              clear hL hlt hk
              go_wp2
              go_loopw [71] (fun i wr => ∃ j : Nat, j ≤ an ∧ i = .int .i64 j ∧ LInv w w.heap.size w10.heap.size S T g g2 r2 b sm wr (16 * k + 4 * j) (picksOf b k) (wordsOf b k j)) (fun i _ => an - (intOf i).toNat)
              case atStart => exact ⟨0, Nat.zero_le _, rfl, HLk.out⟩
              case round =>
                clear HLk HL
                obtain ⟨j, hj, rfl, hL⟩ := hrel
                by_cases hlt : j < an
                · have hnw : (Rd.mk b ((16 * k + 4 * j : Nat) : Int) 0).num 4 = wordAt b (16 * k + 4 * j) ∧ (Rd.mk b ((16 * k + 4 * j : Nat) : Int) 0).skip 4 = ⟨b, ((16 * k + 4 * j + 4 : Nat) : Int), 0⟩ := rd_at b (16 * k + 4 * j) 4 (by have := HBN.out; omega)
                  have hwf1 : (Rd.mk b ((16 * k + 4 * j : Nat) : Int) 0).Wf := ⟨HB2.out.1, by dsimp only; omega, by have := HBN.out; dsimp only; omega, HB2.out.2⟩
                  obtain ⟨P0, q0, P1, q1, d0, d1, d2, e0, e1, e2, m0, m1, n0, n1, n2, hs12, HG, HP, HQ⟩ := hL.cells
                  obtain ⟨x0, hx0⟩ : ∃ x, x = wordAt b (16 * k + 4 * j) := ⟨_, rfl⟩
                  have hc2 : Calls Try.prog 53 #[.pointer (some ⟨g2, 0, none⟩)] wr.drew fun e w' => e = .returned (.int .u32 x0) ∧ IsR w' g2 T ⟨b, ((16 * k + 4 * j + 4 : Nat) : Int), 0⟩ ∧ Frm T wr.drew w' := by
                    have := ru32_calls wr.drew g2 T _ hwf1 (hL.rd.drewN 1)
                    rw [hnw.1, hnw.2, ← hx0] at this
                    exact this
                  have hLd : LInv w w.heap.size w10.heap.size S T g g2 r2 b sm wr.drew (16 * k + 4 * j) (picksOf b k) (wordsOf b k j) := ⟨hL.own, hL.res, hL.log, hL.rd, hL.frm.drew, hL.size⟩
                  have hln : ((wordsOf b k j).length + 1) * 4 ≤ 140737488355328 := by unfold wordsOf; rw [List.length_map, List.length_range]; omega
                  have HC2 := Lib.hid hc2
                  have HLD := Lib.hid hLd
                  have HLN := Lib.hid hln
                  have HX3 := Lib.hid hx0
                  clear hL hnw hwf1 hc2 hLd hln hx0
                  go_wp2
                  go_region_law (first | (refine app_step (Kd.int .u32) (W := w13) (.tmp 74) (.tmp 77) 48 35 (.int .u32 0) 4 (by rfl) rfl Try.underlying48 info35 rfl (by decide) (by decide) (.slice P1 (wordsOf b k j).length q1) (wordsOf b k j) x0 [.int .u32 x0] (fun i => w10.heap.size ≤ i) (fun _ => False) rfl rfl rfl rfl (fun _ hk => hk.elim) (fun i hi => Nat.le_trans L13.out.size hi) Q13.out HLN.out ?_; intro v1 w14 ho hg1; obtain ⟨N0, n0', rfl, _, _⟩ := Kd.R_reads ho; have g14 := blk_grown G13.out hg1 (fun e => absurd (Q13.out.1 _ e.symm) (Nat.not_le.2 hM)); have d14 := (blk_cell g14 1).trans rfl; have f14 := blk_frozen g14 1; simp at d14; have HO := Lib.hid ho; have HG1 := Lib.hid hg1; clear ho hg1 g14) | (go_simp; go_at_call 53; refine HC2.out.mono ?_; rintro e w13 ⟨rfl, i13, k13⟩; have G13 := Lib.hid (k13.blk (w := wr.drew) HG.out (fun h => absurd (HT2.out _ h).1 (by omega))); have P13 := Lib.hid (R_frm (w := wr.drew) HP.out k13 (fun k hk ht => absurd (HT2.out _ ht).2 (Nat.not_lt.2 hk))); have Q13 := Lib.hid (R_frm (w := wr.drew) HQ.out k13 (fun k hk ht => absurd (HT2.out _ ht).2 (Nat.not_lt.2 hk))); have L13 := Lib.hid (HLD.out.read hb HT2.out (Nat.le_refl _) i13 k13); have d13 := (blk_cell G13.out 1).trans rfl; simp at d13; have s13 := blk_lt G13.out; clear i13 k13))
                  all_goals
                    go_wp2
                    go_roundw
                    case rel =>
                      refine ⟨j + 1, by omega, by go_num, ?_⟩
                      rw [words_snoc, ← HX3.out, show 16 * k + 4 * (j + 1) = 16 * k + 4 * j + 4 by omega]
                      exact L13.out.word hb HT2.out (Nat.le_refl _) hM G13.out P13.out Q13.out HO.out HG1.out
                    case measure => simp [intOf]; omega
                · obtain rfl : j = an := by omega
                  obtain ⟨P0, q0, P1, q1, d0, d1, d2, e0, e1, e2, m0, m1, n0, n1, n2, hs12, HG, HP, HQ⟩ := hL.cells
                  have HLk := Lib.hid hL
                  clear hL hlt hj
                  have T := Lib.hid (show legRead r = (⟨picksOf b k, wordsOf b k j, sm⟩, true, r2) by
                    have hnr := HNR.out
                    rw [QN.out.1, ← HNN.out, QN.out.2.1, QN.out.2.2.1] at hnr
                    unfold legRead
                    rw [HRS.out, HH.out, if_neg hnr, ← QN.out.2.1, ← QN.out.2.2.1, HNN.out, HR2.out, if_neg (fun h => h HE2.out), ← QN.out.2.2.2, HBB.out]
                    rfl)
                  go_wp2
                  refine bodyPost_ret (v := .tuple #[.agg #[.slice P0 (picksOf b k).length q0, .slice P1 (wordsOf b k j).length q1, .int .u32 sm], .bool true]) (by simp [results, Try.results45, go_sem, d0, d1, d2, e0, e1, e2]) rfl ?_
                  rw [T.out]
                  exact leg_end (x := (⟨picksOf b k, wordsOf b k j, sm⟩, true, r2)) (Nat.le_refl _) hSb.1 (Kd.R_mono HP.out (fun k hk => ⟨.inr (by omega), by omega⟩)) (Kd.R_mono HQ.out (fun k hk => ⟨.inr (by omega), by omega⟩)) HLk.out.log HLk.out.frm
        · have T := Lib.hid (show legRead r = (⟨[], [], sm⟩, false, r2) by
            have hnr := HNR.out
            rw [QN.out.1, ← HNN.out, QN.out.2.1, QN.out.2.2.1] at hnr
            unfold legRead
            rw [HRS.out, HH.out, if_neg hnr, ← QN.out.2.1, ← QN.out.2.2.1, HNN.out, HR2.out, if_pos (by simpa using he2), ← QN.out.2.2.2])
          go_wp2_with fail
          refine HEL.out.mono ?_
          rintro e w11 ⟨rfl, rfl⟩
          go_wp2
          refine bodyPost_ret (v := .tuple #[.agg #[.slice P0 0 q0, .slice P1 0 q1, .int .u32 sm], .bool false]) (by simp [results, Try.results45, go_sem, d0, d1, d2, e0, e1, e2]) rfl ?_
          rw [T.out]
          exact leg_end (x := (⟨[], [], sm⟩, false, r2)) (Nat.le_refl _) hSb.1 (Kd.R_mono HP.out (fun k hk => ⟨.inr (by omega), by omega⟩)) (Kd.R_mono HQ.out (fun k hk => ⟨.inr (by omega), by omega⟩)) HL.out.log HL.out.frm
    · have T := Lib.hid (HU.out (.inr (.inl (by simpa using hm))))
      refine HEL.out.mono ?_
      rintro e w8 ⟨rfl, rfl⟩
      go_wp2
      refine bodyPost_ret (v := .tuple #[.agg #[.slice none 0 0, .slice none 0 0, .int .u32 sm], .bool false]) (by simp [results, Try.results45, go_sem, d0, d1, d2, e0, e1, e2]) rfl ?_
      rw [T.out]
      exact leg_end (x := (⟨[], [], sm⟩, false, rs)) (Nat.le_refl _) hSb.1 (Kd.R_nil _ _ _ _ _) (Kd.R_nil _ _ _ _ _) I7.out F7.out
  · have T := Lib.hid (HU.out (.inl (by simpa using he)))
    refine HEL.out.mono ?_
    rintro e w8 ⟨rfl, rfl⟩
    go_wp2
    refine bodyPost_ret (v := .tuple #[.agg #[.slice none 0 0, .slice none 0 0, .int .u32 sm], .bool false]) (by simp [results, Try.results45, go_sem, d0, d1, d2, e0, e1, e2]) rfl ?_
    rw [T.out]
    exact leg_end (x := (⟨[], [], sm⟩, false, rs)) (Nat.le_refl _) hSb.1 (Kd.R_nil _ _ _ _ _) (Kd.R_nil _ _ _ _ _) I7.out F7.out
end Go.Proofs.Ytoebhddgpicegaa
namespace Go.Proofs.Ytoebhddgpicegaa
open Go.RowKit Go.Proofs.YtoebhddgpicegaaW.PrintWords
variable {F : Fence} {n : Nat} {P : Program}
/-- How a round may be left: L is what the loop's record says. -/
def freePost (L : LoopState → Option Code → World → Prop) (l : Nat) (R : Ending → World → Prop) : Exit → Act → World → Prop
  | .normal, _, w => L .busy none w ∧ ∀ w', Frm (fun k => k = l) w w' → L .ready none w' → R (.returned (.bool true)) w'
  | .ret, _, w => L .busy none w ∧ ∀ w', Frm (fun k => k = l) w w' → L .done (some .ret) w' → R (.returned (.bool false)) w'
  | .exit id, _, w => L .busy none w ∧ ∀ w', Frm (fun k => k = l) w w' → L .done (some (.exit id)) w' → R (.returned (.bool false)) w'
  | .goto t, _, w => L .busy none w ∧ ∀ w', Frm (fun k => k = l) w w' → L .done (some (.goto t)) w' → R (.returned (.bool false)) w'
  | .panic _, _, _ => False
  | .outgrown, _, _ => False
theorem frm_put {S : Nat → Prop} {w w1 : World} (h : Frm S w w1) (l : Nat) (o : Obj) (hl : S l ∨ w.heap.size ≤ l) : Frm S w (w1.putObj l o) :=
  h.grown (grownBy_putObj' w1 l o) (fun k e => by cases e; exact hl)
/-- A range over a function: the iterator is walked with the loop's record in sight, whatever it keeps of its own. -/
theorem rangeFunc_free {g : Operand} {ps : Array Tmp} {assign body : Code} {Q : Exit → Act → World → Prop} {a : Act} {w : World}
    (hro : F.round = none) (h1 : F.depth.isSome = true → 1 ≤ n) {gf : Nat} {lb : Array Value} (hg : a.eval g = .func (.func gf) #[] lb) (hFg : F.fn gf) (eg : ∀ args w, (callFunc gf args).run P w = .ok (.enter gf args) w)
    (h : ∀ (L : LoopState → Option Code → World → Prop) (l D : Nat) (W1 : World), l = w.heap.size + 1 → D = w.heap.size → W1.heap.size = w.heap.size + 2 → Frm Nun w W1 → L .ready none W1 →
      (∀ st pe W W', L st pe W → W'.heap[l]? = W.heap[l]? → W'.heap[D]? = W.heap[D]? → L st pe W') →
      (∀ st pe W, L st pe W → W.heap[D]? = some (.deferred (some []))) →
      (∀ (m : Nat) (args : Array Value) (W : World) (R : Ending → World → Prop), args.size = ps.size → L .ready none W →
        assign.wpIn (F.inRound l) m P (Exit.then (fun a₁ w₁ => L .ready none w₁ ∧ ∀ w₂, Frm (fun k => k = l) w₁ w₂ → L .busy none w₂ → body.wpIn (F.inRound l) m P (freePost L l R) a₁ w₂) (fun _ _ _ => False))
          { tmps := (ps.zip args).foldl (fun t (p, v) => t.setIfInBounds p v) a.tmps, defers := [] } W → YieldAt F m P l args W R) →
      CallsIn F (n - 1) P gf (#[.func (.yield l) #[] #[]] ++ lb) W1 fun e W2 => (∃ v, e = .returned v) ∧
        ((L .ready none W2 ∧ ∀ W3, Frm (fun k => k = l) W2 W3 → W3.heap[D]? = some (.deferred (some [])) → Q .normal { a with defers := { target := .collected D, args := #[] } :: a.defers } W3) ∨
         (∃ c, L .done (some c) W2 ∧ ∀ W3, Frm (fun k => k = l) W2 W3 → W3.heap[D]? = some (.deferred (some [])) → c.wpIn F n P Q { a with defers := { target := .collected D, args := #[] } :: a.defers } W3))) :
    (Code.rangeFunc g ps assign body).wpIn F n P Q a w := by
  refine wpIn_rangeFunc ?_
  intro fn hfn
  rw [hro]
  obtain ⟨rec, hrec⟩ : ∃ rec : LoopState → Option Code → Loop, rec = fun st pe => { state := st, pending := pe, fn, tmps := a.tmps, params := ps, assign, body, defers := w.heap.size } := ⟨_, rfl⟩
  obtain ⟨W1, hW1⟩ : ∃ W1, (w.alloc (.deferred (some []))).alloc (.loop (rec .ready none)) = W1 := ⟨_, rfl⟩
  have hL1 : W1.heap[w.heap.size + 1]? = some (.loop (rec .ready none)) := by
    rw [← hW1]; have := World.alloc_heap_new (w.alloc (.deferred (some []))) (.loop (rec .ready none)); rwa [World.size_alloc] at this
  have hK1 : W1.heap[w.heap.size]? = some (.deferred (some [])) := by
    rw [← hW1]; exact (Below.heap_alloc _ _ _ (by simp)).trans (World.alloc_heap_new w _)
  refine ⟨w.heap.size + 1, [{ target := .collected w.heap.size, args := #[] }], W1, { target := .fn (.func gf) lb, args := #[.func (.yield (w.heap.size + 1)) #[] #[]] }, W1, gf,
    #[.func (.yield (w.heap.size + 1)) #[] #[]] ++ lb, W1, ?_, ?_, ?_, ?_, h1, ?_⟩
  · rw [← hW1, hrec]; exact run_enterLoop_outer _ _ _ _ _
  · simp only [resolve, hg]
    simp [go_sem]
  · intro f' hf'; simp [Target.leads] at hf'; subst hf'; exact hFg
  · simp [invoke, go_sem, eg]
  · refine (h (fun st pe W => W.heap[w.heap.size + 1]? = some (.loop (rec st pe)) ∧ W.heap[w.heap.size]? = some (.deferred (some []))) _ _ W1 rfl rfl (by rw [← hW1]; simp) (by rw [← hW1]; exact ((Frm.refl _ _).alloc _).alloc _) ⟨hL1, hK1⟩
      (fun st pe W W' hl e1 e2 => ⟨e1.trans hl.1, e2.trans hl.2⟩) (fun st pe W hl => hl.2) ?_).mono ?_
    · intro m args W R hsz ⟨hl, hk⟩ hwalk
      have hy := run_yield (P := P) (args := args) hl (by rw [hrec]; exact hsz)
      rw [hrec] at hy
      refine ⟨fn, _, assign, body, hy, roundIn_of_wpIn hfn (wpIn_mono hwalk ?_)⟩
      clear hy hwalk hl hk
      rintro e a1 w1 hp
      cases e with
      | normal =>
        obtain ⟨⟨hl1, hk1⟩, hb⟩ := hp
        have hlt : w.heap.size + 1 < w1.heap.size := (Array.getElem?_eq_some_iff.1 hl1).1
        refine ⟨_, run_beginRound hl1 (by rw [hrec]), wpIn_mono (hb _ (frm_put (Frm.refl _ _) _ _ (.inl rfl)) ⟨?_, (World.putObj_heap_other (by omega)).trans hk1⟩) ?_⟩
        · rw [World.putObj_heap_same hlt, hrec]
        · have fin : ∀ (jump : Option Code) (W3 : World), W3.heap[w.heap.size + 1]? = some (.loop (rec .busy none)) → W3.heap[w.heap.size]? = some (.deferred (some [])) →
              ∃ W4, (Instr.endRound (w.heap.size + 1) jump).run P W3 = .ok (.bool jump.isNone) W4 ∧ Frm (fun k => k = w.heap.size + 1) W3 W4 ∧ W4.heap[w.heap.size + 1]? = some (.loop (rec (if jump.isNone then .ready else .done) jump)) ∧ W4.heap[w.heap.size]? = some (.deferred (some [])) := fun jump W3 h3 h4 => by
            have he := run_endRound (P := P) jump h3
            rw [hrec] at he
            refine ⟨_, he, frm_put (Frm.refl _ _) _ _ (.inl rfl), ?_, (World.putObj_heap_other (by omega)).trans h4⟩
            rw [World.putObj_heap_same (Array.getElem?_eq_some_iff.1 h3).1, hrec]
          rintro e a3 W3 hp3
          cases e with
          | normal =>
            obtain ⟨⟨h3, h4⟩, hr⟩ := hp3
            obtain ⟨W4, e4, f4, l4, k4⟩ := fin none W3 h3 h4
            exact ⟨_, _, e4, hr W4 f4 ⟨l4, k4⟩⟩
          | ret =>
            obtain ⟨⟨h3, h4⟩, hr⟩ := hp3
            obtain ⟨W4, e4, f4, l4, k4⟩ := fin (some .ret) W3 h3 h4
            exact ⟨_, _, e4, hr W4 f4 ⟨l4, k4⟩⟩
          | exit id =>
            obtain ⟨⟨h3, h4⟩, hr⟩ := hp3
            obtain ⟨W4, e4, f4, l4, k4⟩ := fin (some (.exit id)) W3 h3 h4
            exact ⟨_, _, e4, hr W4 f4 ⟨l4, k4⟩⟩
          | goto t =>
            obtain ⟨⟨h3, h4⟩, hr⟩ := hp3
            obtain ⟨W4, e4, f4, l4, k4⟩ := fin (some (.goto t)) W3 h3 h4
            exact ⟨_, _, e4, hr W4 f4 ⟨l4, k4⟩⟩
          | panic ch => exact hp3.elim
          | outgrown => exact hp3.elim
      | exit id => exact hp.elim
      | goto t => exact hp.elim
      | ret => exact hp.elim
      | panic chain => exact hp.elim
      | outgrown => exact hp.elim
    · rintro e W2 ⟨⟨v, rfl⟩, (⟨⟨hl, hk⟩, hq⟩ | ⟨c, ⟨hl, hk⟩, hq⟩)⟩
      · exact ⟨none, _, by have := run_endLoop (P := P) hl (by rw [hrec]; simp); rw [hrec] at this; exact this, hq _ (frm_put (Frm.refl _ _) _ _ (.inl rfl)) ((World.putObj_heap_other (by omega)).trans hk)⟩
      · exact ⟨some c, _, by have := run_endLoop (P := P) hl (by rw [hrec]; simp); rw [hrec] at this; exact this, hq _ (frm_put (Frm.refl _ _) _ _ (.inl rfl)) ((World.putObj_heap_other (by omega)).trans hk)⟩
section
variable {ops : Array Oper} {rest : List Oper} {o : Oper} {a : Act} {Q : Exit → Act → World → Prop} {α : Type}
/-- append of one element that a literal has just laid, rows apart, inside a fence. -/
theorem app_list_S_in (d : Kd α) {W Wa : World} (s x : Operand) (t e : TypeId) (z : Value) (bytes : Nat) (hgd : o.guard = none)
    (ho : o.op = .call { callee := .builtin .append, args := #[s, x], argTypes := #[t, t] })
    (ht : P.underlying t = some (.slice e)) (hinfo : (P.info? e).map (fun i => (i.zero, i.size, i.bytes)) = some (some z, d.sz, bytes)) (hz : z.cells.size = d.sz) (hs0 : 0 < d.sz) (hb0 : 0 < bytes)
    (v : Value) (xs : List α) (p : α) (cs : List Value) (ok okp : Nat → Prop) (hs : a.eval s = v) (hx : a.eval x = .slice (some ⟨W.heap.size, 0, none⟩) 1 1) (hWa : Wa = W.alloc (.cells cs.toArray e)) (hp : d.M W 0 okp p cs) (hokp : ∀ k, okp k → ok k ∧ some k ≠ v.ownBlock) (hfresh : ∀ k, W.heap.size ≤ k → ok k)
    (HO : Kd.S d e W 0 (fun k => ok k ∧ ¬ okp k) v xs) (hl : (xs.length + 1) * bytes ≤ 140737488355328)
    (h : ∀ v1 w1, Kd.S d e w1 0 ok v1 (xs ++ [p]) → W.grownBy w1 v.ownBlock → wpListIn F n P ops Q rest (a.put o.dst v1) w1) :
    wpListIn F n P ops Q (o :: rest) a Wa := by
  subst hWa
  obtain ⟨f, hf, hR⟩ := Kd.S_tag HO xs.length okp (fun _ hk h2 => h2.2 hk)
  obtain ⟨h0, inner, hown, hr⟩ := hR
  have hlz : xs.zipIdx.length = xs.length := List.length_zipIdx
  obtain ⟨i0, hi, hzz⟩ := Option.map_eq_some_iff.1 hinfo
  simp only [Prod.mk.injEq] at hzz
  obtain ⟨hz0, hz1, hz2⟩ := hzz
  have hp' : (Kd.tag f d).M W 0 okp (p, xs.length) cs := d.M_mono (fun k hk => ⟨hk, hf k hk⟩) hp
  have hlen : xs.length + 1 ≤ 140737488355328 := Nat.le_trans (Nat.le_mul_of_pos_right _ hb0) hl
  refine wpListIn_plain hgd fun K hK' => ?_
  obtain ⟨v', w', hrun, r1, r2, _, r4⟩ := run_append_own_at (P := P) (W.alloc (.cells cs.toArray e)) 0 t o.type e i0 z d.sz bytes ht hi hz0 hz1 hz2 hz hs0 v xs.zipIdx.length inner (hown.alloc _) ⟨W.heap.size, 0, none⟩ 1 1 cs (by rw [d.K_len (d.K_of_M hp)]; simp)
    (by simpa using World.news_of_block (cs := cs.toArray) (t := e) (fr := (0, 0)) (heap_alloc_new W (.cells cs.toArray e))) (d.K_one (d.K_of_M hp)) (by rw [hlz]; simp only [maxLen]; omega) (by rw [hlz]; exact hl) (Nat.zero_le _)
  unfold Oper.wpIn
  refine ⟨?_, ?_⟩
  · simp [Oper.about, ho, resolve, Target.leads, Sem.run_pure]
  · rw [Oper.semAt_plain F _ _ (by rw [ho]; intro c hc'; cases hc')]
    have hat : v'.ownBlock = v.ownBlock ∨ ∃ b, v'.ownBlock = some b ∧ W.heap.size ≤ b := r4.elim .inl (fun h => .inr ⟨_, h, by simp⟩)
    have hg2 : W.grownBy w' v.ownBlock := World.grownBy.trans (World.grownBy_alloc W _ _) r2
    have hS : Kd.S d e w' 0 ok v' (xs ++ [p]) := by
      have := Kd.R_appended (d := Kd.tag f d) (okp := okp) (ok := ok) (fun k hk => (h0 k hk).1) (hr.imp_ (fun _ _ hq => d.M_mono (fun k hk => ⟨⟨hk.1.1.1, hk.1.2⟩, hk.2⟩) hq)) hp' hokp hfresh r1 hg2 hat
      rw [← Kd.zip_snoc] at this
      exact ⟨f, this⟩
    simp [execOp, ho, resolve, invoke, builtin, hs, hx, hrun, Result.andThen]
    exact hK' _ _ (h v' w' hS hg2)
end
end Go.Proofs.Ytoebhddgpicegaa
namespace Go.Proofs.Ytoebhddgpicegaa
open Go.RowKit Go.Proofs.YtoebhddgpicegaaW.PrintWords
open PReplayApart
attribute [local go_sem] Oper.semAt_some
/-- All legs from a reader's place on; none where one of them is none. -/
def legsGo : Nat → Rd → Option (List S50)
  | 0, _ => none
  | n + 1, r => if 0 < r.left then (if (legRead r).2.1 = true then (legsGo n (legRead r).2.2).map ((legRead r).1 :: ·) else none) else some []
def legsAll (l : List Int) : Option (List S50) := legsGo (l.length + 1) ⟨l, 0, 0⟩
theorem legRead_ok {r : Rd} (hr : r.Wf) (h0 : r.err = 0) (h : (legRead r).2.1 = true) : (legRead r).2.2.Wf ∧ (legRead r).2.2.err = 0 ∧ (legRead r).2.2.left < r.left ∧ (legRead r).2.2.inp = r.inp := by
  unfold legRead at h ⊢
  split at h
  · cases h
  split at h
  · cases h
  rename_i h1 h2
  rw [if_neg h1, if_neg h2]
  have h3 : (r.sealed 16).err = 0 := Decidable.byContradiction (fun e => h1 (.inl e))
  have h4 : ((r.sealed 16).sealed (16 * hdw (r.body 16) 1 + 4 * hdw (r.body 16) 2)).err = 0 := Decidable.byContradiction h2
  obtain ⟨_, _, _, e1, _⟩ := sealed_ok hr h0 h3
  obtain ⟨a0, _, _, e2, _⟩ := sealed_ok (sealed_wf hr 16) h3 h4
  refine ⟨sealed_wf (sealed_wf hr 16) _, h4, ?_, by rw [e2, e1]; rfl⟩
  rw [e2, e1]
  simp only [Rd.left, Rd.at_] at a0 ⊢
  omega
/-- What a reader has left, read off the world. -/
def wleft (g : Nat) (m : Nat) (w : World) : Nat := match w.cell? ⟨g, 1, none⟩ with
  | some (.int _ p) => (m - p).toNat
  | _ => 0
theorem wleft_eq {w : World} {g : Nat} {S : Nat → Prop} {r : Rd} {m : Nat} (h : IsR w g S r) (hm : r.inp.length = m) : wleft g m w = r.left.toNat := by
  obtain ⟨_, _, h1, _⟩ := h
  unfold wleft
  rw [(blk_cell h1 1).trans rfl]
  simp only [Rd.left, ← hm]
  rfl
/-- What a walk has come to: pre has come; the rest is r's. -/
structure ItInv (W0 : World) (M1 : Nat) (g : Nat) (l : List Int) (J : Nat → List S50 → World → Prop) (wr : World) (k : Nat) (pre : List S50) (r : Rd) : Prop where
  isr : IsR wr g (fun i => W0.heap.size ≤ i ∧ i < M1) r
  wf : r.Wf
  inp : r.inp.length = l.length
  err : r.err = 0
  all : legsAll l = (legsGo k r).map (pre ++ ·)
  len : pre.length + r.left ≤ l.length
  fuel : r.left < k
  size : M1 ≤ wr.heap.size
  pay : J M1 pre wr
def ItEnd (l : List Int) (J : Nat → List S50 → World → Prop) (Jx : World → Prop) (e : Ending) (W' : World) : Prop :=
  (∃ v, e = .returned v) ∧ ((∃ M1 ls, legsAll l = some ls ∧ J M1 ls W') ∨ (legsAll l = none ∧ Jx W'))
set_option maxHeartbeats 2000000 in
set_option maxRecDepth 100000 in
theorem legs1_in (F : Fence) (hF : F = Fence.wide) (n : Nat) (lp B : Nat) (A : Option Addr) (c : Nat) (l : List Int) (hb : Byt l) (hl : l.length ≤ 140737488355328) (W : World) (J : Nat → List S50 → World → Prop) (Jx : World → Prop)
    (hB : W.cell? ⟨B, 0, none⟩ = some (.slice A l.length c)) (hC : Kd.C (Kd.int .u8) W A l.length l)
    (h0 : ∀ W1, Frm Nun W W1 → J W1.heap.size [] W1)
    (hJ : ∀ M1 pre W1 W2, J M1 pre W1 → Frm (fun k => W.heap.size ≤ k ∧ k < M1) W1 W2 → J M1 pre W2)
    (hY : ∀ M1 pre W0 W1 v0 v1 x ok, J M1 pre W0 → W.heap.size ≤ M1 → M1 ≤ W0.heap.size → Frm (fun k => W.heap.size ≤ k ∧ k < M1) W0 W1 → pre.length < l.length → Kd.R k80 80 W1 0 (Nw Nun W0) v0 x.f0 → Kd.R (Kd.int .u32) 35 W1 0 (Nw Nun W0) v1 x.f1 →
      YieldAt F (n - 1) Try.prog lp #[.agg #[v0, v1, .int .u32 x.f2], .bool ok] W1 fun e W' =>
        (ok = true ∧ e = .returned (.bool true) ∧ J M1 (pre ++ [x]) W' ∧ Frm (fun k => ¬ (W.heap.size ≤ k ∧ k < M1)) W1 W') ∨ (ok = false ∧ e = .returned (.bool false) ∧ Jx W')) :
    CallsIn F n Try.prog 42 #[.func (.yield lp) #[] #[], .pointer (some ⟨B, 0, none⟩)] W (ItEnd l J Jx) := by
  have hro : F.round = none := by rw [hF]; rfl
  have hfn : ∀ f, F.fn f := by intro f; rw [hF]; trivial
  have hin : ∀ {m f args w} {R : Ending → World → Prop}, Calls Try.prog f args w R → CallsIn F m Try.prog f args w R := by intro m f args w R h; rw [hF]; exact callsIn_wide.2 h
  refine callsIn_of_wp Try.func42 rfl (hfn _) ?_ hro
  simp only [Try.ntmps42, List.size_toArray, List.length_cons, List.length_nil, Nat.reduceAdd, Nat.reduceSub, Array.replicate_succ, Array.replicate_zero, List.push_toArray, List.append_toArray, List.nil_append, List.cons_append]
  have hdep : F.depth = none := by rw [hF]; rfl
  have HC := Lib.hid hC
  have H0 := Lib.hid h0
  have HJ := Lib.hid hJ
  have HY := Lib.hid hY
  have HF := Lib.hid hF
  clear hC h0 hJ hY hF
  gi_wp2_with (gi_at_call 43; refine (hin (nreader_calls A c l W hl HC.out)).mono ?_; rintro e w1 ⟨g, rfl, hI, hf⟩)
  have hz1 : W.heap.size ≤ w1.heap.size := hf.size
  have HIV : ItInv W w1.heap.size g l J w1 (l.length + 1) [] ⟨l, 0, 0⟩ :=
    ⟨hI.bnd.mono (fun k hk => ⟨hk.1.elim (fun h => h.elim) id, hk.2⟩), ⟨hb, Int.le_refl _, by dsimp only; omega, hl⟩, rfl, rfl, by simp only [legsAll]; cases legsGo (l.length + 1) ⟨l, 0, 0⟩ <;> simp, by simp [Rd.left], by simp only [Rd.left]; omega, Nat.le_refl _, H0.out w1 hf⟩
  obtain ⟨M1, hM1⟩ : ∃ M1, M1 = w1.heap.size := ⟨_, rfl⟩
  rw [← hM1] at HIV hz1
  clear H0 HC hI hf
  gi_loopw [] (fun wr => ∃ k pre r, ItInv W M1 g l J wr k pre r) (fun wr => wleft g l.length wr)
  case atStart => exact ⟨_, _, _, HIV⟩
  case round =>
    obtain ⟨k, pre, r, hv⟩ := hrel
    have hk := hv.fuel
    have HV := Lib.hid hv
    clear hv HIV
    by_cases hlt : 0 < r.left
    · gi_wp2_with (first
        | (gi_at_call 44; refine (hin (left_calls wr g _ r HV.out.wf HV.out.isr)).mono ?_; rintro e w2 ⟨rfl, hd⟩; obtain ⟨dn, rfl⟩ := hd.out)
        | (gi_at_call 45; refine (hin (read_calls (wr.drewN dn) g _ (fun k hk => Nat.lt_of_lt_of_le hk.2 HV.out.size) r HV.out.wf (HV.out.isr.drewN dn))).mono ?_; rintro e w3 ⟨v0, v1, rfl, hr0, hr1, hI3, hf3⟩
           obtain ⟨A0, q0, rfl, _⟩ := Kd.R_reads hr0
           obtain ⟨A1, q1, rfl, _⟩ := Kd.R_reads hr1
           obtain ⟨sm, hsm⟩ : ∃ s, s = (legRead r).fst.f2 := ⟨_, rfl⟩
           obtain ⟨ok, hok⟩ : ∃ s, s = (legRead r).snd.fst := ⟨_, rfl⟩
           obtain ⟨n0, hn0⟩ : ∃ s, s = (legRead r).fst.f0.length := ⟨_, rfl⟩
           obtain ⟨n1, hn1⟩ : ∃ s, s = (legRead r).fst.f1.length := ⟨_, rfl⟩
           rw [← hn0] at hr0
           rw [← hn1] at hr1
           rw [← hn0, ← hn1, ← hsm, ← hok]
           have hfy : Frm (fun k => W.heap.size ≤ k ∧ k < M1) wr (w3.alloc (.cells #[.slice A0 n0 q0, .slice A1 n1 q1, .int .u32 sm] 50)) := (((Frm.refl _ wr).drewN dn).trans hf3 (fun i h => .inl h)).alloc _
           have hy0 := Kd.R_alloc hr0 (.cells #[.slice A0 n0 q0, .slice A1 n1 q1, .int .u32 sm] 50)
           have hy1 := Kd.R_alloc hr1 (.cells #[.slice A0 n0 q0, .slice A1 n1 q1, .int .u32 sm] 50)
           have hY := HY.out M1 pre wr (w3.alloc (.cells #[.slice A0 n0 q0, .slice A1 n1 q1, .int .u32 sm] 50)) _ _ (legRead r).1 ok HV.out.pay hz1 HV.out.size hfy (by have := HV.out.len; omega) hy0 hy1
           rw [← hsm] at hY
           obtain ⟨fn, tmps, assign, body, hy, hR⟩ := hY
           have HR := Lib.hid hR
           have HI3 := Lib.hid (hI3.frm ((Frm.refl Nun w3).alloc (.cells #[.slice A0 n0 q0, .slice A1 n1 q1, .int .u32 sm] 50)) (fun _ _ h => h))
           have HOK := Lib.hid hok
           have hz3 : M1 ≤ (w3.alloc (.cells #[.slice A0 n0 q0, .slice A1 n1 q1, .int .u32 sm] 50)).heap.size := Nat.le_trans HV.out.size hfy.size
           have HZ3 := Lib.hid hz3
           clear hr0 hr1 hI3 hf3 hsm hok hn0 hn1 hfy hy0 hy1 hR hz3))
      refine HR.out.mono ?_
      rintro e W3 (⟨hok, rfl, hJ3, hk3⟩ | ⟨hok, rfl, hx3⟩)
      · have hE := HOK.out
        rw [hok] at hE
        obtain ⟨a1, a2, a3, a4⟩ := legRead_ok HV.out.wf HV.out.err hE.symm
        have HE := Lib.hid hE
        have HA4 := Lib.hid a4
        clear hE a4
        subst hok
        gi_wp2
        go_roundw
        case rel =>
          have hi3 := HI3.out.frm hk3 (fun k h1 h2 => h2 h1)
          obtain ⟨k', rfl⟩ : ∃ k', k = k' + 1 := ⟨k - 1, by omega⟩
          refine ⟨k', pre ++ [(legRead r).1], (legRead r).2.2, hi3, a1, by rw [HA4.out]; exact HV.out.inp, a2, ?_, ?_, by omega, Nat.le_trans HZ3.out hk3.size, hJ3⟩
          · rw [HV.out.all, legsGo, if_pos hlt, if_pos HE.out.symm]
            cases legsGo k' (legRead r).2.2 <;> simp
          · have := HV.out.len
            rw [List.length_append, List.length_singleton]
            omega
        case measure =>
          have hi3 := HI3.out.frm hk3 (fun k h1 h2 => h2 h1)
          rw [wleft_eq hi3 (by rw [HA4.out]; exact HV.out.inp), wleft_eq HV.out.isr HV.out.inp]
          omega
      · subst hok
        gi_wp2
        refine bodyPost_ret (results_none rfl _ _ _) rfl ?_
        obtain ⟨k', rfl⟩ : ∃ k', k = k' + 1 := ⟨k - 1, by omega⟩
        refine ⟨⟨_, rfl⟩, .inr ⟨?_, hx3⟩⟩
        rw [HV.out.all, legsGo, if_pos hlt, if_neg (by rw [← HOK.out]; simp)]
        rfl
    · gi_wp2_with (gi_at_call 44; refine (hin (left_calls wr g _ r HV.out.wf HV.out.isr)).mono ?_; rintro e w2 ⟨rfl, hd⟩; obtain ⟨dn, rfl⟩ := hd.out)
      go_end0
      obtain ⟨k', rfl⟩ : ∃ k', k = k' + 1 := ⟨k - 1, by have := HV.out.wf.hi; simp only [Rd.left] at hk hlt; omega⟩
      refine ⟨⟨_, rfl⟩, .inl ⟨M1, pre, ?_, HJ.out _ _ _ _ HV.out.pay ((Frm.refl _ wr).drewN dn)⟩⟩
      rw [HV.out.all, legsGo, if_neg (by omega)]
      simp
end Go.Proofs.Ytoebhddgpicegaa
namespace Go.Proofs.Ytoebhddgpicegaa
open Go.RowKit Go.Proofs.YtoebhddgpicegaaW.PrintWords
open PReplayApart
attribute [local go_sem] Oper.semAt_some
def decT (l : List Int) : List S50 × Int := if l.length > 65536 then ([], 210) else match legsAll l with
  | some ls => (ls, 0)
  | none => ([], 210)
set_option maxHeartbeats 1000000 in
theorem legs_calls (A : Option Addr) (n c : Nat) (w : World) :
    Calls Try.prog 27 #[.slice A n c] w fun e w' => e = .returned (.func (.func 42) #[] #[.pointer (some ⟨w.heap.size, 0, none⟩)]) ∧ w' = w.alloc (.cells #[.slice A n c] 22) := by
  go_enter Try.func27, Try.ntmps27
  go_wp2
  go_ret
  exact ⟨rfl, rfl⟩
/-- What Decode has between two rounds: pre in the box out. -/
structure DInv (w : World) (b M : Nat) (pre : List S50) (W : World) : Prop where
  res : W.heap[b]? = some (.cells #[.slice none 0 0] 23 (0, 0))
  err : W.heap[b + 1]? = some (.cells #[.int .i64 0] 27 (0, 0))
  out : ∃ v, W.heap[b + 2]? = some (.cells #[v] 23 (0, 0)) ∧ Kd.S k50 50 W 0 (fun k => M ≤ k) v pre
  frm : Frm Nun w W
structure DStop (w : World) (b : Nat) (W : World) : Prop where
  res : W.heap[b]? = some (.cells #[.slice none 0 0] 23 (0, 0))
  err : W.heap[b + 1]? = some (.cells #[.int .i64 210] 27 (0, 0))
  frm : Frm Nun w W
def DecPost (w : World) (x : List S50 × Int) (e : Ending) (w' : World) : Prop :=
  ∃ v, e = .returned (.tuple #[v, .int .i64 x.2]) ∧ Kd.S k50 50 w' 0 (Nw Nun w) v x.1 ∧ Frm Nun w w'
theorem dec_leave {F : Fence} {n : Nat} {W : World} {b D : Nat} {tmps : Array Value} {v : Value} {k : Int} {R : Ending → World → Prop} (hb : D ≠ b) (hb1 : D ≠ b + 1) (hD : W.heap[D]? = some (.deferred (some [])))
    (h0 : W.heap[b]? = some (.cells #[v] 23 (0, 0))) (h1 : W.heap[b + 1]? = some (.cells #[.int .i64 k] 27 (0, 0))) (t0 : tmps[2]? = some (.pointer (some ⟨b, 0, none⟩))) (t1 : tmps[3]? = some (.pointer (some ⟨b + 1, 0, none⟩)))
    (h : ∀ W', Frm (fun i => i = D) W W' → R (.returned (.tuple #[v, .int .i64 k])) W') : bodyPostM F n Try.prog Try.f12 R Exit.ret { tmps := tmps, defers := [{ target := .collected D, args := #[] }] } W := by
  refine ⟨by simp, .inl ⟨_, _, rfl, run_takeDeferred hD, ?_⟩⟩
  have hf := frm_put (S := fun i => i = D) (Frm.refl _ W) D (.deferred none) (.inl rfl)
  have c0 := (blk_cell (hf.blk h0 (fun e => hb e.symm)) 0).trans rfl
  have c1 := (blk_cell (hf.blk h1 (fun e => hb1 e.symm)) 0).trans rfl
  refine ⟨.tuple #[v, .int .i64 k], ?_, h _ hf⟩
  simp [results, Try.results12, go_sem, c0, c1, t0, t1]
set_option maxHeartbeats 2000000 in
set_option maxRecDepth 100000 in
theorem decode_in (F : Fence) (hF : F = Fence.wide) (n : Nat) (A : Option Addr) (c : Nat) (l : List Int) (hb : Byt l) (hl : l.length ≤ 140737488355328) (w : World) (hC : Kd.C (Kd.int .u8) w A l.length l) :
    CallsIn F n Try.prog 12 #[.slice A l.length c] w (DecPost w (decT l)) := by
  have hro : F.round = none := by rw [hF]; rfl
  have hfn : ∀ f, F.fn f := by intro f; rw [hF]; trivial
  have hin : ∀ {m f args w} {R : Ending → World → Prop}, Calls Try.prog f args w R → CallsIn F m Try.prog f args w R := by intro m f args w R h; rw [hF]; exact callsIn_wide.2 h
  have hdep : F.depth = none := by rw [hF]; rfl
  have HC := Lib.hid hC
  have HF := Lib.hid hF
  clear hC hF
  refine callsIn_of_wp_marks Try.func12 rfl (hfn _) ?_ hro
  simp only [Try.ntmps12, List.size_toArray, List.length_cons, List.length_nil, Nat.reduceAdd, Nat.reduceSub, Array.replicate_succ, Array.replicate_zero, List.push_toArray, List.append_toArray, List.nil_append, List.cons_append]
  by_cases hlen : l.length > 65536
  · have hlt : decide ((l.length : Int) > 65536) = true := by simp; omega
    gi_wp2
    refine ⟨_, by simp [results, Try.results12, go_sem]; rfl, ?_⟩
    refine ⟨.slice none 0 0, by rw [decT, if_pos hlen], ?_, ((Frm.refl _ _).alloc _).alloc _⟩
    rw [decT, if_pos hlen]
    exact Kd.S_nil _ _ _ _ _
  · have hlt : decide ((l.length : Int) > 65536) = false := by simp; omega
    gi_wp2_with (gi_at_call 27; refine (hin (legs_calls A l.length c _)).mono ?_; rintro e w1 ⟨rfl, rfl⟩)
    obtain ⟨W0, hW0⟩ : ∃ W0, W0 = (((w.alloc (.cells #[.slice none 0 0] 23)).alloc (.cells #[.int .i64 0] 27)).alloc (.cells #[.slice none 0 0] 23)).alloc (.cells #[.slice A l.length c] 22) := ⟨_, rfl⟩
    have hF0 : Frm Nun w W0 := by rw [hW0]; exact ((((Frm.refl _ _).alloc _).alloc _).alloc _).alloc _
    have hZ0 : W0.heap.size = w.heap.size + 4 := by rw [hW0]; simp
    have hB0 : W0.heap[w.heap.size]? = some (.cells #[.slice none 0 0] 23 (0, 0)) := by
      rw [hW0, Below.heap_alloc _ _ _ (by simp <;> omega), Below.heap_alloc _ _ _ (by simp <;> omega), Below.heap_alloc _ _ _ (by simp)]; exact World.alloc_heap_new w _
    have hB1 : W0.heap[w.heap.size + 1]? = some (.cells #[.int .i64 0] 27 (0, 0)) := by
      rw [hW0, Below.heap_alloc _ _ _ (by simp <;> omega), Below.heap_alloc _ _ _ (by simp)]; have := World.alloc_heap_new (w.alloc (.cells #[.slice none 0 0] 23)) (.cells #[.int .i64 0] 27); rwa [World.size_alloc] at this
    have hB2 : W0.heap[w.heap.size + 2]? = some (.cells #[.slice none 0 0] 23 (0, 0)) := by
      rw [hW0, Below.heap_alloc _ _ _ (by simp)]; have := World.alloc_heap_new ((w.alloc (.cells #[.slice none 0 0] 23)).alloc (.cells #[.int .i64 0] 27)) (.cells #[.slice none 0 0] 23); rwa [World.size_alloc, World.size_alloc] at this
    have hB3 : W0.heap[w.heap.size + 3]? = some (.cells #[.slice A l.length c] 22 (0, 0)) := by
      rw [hW0]; have := World.alloc_heap_new (((w.alloc (.cells #[.slice none 0 0] 23)).alloc (.cells #[.int .i64 0] 27)).alloc (.cells #[.slice none 0 0] 23)) (.cells #[.slice A l.length c] 22); rwa [World.size_alloc, World.size_alloc, World.size_alloc] at this
    simp only [← hW0]
    clear hW0
    refine rangeFunc_free hro (by rw [hdep]; intro h; cases h) (gf := 42) (lb := #[.pointer (some ⟨w.heap.size + 3, 0, none⟩)]) rfl (hfn _) (enters_of Try.func42 (by kernel_rfl) rfl) ?_
    intro L lp D W1 hlp hD hz1 hf1 hL1 hLs hLd hrnd
    have HRND := Lib.hid hrnd
    clear hrnd
    have hfw := hF0.trans hf1 (fun _ h => h.elim)
    have hb0 := hf1.blk hB0 (fun h => h)
    have hb1 := hf1.blk hB1 (fun h => h)
    have hb2 := hf1.blk hB2 (fun h => h)
    have hb3 := hf1.blk hB3 (fun h => h)
    refine (legs1_in F HF.out (n - 1) lp (w.heap.size + 3) A c l hb hl W1 (fun M pre W => ((W1.heap.size ≤ M ∧ M ≤ W.heap.size) ∧ L .ready none W) ∧ DInv w w.heap.size M pre W) (fun W => L .done (some .ret) W ∧ DStop w w.heap.size W) (blk_cell hb3 0 |>.trans rfl) (C_frm HC.out hfw (fun _ _ h => h)) ?_ ?_ ?_).mono ?_
    · intro W2 hf2
      refine ⟨⟨⟨hf2.size, Nat.le_refl _⟩, hLs _ _ _ _ hL1 (hf2.block _ (by omega) (fun h => h)) (hf2.block _ (by omega) (fun h => h))⟩, hf2.blk hb0 (fun h => h), hf2.blk hb1 (fun h => h), ⟨_, hf2.blk hb2 (fun h => h), Kd.S_nil _ _ _ _ _⟩, hfw.trans hf2 (fun _ h => h.elim)⟩
    · rintro M pre W2 W3 ⟨⟨⟨hM1, hM⟩, hL⟩, hd⟩ hf
      obtain ⟨v, h4, h5⟩ := hd.out
      have hle := hd.frm.size
      refine ⟨⟨⟨hM1, Nat.le_trans hM hf.size⟩, hLs _ _ _ _ hL (hf.block _ (by omega) (fun h => by omega)) (hf.block _ (by omega) (fun h => by omega))⟩, hf.blk hd.res (fun h => by omega), hf.blk hd.err (fun h => by omega), ⟨v, hf.blk h4 (fun h => by omega), Kd.S_step h5 (fun k hk hlt => hf.block k hlt (fun h => by omega))⟩, hd.frm.trans hf (fun i h => .inr (by omega))⟩
    · rintro M pre Wa Wb v0 v1 x ok ⟨⟨⟨hM1, hM⟩, hL⟩, hd⟩ hWM hMWa hf hplen hr0 hr1
      obtain ⟨A0, q0, rfl, _⟩ := Kd.R_reads hr0
      obtain ⟨A1, q1, rfl, _⟩ := Kd.R_reads hr1
      obtain ⟨n0, hn0⟩ : ∃ s, s = x.f0.length := ⟨_, rfl⟩
      obtain ⟨n1, hn1⟩ : ∃ s, s = x.f1.length := ⟨_, rfl⟩
      obtain ⟨sm, hsm⟩ : ∃ s, s = x.f2 := ⟨_, rfl⟩
      rw [← hn0] at hr0
      rw [← hn1] at hr1
      rw [← hn0, ← hn1, ← hsm]
      have HN0 := Lib.hid hn0
      have HN1 := Lib.hid hn1
      have HSM := Lib.hid hsm
      have HR0 := Lib.hid hr0
      have HR1 := Lib.hid hr1
      clear hn0 hn1 hsm hr0 hr1
      obtain ⟨vo, ho, hS⟩ := hd.out
      have hle := hd.frm.size
      have ba := hf.blk hd.res (fun h => by omega)
      have bb := hf.blk hd.err (fun h => by omega)
      have bc := hf.blk ho (fun h => by omega)
      obtain ⟨Ao, co, rfl⟩ := Kd.S_slice hS
      have hSb := Kd.S_step (w1 := Wb) (Kd.S_bound hS) (fun k hk hlt => hf.block k hlt (fun h => by omega))
      have hSl := Kd.S_lt hS
      refine HRND.out _ _ Wb _ rfl (hLs _ _ _ _ hL (hf.block _ (by omega) (fun h => by omega)) (hf.block _ (by omega) (fun h => by omega))) ?_
      have hfx := hd.frm.trans hf (fun i h => .inr (by omega))
      have hLb := hLs _ _ _ _ hL (hf.block lp (by omega) (fun h => by omega)) (hf.block D (by omega) (fun h => by omega))
      have hzb := hf.size
      have HSB := Lib.hid hSb
      have HSL := Lib.hid hSl
      have HFX := Lib.hid hfx
      have HLP := Lib.hid hlp
      have HD := Lib.hid hD
      have HZ0 := Lib.hid hZ0
      have HZ1 := Lib.hid hz1
      clear hS hSb hSl hfx hlp hD hZ0 hz1
      have HST := Lib.hid hLs
      cases ok with
      | false =>
        gi_wp2
        obtain ⟨Wc, hWc⟩ : ∃ Wc, Wc = Wb.alloc (.cells #[.slice A0 n0 q0, .slice A1 n1 q1, .int .u32 sm] 50) := ⟨_, rfl⟩
        have hfc : Frm Nun Wb Wc := by rw [hWc]; exact (Frm.refl _ _).alloc _
        rw [← hWc]
        clear hWc
        refine ⟨hLs _ _ _ _ hLb (hfc.block _ (by have := HLP.out; have := HZ1.out; omega) (fun h => h)) (hfc.block _ (by have := HD.out; have := HZ1.out; omega) (fun h => h)), fun w2 hf2 hL2 => ?_⟩
        have hf3 := (hfc.mono (S' := fun k => k = lp) (fun _ h => h.elim)).trans hf2 (fun i h => .inl h)
        have b0 := hf3.blk ba (fun h => by have := HLP.out; have := HZ0.out; omega)
        have b1 := hf3.blk bb (fun h => by have := HLP.out; have := HZ0.out; omega)
        have c0 := (blk_cell b0 0).trans rfl
        have c1 := (blk_cell b1 0).trans rfl
        have d0 := blk_frozen b0 0
        have d1 := blk_frozen b1 0
        clear ba bb bc
        gi_wp2
        have hf4 : Frm (fun k => k = w.heap.size ∨ k = w.heap.size + 1) w2 ((w2.setCell ⟨w.heap.size, 0, none⟩ (.slice none 0 0)).setCell ⟨w.heap.size + 1, 0, none⟩ (.int .i64 210)) :=
          ((Frm.refl _ _).set (p := ⟨w.heap.size, 0, none⟩) (.inl (.inl rfl)) _).set (p := ⟨w.heap.size + 1, 0, none⟩) (.inl (.inr rfl)) _
        have e1 := HLP.out
        have e2 := HD.out
        have e3 := HZ0.out
        have e4 := HZ1.out
        have e5 := hf3.size
        refine ⟨HST.out _ _ _ _ hL2 (hf4.block _ (by omega) (fun h => by omega)) (hf4.block _ (by omega) (fun h => by omega)), fun w3 hf5 hL3 => ⟨rfl, hL3, ?_, ?_, ?_⟩⟩
        · exact hf5.blk (blk_far (blk_set b0 0 _) (by simp) _) (fun h => by omega)
        · exact hf5.blk (blk_set (blk_far b1 (by simp) _) 0 _) (fun h => by omega)
        · exact ((HFX.out.trans hf3 (fun i h => .inr (by omega))).trans hf4 (fun i h => .inr (by omega))).trans hf5 (fun i h => .inr (by omega))
      | true =>
        gi_wp2
        obtain ⟨Wc, hWc⟩ : ∃ Wc, Wc = Wb.alloc (.cells #[.slice A0 n0 q0, .slice A1 n1 q1, .int .u32 sm] 50) := ⟨_, rfl⟩
        have hfc : Frm Nun Wb Wc := by rw [hWc]; exact (Frm.refl _ _).alloc _
        have bl : Wc.heap[Wb.heap.size]? = some (.cells #[.slice A0 n0 q0, .slice A1 n1 q1, .int .u32 sm] 50 (0, 0)) := by rw [hWc]; exact World.alloc_heap_new _ _
        rw [← hWc]
        clear hWc
        refine ⟨hLs _ _ _ _ hLb (hfc.block _ (by have := HLP.out; have := HZ1.out; omega) (fun h => h)) (hfc.block _ (by have := HD.out; have := HZ1.out; omega) (fun h => h)), fun w2 hf2 hL2 => ?_⟩
        have hf3 := (hfc.mono (S' := fun k => k = lp) (fun _ h => h.elim)).trans hf2 (fun i h => .inl h)
        have b0 := hf3.blk ba (fun h => by have := HLP.out; have := HZ0.out; omega)
        have b1 := hf3.blk bb (fun h => by have := HLP.out; have := HZ0.out; omega)
        have b2 := hf3.blk bc (fun h => by have := HLP.out; have := HZ0.out; omega)
        have b3 := hf2.blk bl (fun h => by have := HLP.out; have := HZ1.out; omega)
        have c0 := (blk_cell b2 0).trans rfl
        have d0 := blk_frozen b2 0
        have c3 := (blk_cell b3 0).trans rfl
        have c4 := (blk_cell b3 1).trans rfl
        have c5 := (blk_cell b3 2).trans rfl
        have HB0 := Lib.hid b0
        have HB1 := Lib.hid b1
        have HB2 := Lib.hid b2
        have HF3 := Lib.hid hf3
        clear ba bb bc b0 b1 b2 b3 bl hf2 hfc hf3
        have hzc := HF3.out.size
        have hS2 : Kd.S k50 50 w2 0 (fun k => M ≤ k ∧ ¬ (Wa.heap.size ≤ k ∧ k < Wb.heap.size)) (.slice Ao pre.length co) pre := Kd.S_mono (Kd.S_step HSB.out (fun k hk hlt => HF3.out.block k hlt (fun h => by have := HLP.out; have := HZ1.out; omega))) (fun k hk => ⟨hk.1, by have := hk.2.2.1; omega⟩)
        have hr0' := Kd.R_mono (R_frm (Kd.R_bound HR0.out) HF3.out (fun k hk h => by have := HLP.out; have := HZ1.out; have : Wa.heap.size ≤ k := hk.1.elim (fun h => h.elim) id; omega)) (ok' := fun k => Wa.heap.size ≤ k ∧ k < Wb.heap.size) (fun k hk => ⟨hk.1.elim (fun h => h.elim) id, hk.2.2.1⟩)
        have hr1' := Kd.R_mono (R_frm (Kd.R_bound HR1.out) HF3.out (fun k hk h => by have := HLP.out; have := HZ1.out; have : Wa.heap.size ≤ k := hk.1.elim (fun h => h.elim) id; omega)) (ok' := fun k => Wa.heap.size ≤ k ∧ k < Wb.heap.size) (fun k hk => ⟨hk.1.elim (fun h => h.elim) id, hk.2.2.1⟩)
        have hp : k50.M w2 0 (fun k => Wa.heap.size ≤ k ∧ k < Wb.heap.size) x [.slice A0 n0 q0, .slice A1 n1 q1, .int .u32 sm] := by rw [HSM.out]; exact k50_mkM _ _ _ _ hr0' hr1'
        have HP := Lib.hid hp
        have HS2 := Lib.hid hS2
        clear hp hr0' hr1' hS2
        gi_wp2_with (gi_at_builtin; refine app_list_S_in k50 (W := w2) (.tmp 16) (.tmp 18) 23 50 (.agg #[.slice none 0 0, .slice none 0 0, .int .u32 0]) 56 rfl rfl Try.underlying23 info50 rfl (by decide) (by decide) (.slice Ao pre.length co) pre x [.slice A0 n0 q0, .slice A1 n1 q1, .int .u32 sm] (fun k => M ≤ k) (fun k => Wa.heap.size ≤ k ∧ k < Wb.heap.size) rfl rfl rfl HP.out (fun k hk => ⟨Nat.le_trans hM hk.1, fun e => by have := HSL.out k e.symm; omega⟩) (fun k hk => by omega) HS2.out (by omega) ?_; intro v1 w4 hs4 hg4; obtain ⟨A2, c2, rfl⟩ := Kd.S_slice hs4; have b4 := blk_grown HB2.out hg4 (fun e => by have := ((Kd.S_R HS2.out).1 _ e.symm).1; have := HZ1.out; have := HZ0.out; omega); have c4 := (blk_cell b4 0).trans rfl; have d4 := blk_frozen b4 0; have HS4 := Lib.hid hs4; have HG4 := Lib.hid hg4; have HB4 := Lib.hid b4; clear hs4 hg4 b4)
        have e1 := HLP.out
        have e2 := HD.out
        have e3 := HZ0.out
        have e4 := HZ1.out
        have hfg : Frm (fun k => M ≤ k) w2 w4 := (Frm.refl _ _).grown HG4.out (fun k hk => .inl ((Kd.S_R HS2.out).1 _ hk).1)
        obtain ⟨w5, hw5⟩ : ∃ w5, w5 = w4.setCell ⟨w.heap.size + 1 + 1, 0, none⟩ (.slice A2 (pre.length + 1) c2) := ⟨_, rfl⟩
        have hf5 : Frm (fun k => k = w.heap.size + 2) w4 w5 := by rw [hw5]; exact (Frm.refl (fun k => k = w.heap.size + 2) w4).set (p := ⟨w.heap.size + 1 + 1, 0, none⟩) (.inl rfl) _
        have h52 : w5.heap[w.heap.size + 2]? = some (.cells #[.slice A2 (pre.length + 1) c2] 23 (0, 0)) := by rw [hw5]; exact blk_set HB4.out 0 _
        have hS4 := HS4.out
        rw [List.length_append, List.length_singleton] at hS4
        rw [← hw5]
        clear hw5
        have hz4 := hfg.size
        have hz5 := hf5.size
        have hall : Frm (fun k => w.heap.size ≤ k ∧ (k < W1.heap.size ∨ M ≤ k)) Wb w5 := ((HF3.out.mono (fun i h => by omega)).trans hfg (fun i h => .inl (by omega))).trans hf5 (fun i h => .inl (by omega))
        refine ⟨HST.out _ _ _ _ hL2 ((hf5.block _ (by omega) (fun h => by omega)).trans (hfg.block _ (by omega) (fun h => by omega))) ((hf5.block _ (by omega) (fun h => by omega)).trans (hfg.block _ (by omega) (fun h => by omega))), fun w6 hf6 hL6 => ⟨rfl, ⟨⟨by have := hf6.size; omega, hL6⟩, ?_, ?_, ⟨_, hf6.blk h52 (fun h => by omega), ?_⟩, ?_⟩, ?_⟩⟩
        · exact hf6.blk (hf5.blk (hfg.blk HB0.out (fun h => by omega)) (fun h => by omega)) (fun h => by omega)
        · exact hf6.blk (hf5.blk (hfg.blk HB1.out (fun h => by omega)) (fun h => by omega)) (fun h => by omega)
        · exact Kd.S_step hS4 (fun k hk hlt => (hf6.block k (by omega) (fun h => by omega)).trans (hf5.block k hlt (fun h => by omega)))
        · exact (HFX.out.trans hall (fun i h => .inr h.1)).trans hf6 (fun i h => .inr (by omega))
        · exact (hall.trans hf6 (fun i h => .inl (by omega))).mono (fun i h => by omega)
    · rintro e W2 ⟨hv, (⟨M, ls, hl1, ⟨⟨hM1, hM⟩, hL⟩, hd⟩ | ⟨hl1, hL, hd⟩)⟩
      · obtain ⟨v, ho, hS⟩ := hd.out
        obtain ⟨Ao, co, rfl⟩ := Kd.S_slice hS
        have hle := hd.frm.size
        refine ⟨hv, .inl ⟨hL, fun W3 hf3 hD3 => ?_⟩⟩
        have b0 := hf3.blk hd.res (fun h => by omega)
        have b1 := hf3.blk hd.err (fun h => by omega)
        have b2 := hf3.blk ho (fun h => by omega)
        have c0 := (blk_cell b0 0).trans rfl
        have c1 := (blk_cell b1 0).trans rfl
        have c2 := (blk_cell b2 0).trans rfl
        have d0 := blk_frozen b0 0
        have d1 := blk_frozen b1 0
        have HB0 := Lib.hid b0
        have HB1 := Lib.hid b1
        have HS := Lib.hid (Kd.S_step hS (fun k hk hlt => hf3.block k hlt (fun h => by omega)))
        have HF3 := Lib.hid (hd.frm.trans hf3 (fun i h => .inr (by omega)))
        have HL1 := Lib.hid hl1
        have HD3 := Lib.hid hD3
        clear b0 b1 b2 hS hf3 hl1 hD3 hd ho
        gi_wp2
        have hf4 : Frm (fun k => k = w.heap.size ∨ k = w.heap.size + 1) W3 ((W3.setCell ⟨w.heap.size, 0, none⟩ (.slice Ao ls.length co)).setCell ⟨w.heap.size + 1, 0, none⟩ (.int .i64 0)) :=
          ((Frm.refl _ _).set (p := ⟨w.heap.size, 0, none⟩) (.inl (.inl rfl)) _).set (p := ⟨w.heap.size + 1, 0, none⟩) (.inl (.inr rfl)) _
        have hde : w.heap.size + 4 = D := by omega
        rw [hde]
        refine dec_leave (b := w.heap.size) (v := .slice Ao ls.length co) (k := 0) (by omega) (by omega) (hf4.blk HD3.out (fun h => by omega)) (blk_far (blk_set HB0.out 0 _) (by simp) _) (blk_set (blk_far HB1.out (by simp) _) 0 _) rfl rfl (fun W' hf' => ?_)
        refine ⟨_, by rw [decT, if_neg hlen, HL1.out], ?_, (HF3.out.trans hf4 (fun i h => .inr (by omega))).trans hf' (fun i h => .inr (by omega))⟩
        rw [decT, if_neg hlen, HL1.out]
        exact Kd.S_mono (Kd.S_step HS.out (fun k hk hlt => (hf'.block k (by have := hf4.size; omega) (fun h => by omega)).trans (hf4.block k hlt (fun h => by omega)))) (fun k hk => .inr (by omega))
      · refine ⟨hv, .inr ⟨_, hL, fun W3 hf3 hD3 => ?_⟩⟩
        have hle := hd.frm.size
        have HD3 := Lib.hid hD3
        clear hD3
        gi_wp2
        have hde : w.heap.size + 4 = D := by omega
        rw [hde]
        refine dec_leave (b := w.heap.size) (v := .slice none 0 0) (k := 210) (by omega) (by omega) HD3.out (hf3.blk hd.res (fun h => by omega)) (hf3.blk hd.err (fun h => by omega)) rfl rfl (fun W' hf' => ?_)
        refine ⟨_, by rw [decT, if_neg hlen, hl1], ?_, (hd.frm.trans hf3 (fun i h => .inr (by omega))).trans hf' (fun i h => .inr (by omega))⟩
        rw [decT, if_neg hlen, hl1]
        exact Kd.S_nil _ _ _ _ _
theorem decode_calls (A : Option Addr) (c : Nat) (l : List Int) (hb : Byt l) (hl : l.length ≤ 140737488355328) (w : World) (hC : Kd.C (Kd.int .u8) w A l.length l) :
    Calls Try.prog 12 #[.slice A l.length c] w (DecPost w (decT l)) := callsIn_wide.1 (decode_in Fence.wide rfl 0 A c l hb hl w hC)
end Go.Proofs.Ytoebhddgpicegaa
