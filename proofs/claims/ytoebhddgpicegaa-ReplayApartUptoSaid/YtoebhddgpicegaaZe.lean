/- Lemmas for this claim: Ref1, Ref2, Ref3. -/
import Derived.Test.YtoebhddgpicegaaZd
namespace Go.Proofs.Ytoebhddgpicegaa
open Go.RowKit Go.Proofs.YtoebhddgpicegaaW.PrintWords
theorem bw_conv {b : Int} (h : 0 ≤ b ∧ b < 256) : b % 4294967296 = vn (bw b) := by rw [bw_nat h]; omega
theorem vn_xor1 (s : BitVec 32) : Go.bits .xor .u32 (vn s) 4294967295 = vn (~~~ s) := by
  have h : (4294967295 : Int) = vn (BitVec.allOnes 32) := by decide
  rw [h, vn_xor, BitVec.xor_allOnes]
theorem rstep_calls (s : BitVec 32) (b : Int) (h : 0 ≤ b ∧ b < 256) (w : World) :
    Calls Try.prog 59 #[.int .u32 (vn s), .int .u8 b] w fun e w' => e = .returned (.int .u32 (vn (stepB s (bw b)))) ∧ w = w' := by
  have hx := vn_xor s (bw b)
  rw [bw_nat h] at hx
  go_enter Try.func59, Try.ntmps59
  go_wp2
  obtain ⟨t, ht⟩ : ∃ t, t = s ^^^ bw b := ⟨_, rfl⟩
  go_loop [0, 5] (fun v i => ∃ k : Nat, k ≤ 8 ∧ i = .int .i64 k ∧ v = .int .u32 (vn (lfn k t))) (fun _ i => 8 - (intOf i).toNat)
  case atStart => exact ⟨0, Nat.zero_le _, rfl, by rw [ht]; rfl⟩
  case round =>
    have HT := Lib.hid ht
    clear ht hx
    obtain ⟨k, hk, rfl, rfl⟩ := hrel
    by_cases hlt : k < 8
    · cases hc : (lfn k t).getLsbD 0
      · have ht : (Go.bits .and .u32 (vn (lfn k t)) 1 == 1) = false := by rw [vn_and1, hc]; rfl
        have E := Lib.hid hc
        clear hc
        go_wp2
        go_round
        case rel => exact ⟨k + 1, by omega, by go_num, by rw [lf_no E.out, ← lfn_succ]⟩
        case measure => simp [intOf]; omega
      · have ht : (Go.bits .and .u32 (vn (lfn k t)) 1 == 1) = true := by rw [vn_and1, hc]; rfl
        have E := Lib.hid hc
        clear hc
        go_wp2
        go_round
        case rel => exact ⟨k + 1, by omega, by go_num, by rw [lf_yes E.out, ← lfn_succ]⟩
        case measure => simp [intOf]; omega
    · obtain rfl : k = 8 := by omega
      go_wp2
      go_ret
      exact ⟨by rw [HT.out]; rfl, rfl⟩
theorem rupdate_calls (s : BitVec 32) (A : Option Addr) (c : Nat) (l : List Int) (hb : Byt l) (w : World) (hr : Kd.C (Kd.int .u8) w A l.length l) (hl : l.length ≤ 9223372036854775807) :
    Calls Try.prog 51 #[.int .u32 (vn s), .slice A l.length c] w fun e w' => e = .returned (.int .u32 (vn (~~~ upd (~~~ s) l))) ∧ w = w' := by
  go_enter Try.func51, Try.ntmps51
  have h0 := vn_xor1 s
  go_wp2
  clear h0
  go_loop [5, 6] (fun v i => ∃ k : Nat, k ≤ l.length ∧ i = .int .i64 k ∧ v = .int .u32 (vn (upd (~~~ s) (l.take k)))) (fun _ i => l.length - (intOf i).toNat)
  case atStart => exact ⟨0, Nat.zero_le _, rfl, rfl⟩
  case round =>
    obtain ⟨k, hk, rfl, rfl⟩ := hrel
    by_cases hlt : k < l.length
    · obtain ⟨ad, b, rfl, hc, hx⟩ := at_int hr k hlt
      have hs := rstep_calls (upd (~~~ s) (l.take k)) b (by rw [← hx.out]; exact hb.get hlt) w
      have HS := Lib.hid hs
      clear hs
      go_wp2_with (go_at_call 59; refine (HS.out).mono ?_; rintro e w' ⟨rfl, rfl⟩)
      go_round
      case rel => exact ⟨k + 1, by omega, by go_num, by rw [take_snoc hlt, upd_snoc, hx.out]⟩
      case measure => simp [intOf]; omega
    · obtain rfl : k = l.length := by omega
      go_wp2
      go_ret
      exact ⟨ret_int (vn_xor1 _), rfl⟩
theorem rsum_calls (A : Option Addr) (c : Nat) (l : List Int) (hb : Byt l) (w : World) (hr : Kd.C (Kd.int .u8) w A l.length l) (hl : l.length ≤ 9223372036854775807) :
    Calls Try.prog 41 #[.slice A l.length c] w fun e w' => e = .returned (.int .u32 (vn (crc l))) ∧ w = w' := by
  go_enter Try.func41, Try.ntmps41
  go_wp2_with fail
  refine (rupdate_calls 0#32 A c l hb w hr hl).mono ?_
  rintro e w' ⟨rfl, rfl⟩
  go_wp2
  go_ret
  exact ⟨rfl, rfl⟩
set_option maxHeartbeats 1000000 in
/-- put: the lowest n bytes of v behind a row of one's own. -/
theorem rput_calls (w : World) (S : Nat → Prop) (hS : ∀ k, w.heap.size ≤ k → S k) (u : Value) (l : List Int) (v : Int) (n : Nat) (hn : n ≤ 8) (hl : l.length + 8 ≤ 140737488355328) (ho : Kd.R (Kd.int .u8) 5 w 0 S u l) :
    Calls Try.prog 40 #[u, .int .i64 v, .int .i64 n] w fun e w' => ∃ u', e = .returned u' ∧ Kd.R (Kd.int .u8) 5 w' 0 S u' (l ++ le n v) ∧ Frm S w w' := by
  obtain ⟨A, c, rfl, _, _⟩ := Kd.R_reads ho
  have HO := Lib.hid ho
  have HS := Lib.hid hS
  clear ho hS
  go_enter Try.func40, Try.ntmps40
  go_wp2
  go_loopw [0, 1, 7] (fun x y i wr => ∃ k : Nat, k ≤ n ∧ i = .int .i64 k ∧ y = .int .i64 (v / 256 ^ k) ∧ Kd.R (Kd.int .u8) 5 wr 0 S x (l ++ le k v) ∧ Frm S w wr) (fun _ _ i _ => n - (intOf i).toNat)
  case atStart => exact ⟨0, Nat.zero_le _, rfl, by simp, by simpa [le] using HO.out, Frm.refl _ _⟩
  case round =>
    obtain ⟨k, hk, rfl, rfl, hr, hf⟩ := hrel
    obtain ⟨A2, c2, rfl, _, _⟩ := Kd.R_reads hr
    by_cases hlt : k < n
    · have hll : (l ++ le k v).length = l.length + k := by rw [List.length_append, le_len]
      have HLL := Lib.hid hll
      have HR := Lib.hid hr
      have HF := Lib.hid hf
      clear hr hf hll
      obtain ⟨m, hm⟩ : ∃ m, m = (l ++ le k v).length := ⟨_, rfl⟩
      have HM := Lib.hid hm
      rw [← hm] at HR ⊢
      clear hm
      obtain ⟨y, hy⟩ : ∃ y, y = v / 256 ^ k := ⟨_, rfl⟩
      have HY := Lib.hid hy
      rw [← hy]
      clear hy
      go_wp2_with (at_builtin; refine app_list (Kd.int .u8) (.tmp 13) (.tmp 16) 22 5 (.int .u8 0) 1 rfl rfl Try.underlying22 info_u8 rfl (by decide) (by decide) (.slice A2 m c2) (l ++ le k v) (y % 256) [.int .u8 (y % 256)] S (fun _ => False) rfl rfl rfl rfl (fun _ h => h.elim) (fun i hi => HS.out i (Nat.le_trans HF.out.size hi)) HR.out (by rw [HLL.out]; omega) ?_; intro v1 w1 ho1 hg1; have HO1 := Lib.hid ho1; have HG1 := Lib.hid hg1; clear ho1 hg1)
      go_roundw
      case rel =>
        refine ⟨k + 1, by omega, by go_num, ?_, ?_, HF.out.grown HG1.out (fun i hi => .inl (HR.out.1 i hi))⟩
        · rw [HY.out, Int.pow_succ, Int.ediv_ediv_of_nonneg (by exact Int.le_of_lt (Int.pow_pos (by omega)))]
        · rw [le_snoc, ← List.append_assoc, ← HY.out]
          exact HO1.out
      case measure => simp [intOf]; omega
    · obtain rfl : k = n := by omega
      have HR := Lib.hid hr
      have HF := Lib.hid hf
      clear hr hf
      go_wp2
      go_ret
      exact ⟨_, rfl, HR.out, HF.out⟩
end Go.Proofs.Ytoebhddgpicegaa
namespace Go.Proofs.Ytoebhddgpicegaa
open Go.RowKit Go.Proofs.YtoebhddgpicegaaW.PrintWords
open PReplayApart
/-- A leg's head and body, as bytes; the two with their sums behind. -/
def headB (l : S50) : List Int := [65, 77, 66, 76] ++ le 4 l.f0.length ++ le 4 l.f1.length ++ le 4 l.f2
def pickB (p : S80) : List Int := le 8 p.f0 ++ le 8 p.f1
def picksB (ps : List S80) : List Int := (ps.map pickB).flatten
def wordsB (ws : List Int) : List Int := (ws.map (fun w => le 4 w)).flatten
def bodyB (l : S50) : List Int := picksB l.f0 ++ wordsB l.f1
def withSum (b : List Int) : List Int := b ++ le 4 (vn (crc b))
def legB (l : S50) : List Int := withSum (headB l) ++ withSum (bodyB l)
theorem flat_byt {α : Type} {f : α → List Int} (h : ∀ x, Byt (f x)) (l : List α) : Byt ((l.map f).flatten) := by
  intro x hx
  obtain ⟨m, hm, hx⟩ := List.mem_flatten.1 hx
  obtain ⟨y, _, rfl⟩ := List.mem_map.1 hm
  exact h y x hx
theorem headB_byt (l : S50) : Byt (headB l) := by
  unfold headB
  refine (((?_ : Byt [65, 77, 66, 76]).app (le_byt 4 _)).app (le_byt 4 _)).app (le_byt 4 _)
  intro x hx
  simp at hx
  omega
theorem bodyB_byt (l : S50) : Byt (bodyB l) := (flat_byt (fun _ => (le_byt 8 _).app (le_byt 8 _)) _).app (flat_byt (fun _ => le_byt 4 _) _)
theorem withSum_byt {b : List Int} (h : Byt b) : Byt (withSum b) := h.app (le_byt 4 _)
theorem legB_byt (l : S50) : Byt (legB l) := (withSum_byt (headB_byt l)).app (withSum_byt (bodyB_byt l))
theorem headB_len (l : S50) : (headB l).length = 16 := by simp [headB, le_len]
theorem flat_len {α : Type} {f : α → List Int} {n : Nat} (h : ∀ x, (f x).length = n) (l : List α) : ((l.map f).flatten).length = n * l.length := by
  induction l with
  | nil => simp
  | cons x l ih => rw [List.map_cons, List.flatten_cons, List.length_append, h, ih, List.length_cons, Nat.mul_add]; omega
theorem picksB_len (ps : List S80) : (picksB ps).length = 16 * ps.length := flat_len (fun _ => by simp [pickB, le_len]) ps
theorem wordsB_len (ws : List Int) : (wordsB ws).length = 4 * ws.length := flat_len (fun _ => le_len 4 _) ws
theorem bodyB_len (l : S50) : (bodyB l).length = 16 * l.f0.length + 4 * l.f1.length := by rw [bodyB, List.length_append, picksB_len, wordsB_len]
theorem withSum_len (b : List Int) : (withSum b).length = b.length + 4 := by rw [withSum, List.length_append, le_len]
def sizeL (l : S50) : Int := 24 + 16 * l.f0.length + 4 * l.f1.length
theorem legB_len (l : S50) : ((legB l).length : Int) = sizeL l := by
  rw [legB, List.length_append, withSum_len, withSum_len, headB_len, bodyB_len, sizeL]
  omega
theorem picksB_snoc (ps : List S80) (p : S80) : picksB (ps ++ [p]) = picksB ps ++ pickB p := by simp [picksB]
theorem wordsB_snoc (ws : List Int) (x : Int) : wordsB (ws ++ [x]) = wordsB ws ++ le 4 x := by simp [wordsB]
set_option maxHeartbeats 1000000 in
theorem rsize_calls (w : World) (A0 A1 : Option Addr) (c0 c1 : Nat) (l : S50) (h0 : l.f0.length ≤ 8796093022208) (h1 : l.f1.length ≤ 35184372088832) (x : Int) :
    Calls Try.prog 33 #[.agg #[.slice A0 l.f0.length c0, .slice A1 l.f1.length c1, .int .u32 x]] w fun e w' => e = .returned (.int .i64 (sizeL l)) ∧ Frm Nun w w' := by
  obtain ⟨n0, hn0⟩ : ∃ n, n = l.f0.length := ⟨_, rfl⟩
  obtain ⟨n1, hn1⟩ : ∃ n, n = l.f1.length := ⟨_, rfl⟩
  have hs : wrap64 (wrap64 (24 + wrap64 (16 * (n0 : Int))) + wrap64 (4 * (n1 : Int))) = sizeL l := by
    rw [sizeL, ← hn0, ← hn1]
    unfold wrap64
    omega
  rw [← hn0, ← hn1]
  have HS := Lib.hid hs
  clear hs hn0 hn1
  go_enter Try.func33, Try.ntmps33
  go_wp2
  go_ret
  exact ⟨ret_int HS.out, (Frm.refl _ _).alloc _⟩
theorem wrap_vn (v : BitVec 32) : wrap64 (vn v) = vn v := by have := vn_range v; unfold wrap64; omega
theorem R_ints {k : IntKind} {w : World} {g : Nat} {e : Nat} {l : List Int} {S : Nat → Prop} (hg : w.heap[g]? = some (.cells (l.map (Value.int k)).toArray e (0, 0))) (hl : l.length ≤ maxLen) (hS : S g) : Kd.R (Kd.int k) e w 0 S (.slice (some ⟨g, 0, none⟩) l.length l.length) l := by
  refine Kd.R_of_own ⟨by rw [encs_length]; omega, .inr ⟨g, l.length, _, rfl, Nat.zero_le _, hg, Nat.le_refl _, hl, by simp, ?_⟩⟩ (fun q hq => ?_)
  · rw [Nat.mul_one]
    exact List.take_of_length_le (by simp)
  · have e : g = q := Option.some.inj hq
    rw [← e]
    exact hS
set_option maxHeartbeats 4000000 in
set_option maxRecDepth 100000 in
theorem rbytes_calls (w : World) (A0 A1 : Option Addr) (c0 c1 : Nat) (l : S50) (hok : LegOk l) (hC0 : Kd.C k80 w A0 l.f0.length l.f0) (hC1 : Kd.C (Kd.int .u32) w A1 l.f1.length l.f1) (hb : sizeL l ≤ 65536) :
    Calls Try.prog 34 #[.agg #[.slice A0 l.f0.length c0, .slice A1 l.f1.length c1, .int .u32 l.f2]] w fun e w' => ∃ v, e = .returned v ∧ Kd.R (Kd.int .u8) 5 w' 0 (Nw Nun w) v (legB l) ∧ Frm Nun w w' := by
  obtain ⟨n0, hn0⟩ : ∃ n, n = l.f0.length := ⟨_, rfl⟩
  obtain ⟨n1, hn1⟩ : ∃ n, n = l.f1.length := ⟨_, rfl⟩
  obtain ⟨sm, hsm⟩ : ∃ n, n = l.f2 := ⟨_, rfl⟩
  rw [← hn0] at hC0
  rw [← hn1] at hC1
  rw [← hn0, ← hn1, ← hsm]
  have HC0 := Lib.hid hC0
  have HC1 := Lib.hid hC1
  have HN0 := Lib.hid hn0
  have HN1 := Lib.hid hn1
  have HSM := Lib.hid hsm
  clear hC0 hC1 hn0 hn1 hsm
  go_enter Try.func34, Try.ntmps34
  go_wp2_with fail
  obtain ⟨W1, hW1⟩ : ∃ W1, W1 = (w.alloc (.cells #[.slice A0 n0 c0, .slice A1 n1 c1, .int .u32 sm] 50)).alloc (.cells #[.int .u8 65, .int .u8 77, .int .u8 66, .int .u8 76] 5) := ⟨_, rfl⟩
  have hF1 : Frm Nun w W1 := by rw [hW1]; exact ((Frm.refl _ _).alloc _).alloc _
  have hb1 : W1.heap[w.heap.size]? = some (.cells #[.slice A0 n0 c0, .slice A1 n1 c1, .int .u32 sm] 50 (0, 0)) := by rw [hW1, Below.heap_alloc _ _ _ (by simp)]; exact heap_alloc_new w _
  have hr1 : Kd.R (Kd.int .u8) 5 W1 0 (fun k => w.heap.size + 1 ≤ k) (.slice (some ⟨w.heap.size + 1, 0, none⟩) 4 4) [65, 77, 66, 76] := by
    have := heap_alloc_new (w.alloc (.cells #[.slice A0 n0 c0, .slice A1 n1 c1, .int .u32 sm] 50)) (.cells #[.int .u8 65, .int .u8 77, .int .u8 66, .int .u8 76] 5)
    rw [World.size_alloc, ← hW1] at this
    exact R_ints (l := [65, 77, 66, 76]) this (by decide) (Nat.le_refl _)
  have hz1 : W1.heap.size = w.heap.size + 2 := by rw [hW1]; simp
  rw [← hW1]
  clear hW1
  have bx : ∀ W : World, Frm (fun k => w.heap.size + 1 ≤ k) W1 W → W.heap[w.heap.size]? = some (.cells #[.slice A0 n0 c0, .slice A1 n1 c1, .int .u32 sm] 50 (0, 0)) := fun _ h => h.blk hb1 (fun h => by omega)
  have BX := Lib.hid bx
  have hcell : ∀ W : World, W.heap[w.heap.size]? = some (.cells #[.slice A0 n0 c0, .slice A1 n1 c1, .int .u32 sm] 50 (0, 0)) → W.cell? ⟨w.heap.size, 0, none⟩ = some (.slice A0 n0 c0) ∧ W.cell? ⟨w.heap.size, 1, none⟩ = some (.slice A1 n1 c1) ∧ W.cell? ⟨w.heap.size, 2, none⟩ = some (.int .u32 sm) := fun _ h => ⟨(blk_cell h 0).trans rfl, (blk_cell h 1).trans rfl, (blk_cell h 2).trans rfl⟩
  have HCL := Lib.hid hcell
  have HF1 := Lib.hid hF1
  clear bx hb1 hcell hF1
  refine (rput_calls W1 _ (fun k hk => by omega) _ _ (n0 : Int) 4 (by omega) (by decide) hr1).mono ?_
  rintro e W2 ⟨u2, rfl, hr2, hf2⟩
  clear hr1
  obtain ⟨d0, d1, d2⟩ := HCL.out _ (BX.out _ hf2)
  go_wp2_with fail
  clear d0 d1 d2
  refine (rput_calls W2 _ (fun k hk => by have := hf2.size; omega) _ _ (n1 : Int) 4 (by omega) (by simp [le_len]) hr2).mono ?_
  rintro e W3 ⟨u3, rfl, hr3, hf3⟩
  have hf3' := hf2.trans hf3 (fun _ h => .inl h)
  clear hr2 hf2 hf3
  obtain ⟨d0, d1, d2⟩ := HCL.out _ (BX.out _ hf3')
  go_wp2_with fail
  clear d0 d1 d2
  have hw : wrap64 sm = sm := by have := hok.sum; have := HSM.out; unfold wrap64; omega
  rw [hw]
  refine (rput_calls W3 _ (fun k hk => by have := hf3'.size; omega) _ _ sm 4 (by omega) (by simp [le_len]) hr3).mono ?_
  rintro e W4 ⟨u4, rfl, hr4, hf4⟩
  have hf4' := hf3'.trans hf4 (fun _ h => .inl h)
  clear hr3 hf3' hf4
  have hhd : [65, 77, 66, 76] ++ le 4 n0 ++ le 4 n1 ++ le 4 sm = headB l := by rw [headB, HN0.out, HN1.out, HSM.out]
  rw [hhd] at hr4
  clear hhd
  obtain ⟨B4, b4, rfl, hb4, hC4⟩ := Kd.R_reads hr4
  have HC4 := Lib.hid hC4
  have HR4 := Lib.hid hr4
  have HF4 := Lib.hid hf4'
  have HLN := Lib.hid (headB_len l)
  clear hC4 hr4 hf4'
  go_wp2_with fail
  refine (rsum_calls B4 b4 (headB l) (headB_byt l) W4 HC4.out (by rw [HLN.out]; decide)).mono ?_
  rintro e W5 ⟨rfl, hw5⟩
  subst hw5
  go_wp2_with fail
  rw [wrap_vn]
  refine (rput_calls W4 _ (fun k hk => by have := HF4.out.size; omega) _ _ (vn (crc (headB l))) 4 (by omega) (by rw [HLN.out]; decide) HR4.out).mono ?_
  rintro e W6 ⟨u6, rfl, hr6, hf6⟩
  have hf6' := HF4.out.trans hf6 (fun _ h => .inl h)
  have hr6' : Kd.R (Kd.int .u8) 5 W6 0 (fun k => w.heap.size + 1 ≤ k) u6 (withSum (headB l)) := hr6
  have HR6 := Lib.hid hr6'
  have HF6 := Lib.hid hf6'
  clear hr6 hr6' hf6 hf6' HC4 HR4 HF4
  have hz6 : w.heap.size + 2 ≤ W6.heap.size := by have := HF6.out.size; omega
  have hsz : 16 * n0 + 4 * n1 + 24 ≤ 65536 := by rw [sizeL, ← HN0.out, ← HN1.out] at hb; omega
  go_wp2
  go_loopw [5, 6] (fun x i wr => ∃ k : Nat, k ≤ n0 ∧ i = .int .i64 k ∧ Kd.R (Kd.int .u8) 5 wr 0 (fun i => W6.heap.size ≤ i) x (picksB (l.f0.take k)) ∧ Frm (fun i => W6.heap.size ≤ i) W6 wr) (fun _ i _ => n0 - (intOf i).toNat)
  case atStart => exact ⟨0, Nat.zero_le _, rfl, Kd.R_nil _ _ _ _ _, Frm.refl _ _⟩
  case round =>
    obtain ⟨k, hk, rfl, hr, hf⟩ := hrel
    have hF := HF6.out.trans hf (fun i h => .inl (by omega))
    obtain ⟨d0, d1, d2⟩ := HCL.out _ (BX.out _ hF)
    have HR := Lib.hid hr
    have HF := Lib.hid hf
    have HFA := Lib.hid hF
    clear hr hf hF
    by_cases hlt : k < n0
    · have hC0 : Kd.C k80 wr A0 l.f0.length l.f0 := by rw [← HN0.out]; exact Kd.C_below HC0.out ((HF1.out.trans HFA.out (fun i h => .inr (by omega))).below0)
      obtain ⟨ad, p0, p1, rfl, q0, q1, hp⟩ := at_pick hC0 k (by rw [← HN0.out]; exact hlt)
      have hkl : (picksB (l.f0.take k)).length = 16 * k := by rw [picksB_len, List.length_take, ← HN0.out]; omega
      have HKL := Lib.hid hkl
      clear hC0 hkl
      go_wp2_with fail
      refine (rput_calls wr _ (fun i hi => Nat.le_trans HF.out.size hi) _ _ p0 8 (by omega) (by rw [HKL.out]; omega) HR.out).mono ?_
      rintro e w8 ⟨u8, rfl, hr8, hf8⟩
      have hf8' := HF.out.trans hf8 (fun _ h => .inl h)
      have hF := HF6.out.trans hf8' (fun i h => .inl (by omega))
      obtain ⟨e0, e1, e2⟩ := HCL.out _ (BX.out _ hF)
      have hC0 : Kd.C k80 w8 (some ad) l.f0.length l.f0 := by rw [← HN0.out]; exact Kd.C_below HC0.out ((HF1.out.trans hF (fun i h => .inr (by omega))).below0)
      obtain ⟨ad2, p2, p3, hq, q2, q3, hp2⟩ := at_pick hC0 k (by rw [← HN0.out]; exact hlt)
      obtain rfl := Option.some.inj hq
      have hpe := hp.out.symm.trans hp2.out
      obtain ⟨rfl, rfl⟩ := S80.mk.inj hpe
      have HR8 := Lib.hid hr8
      have HF8 := Lib.hid hf8'
      clear hr8 hf8 hf8' hF hC0 hq hp2 hpe d0 d1 d2 q0 q1
      go_wp2_with fail
      refine (rput_calls w8 _ (fun i hi => Nat.le_trans HF8.out.size hi) _ _ p1 8 (by omega) (by rw [List.length_append, HKL.out, le_len]; omega) HR8.out).mono ?_
      rintro e w9 ⟨u9, rfl, hr9, hf9⟩
      have HR9 := Lib.hid hr9
      have HF9 := Lib.hid (HF8.out.trans hf9 (fun _ h => .inl h))
      clear hr9 hf9 e0 e1 e2 q2 q3
      go_wp2
      go_roundw
      case rel =>
        refine ⟨k + 1, by omega, by go_num, ?_, HF9.out⟩
        have := HR9.out
        rw [List.append_assoc] at this
        have e : l.f0.take (k + 1) = l.f0.take k ++ [⟨p0, p1⟩] := by rw [snocG (by rw [← HN0.out]; exact hlt) z80, hp.out]
        rw [e, picksB_snoc]
        exact this
      case measure => simp [intOf]; omega
    · obtain rfl : n0 = k := by omega
      obtain ⟨wo, hwo⟩ : ∃ u, u = wr := ⟨_, rfl⟩
      subst hwo
      rw [show l.f0.take n0 = l.f0 from List.take_of_length_le (by rw [← HN0.out]; omega)] at HR
      go_wp2
      clear d0 d1 d2
      go_loopw [5, 7] (fun x i wr => ∃ k : Nat, k ≤ n1 ∧ i = .int .i64 k ∧ Kd.R (Kd.int .u8) 5 wr 0 (fun i => W6.heap.size ≤ i) x (picksB l.f0 ++ wordsB (l.f1.take k)) ∧ Frm (fun i => W6.heap.size ≤ i) W6 wr) (fun _ i _ => n1 - (intOf i).toNat)
      case atStart => exact ⟨0, Nat.zero_le _, rfl, by rw [List.take_zero, show wordsB [] = [] from rfl, List.append_nil]; exact HR.out, HF.out⟩
      case round =>
        clear HR HF HFA
        obtain ⟨k, hk, rfl, hr, hf⟩ := hrel
        have hF := HF6.out.trans hf (fun i h => .inl (by omega))
        obtain ⟨d0, d1, d2⟩ := HCL.out _ (BX.out _ hF)
        have HR := Lib.hid hr
        have HF := Lib.hid hf
        have HFA := Lib.hid hF
        clear hr hf hF
        by_cases hlt : k < n1
        · have hC1 : Kd.C (Kd.int .u32) wr A1 l.f1.length l.f1 := by rw [← HN1.out]; exact Kd.C_below HC1.out ((HF1.out.trans HFA.out (fun i h => .inr (by omega))).below0)
          obtain ⟨ad, y, rfl, q0, hp⟩ := at_int hC1 k (by rw [← HN1.out]; exact hlt)
          have hy : 0 ≤ y ∧ y < 4294967296 := hok.ans y (by rw [← hp.out, getD_at (by rw [← HN1.out]; exact hlt)]; exact List.getElem_mem _)
          have hkl : (picksB l.f0 ++ wordsB (l.f1.take k)).length = 16 * n0 + 4 * k := by rw [List.length_append, picksB_len, wordsB_len, List.length_take, ← HN0.out, ← HN1.out]; omega
          have HKL := Lib.hid hkl
          clear hC1 hkl
          go_wp2_with fail
          refine (rput_calls wr _ (fun i hi => Nat.le_trans HF.out.size hi) _ _ y 4 (by omega) (by rw [HKL.out]; omega) HR.out).mono ?_
          rintro e w8 ⟨u8, rfl, hr8, hf8⟩
          have HR8 := Lib.hid hr8
          have HF8 := Lib.hid (HF.out.trans hf8 (fun _ h => .inl h))
          clear hr8 hf8
          go_wp2
          go_roundw
          case rel =>
            refine ⟨k + 1, by omega, by go_num, ?_, HF8.out⟩
            have := HR8.out
            rw [List.append_assoc] at this
            have e : l.f1.take (k + 1) = l.f1.take k ++ [y] := by rw [snocG (by rw [← HN1.out]; exact hlt) 0, hp.out]
            rw [e, wordsB_snoc]
            exact this
          case measure => simp [intOf]; omega
        · obtain rfl : n1 = k := by omega
          obtain ⟨wp, hwp⟩ : ∃ u, u = wr := ⟨_, rfl⟩
          subst hwp
          rw [show l.f1.take n1 = l.f1 from List.take_of_length_le (by rw [← HN1.out]; omega)] at HR
          have hr : Kd.R (Kd.int .u8) 5 wp 0 (fun i => W6.heap.size ≤ i) u5 (bodyB l) := HR.out
          obtain ⟨B5, b5, rfl, hb5, hC5⟩ := Kd.R_reads hr
          have hbl : (bodyB l).length = 16 * n0 + 4 * n1 := by rw [bodyB_len, HN0.out, HN1.out]
          have HBL := Lib.hid hbl
          have HC5 := Lib.hid hC5
          have HR5 := Lib.hid hr
          clear hbl hC5 hr hb5 HR
          go_wp2_with fail
          clear d0 d1 d2
          refine (rsum_calls B5 b5 (bodyB l) (bodyB_byt l) wp HC5.out (by rw [HBL.out]; omega)).mono ?_
          rintro e W7 ⟨rfl, hw7⟩
          subst hw7
          go_wp2_with fail
          rw [wrap_vn]
          refine (rput_calls wp _ (fun i hi => Nat.le_trans HF.out.size hi) _ _ (vn (crc (bodyB l))) 4 (by omega) (by rw [HBL.out]; omega) HR5.out).mono ?_
          rintro e W8 ⟨u8, rfl, hr8, hf8⟩
          have hr8' : Kd.R (Kd.int .u8) 5 W8 0 (fun k => W6.heap.size ≤ k) u8 (withSum (bodyB l)) := hr8
          obtain ⟨B8, b8, rfl, hb8, hC8⟩ := Kd.R_reads hr8'
          have HR8 := Lib.hid hr8'
          have HC8 := Lib.hid hC8
          have HF8 := Lib.hid (HF.out.trans hf8 (fun _ h => .inl h))
          have hwl : (withSum (bodyB l)).length = 16 * n0 + 4 * n1 + 4 := by rw [withSum_len, HBL.out]
          obtain ⟨m, hm⟩ : ∃ m, m = (withSum (bodyB l)).length := ⟨_, rfl⟩
          rw [← hm] at HR8 HC8 hwl ⊢
          have HM := Lib.hid hm
          clear hr8 hr8' hC8 hf8 hb8 hm HR5 HC5 HF HFA
          go_wp2
          have hB8 : ∀ a, B8 = some a → W6.heap.size ≤ a.block ∧ a.block < W8.heap.size := by
            intro a ha
            have h1 := (Kd.R_bound HR8.out).1 a.block (by rw [ha]; rfl)
            exact ⟨h1.1, h1.2.2.1⟩
          have hr6 : Kd.R (Kd.int .u8) 5 W8 0 (fun i => (w.heap.size + 1 ≤ i ∧ i < W6.heap.size) ∨ W8.heap.size ≤ i) u6 (withSum (headB l)) :=
            Kd.R_mono (R_frm (Kd.R_bound HR6.out) HF8.out (fun i hi h => by have := hi.2.2.1; omega)) (fun i hi => .inl ⟨hi.1, hi.2.2.1⟩)
          have HR0 := Lib.hid hr6
          have hz8 := HF8.out.size
          have HB8 := Lib.hid hB8
          clear hr6 hB8
          go_loopw [3, 8] (fun x i wr => ∃ k : Nat, k ≤ m ∧ i = .int .i64 k ∧ Kd.R (Kd.int .u8) 5 wr 0 (fun i => (w.heap.size + 1 ≤ i ∧ i < W6.heap.size) ∨ W8.heap.size ≤ i) x (withSum (headB l) ++ (withSum (bodyB l)).take k) ∧ Frm (fun i => (w.heap.size + 1 ≤ i ∧ i < W6.heap.size) ∨ W8.heap.size ≤ i) W8 wr) (fun _ i _ => m - (intOf i).toNat)
          case atStart => exact ⟨0, Nat.zero_le _, rfl, by rw [List.take_zero, List.append_nil]; exact HR0.out, Frm.refl _ _⟩
          case round =>
            clear HR0
            obtain ⟨k, hk, rfl, hr, hf⟩ := hrel
            obtain ⟨A2, c2, rfl, _, _⟩ := Kd.R_reads hr
            by_cases hlt : k < m
            · have hcb : Kd.C (Kd.int .u8) wr B8 (withSum (bodyB l)).length (withSum (bodyB l)) := by rw [← HM.out]; exact C_frm HC8.out hf (fun a ha h => by have := HB8.out a ha; omega)
              obtain ⟨ad, y, rfl, q0, hp⟩ := at_int hcb k (by rw [← HM.out]; exact hlt)
              have hll : (withSum (headB l) ++ (withSum (bodyB l)).take k).length = 20 + k := by rw [List.length_append, withSum_len, HLN.out, take_len (by rw [← HM.out]; omega)]
              have HLL := Lib.hid hll
              have HR := Lib.hid hr
              have HF := Lib.hid hf
              obtain ⟨m2, hm2⟩ : ∃ m2, m2 = (withSum (headB l) ++ (withSum (bodyB l)).take k).length := ⟨_, rfl⟩
              have HM2 := Lib.hid hm2
              rw [← hm2] at HR ⊢
              clear hm2 hr hf hcb hll
              go_wp2_with (at_builtin; refine app_list (Kd.int .u8) (.tmp 81) (.tmp 86) 22 5 (.int .u8 0) 1 rfl rfl Try.underlying22 info_u8 rfl (by decide) (by decide) (.slice A2 m2 c2) (withSum (headB l) ++ (withSum (bodyB l)).take k) y [.int .u8 y] (fun i => (w.heap.size + 1 ≤ i ∧ i < W6.heap.size) ∨ W8.heap.size ≤ i) (fun _ => False) rfl rfl rfl rfl (fun _ h => h.elim) (fun i hi => .inr (Nat.le_trans HF.out.size hi)) HR.out (by rw [HLL.out]; omega) ?_; intro v1 w1 ho1 hg1; have HO1 := Lib.hid ho1; have HG1 := Lib.hid hg1; clear ho1 hg1)
              go_roundw
              case rel =>
                refine ⟨k + 1, by omega, by go_num, ?_, HF.out.grown HG1.out (fun i hi => .inl (HR.out.1 i hi))⟩
                rw [snocG (by rw [← HM.out]; exact hlt) 0, hp.out, ← List.append_assoc]
                exact HO1.out
              case measure => simp [intOf]; omega
            · obtain rfl : m = k := by omega
              obtain ⟨m2, hm2⟩ : ∃ m2, m2 = (withSum (headB l) ++ (withSum (bodyB l)).take m).length := ⟨_, rfl⟩
              rw [← hm2] at hr ⊢
              clear hm2
              rw [show (withSum (bodyB l)).take m = withSum (bodyB l) from List.take_of_length_le (by rw [← HM.out]; omega)] at hr
              have HR := Lib.hid hr
              have HF := Lib.hid (((HF1.out.trans HF6.out (fun i h => .inr (by omega))).trans HF8.out (fun i h => .inr (by omega))).trans hf (fun i h => .inr (by omega)))
              clear hr hf
              go_wp2
              go_ret
              refine ⟨_, rfl, ?_, HF.out⟩
              have := Kd.R_mono HR.out (ok' := Nw Nun w) (fun i h => .inr (by omega))
              exact this
end Go.Proofs.Ytoebhddgpicegaa
namespace Go.Proofs.Ytoebhddgpicegaa
open Go.RowKit Go.Proofs.YtoebhddgpicegaaW.PrintWords
open PReplayApart
def sumL (legs : List S50) : Int := (legs.map sizeL).sum
def legsB (legs : List S50) : List Int := (legs.map legB).flatten
def rencT (legs : List S50) : List Int × Int := if sumL legs > 65536 then ([], 2) else (legsB legs, 0)
theorem sumL_snoc (legs : List S50) (l : S50) : sumL (legs ++ [l]) = sumL legs + sizeL l := by simp [sumL]
theorem sumL_app (a b : List S50) : sumL (a ++ b) = sumL a + sumL b := by simp [sumL]
theorem sizeL_pos (l : S50) : 24 ≤ sizeL l := by unfold sizeL; omega
theorem sumL_nonneg (legs : List S50) : 0 ≤ sumL legs := by
  induction legs with
  | nil => simp [sumL]
  | cons l legs ih => have := sizeL_pos l; simp only [sumL, List.map_cons, List.sum_cons] at ih ⊢; omega
theorem legsB_snoc (legs : List S50) (l : S50) : legsB (legs ++ [l]) = legsB legs ++ legB l := by simp [legsB]
theorem legsB_len (legs : List S50) : ((legsB legs).length : Int) = sumL legs := by
  induction legs with
  | nil => simp [legsB, sumL]
  | cons l legs ih => simp only [legsB, sumL, List.map_cons, List.flatten_cons, List.sum_cons, List.length_append] at ih ⊢; have := legB_len l; omega
theorem legsB_byt (legs : List S50) : Byt (legsB legs) := flat_byt legB_byt legs
theorem sumL_take (legs : List S50) (k : Nat) : sumL (legs.take k) ≤ sumL legs := by
  have h := sumL_app (legs.take k) (legs.drop k)
  rw [List.take_append_drop] at h
  have := sumL_nonneg (legs.drop k)
  omega
set_option maxHeartbeats 4000000 in
set_option maxRecDepth 100000 in
theorem rencode_calls (w : World) (A : Option Addr) (c : Nat) (legs : List S50) (hr : Kd.C k50 w A legs.length legs) (hok : LegsOk legs) :
    Calls Try.prog 16 #[.slice A legs.length c] w fun e w' => ∃ v, e = .returned (.tuple #[v, .int .i64 (rencT legs).2]) ∧ Kd.R (Kd.int .u8) 5 w' 0 (Nw Nun w) v (rencT legs).1 ∧ Frm Nun w w' := by
  have HR := Lib.hid hr
  have HOK := Lib.hid hok.each
  have hn := hok.n
  clear hr hok
  go_enter Try.func16, Try.ntmps16
  go_wp2
  go_loopw [4, 5] (fun n i wr => ∃ k : Nat, k ≤ legs.length ∧ i = .int .i64 k ∧ n = .int .i64 (sumL (legs.take k)) ∧ sumL (legs.take k) ≤ 65536 ∧ Frm Nun w wr) (fun _ i _ => legs.length - (intOf i).toNat)
  case atStart => exact ⟨0, Nat.zero_le _, rfl, rfl, by rw [List.take_zero]; decide, Frm.refl _ _⟩
  case round =>
    obtain ⟨k, hk, rfl, rfl, hs, hf⟩ := hrel
    have HF := Lib.hid hf
    clear hf
    have hs0 := sumL_nonneg (legs.take k)
    by_cases hlt : k < legs.length
    · obtain ⟨ad, A0, q0, A1, q1, l, rfl, d0, d1, d2, hc0, hc1, HC0, HC1, hle⟩ := at_leg HR.out k hlt
      replace d0 := HF.out.cell d0 (fun h => h)
      replace d1 := HF.out.cell d1 (fun h => h)
      replace d2 := HF.out.cell d2 (fun h => h)
      have hlok : LegOk l := HOK.out l (by rw [← hle.out, getD_at hlt]; exact List.getElem_mem _)
      have hsn : sumL (legs.take (k + 1)) = sumL (legs.take k) + sizeL l := by rw [snocG hlt z50, sumL_snoc, hle.out]
      have hsz := sizeL_pos l
      have hsx : sizeL l ≤ 400000000000000 := by have := hlok.n0; have := hlok.n1; unfold sizeL; omega
      obtain ⟨s, hse⟩ : ∃ s, s = sumL (legs.take k) := ⟨_, rfl⟩
      obtain ⟨z, hze⟩ : ∃ z, z = sizeL l := ⟨_, rfl⟩
      rw [← hse] at hs hs0 hsn ⊢
      rw [← hze] at hsz hsx hsn
      have HSN := Lib.hid hsn
      have HSE := Lib.hid hse
      have hcs := rsize_calls wr A0 A1 q0 q1 l hlok.n0 hlok.n1 l.f2
      rw [← hze] at hcs
      have HCS := Lib.hid hcs
      have HZE := Lib.hid hze
      clear hsn hse hcs hze hc0 hc1 HC0 HC1 hlok
      have hw : wrap64 (s + z) = s + z := by unfold wrap64; omega
      have hdw : decide (s + z > 65536) = decide (65536 < s + z) := rfl
      cases hgt : decide (65536 < s + z)
      · go_wp2_with (go_at_call 33; refine HCS.out.mono ?_; rintro e w8 ⟨rfl, hf8⟩; have HF8 := Lib.hid hf8; clear hf8)
        go_roundw
        case rel => exact ⟨k + 1, by omega, by go_num, by rw [HSN.out], by rw [HSN.out]; have := of_decide_eq_false hgt; omega, HF.out.quiet HF8.out⟩
        case measure => simp [intOf]; omega
      · go_wp2_with (go_at_call 33; refine HCS.out.mono ?_; rintro e w8 ⟨rfl, hf8⟩; have HF8 := Lib.hid hf8; clear hf8)
        go_ret2
        have hbig : sumL legs > 65536 := by
          have h1 := sumL_take legs (k + 1)
          rw [HSN.out] at h1
          have := of_decide_eq_true hgt
          omega
        refine ⟨.slice none 0 0, ret2 (k := .i64) (a := 2) (by rw [rencT, if_pos hbig]), ?_, HF.out.quiet HF8.out⟩
        rw [rencT, if_pos hbig]
        exact Kd.R_nil _ _ _ _ _
    · obtain rfl : k = legs.length := by omega
      rw [List.take_length] at hs hs0 ⊢
      have hT : rencT legs = (legsB legs, 0) := by rw [rencT, if_neg (by omega)]
      have HT := Lib.hid hT
      clear hT
      go_wp2
      go_loopw [6, 7] (fun x i wr => ∃ k : Nat, k ≤ legs.length ∧ i = .int .i64 k ∧ Kd.R (Kd.int .u8) 5 wr 0 (Nw Nun w) x (legsB (legs.take k)) ∧ Frm Nun w wr) (fun _ i _ => legs.length - (intOf i).toNat)
      case atStart => exact ⟨0, Nat.zero_le _, rfl, Kd.R_nil _ _ _ _ _, HF.out⟩
      case round =>
        clear HF hlt hk
        obtain ⟨k, hk, rfl, hr, hf⟩ := hrel
        have HR0 := Lib.hid hr
        have HF := Lib.hid hf
        clear hr hf
        by_cases hlt : k < legs.length
        · obtain ⟨wo, hwo⟩ : ∃ u, u = wr := ⟨_, rfl⟩
          subst hwo
          obtain ⟨ad, A0, q0, A1, q1, l, rfl, d0, d1, d2, hc0, hc1, HC0, HC1, hle⟩ := at_leg HR.out k hlt
          replace d0 := HF.out.cell d0 (fun h => h)
          replace d1 := HF.out.cell d1 (fun h => h)
          replace d2 := HF.out.cell d2 (fun h => h)
          have hlok : LegOk l := HOK.out l (by rw [← hle.out, getD_at hlt]; exact List.getElem_mem _)
          have hsn : sumL (legs.take (k + 1)) = sumL (legs.take k) + sizeL l := by rw [snocG hlt z50, sumL_snoc, hle.out]
          have hsm := sumL_take legs (k + 1)
          have hsk := sumL_nonneg (legs.take k)
          have hlb : sizeL l ≤ 65536 := by omega
          have hpl := legsB_len (legs.take k)
          have hll := legB_len l
          have HLE := Lib.hid hle.out
          obtain ⟨n0, hn0⟩ : ∃ n, n = l.f0.length := ⟨_, rfl⟩
          obtain ⟨n1, hn1⟩ : ∃ n, n = l.f1.length := ⟨_, rfl⟩
          obtain ⟨sm, hsm2⟩ : ∃ n, n = l.f2 := ⟨_, rfl⟩
          have hcb := rbytes_calls wo A0 A1 q0 q1 l hlok (Kd.C_below HC0.out HF.out.below0) (Kd.C_below HC1.out HF.out.below0) hlb
          rw [← hn0, ← hn1, ← hsm2] at hcb
          rw [← hn0] at d0
          rw [← hn1] at d1
          rw [← hsm2] at d2
          have HCB := Lib.hid hcb
          clear hcb hc0 hc1 HC0 HC1 hlok hn0 hn1 hsm2 hle
          go_wp2_with fail
          refine HCB.out.mono ?_
          rintro e W2 ⟨v2, rfl, hr2, hf2⟩
          obtain ⟨B, b, rfl, hb, hC⟩ := Kd.R_reads hr2
          obtain ⟨m, hm⟩ : ∃ m, m = (legB l).length := ⟨_, rfl⟩
          rw [← hm] at hC hr2 hll ⊢
          have HM := Lib.hid hm
          have hB : ∀ a, B = some a → wo.heap.size ≤ a.block ∧ a.block < W2.heap.size := by
            intro a ha
            have h1 := (Kd.R_bound hr2).1 a.block (by rw [ha]; rfl)
            exact ⟨h1.1.elim (fun h => h.elim) id, h1.2.2.1⟩
          have hr0 : Kd.R (Kd.int .u8) 5 W2 0 (fun i => (w.heap.size ≤ i ∧ i < wo.heap.size) ∨ W2.heap.size ≤ i) u6 (legsB (legs.take k)) :=
            Kd.R_mono (R_frm (Kd.R_bound HR0.out) hf2 (fun _ _ h => h)) (fun i hi => .inl ⟨hi.1.elim (fun h => h.elim) id, hi.2.2.1⟩)
          have HC := Lib.hid hC
          have HB := Lib.hid hB
          have HR2 := Lib.hid hr0
          have HF2 := Lib.hid hf2
          have hwo := HF.out.size
          have hw2 := hf2.size
          clear hC hB hr0 hf2 hr2 hb hm HR0 HCB d0 d1 d2
          go_wp2
          go_loopw [6, 9] (fun x i wr => ∃ j : Nat, j ≤ m ∧ i = .int .i64 j ∧ Kd.R (Kd.int .u8) 5 wr 0 (fun i => (w.heap.size ≤ i ∧ i < wo.heap.size) ∨ W2.heap.size ≤ i) x (legsB (legs.take k) ++ (legB l).take j) ∧ Frm (fun i => (w.heap.size ≤ i ∧ i < wo.heap.size) ∨ W2.heap.size ≤ i) W2 wr) (fun _ i _ => m - (intOf i).toNat)
          case atStart => exact ⟨0, Nat.zero_le _, rfl, by rw [List.take_zero, List.append_nil]; exact HR2.out, Frm.refl _ _⟩
          case round =>
            clear HR2
            obtain ⟨j, hj, rfl, hr, hf⟩ := hrel
            obtain ⟨A2, c2, rfl, _, _⟩ := Kd.R_reads hr
            by_cases hltj : j < m
            · have hcb : Kd.C (Kd.int .u8) wr B (legB l).length (legB l) := by rw [← HM.out]; exact C_frm HC.out hf (fun a ha h => by have := HB.out a ha; omega)
              obtain ⟨ad2, y, rfl, q0, hp⟩ := at_int hcb j (by rw [← HM.out]; exact hltj)
              have hlj : ((legsB (legs.take k) ++ (legB l).take j).length : Int) = sumL (legs.take k) + j := by rw [List.length_append, take_len (by rw [← HM.out]; omega)]; omega
              have HLL := Lib.hid hlj
              have HRj := Lib.hid hr
              have HFj := Lib.hid hf
              obtain ⟨m2, hm2⟩ : ∃ m2, m2 = (legsB (legs.take k) ++ (legB l).take j).length := ⟨_, rfl⟩
              have HM2 := Lib.hid hm2
              rw [← hm2] at HRj ⊢
              clear hm2 hr hf hcb hlj
              go_wp2_with (at_builtin; refine app_list (Kd.int .u8) (.tmp 42) (.tmp 47) 22 5 (.int .u8 0) 1 rfl rfl Try.underlying22 info_u8 rfl (by decide) (by decide) (.slice A2 m2 c2) (legsB (legs.take k) ++ (legB l).take j) y [.int .u8 y] (fun i => (w.heap.size ≤ i ∧ i < wo.heap.size) ∨ W2.heap.size ≤ i) (fun _ => False) rfl rfl rfl rfl (fun _ h => h.elim) (fun i hi => .inr (Nat.le_trans HFj.out.size hi)) HRj.out (by have := HLL.out; omega) ?_; intro v1 w1 ho1 hg1; have HO1 := Lib.hid ho1; have HG1 := Lib.hid hg1; clear ho1 hg1)
              go_roundw
              case rel =>
                refine ⟨j + 1, by omega, by go_num, ?_, HFj.out.grown HG1.out (fun i hi => .inl (HRj.out.1 i hi))⟩
                rw [snocG (by rw [← HM.out]; exact hltj) 0, hp.out, ← List.append_assoc]
                exact HO1.out
              case measure => simp [intOf]; omega
            · obtain rfl : m = j := by omega
              obtain ⟨m2, hm2⟩ : ∃ m2, m2 = (legsB (legs.take k) ++ (legB l).take m).length := ⟨_, rfl⟩
              rw [← hm2] at hr ⊢
              clear hm2
              rw [show (legB l).take m = legB l from List.take_of_length_le (by rw [← HM.out]; omega)] at hr
              have HRj := Lib.hid hr
              have HFj := Lib.hid ((HF.out.quiet HF2.out).trans hf (fun i h => .inr (by omega)))
              clear hr hf
              go_wp2
              go_roundw
              case rel =>
                refine ⟨k + 1, by omega, by go_num, ?_, HFj.out⟩
                rw [snocG hlt z50, HLE.out, legsB_snoc]
                exact Kd.R_mono HRj.out (fun i h => .inr (by omega))
              case measure => simp [intOf]; omega
        · obtain rfl : k = legs.length := by omega
          rw [List.take_length] at HR0
          go_wp2
          go_ret2
          exact ⟨_, ret2 (by rw [HT.out]), by rw [HT.out]; exact HR0.out, HF.out⟩
end Go.Proofs.Ytoebhddgpicegaa
