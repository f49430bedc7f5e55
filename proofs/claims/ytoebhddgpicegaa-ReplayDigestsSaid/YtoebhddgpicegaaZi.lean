/- Proved here: the whole statement for amberlaw21.ReplayDigests: for every list of events, every place, word, mask and serial the law returns true and changes nothing of what it was handed. -/
import Derived.Test.YtoebhddgpicegaaZf
import Derived.Test.YtoebhddgpicegaaZg
import Derived.Test.YtoebhddgpicegaaRows
import Derived.WalkKit
import Derived.ProofKit
import Derived.OpenShut
import Derived.ShutString
import Derived.ChangeOld
import Derived.Below
import Derived.SizedLaws
namespace Go.Proofs.Ytoebhddgpicegaa
open Go.RowKit Go.Proofs.YtoebhddgpicegaaW.PrintWords
open PReplayApart
theorem lf_zero {c : BitVec 32} (h : lf c = 0#32) : c = 0#32 := by
  have hp : poly.getLsbD 31 = true := by decide
  have h31 : (lf c).getLsbD 31 = c.getLsbD 0 := by
    unfold lf
    rw [BitVec.getLsbD_xor, BitVec.getLsbD_ushiftRight]
    have : c.getLsbD (1 + 31) = false := BitVec.getLsbD_of_ge c 32 (by omega)
    rw [this]
    cases c.getLsbD 0
    · simp
    · simp [hp]
  have h0 : c.getLsbD 0 = false := by rw [← h31, h]; simp
  have e : lf c = c >>> 1 := by
    unfold lf
    rw [h0]
    simp
  rw [e] at h
  apply BitVec.eq_of_getLsbD_eq
  intro i hi
  cases i with
  | zero => rw [h0]; simp
  | succ i =>
    have := congrArg (fun v => v.getLsbD i) h
    simp only [BitVec.getLsbD_ushiftRight] at this
    rw [Nat.add_comm] at this
    rw [this]
    simp
theorem lfn_zero (n : Nat) : ∀ c : BitVec 32, lfn n c = 0#32 → c = 0#32 := by
  induction n with
  | zero => intro c h; exact h
  | succ n ih => intro c h; exact lf_zero (ih _ h)
theorem xor_zero {a b : BitVec 32} (h : a ^^^ b = 0#32) : a = b := by
  have : a ^^^ b ^^^ b = 0#32 ^^^ b := by rw [h]
  rw [BitVec.xor_assoc, BitVec.xor_self] at this
  simpa using this
theorem lfn_inj {n : Nat} {a b : BitVec 32} (h : lfn n a = lfn n b) : a = b := by
  apply xor_zero
  apply lfn_zero n
  rw [lfn_xor, h]
  simp
theorem lfn_add (m : Nat) : ∀ (n : Nat) (s : BitVec 32), lfn m (lfn n s) = lfn (n + m) s := by
  intro n
  induction n with
  | zero => intro s; rw [Nat.zero_add]; rfl
  | succ n ih =>
    intro s
    rw [Nat.succ_add]
    show lfn m (lfn n (lf s)) = lfn (n + m) (lf s)
    exact ih _
theorem upd_inj {l : List Int} : ∀ {a b : BitVec 32}, upd a l = upd b l → a = b := by
  induction l with
  | nil => intro a b h; exact h
  | cons x l ih =>
    intro a b h
    have h1 : stepB a (bw x) = stepB b (bw x) := ih h
    have h2 := lfn_inj h1
    have h3 : a ^^^ bw x ^^^ bw x = b ^^^ bw x ^^^ bw x := by rw [h2]
    rw [BitVec.xor_assoc, BitVec.xor_assoc, BitVec.xor_self] at h3
    simpa using h3
theorem bw_cat {v : Int} (h0 : 0 ≤ v) (h1 : v < 4294967296) : bw v = bw (v % 256) ^^^ (bw (v / 256) <<< 8) := by
  apply BitVec.eq_of_toNat_eq
  obtain ⟨n, rfl⟩ := Int.eq_ofNat_of_zero_le h0
  have e : ∀ m : Nat, m < 4294967296 → (bw (m : Int)).toNat = m := by
    intro m hm
    unfold bw
    rw [BitVec.ofInt_natCast, BitVec.toNat_ofNat]
    omega
  have e1 : ((n : Int) % 256) = ((n % 256 : Nat) : Int) := by omega
  have e2 : ((n : Int) / 256) = ((n / 256 : Nat) : Int) := by omega
  rw [e1, e2, BitVec.toNat_xor, BitVec.toNat_shiftLeft, e n (by omega), e (n % 256) (by omega), e (n / 256) (by omega), Nat.shiftLeft_eq]
  have hm : n / 256 * 2 ^ 8 % 2 ^ 32 = n / 256 * 2 ^ 8 := by omega
  rw [hm]
  have := Nat.two_pow_add_eq_or_of_lt (i := 8) (b := n % 256) (by omega) (n / 256)
  have hx : n % 256 ^^^ n / 256 * 2 ^ 8 = n / 256 * 2 ^ 8 + n % 256 := by
    rw [Nat.xor_comm, Nat.mul_comm, this]
    apply Nat.eq_of_testBit_eq
    intro i
    rw [Nat.testBit_xor, Nat.testBit_or]
    by_cases hi : i < 8
    · have : (2 ^ 8 * (n / 256)).testBit i = false := by rw [Nat.testBit_two_pow_mul]; simp; omega
      rw [this]
      simp
    · have : (n % 256).testBit i = false := Nat.testBit_lt_two_pow (Nat.lt_of_lt_of_le (Nat.mod_lt n (by decide)) (by
        calc 256 = 2 ^ 8 := by decide
          _ ≤ 2 ^ i := Nat.pow_le_pow_right (by decide) (by omega)))
      rw [this]
      simp
  rw [hx]
  omega
theorem lfn8_shift {w : Int} (h0 : 0 ≤ w) (h1 : w < 16777216) : lfn 8 (bw w <<< 8) = bw w := by
  obtain ⟨n, rfl⟩ := Int.eq_ofNat_of_zero_le h0
  have e : (bw (n : Int)).toNat = n := by
    unfold bw
    rw [BitVec.ofInt_natCast, BitVec.toNat_ofNat]
    omega
  have e2 : (bw (n : Int) <<< 8).toNat = n * 256 := by
    rw [BitVec.toNat_shiftLeft, e, Nat.shiftLeft_eq]
    omega
  apply BitVec.eq_of_toNat_eq
  rw [lfn_even 8 _ (by rw [e2]; omega), e2, e]
  omega
/-- What n bytes do to the register. -/
theorem upd_le (n : Nat) : ∀ (s : BitVec 32) (v : Int), n ≤ 4 → 0 ≤ v → v < 256 ^ n → upd s (le n v) = lfn (8 * n) (s ^^^ bw v) := by
  induction n with
  | zero =>
    intro s v _ h0 h1
    obtain rfl : v = 0 := by rw [Int.pow_zero] at h1; omega
    show s = s ^^^ bw 0
    rw [show bw 0 = 0#32 by decide]
    simp
  | succ n ih =>
    intro s v hn h0 h1
    have hv : v < 4294967296 := Int.lt_of_lt_of_le h1 (pow_mono (m := n + 1) (n := 4) hn)
    rw [Int.pow_succ] at h1
    have ih' := ih (stepB s (bw (v % 256))) (v / 256) (by omega) (by omega) (by omega)
    show upd (stepB s (bw (v % 256))) (le n (v / 256)) = _
    have h2 : v / 256 < 16777216 := by omega
    rw [ih', stepB]
    conv => lhs; arg 2; arg 2; rw [← lfn8_shift (w := v / 256) (by omega) h2]
    rw [← lfn_xor, lfn_add, BitVec.xor_assoc, ← bw_cat h0 hv, Nat.mul_succ, Nat.add_comm]
theorem bw_inj {a b : Int} (ha : 0 ≤ a ∧ a < 4294967296) (hb : 0 ≤ b ∧ b < 4294967296) (h : bw a = bw b) : a = b := by
  obtain ⟨n, rfl⟩ := Int.eq_ofNat_of_zero_le ha.1
  obtain ⟨m, rfl⟩ := Int.eq_ofNat_of_zero_le hb.1
  have := congrArg BitVec.toNat h
  unfold bw at this
  rw [BitVec.ofInt_natCast, BitVec.ofInt_natCast, BitVec.toNat_ofNat, BitVec.toNat_ofNat] at this
  omega
/-- Another word, another sum. -/
theorem crc_word {P S : List Int} {a b : Int} (ha : 0 ≤ a ∧ a < 4294967296) (hb : 0 ≤ b ∧ b < 4294967296) (h : crc (P ++ (le 4 a ++ S)) = crc (P ++ (le 4 b ++ S))) : a = b := by
  unfold crc at h
  have h1 := congrArg (fun v => ~~~ v) h
  simp only [BitVec.not_not] at h1
  rw [upd_app, upd_app, upd_app, upd_app] at h1
  have h2 := upd_inj h1
  rw [upd_le 4 _ a (by omega) ha.1 ha.2, upd_le 4 _ b (by omega) hb.1 hb.2] at h2
  have h3 := lfn_inj h2
  refine bw_inj ha hb ?_
  have h4 : ∀ s x y : BitVec 32, s ^^^ x = s ^^^ y → x = y := by
    intro s x y h
    have : s ^^^ (s ^^^ x) = s ^^^ (s ^^^ y) := by rw [h]
    rw [← BitVec.xor_assoc, ← BitVec.xor_assoc, BitVec.xor_self] at this
    simpa using this
  exact h4 _ _ _ h3
end Go.Proofs.Ytoebhddgpicegaa
namespace Go.Proofs.Ytoebhddgpicegaa
open Go.RowKit Go.Proofs.YtoebhddgpicegaaW.PrintWords
set_option linter.unusedSimpArgs false
/-- The event with another serial. -/
def serE (s : Int) (i : Nat) (x : Evt) : Evt := { x with serial := wrap64 (s + i) }
def lbOf (s : Int) (evs : List Evt) (n : Nat) : List Evt := (List.range n).map (fun i => serE s i (evs.getD i zev))
theorem lbOf_snoc (s : Int) (evs : List Evt) (n : Nat) : lbOf s evs (n + 1) = lbOf s evs n ++ [serE s n (evs.getD n zev)] := by unfold lbOf; rw [List.range_succ, List.map_append]; rfl
theorem lbOf_len (s : Int) (evs : List Evt) (n : Nat) : (lbOf s evs n).length = n := by simp [lbOf]
theorem lbOf_bytes (s : Int) (evs : List Evt) : ∀ n, n ≤ evs.length → ebytes (lbOf s evs n) = ebytes (evs.take n) := by
  intro n
  induction n with
  | zero => intro _; rfl
  | succ n ih =>
    intro hn
    rw [lbOf_snoc, ebytes_snoc, ih (by omega), snocG (by omega) zev, ebytes_snoc]
    rfl
theorem lbOf_at (s : Int) (evs : List Evt) {n i : Nat} (h : i < n) : (lbOf s evs n).getD i zev = serE s i (evs.getD i zev) := by
  rw [getD_at (by rw [lbOf_len]; exact h)]
  simp [lbOf]
/-- A flat row of one's own: only its block counts. -/
theorem R_flat {e : Nat} {w : World} {ok ok' : Nat → Prop} {v : Value} {xs : List Evt} (h : kev.R e w 0 ok v xs) (hn : ∀ k, v.ownBlock = some k → ok' k) : kev.R e w 0 ok' v xs :=
  ⟨hn, h.2.imp_ (fun _ _ hp => hp)⟩
theorem R_flat_step {e : Nat} {w w1 : World} {ok : Nat → Prop} {v : Value} {xs : List Evt} (h : kev.R e w 0 ok v xs) (hb : ∀ k, v.ownBlock = some k → w1.heap[k]? = w.heap[k]?) : kev.R e w1 0 ok v xs := by
  have h2 : kev.R e w 0 (fun k => v.ownBlock = some k) v xs := R_flat h (fun _ hk => hk)
  have h3 := Kd.R_move (w1 := w1) h2 (fun k hk => hb k hk)
  exact R_flat h3 h.1
def Evt.setW (x : Evt) (j : Nat) (z : Int) : Evt :=
  match j with
  | 0 => { x with a0 := z }
  | 1 => { x with a1 := z }
  | 2 => { x with a2 := z }
  | 3 => { x with a3 := z }
  | 4 => { x with a4 := z }
  | 5 => { x with v0 := z }
  | 6 => { x with v1 := z }
  | _ => { x with v2 := z }
def Evt.wd (x : Evt) (j : Nat) : Int := (x.as ++ x.vs).getD j 0
def wcell (j : Nat) : Nat := if j < 5 then 4 + j else 5 + j
theorem setW_bytes (x : Evt) (j : Nat) (hj : j < 8) (z : Int) : ∃ P S, x.bytes = P ++ (le 4 (x.wd j) ++ S) ∧ (x.setW j z).bytes = P ++ (le 4 z ++ S) := by
  match j, hj with
  | 0, _ => exact ⟨le 8 x.kind ++ le 8 x.k ++ le 8 x.steps ++ le 8 x.call, _, by simp only [Evt.bytes, List.append_assoc]; rfl, by simp only [Evt.bytes, Evt.setW, List.append_assoc]⟩
  | 1, _ => exact ⟨le 8 x.kind ++ le 8 x.k ++ le 8 x.steps ++ le 8 x.call ++ le 4 x.a0, _, by simp only [Evt.bytes, List.append_assoc]; rfl, by simp only [Evt.bytes, Evt.setW, List.append_assoc]⟩
  | 2, _ => exact ⟨le 8 x.kind ++ le 8 x.k ++ le 8 x.steps ++ le 8 x.call ++ le 4 x.a0 ++ le 4 x.a1, _, by simp only [Evt.bytes, List.append_assoc]; rfl, by simp only [Evt.bytes, Evt.setW, List.append_assoc]⟩
  | 3, _ => exact ⟨le 8 x.kind ++ le 8 x.k ++ le 8 x.steps ++ le 8 x.call ++ le 4 x.a0 ++ le 4 x.a1 ++ le 4 x.a2, _, by simp only [Evt.bytes, List.append_assoc]; rfl, by simp only [Evt.bytes, Evt.setW, List.append_assoc]⟩
  | 4, _ => exact ⟨le 8 x.kind ++ le 8 x.k ++ le 8 x.steps ++ le 8 x.call ++ le 4 x.a0 ++ le 4 x.a1 ++ le 4 x.a2 ++ le 4 x.a3, _, by simp only [Evt.bytes, List.append_assoc]; rfl, by simp only [Evt.bytes, Evt.setW, List.append_assoc]⟩
  | 5, _ => exact ⟨le 8 x.kind ++ le 8 x.k ++ le 8 x.steps ++ le 8 x.call ++ le 4 x.a0 ++ le 4 x.a1 ++ le 4 x.a2 ++ le 4 x.a3 ++ le 4 x.a4 ++ le 8 x.code, _, by simp only [Evt.bytes, List.append_assoc]; rfl, by simp only [Evt.bytes, Evt.setW, List.append_assoc]⟩
  | 6, _ => exact ⟨le 8 x.kind ++ le 8 x.k ++ le 8 x.steps ++ le 8 x.call ++ le 4 x.a0 ++ le 4 x.a1 ++ le 4 x.a2 ++ le 4 x.a3 ++ le 4 x.a4 ++ le 8 x.code ++ le 4 x.v0, _, by simp only [Evt.bytes, List.append_assoc]; rfl, by simp only [Evt.bytes, Evt.setW, List.append_assoc]⟩
  | 7, _ => exact ⟨le 8 x.kind ++ le 8 x.k ++ le 8 x.steps ++ le 8 x.call ++ le 4 x.a0 ++ le 4 x.a1 ++ le 4 x.a2 ++ le 4 x.a3 ++ le 4 x.a4 ++ le 8 x.code ++ le 4 x.v0 ++ le 4 x.v1, [], by simp only [Evt.bytes, List.append_assoc, List.append_nil]; rfl, by simp only [Evt.bytes, Evt.setW, List.append_assoc, List.append_nil]⟩
theorem setW_cells (x : Evt) (j : Nat) (hj : j < 8) (z : Int) : (x.setW j z).cells = x.cells.set (wcell j) (.int .u32 z) ∧ x.cells[wcell j]? = some (.int .u32 (x.wd j)) := by
  match j, hj with
  | 0, _ => exact ⟨rfl, rfl⟩
  | 1, _ => exact ⟨rfl, rfl⟩
  | 2, _ => exact ⟨rfl, rfl⟩
  | 3, _ => exact ⟨rfl, rfl⟩
  | 4, _ => exact ⟨rfl, rfl⟩
  | 5, _ => exact ⟨rfl, rfl⟩
  | 6, _ => exact ⟨rfl, rfl⟩
  | 7, _ => exact ⟨rfl, rfl⟩
theorem wd_ok {x : Evt} (h : EvOk x) (j : Nat) (hj : j < 8) : 0 ≤ x.wd j ∧ x.wd j < 4294967296 := by
  match j, hj with
  | 0, _ => exact h.a0
  | 1, _ => exact h.a1
  | 2, _ => exact h.a2
  | 3, _ => exact h.a3
  | 4, _ => exact h.a4
  | 5, _ => exact h.v0
  | 6, _ => exact h.v1
  | 7, _ => exact h.v2
theorem setW_ok {x : Evt} (h : EvOk x) (j : Nat) (hj : j < 8) {z : Int} (hz : 0 ≤ z ∧ z < 4294967296) : EvOk (x.setW j z) := by
  match j, hj with
  | 0, _ => exact ⟨hz, h.a1, h.a2, h.a3, h.a4, h.v0, h.v1, h.v2⟩
  | 1, _ => exact ⟨h.a0, hz, h.a2, h.a3, h.a4, h.v0, h.v1, h.v2⟩
  | 2, _ => exact ⟨h.a0, h.a1, hz, h.a3, h.a4, h.v0, h.v1, h.v2⟩
  | 3, _ => exact ⟨h.a0, h.a1, h.a2, hz, h.a4, h.v0, h.v1, h.v2⟩
  | 4, _ => exact ⟨h.a0, h.a1, h.a2, h.a3, hz, h.v0, h.v1, h.v2⟩
  | 5, _ => exact ⟨h.a0, h.a1, h.a2, h.a3, h.a4, hz, h.v1, h.v2⟩
  | 6, _ => exact ⟨h.a0, h.a1, h.a2, h.a3, h.a4, h.v0, hz, h.v2⟩
  | 7, _ => exact ⟨h.a0, h.a1, h.a2, h.a3, h.a4, h.v0, h.v1, hz⟩
theorem split_at (l : List Evt) (i : Nat) (h : i < l.length) (x : Evt) : ebytes (l.set i x) = ebytes (l.take i) ++ (x.bytes ++ ebytes (l.drop (i + 1))) := by
  rw [List.set_eq_take_append_cons_drop, if_pos h]
  simp [ebytes]
theorem crc_set (l : List Evt) (i : Nat) (h : i < l.length) (j : Nat) (hj : j < 8) (z : Int) (hz : 0 ≤ z ∧ z < 4294967296) (hw : 0 ≤ (l.getD i zev).wd j ∧ (l.getD i zev).wd j < 4294967296)
    (he : crc (ebytes (l.set i ((l.getD i zev).setW j z))) = crc (ebytes l)) : z = (l.getD i zev).wd j := by
  have e0 : l = l.set i (l.getD i zev) := by rw [getD_at h]; simp
  conv at he => rhs; rw [e0]
  obtain ⟨P, S, h1, h2⟩ := setW_bytes (l.getD i zev) j hj z
  rw [split_at l i h, split_at l i h, h1, h2] at he
  simp only [List.append_assoc] at he
  rw [← List.append_assoc, ← List.append_assoc (ebytes _) P (le 4 ((l.getD i zev).wd j) ++ _)] at he
  exact crc_word hz hw he
theorem add0 (g m : Nat) : (⟨g, 0, none⟩ : Addr).add m = ⟨g, m, none⟩ := by cases m <;> simp [Addr.add]
theorem C_ev_set {w : World} {g : Nat} {l : List Evt} (hC : Kd.C kev w (some ⟨g, 0, none⟩) l.length l) (i : Nat) (hi : i < l.length) (j : Nat) (v : Value) (x : Evt) (hx : x.cells = (l.getD i zev).cells.set j v) (hj : j < 14) :
    Kd.C kev (w.setCell ⟨g, i * 14 + j, none⟩ v) (some ⟨g, 0, none⟩) l.length (l.set i x) := by
  have hcell : ∀ k, k < l.length → ∀ q u, (l.getD k zev).cells[q]? = some u → w.cell? ⟨g, k * 14 + q, none⟩ = some u := by
    intro k hk q u hu
    obtain ⟨ad, y, e, hy, hc⟩ := at_ev hC k hk
    obtain rfl := Option.some.inj e
    rw [hy.out] at hu
    have := hc q u hu
    rwa [add0] at this
  have hcl : ∀ y : Evt, y.cells.length = 14 := fun y => rfl
  refine ⟨by rw [List.length_set], hC.2.1, fun _ => ⟨_, rfl, fun k p hp => ?_⟩⟩
  have hk : k < l.length := by have := (List.getElem?_eq_some_iff.1 hp).1; rwa [List.length_set] at this
  refine ⟨p.cells, rfl, rfl, fun q u hu => ?_⟩
  have hq : q < 14 := (List.getElem?_eq_some_iff.1 hu).1
  show (w.setCell ⟨g, i * 14 + j, none⟩ v).cell? ((⟨g, 0, none⟩ : Addr).add (k * 14 + q)) = some u
  rw [add0]
  by_cases hki : k = i
  · subst hki
    rw [List.getElem?_set_self hi] at hp
    obtain rfl := Option.some.inj hp
    rw [hx] at hu
    by_cases hqj : q = j
    · subst hqj
      rw [List.getElem?_set_self (by rw [hcl]; exact hq)] at hu
      obtain rfl := Option.some.inj hu
      obtain ⟨u0, hu0⟩ : ∃ u0, (l.getD k zev).cells[q]? = some u0 := ⟨_, List.getElem?_eq_getElem (by rw [hcl]; exact hq)⟩
      exact World.cell?_setCell_same' _ _ _ (by rw [hcell k hk q u0 hu0]; rfl)
    · rw [List.getElem?_set_ne (fun e => hqj e.symm)] at hu
      rw [World.cell?_setCell_other _ _ _ _ (fun e => hqj (by have := congrArg Addr.off e; simp at this; omega))]
      exact hcell k hk q u hu
  · rw [List.getElem?_set_ne (fun e => hki e.symm)] at hp
    have hpe : l.getD k zev = p := by rw [getD_at hk]; exact (List.getElem?_eq_some_iff.1 hp).2
    rw [World.cell?_setCell_other _ _ _ _ (fun e => hki (by have := congrArg Addr.off e; simp at this; omega))]
    exact hcell k hk q u (by rw [hpe]; exact hu)
theorem vn_bw {a : Int} (h : 0 ≤ a ∧ a < 4294967296) : vn (bw a) = a := by
  obtain ⟨n, rfl⟩ := Int.eq_ofNat_of_zero_le h.1
  unfold vn bw
  rw [BitVec.ofInt_natCast, BitVec.toNat_ofNat]
  omega
theorem xor_rng {a m : Int} (ha : 0 ≤ a ∧ a < 4294967296) (hm : 0 ≤ m ∧ m < 4294967296) : 0 ≤ Go.bits .xor .u32 a m ∧ Go.bits .xor .u32 a m < 4294967296 := by
  have := vn_xor (bw a) (bw m)
  rw [vn_bw ha, vn_bw hm] at this
  rw [this]
  exact vn_range _
theorem xor_ne {a m : Int} (ha : 0 ≤ a ∧ a < 4294967296) (hm : 0 ≤ m ∧ m < 4294967296) (h0 : m ≠ 0) : Go.bits .xor .u32 a m ≠ a := by
  intro h
  have e := vn_xor (bw a) (bw m)
  rw [vn_bw ha, vn_bw hm, h] at e
  have e2 : bw a = bw a ^^^ bw m := vn_inj (by rw [vn_bw ha]; exact e)
  have e3 : bw a ^^^ bw a = bw a ^^^ (bw a ^^^ bw m) := by rw [← e2]
  rw [← BitVec.xor_assoc, BitVec.xor_self] at e3
  have e4 : bw m = 0#32 := by simpa using e3.symm
  have := vn_bw hm
  rw [e4] at this
  exact h0 (by rw [← this]; rfl)
theorem dgs_tail (w6 : World) (g q i : Nat) (evs lb : List Evt) (mask : Int) (hC : Kd.C kev w6 (some ⟨g, 0, none⟩) lb.length lb) (hi : i < lb.length) (hl : lb.length ≤ 1599289640401) (hok : ∀ x ∈ lb, EvOk x) (hm : 0 ≤ mask ∧ mask < 4294967296) (h0 : mask ≠ 0)
    (he : ebytes lb = ebytes evs) (j : Nat) (hj : j < 8) :
    Calls Try.prog 17 #[.slice (some ⟨g, 0, none⟩) lb.length q] (w6.setCell ⟨g, i * 14 + wcell j, none⟩ (.int .u32 (Go.bits .xor .u32 ((lb.getD i zev).wd j) mask))).drew fun e w' => ∃ X, e = .returned (.int .u32 X) ∧ (X != vn (crc (ebytes evs))) = true ∧ Frm (fun k => k = g) w6 w' := by
  have hx : EvOk (lb.getD i zev) := hok _ (by rw [getD_at hi]; exact List.getElem_mem _)
  have hw := wd_ok hx j hj
  have hz := xor_rng hw hm
  have hwc : wcell j < 14 := by unfold wcell; split <;> omega
  have hC2 := Kd.C_drew (C_ev_set hC i hi (wcell j) (.int .u32 (Go.bits .xor .u32 ((lb.getD i zev).wd j) mask)) ((lb.getD i zev).setW j (Go.bits .xor .u32 ((lb.getD i zev).wd j) mask)) (setW_cells _ j hj _).1 hwc)
  have hll : (lb.set i ((lb.getD i zev).setW j (Go.bits .xor .u32 ((lb.getD i zev).wd j) mask))).length = lb.length := List.length_set
  rw [← hll] at hC2 ⊢
  refine (digest_calls _ (some ⟨g, 0, none⟩) q _ hC2 (by rw [hll]; exact hl) (fun x hx2 => ?_)).mono ?_
  · rcases List.mem_or_eq_of_mem_set hx2 with h | rfl
    · exact hok x h
    · exact setW_ok hx j hj hz
  · rintro e w' ⟨rfl, hf⟩
    refine ⟨_, rfl, ?_, ((((Frm.refl (fun k => k = g) w6).set (p := ⟨g, i * 14 + wcell j, none⟩) (.inl rfl) _).drew).quiet hf)⟩
    rw [bne_iff_ne]
    intro h
    have h2 := vn_inj h
    rw [← he] at h2
    exact xor_ne hw hm h0 (crc_set lb i hi j hj _ hz hw h2)
end Go.Proofs.Ytoebhddgpicegaa
namespace Go.Proofs.Ytoebhddgpicegaa
open Go.RowKit Go.Proofs.YtoebhddgpicegaaW.PrintWords
set_option linter.unusedSimpArgs false
/-- A walk stops here. -/
def Stopd (p : Prop) : Prop := p
theorem stopd {p : Prop} (h : Stopd p) : p := h
set_option maxHeartbeats 4000000 in
set_option maxRecDepth 100000 in
theorem dgs_calls (w : World) (A : Option Addr) (c : Nat) (evs : List Evt) (which word mask serial : Int) (hr : Kd.C kev w A evs.length evs) (hl : evs.length ≤ 1599289640354) (hok : ∀ x ∈ evs, EvOk x) (hm : 0 ≤ mask ∧ mask < 4294967296) :
    Calls Try.prog 6 #[.slice A evs.length c, .int .i64 which, .int .i64 word, .int .u32 mask, .int .i64 serial] w fun e w' => e = .returned (.bool true) ∧ Frm Nun w w' := by
  have HR := Lib.hid hr
  have HOK := Lib.hid hok
  have HM := Lib.hid hm
  clear hr hok hm
  go_enter Try.func6, Try.ntmps6
  go_wp2_with fail
  refine (fixed_calls w).mono ?_
  rintro e w1 ⟨rfl, k1⟩
  have K1 := Lib.hid k1
  clear k1
  go_wp2
  go_loopw [12, 13, 14] (fun x y i wr => ∃ k : Nat, k ≤ evs.length ∧ i = .int .i64 k ∧ Frm Nun w wr ∧ kev.R 39 wr 0 (fun i => Nw Nun w i ∧ some i ≠ y.ownBlock) x (evs.take k) ∧ kev.R 39 wr 0 (fun i => Nw Nun w i ∧ some i ≠ x.ownBlock) y (lbOf serial evs k)) (fun _ _ i _ => evs.length - (intOf i).toNat)
  case atStart => exact ⟨0, Nat.zero_le _, rfl, K1.out, Kd.R_nil _ _ _ _ _, Kd.R_nil _ _ _ _ _⟩
  case round =>
    obtain ⟨k, hk, rfl, hf, hx, hy⟩ := hrel
    have HF := Lib.hid hf
    by_cases hlt : k < evs.length
    · obtain ⟨ad, x, rfl, hxe, hc⟩ := at_ev' HR.out k hlt
      obtain ⟨c0, c1, c2, c3, c4, c5, c6, c7, c8, c9, c10, c11, c12, c13⟩ := hc.frm HF.out (fun h => h)
      obtain ⟨A2, q2, rfl, _, _⟩ := Kd.R_reads hx
      obtain ⟨A3, q3, rfl, _, _⟩ := Kd.R_reads hy
      have HX := Lib.hid hx
      have HY := Lib.hid hy
      obtain ⟨n2, hn2⟩ : ∃ n, n = (evs.take k).length := ⟨_, rfl⟩
      obtain ⟨n3, hn3⟩ : ∃ n, n = (lbOf serial evs k).length := ⟨_, rfl⟩
      have e2 : n2 = k := by rw [hn2, take_len (by omega)]
      have e3 : n3 = k := by rw [hn3, lbOf_len]
      rw [← hn2, ← hn3] at HX HY ⊢
      have E2 := Lib.hid e2
      have E3 := Lib.hid e3
      clear hc hx hy hf hn2 hn3 e2 e3
      have hlx : ∀ i, (Value.slice A2 n2 q2).ownBlock = some i → i < wr.heap.size := fun i hi => Kd.R_lt HX.out i hi
      have hly : ∀ i, (Value.slice A3 n3 q3).ownBlock = some i → i < wr.heap.size := fun i hi => Kd.R_lt HY.out i hi
      have HLX := Lib.hid hlx
      have HLY := Lib.hid hly
      clear hlx hly
      obtain ⟨W2, hW2⟩ : ∃ W2, W2 = wr.alloc (.cells #[.int .i64 x.kind, .int .i64 x.k, .int .i64 x.steps, .int .i64 x.call, .int .u32 x.a0, .int .u32 x.a1, .int .u32 x.a2, .int .u32 x.a3, .int .u32 x.a4, .int .i64 x.code, .int .u32 x.v0, .int .u32 x.v1, .int .u32 x.v2, .int .i64 x.serial] 39) := ⟨_, rfl⟩
      have hf2 : Frm Nun wr W2 := by rw [hW2]; exact (Frm.refl _ _).alloc _
      have hz2 : W2.heap.size = wr.heap.size + 1 := by rw [hW2]; simp
      have hb2 : EvBox W2 wr.heap.size x := by rw [hW2]; exact heap_alloc_new wr _
      have HW2 := Lib.hid hW2
      have HZ2 := Lib.hid hz2
      have HB2 := Lib.hid hb2
      have HF2 := Lib.hid hf2
      have HXa : kev.R 39 W2 0 (fun i => Nw Nun w i ∧ some i ≠ (Value.slice A3 n3 q3).ownBlock ∧ i ≠ wr.heap.size) (.slice A2 n2 q2) (evs.take k) :=
        R_flat (R_flat_step HX.out (fun i hi => hf2.block i (HLX.out i hi) (fun h => h))) (fun i hi => ⟨(HX.out.1 i hi).1, (HX.out.1 i hi).2, by have := HLX.out i hi; omega⟩)
      have HXA := Lib.hid HXa
      clear hW2 hf2 hz2 hb2 HXa
      go_wp2_with (first
        | (at_builtin; refine app_list kev (W := W2) (.tmp 30) (.tmp 32) 34 39 (.agg #[.int .i64 0, .int .i64 0, .int .i64 0, .int .i64 0, .int .u32 0, .int .u32 0, .int .u32 0, .int .u32 0, .int .u32 0, .int .i64 0, .int .u32 0, .int .u32 0, .int .u32 0, .int .i64 0]) 88 rfl rfl Try.underlying34 info_ev rfl (by decide) (by decide) (.slice A2 n2 q2) (evs.take k) x [.int .i64 x.kind, .int .i64 x.k, .int .i64 x.steps, .int .i64 x.call, .int .u32 x.a0, .int .u32 x.a1, .int .u32 x.a2, .int .u32 x.a3, .int .u32 x.a4, .int .i64 x.code, .int .u32 x.v0, .int .u32 x.v1, .int .u32 x.v2, .int .i64 x.serial] (fun i => Nw Nun w i ∧ some i ≠ (Value.slice A3 n3 q3).ownBlock ∧ i ≠ wr.heap.size) (fun _ => False) rfl (by rw [HZ2.out]; rfl) (by rw [HW2.out]) rfl (fun _ h => h.elim) (fun i hi => ⟨.inr (by have := HF.out.size; have := HZ2.out; omega), fun e => by have := HLY.out i e.symm; have := HZ2.out; omega, by have := HZ2.out; omega⟩) HXA.out (by rw [take_len (by omega)]; omega) ?_
           intro v1 w4 ho4 hg4
           obtain ⟨A4, q4, rfl, _, _⟩ := Kd.R_reads ho4
           have hb4 : EvBox w4 wr.heap.size x := blk_grown HB2.out hg4 (fun e => by have := HLX.out _ e.symm; omega)
           obtain ⟨d0, d1, d2, d3, d4, d5, d6, d7, d8, d9, d10, d11, d12, d13⟩ := hb4.cells
           have g13 := blk_frozen hb4 13
           have hf4 : Frm Nun w w4 := ((HF.out.trans HF2.out (fun _ h => h.elim)).grown hg4 (fun i hi => .inr ((HX.out.1 i hi).1.elim (fun h => h.elim) id)))
           have HO4 := Lib.hid ho4
           have HG4 := Lib.hid hg4
           have HF4 := Lib.hid hf4
           have HB4 := Lib.hid hb4
           clear ho4 hg4 hb4 hf4)
        | (at_builtin; refine stopd ?_))
      have ho4 := HO4.out
      rw [show (evs.take k ++ [x]).length = k + 1 by rw [List.length_append, take_len (by omega)]; rfl] at ho4
      have hg4 := HG4.out
      have hf4 := HF4.out
      obtain ⟨W5, hW5⟩ : ∃ W5, W5 = w4.setCell ⟨wr.heap.size, 13, none⟩ (.int .i64 (wrap64 (serial + (k : Int)))) := ⟨_, rfl⟩
      have hl4 : ∀ i, (Value.slice A4 (k + 1) q4).ownBlock = some i → i < w4.heap.size ∧ Nw Nun w i ∧ some i ≠ (Value.slice A3 n3 q3).ownBlock ∧ i ≠ wr.heap.size := fun i hi => ⟨Kd.R_lt ho4 i hi, ho4.1 i hi⟩
      have hf5 : Frm (fun i => i = wr.heap.size) w4 W5 := by rw [hW5]; exact (Frm.refl (fun i => i = wr.heap.size) w4).set (p := ⟨wr.heap.size, 13, none⟩) (.inl rfl) _
      have hz5 : w4.heap.size ≤ W5.heap.size := hf5.size
      have hyb : kev.R 39 W5 0 (fun i => Nw Nun w i ∧ some i ≠ (Value.slice A4 (k + 1) q4).ownBlock ∧ i ≠ wr.heap.size) (.slice A3 n3 q3) (lbOf serial evs k) :=
        R_flat (R_flat_step HY.out (fun i hi => ((hf5.block i (by have := HLY.out i hi; have := hg4.size; have := HZ2.out; omega) (fun h => by have := HLY.out i hi; omega)).trans (hg4.block i (by have := HLY.out i hi; have := HZ2.out; omega) (HY.out.1 i hi).2)).trans (HF2.out.block i (HLY.out i hi) (fun h => h))))
          (fun i hi => ⟨(HY.out.1 i hi).1, fun e => (hl4 i e.symm).2.2.1 hi.symm, by have := HLY.out i hi; omega⟩)
      have hxa5 : kev.R 39 W5 0 (fun i => Nw Nun w i ∧ some i ≠ (Value.slice A3 n3 q3).ownBlock ∧ i ≠ wr.heap.size) (.slice A4 (k + 1) q4) (evs.take k ++ [x]) :=
        R_flat_step ho4 (fun i hi => hf5.block i (hl4 i hi).1 (fun h => (hl4 i hi).2.2.2 h))
      have HYB := Lib.hid hyb
      have HXA5 := Lib.hid hxa5
      have HL4 := Lib.hid hl4
      have HW5 := Lib.hid hW5
      have HZ5 := Lib.hid hz5
      have HF5 := Lib.hid (hf4.trans hf5 (fun i h => .inr (by have := HF.out.size; omega)))
      have hf5w : wr.heap.size ≤ W5.heap.size := Nat.le_trans (Nat.le_trans (by have := HZ2.out; omega) hg4.size) hz5
      have HWR := Lib.hid hf5w
      clear ho4 hg4 hf4 hyb hxa5 hl4 hW5 hz5 hf5 hf5w
      have hlt5 : wr.heap.size < W5.heap.size := Nat.lt_of_lt_of_le (Nat.lt_of_lt_of_le (by have := HZ2.out; omega) HG4.out.size) HZ5.out
      have hwz := HF.out.size
      unfold Stopd
      rw [← HW5.out]
      refine app_list kev (W := W5) (.tmp 38) (.tmp 40) 34 39 (.agg #[.int .i64 0, .int .i64 0, .int .i64 0, .int .i64 0, .int .u32 0, .int .u32 0, .int .u32 0, .int .u32 0, .int .u32 0, .int .i64 0, .int .u32 0, .int .u32 0, .int .u32 0, .int .i64 0]) 88 rfl rfl Try.underlying34 info_ev rfl (by decide) (by decide) (.slice A3 n3 q3) (lbOf serial evs k) (serE serial k x) [.int .i64 x.kind, .int .i64 x.k, .int .i64 x.steps, .int .i64 x.call, .int .u32 x.a0, .int .u32 x.a1, .int .u32 x.a2, .int .u32 x.a3, .int .u32 x.a4, .int .i64 x.code, .int .u32 x.v0, .int .u32 x.v1, .int .u32 x.v2, .int .i64 (wrap64 (serial + (k : Int)))] (fun i => Nw Nun w i ∧ some i ≠ (Value.slice A4 (k + 1) q4).ownBlock ∧ i ≠ wr.heap.size) (fun _ => False) rfl ?_ rfl rfl (fun _ h => h.elim) (fun i hi => ⟨.inr (by omega), fun e => by have := (HL4.out i e.symm).1; have := HZ5.out; omega, by omega⟩) HYB.out (by rw [lbOf_len]; omega) ?_
      · rw [show W5.heap.size = w4.heap.size by rw [HW5.out]; simp]
        rfl
      intro v2 w6 ho6 hg6
      obtain ⟨A6, q6, rfl, _, _⟩ := Kd.R_reads ho6
      rw [show (lbOf serial evs k ++ [serE serial k x]).length = k + 1 by rw [List.length_append, lbOf_len]; rfl] at ho6 ⊢
      have HO6 := Lib.hid ho6
      have HG6 := Lib.hid hg6
      clear ho6 hg6
      go_wp2
      go_roundw
      case rel =>
        refine ⟨k + 1, by omega, by go_num, HF5.out.grown HG6.out (fun i hi => .inr ((HYB.out.1 i hi).1.elim (fun h => h.elim) id)), ?_, ?_⟩
        · have hxx := hxe.out
          rw [snocG hlt zev, hxx]
          exact R_flat (R_flat_step HXA5.out (fun i hi => HG6.out.block i (Nat.lt_of_lt_of_le (HL4.out i hi).1 HZ5.out) (HL4.out i hi).2.2.1)) (fun i hi => ⟨(HL4.out i hi).2.1, fun e => (HO6.out.1 i e.symm).2.1 hi.symm⟩)
        · have hxx := hxe.out
          rw [lbOf_snoc, hxx]
          exact R_flat HO6.out (fun i hi => ⟨(HO6.out.1 i hi).1, (HO6.out.1 i hi).2.1⟩)
      case measure => simp [intOf]; omega
    · obtain rfl : k = evs.length := by omega
      rw [List.take_length] at hx
      obtain ⟨A2, q2, rfl, hq2, hC2⟩ := Kd.R_reads hx
      obtain ⟨A3, q3, rfl, hq3, hC3⟩ := Kd.R_reads hy
      have hll := lbOf_len serial evs evs.length
      have hlk : ∀ x ∈ lbOf serial evs evs.length, EvOk x := by
        intro x hx
        obtain ⟨i, hi, rfl⟩ := List.mem_map.1 hx
        have hi' := List.mem_range.1 hi
        have := HOK.out (evs.getD i zev) (by rw [getD_at hi']; exact List.getElem_mem _)
        exact ⟨this.a0, this.a1, this.a2, this.a3, this.a4, this.v0, this.v1, this.v2⟩
      have HLK := Lib.hid hlk
      have hC3' := hC3
      rw [hll] at hC3' hq3
      have HC2 := Lib.hid hC2
      have HC3 := Lib.hid hC3
      have HY := Lib.hid hy
      have HLL := Lib.hid hll
      rw [hll]
      have heb := lbOf_bytes serial evs evs.length (Nat.le_refl _)
      rw [List.take_length] at heb
      have HEB := Lib.hid heb
      clear hlk hC2 hC3 hC3' hy hx hf hll heb
      go_wp2_with fail
      refine (digest_calls wr A2 q2 evs HC2.out (by omega) HOK.out).mono ?_
      rintro e w5 ⟨rfl, k5⟩
      have K5 := Lib.hid k5
      clear k5
      go_wp2_with fail
      have hd3 := digest_calls w5 A3 q3 (lbOf serial evs evs.length) (Kd.C_below HC3.out K5.out.below0) (by rw [HLL.out]; omega) HLK.out
      rw [HLL.out, HEB.out] at hd3
      refine hd3.mono ?_
      rintro e w6 ⟨rfl, k6⟩
      have K6 := Lib.hid ((HF.out.quiet K5.out).quiet k6)
      have KK6 := Lib.hid (K5.out.quiet k6)
      clear k6 K5 hd3
      by_cases h1 : which < 0
      · go_wp2
        go_ret
        exact ⟨rfl, K6.out⟩
      by_cases h2 : which < evs.length
      · by_cases h3 : word < 0
        · go_wp2
          go_ret
          exact ⟨rfl, K6.out⟩
        by_cases h4 : 7 < word
        · go_wp2
          go_ret
          exact ⟨rfl, K6.out⟩
        by_cases h5 : mask = 0
        · go_wp2
          go_ret
          exact ⟨rfl, K6.out⟩
        · obtain ⟨i, rfl⟩ : ∃ i : Nat, which = i := ⟨which.toNat, by omega⟩
          obtain ⟨j, rfl⟩ : ∃ j : Nat, word = j := ⟨word.toNat, by omega⟩
          have hi : i < evs.length := by omega
          have hj : j < 8 := by omega
          obtain ⟨g, q, hv, _, hg1, cells, hg2⟩ := Kd.R_form HY.out (by rw [HLL.out]; omega)
          obtain ⟨rfl, rfl⟩ : A3 = some ⟨g, 0, none⟩ ∧ q3 = q := by simpa using hv
          have hb6 := KK6.out.blk hg2 (fun h => h)
          have hfz : ∀ m, w6.frozen? ⟨g, m, none⟩ = false := fun m => blk_frozen hb6 m
          have hC6 : Kd.C kev w6 (some ⟨g, 0, none⟩) (lbOf serial evs evs.length).length (lbOf serial evs evs.length) := Kd.C_below HC3.out KK6.out.below0
          have hil : i < (lbOf serial evs evs.length).length := by rw [HLL.out]; exact hi
          obtain ⟨x, hxd⟩ : ∃ x, x = (lbOf serial evs evs.length).getD i zev := ⟨_, rfl⟩
          obtain ⟨ad, x', he, hx', hcx⟩ := at_ev hC6 i hil
          obtain rfl := Option.some.inj he
          rw [← hxd] at hx'
          obtain rfl : x = x' := hx'.out
          have hcy : ∀ j, j < 8 → w6.cell? ⟨g, i * 14 + wcell j, none⟩ = some (.int .u32 (x.wd j)) := fun j hj => by
            have := hcx (wcell j) _ (setW_cells x j hj 0).2
            rwa [add0] at this
          have HC6 := Lib.hid hC6
          have HXD := Lib.hid hxd
          have HCY := Lib.hid hcy
          have HFZ := Lib.hid hfz
          clear he hcx hcy hfz hxd hC6 hx' hb6 hg2 hv
          have hmb : (mask == 0) = false := by simpa using h5
          have htl := fun j hj => dgs_tail w6 g q3 i evs (lbOf serial evs evs.length) mask HC6.out hil (by rw [HLL.out]; omega) HLK.out HM.out h5 HEB.out j hj
          rw [← HXD.out, HLL.out] at htl
          have HTL := Lib.hid htl
          have hgw : w.heap.size ≤ g := (HY.out.1 g rfl).1.elim (fun h => h.elim) id
          clear htl
          have hjj : j = 0 ∨ j = 1 ∨ j = 2 ∨ j = 3 ∨ j = 4 ∨ j = 5 ∨ j = 6 ∨ j = 7 := by omega
          rcases hjj with rfl | rfl | rfl | rfl | rfl | rfl | rfl | rfl
          · have hc := HCY.out 0 (by decide)
            have hf := HFZ.out (i * 14 + wcell 0)
            have ht := HTL.out 0 (by decide)
            rw [show wcell 0 = 4 from rfl] at hc hf ht
            obtain ⟨y, hy⟩ : ∃ y, y = x.wd 0 := ⟨_, rfl⟩
            rw [← hy] at hc ht
            have HT := Lib.hid ht
            clear hy ht
            go_wp2_with fail
            go_region
            clear hc hf
            go_wp2_with (go_at_call 17; refine HT.out.mono ?_; rintro e w8 ⟨X, rfl, hX, k8⟩)
            go_ret
            exact ⟨rfl, K6.out.trans k8 (fun i h => .inr (by omega))⟩
          · have hc := HCY.out 1 (by decide)
            have hf := HFZ.out (i * 14 + wcell 1)
            have ht := HTL.out 1 (by decide)
            rw [show wcell 1 = 5 from rfl] at hc hf ht
            obtain ⟨y, hy⟩ : ∃ y, y = x.wd 1 := ⟨_, rfl⟩
            rw [← hy] at hc ht
            have HT := Lib.hid ht
            clear hy ht
            go_wp2_with fail
            go_region
            clear hc hf
            go_wp2_with (go_at_call 17; refine HT.out.mono ?_; rintro e w8 ⟨X, rfl, hX, k8⟩)
            go_ret
            exact ⟨rfl, K6.out.trans k8 (fun i h => .inr (by omega))⟩
          · have hc := HCY.out 2 (by decide)
            have hf := HFZ.out (i * 14 + wcell 2)
            have ht := HTL.out 2 (by decide)
            rw [show wcell 2 = 6 from rfl] at hc hf ht
            obtain ⟨y, hy⟩ : ∃ y, y = x.wd 2 := ⟨_, rfl⟩
            rw [← hy] at hc ht
            have HT := Lib.hid ht
            clear hy ht
            go_wp2_with fail
            go_region
            clear hc hf
            go_wp2_with (go_at_call 17; refine HT.out.mono ?_; rintro e w8 ⟨X, rfl, hX, k8⟩)
            go_ret
            exact ⟨rfl, K6.out.trans k8 (fun i h => .inr (by omega))⟩
          · have hc := HCY.out 3 (by decide)
            have hf := HFZ.out (i * 14 + wcell 3)
            have ht := HTL.out 3 (by decide)
            rw [show wcell 3 = 7 from rfl] at hc hf ht
            obtain ⟨y, hy⟩ : ∃ y, y = x.wd 3 := ⟨_, rfl⟩
            rw [← hy] at hc ht
            have HT := Lib.hid ht
            clear hy ht
            go_wp2_with fail
            go_region
            clear hc hf
            go_wp2_with (go_at_call 17; refine HT.out.mono ?_; rintro e w8 ⟨X, rfl, hX, k8⟩)
            go_ret
            exact ⟨rfl, K6.out.trans k8 (fun i h => .inr (by omega))⟩
          · have hc := HCY.out 4 (by decide)
            have hf := HFZ.out (i * 14 + wcell 4)
            have ht := HTL.out 4 (by decide)
            rw [show wcell 4 = 8 from rfl] at hc hf ht
            obtain ⟨y, hy⟩ : ∃ y, y = x.wd 4 := ⟨_, rfl⟩
            rw [← hy] at hc ht
            have HT := Lib.hid ht
            clear hy ht
            go_wp2_with fail
            go_region
            clear hc hf
            go_wp2_with (go_at_call 17; refine HT.out.mono ?_; rintro e w8 ⟨X, rfl, hX, k8⟩)
            go_ret
            exact ⟨rfl, K6.out.trans k8 (fun i h => .inr (by omega))⟩
          · have hc := HCY.out 5 (by decide)
            have hf := HFZ.out (i * 14 + wcell 5)
            have ht := HTL.out 5 (by decide)
            rw [show wcell 5 = 10 from rfl] at hc hf ht
            obtain ⟨y, hy⟩ : ∃ y, y = x.wd 5 := ⟨_, rfl⟩
            rw [← hy] at hc ht
            have HT := Lib.hid ht
            clear hy ht
            go_wp2_with fail
            go_region
            clear hc hf
            go_wp2_with (go_at_call 17; refine HT.out.mono ?_; rintro e w8 ⟨X, rfl, hX, k8⟩)
            go_ret
            exact ⟨rfl, K6.out.trans k8 (fun i h => .inr (by omega))⟩
          · have hc := HCY.out 6 (by decide)
            have hf := HFZ.out (i * 14 + wcell 6)
            have ht := HTL.out 6 (by decide)
            rw [show wcell 6 = 11 from rfl] at hc hf ht
            obtain ⟨y, hy⟩ : ∃ y, y = x.wd 6 := ⟨_, rfl⟩
            rw [← hy] at hc ht
            have HT := Lib.hid ht
            clear hy ht
            go_wp2_with fail
            go_region
            clear hc hf
            go_wp2_with (go_at_call 17; refine HT.out.mono ?_; rintro e w8 ⟨X, rfl, hX, k8⟩)
            go_ret
            exact ⟨rfl, K6.out.trans k8 (fun i h => .inr (by omega))⟩
          · have hc := HCY.out 7 (by decide)
            have hf := HFZ.out (i * 14 + wcell 7)
            have ht := HTL.out 7 (by decide)
            rw [show wcell 7 = 12 from rfl] at hc hf ht
            obtain ⟨y, hy⟩ : ∃ y, y = x.wd 7 := ⟨_, rfl⟩
            rw [← hy] at hc ht
            have HT := Lib.hid ht
            clear hy ht
            go_wp2_with fail
            go_region
            clear hc hf
            go_wp2_with (go_at_call 17; refine HT.out.mono ?_; rintro e w8 ⟨X, rfl, hX, k8⟩)
            go_ret
            exact ⟨rfl, K6.out.trans k8 (fun i h => .inr (by omega))⟩
      · go_wp2
        go_ret
        exact ⟨rfl, K6.out⟩
end Go.Proofs.Ytoebhddgpicegaa
namespace Go.Proofs.Ytoebhddgpicegaa
open Go.RowKit Go.Proofs.YtoebhddgpicegaaW.PrintWords
theorem opens_imp {α β : Type} {P : Program} {t : TypeId} {d : Kd α} {d' : Kd β} {ok : α → Prop} {ok' : β → Prop} {mu : α → Nat} (f : α → β) (hK : ∀ w a cs, d.K w a cs → d'.K w (f a) cs) (hok : ∀ a, ok a → ok' (f a)) (h : Opens P t d ok mu) : Opens P t d' ok' (fun _ => 0) := by
  intro H enc w base spare held fuel cs x hx hw
  obtain ⟨a, ha, hk, _⟩ := h hx hw
  exact ⟨f a, hK w a cs ha, hok a hk, Nat.zero_le _⟩
def ku : Kd Int := Kd.int .u32
def ki : Kd Int := Kd.int .i64
def wfu (n : Int) : Prop := (Lit.int .u32 n).wf = true
def wfi (n : Int) : Prop := (Lit.int .i64 n).wf = true
theorem opens_a5 : Opens Try.prog 36 (Kd.pair ku (Kd.pair ku (Kd.pair ku (Kd.pair ku ku)))) (fun x => wfu x.1 ∧ wfu x.2.1 ∧ wfu x.2.2.1 ∧ wfu x.2.2.2.1 ∧ wfu x.2.2.2.2) (fun _ => 5) := by
  refine opens_array Try.underlying36 (fun cs hcs => ?_) (opens_cons opens_u32 (opens_cons opens_u32 (opens_cons opens_u32 (opens_cons opens_u32 (opens_last opens_u32)))))
  have hc : Try.prog.cellsOf 36 = 5 := by kernel_rfl
  have h1 : Try.prog.cellsOf 35 = 1 := by kernel_rfl
  rw [hc] at hcs
  match cs, hcs with
  | [a, b, c, d, e], _ => simp [h1, List.range_succ]
theorem opens_v3 : Opens Try.prog 37 (Kd.pair ku (Kd.pair ku ku)) (fun x => wfu x.1 ∧ wfu x.2.1 ∧ wfu x.2.2) (fun _ => 3) := by
  refine opens_array Try.underlying37 (fun cs hcs => ?_) (opens_cons opens_u32 (opens_cons opens_u32 (opens_last opens_u32)))
  have hc : Try.prog.cellsOf 37 = 3 := by kernel_rfl
  have h1 : Try.prog.cellsOf 35 = 1 := by kernel_rfl
  rw [hc] at hcs
  match cs, hcs with
  | [a, b, c], _ => simp [h1, List.range_succ]
theorem opens_errno : Opens Try.prog 27 ki wfi (fun _ => 1) := opens_int Try.underlying27
theorem opens_ev : Opens Try.prog 39 kev EvOk (fun _ => 0) := by
  refine opens_imp (d := Kd.pair ki (Kd.pair ki (Kd.pair ki (Kd.pair ki (Kd.pair (Kd.pair ku (Kd.pair ku (Kd.pair ku (Kd.pair ku ku)))) (Kd.pair ki (Kd.pair (Kd.pair ku (Kd.pair ku ku)) ki)))))))
    (fun x => ⟨x.1, x.2.1, x.2.2.1, x.2.2.2.1, x.2.2.2.2.1.1, x.2.2.2.2.1.2.1, x.2.2.2.2.1.2.2.1, x.2.2.2.2.1.2.2.2.1, x.2.2.2.2.1.2.2.2.2, x.2.2.2.2.2.1, x.2.2.2.2.2.2.1.1, x.2.2.2.2.2.2.1.2.1, x.2.2.2.2.2.2.1.2.2, x.2.2.2.2.2.2.2⟩) ?_ ?_
    (opens_struct Try.underlying39 (fun cs hcs => ?_) (opens_cons opens_i64 (opens_cons opens_i64 (opens_cons opens_i64 (opens_cons opens_i64 (opens_cons opens_a5 (opens_cons opens_errno (opens_cons opens_v3 (opens_last opens_i64)))))))))
  · rintro w ⟨x0, x1, x2, x3, ⟨y0, y1, y2, y3, y4⟩, x5, ⟨z0, z1, z2⟩, x7⟩ cs ⟨_, _, rfl, rfl, _, _, rfl, rfl, _, _, rfl, rfl, _, _, rfl, rfl, _, _, rfl, ⟨_, _, rfl, rfl, _, _, rfl, rfl, _, _, rfl, rfl, _, _, rfl, rfl, rfl⟩, _, _, rfl, rfl, _, _, rfl, ⟨_, _, rfl, rfl, _, _, rfl, rfl, rfl⟩, rfl⟩
    rfl
  · rintro x ⟨_, _, _, _, ⟨a0, a1, a2, a3, a4⟩, _, ⟨v0, v1, v2⟩, _⟩
    exact ⟨wf_u32 a0, wf_u32 a1, wf_u32 a2, wf_u32 a3, wf_u32 a4, wf_u32 v0, wf_u32 v1, wf_u32 v2⟩
  · have hc : Try.prog.cellsOf 39 = 14 := by kernel_rfl
    have h1 : Try.prog.cellsOf 3 = 1 := by kernel_rfl
    have h2 : Try.prog.cellsOf 36 = 5 := by kernel_rfl
    have h3 : Try.prog.cellsOf 27 = 1 := by kernel_rfl
    have h4 : Try.prog.cellsOf 37 = 3 := by kernel_rfl
    rw [hc] at hcs
    match cs, hcs with
    | [a, b, c, d, e, f, g, h, i, j, k, l, m, n], _ => simp [cuts, h1, h2, h3, h4]
theorem opens_evs : Opens Try.prog 34 (Kd.slice 39 kev) (fun l => l.length * 88 ≤ reachBytes ∧ ∀ x ∈ l, EvOk x) (fun l => (l.map (fun _ => 0)).sum + 1) :=
  opens_slice Try.underlying34 (by kernel_rfl) (by kernel_rfl) opens_ev
end Go.Proofs.Ytoebhddgpicegaa
namespace Go.Proofs.Ytoebhddgpicegaa.replayDigests
open Go.ChangeShapes Go.WideShapes Go.ChangeAt Go.RowKit
open Go.Proofs.YtoebhddgpicegaaW.PrintWords
theorem own : ownKnob Try.prog.godebug = none := by kernel_rfl
theorem laidOut : laidOutB Try.prog = true := by kernel_rfl
set_option maxRecDepth 100000 in
theorem lifted (os : Os) (started : os.Started) (H : Type) (enc : TypeId × Value → H) :
    ReturnsInHanded {} Try.checked os 6 .any (Rows.replayDigestsSpec.pre6 enc Try.prog Try.f6 Rows.replayDigestsRow.domain false) (Rows.replayDigestsSpec.post enc Try.prog Try.f6 false true false false) := by
  refine returnsInHanded_of_change_sized (C := Try.checked) own started (by kernel_rfl) Try.func6
    (ChangeSpec.witness6 (enc := enc) (C := Try.checked) false ⟨#[], #[.slice none 0 0, .int .i64 0, .int .i64 0, .int .u32 0, .int .i64 0], []⟩ 8 (by kernel_rfl) (by kernel_rfl) (by kernel_rfl) (by kernel_rfl)) ?_
  intro W base args ds gs before hval0 hW hcnd hsz0 _
  have hsz : (DataW.weightsEach Try.prog (Try.f6.params.toList ++ Rows.replayDigestsSpec.plain.varTypes Try.prog) (ds ++ gs)).all (· ≤ reachBytes) = true := hsz0
  have hval : ∀ (j : Nat) t v, Try.f6.params[j]? = some t → args[j]? = some v → Value.okWide Try.prog W .any base t v := hval0
  have hW' := hW
  obtain ⟨p, q, hA0, hV, rfl, hfz, hnd⟩ := hW
  have hA : DataW.TrodAll enc Try.prog W 0 (fun _ => true) true Try.f6.params.toList args.toList ds p := hA0
  rw [Try.params6] at hA hval hsz
  obtain ⟨v0, vs0, d0, ds0, p0, q0, hargs, rfl, rfl, h0, r0⟩ := trodAll_cons hA
  obtain ⟨v1, vs1, d1, ds1, p1, q1, rfl, rfl, rfl, h1, r1⟩ := trodAll_cons r0
  obtain ⟨v2, vs2, d2, ds2, p2, q2, rfl, rfl, rfl, h2, r2⟩ := trodAll_cons r1
  obtain ⟨v3, vs3, d3, ds3, p3, q3, rfl, rfl, rfl, h3, r3⟩ := trodAll_cons r2
  obtain ⟨v4, vs4, d4, ds4, p4, q4, rfl, rfl, rfl, h4, r4⟩ := trodAll_cons r3
  obtain ⟨rfl, rfl, rfl⟩ := trodAll_nil r4
  obtain rfl : args = #[v0, v1, v2, v3, v4] := by cases args; simp_all
  obtain ⟨rfl, rfl⟩ := trodVars_none hV
  obtain ⟨a0, len0, cap0, rfl⟩ := okWide_slice Try.underlying34 (hval 0 34 v0 rfl rfl)
  obtain ⟨a1, rfl, rfl, rfl, w1⟩ := open_int Try.underlying3 (hval 1 3 v1 rfl rfl) h1
  obtain ⟨a2, rfl, rfl, rfl, w2⟩ := open_int Try.underlying3 (hval 2 3 v2 rfl rfl) h2
  obtain ⟨a3, rfl, rfl, rfl, w3⟩ := open_int Try.underlying35 (hval 3 35 v3 rfl rfl) h3
  obtain ⟨a4, rfl, rfl, rfl, w4⟩ := open_int Try.underlying3 (hval 4 3 v4 rfl rfl) h4
  have k0 := h0
  have lt0 : ∀ x ∈ p0, x.block < W.heap.size := by obtain ⟨m, hm⟩ := k0; exact DataW.trod_lt m _ _ _ hm
  have hw : ∀ n ∈ d0.weights Try.prog 34, n ≤ reachBytes := by
    intro n hn
    have := List.all_eq_true.1 hsz n (DataW.weights_mem_each (j := 0) rfl rfl n hn)
    simpa using this
  obtain ⟨m0, hm0⟩ := h0
  obtain ⟨evs, ⟨A, c, hcs, hc, hC⟩, hok, _⟩ := opens_evs hm0 hw
  obtain ⟨rfl, rfl, rfl⟩ : a0 = A ∧ len0 = evs.length ∧ cap0 = c := by simpa [Value.cells] using hcs
  have hlen : evs.length ≤ 1599289640354 := by have := hok.1; have e : reachBytes = 140737488351232 := rfl; omega
  clear hA0 hval0 hsz0 hsz
  refine (dgs_calls W a0 cap0 evs a1 a2 a3 a4 hC hlen hok.2 (wf_u32 w3)).mono fun e W' ⟨he, fr⟩ => ?_
  subst he
  have bel := fr.below0
  exact ⟨_, rfl, _, _, _, [], _, [], hW', trodAll_mk1 (shut_bool Try.underlying4 _), (trodAll_cons_mk (Below.trod laidOut (by kernel_rfl) (of_decide_eq_true (by kernel_rfl)) k0 bel lt0) (trodAll_cons_mk (shut_int Try.underlying3 w1) (trodAll_cons_mk (shut_int Try.underlying3 w2) (trodAll_cons_mk (shut_int Try.underlying35 w3) (trodAll_cons_mk (shut_int Try.underlying3 w4) trodAll_mk0))))), rfl, bel.frame _, fun h => by cases h⟩
theorem over : Rows.replayDigestsRow.holds Try.pinned (OpenSpec.ofChange Rows.replayDigestsSpec) :=
  OpenClaim.holds_of_wide 6 Try.f6 rfl rfl rfl rfl rfl rfl rfl ⟨rfl, rfl, rfl, rfl, rfl⟩ rfl rfl rfl rfl rfl (by kernel_rfl) Try.func6 (by kernel_rfl)
    (of_decide_eq_true (by kernel_rfl)) (by unfold Func.isWrapper; first | (rw [if_pos (by decide +kernel)]; kernel_rfl) | (rw [if_neg (by decide +kernel)]; exact ⟨rfl, rfl⟩))
    (fun os started H enc _ => lifted os started H enc)
end Go.Proofs.Ytoebhddgpicegaa.replayDigests
namespace Go.Proofs.Ytoebhddgpicegaa
theorem replayDigests_holds : Rows.ReplayDigestsSaid := replayDigests.over
#print axioms replayDigests_holds
end Go.Proofs.Ytoebhddgpicegaa
