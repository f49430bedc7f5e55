/- Proved here: the whole statement for amberlaw21.ReplaySums: for every list of events the law returns true and changes nothing of what it was handed. -/
import Derived.Test.YtoebhddgpicegaaZf
import Derived.Test.YtoebhddgpicegaaZg
import Derived.Test.YtoebhddgpicegaaZe
import Derived.Test.YtoebhddgpicegaaZa
import Derived.ChangeKeysEq
import Derived.Test.YtoebhddgpicegaaWEqStruct
import Derived.Test.YtoebhddgpicegaaZc
import Derived.Test.YtoebhddgpicegaaZd
import Derived.Test.YtoebhddgpicegaaRows
import Derived.WalkKit
import Derived.ProofKit
import Derived.OpenShut
import Derived.ShutString
import Derived.ChangeOld
import Derived.Below
import Derived.SizedLaws
namespace Go.Proofs.Ytoebhddgpicegaa
open Go.RowKit Go.Proofs.YtoebhddgpicegaaW.PrintWords
open PReplayApart
theorem lf_zero {c : BitVec 32} (h : lf c = 0#32) : c = 0#32 := by
  have hp : poly.getLsbD 31 = true := by decide
  have h31 : (lf c).getLsbD 31 = c.getLsbD 0 := by
    unfold lf
    rw [BitVec.getLsbD_xor, BitVec.getLsbD_ushiftRight]
    have : c.getLsbD (1 + 31) = false := BitVec.getLsbD_of_ge c 32 (by omega)
    rw [this]
    cases c.getLsbD 0
    · simp
    · simp [hp]
  have h0 : c.getLsbD 0 = false := by rw [← h31, h]; simp
  have e : lf c = c >>> 1 := by
    unfold lf
    rw [h0]
    simp
  rw [e] at h
  apply BitVec.eq_of_getLsbD_eq
  intro i hi
  cases i with
  | zero => rw [h0]; simp
  | succ i =>
    have := congrArg (fun v => v.getLsbD i) h
    simp only [BitVec.getLsbD_ushiftRight] at this
    rw [Nat.add_comm] at this
    rw [this]
    simp
theorem lfn_zero (n : Nat) : ∀ c : BitVec 32, lfn n c = 0#32 → c = 0#32 := by
  induction n with
  | zero => intro c h; exact h
  | succ n ih => intro c h; exact lf_zero (ih _ h)
theorem xor_zero {a b : BitVec 32} (h : a ^^^ b = 0#32) : a = b := by
  have : a ^^^ b ^^^ b = 0#32 ^^^ b := by rw [h]
  rw [BitVec.xor_assoc, BitVec.xor_self] at this
  simpa using this
theorem lfn_inj {n : Nat} {a b : BitVec 32} (h : lfn n a = lfn n b) : a = b := by
  apply xor_zero
  apply lfn_zero n
  rw [lfn_xor, h]
  simp
theorem lfn_add (m : Nat) : ∀ (n : Nat) (s : BitVec 32), lfn m (lfn n s) = lfn (n + m) s := by
  intro n
  induction n with
  | zero => intro s; rw [Nat.zero_add]; rfl
  | succ n ih =>
    intro s
    rw [Nat.succ_add]
    show lfn m (lfn n (lf s)) = lfn (n + m) (lf s)
    exact ih _
theorem upd_inj {l : List Int} : ∀ {a b : BitVec 32}, upd a l = upd b l → a = b := by
  induction l with
  | nil => intro a b h; exact h
  | cons x l ih =>
    intro a b h
    have h1 : stepB a (bw x) = stepB b (bw x) := ih h
    have h2 := lfn_inj h1
    have h3 : a ^^^ bw x ^^^ bw x = b ^^^ bw x ^^^ bw x := by rw [h2]
    rw [BitVec.xor_assoc, BitVec.xor_assoc, BitVec.xor_self] at h3
    simpa using h3
theorem bw_cat {v : Int} (h0 : 0 ≤ v) (h1 : v < 4294967296) : bw v = bw (v % 256) ^^^ (bw (v / 256) <<< 8) := by
  apply BitVec.eq_of_toNat_eq
  obtain ⟨n, rfl⟩ := Int.eq_ofNat_of_zero_le h0
  have e : ∀ m : Nat, m < 4294967296 → (bw (m : Int)).toNat = m := by
    intro m hm
    unfold bw
    rw [BitVec.ofInt_natCast, BitVec.toNat_ofNat]
    omega
  have e1 : ((n : Int) % 256) = ((n % 256 : Nat) : Int) := by omega
  have e2 : ((n : Int) / 256) = ((n / 256 : Nat) : Int) := by omega
  rw [e1, e2, BitVec.toNat_xor, BitVec.toNat_shiftLeft, e n (by omega), e (n % 256) (by omega), e (n / 256) (by omega), Nat.shiftLeft_eq]
  have hm : n / 256 * 2 ^ 8 % 2 ^ 32 = n / 256 * 2 ^ 8 := by omega
  rw [hm]
  have := Nat.two_pow_add_eq_or_of_lt (i := 8) (b := n % 256) (by omega) (n / 256)
  have hx : n % 256 ^^^ n / 256 * 2 ^ 8 = n / 256 * 2 ^ 8 + n % 256 := by
    rw [Nat.xor_comm, Nat.mul_comm, this]
    apply Nat.eq_of_testBit_eq
    intro i
    rw [Nat.testBit_xor, Nat.testBit_or]
    by_cases hi : i < 8
    · have : (2 ^ 8 * (n / 256)).testBit i = false := by rw [Nat.testBit_two_pow_mul]; simp; omega
      rw [this]
      simp
    · have : (n % 256).testBit i = false := Nat.testBit_lt_two_pow (Nat.lt_of_lt_of_le (Nat.mod_lt n (by decide)) (by
        calc 256 = 2 ^ 8 := by decide
          _ ≤ 2 ^ i := Nat.pow_le_pow_right (by decide) (by omega)))
      rw [this]
      simp
  rw [hx]
  omega
theorem lfn8_shift {w : Int} (h0 : 0 ≤ w) (h1 : w < 16777216) : lfn 8 (bw w <<< 8) = bw w := by
  obtain ⟨n, rfl⟩ := Int.eq_ofNat_of_zero_le h0
  have e : (bw (n : Int)).toNat = n := by
    unfold bw
    rw [BitVec.ofInt_natCast, BitVec.toNat_ofNat]
    omega
  have e2 : (bw (n : Int) <<< 8).toNat = n * 256 := by
    rw [BitVec.toNat_shiftLeft, e, Nat.shiftLeft_eq]
    omega
  apply BitVec.eq_of_toNat_eq
  rw [lfn_even 8 _ (by rw [e2]; omega), e2, e]
  omega
/-- What n bytes do to the register. -/
theorem upd_le (n : Nat) : ∀ (s : BitVec 32) (v : Int), n ≤ 4 → 0 ≤ v → v < 256 ^ n → upd s (le n v) = lfn (8 * n) (s ^^^ bw v) := by
  induction n with
  | zero =>
    intro s v _ h0 h1
    obtain rfl : v = 0 := by rw [Int.pow_zero] at h1; omega
    show s = s ^^^ bw 0
    rw [show bw 0 = 0#32 by decide]
    simp
  | succ n ih =>
    intro s v hn h0 h1
    have hv : v < 4294967296 := Int.lt_of_lt_of_le h1 (pow_mono (m := n + 1) (n := 4) hn)
    rw [Int.pow_succ] at h1
    have ih' := ih (stepB s (bw (v % 256))) (v / 256) (by omega) (by omega) (by omega)
    show upd (stepB s (bw (v % 256))) (le n (v / 256)) = _
    have h2 : v / 256 < 16777216 := by omega
    rw [ih', stepB]
    conv => lhs; arg 2; arg 2; rw [← lfn8_shift (w := v / 256) (by omega) h2]
    rw [← lfn_xor, lfn_add, BitVec.xor_assoc, ← bw_cat h0 hv, Nat.mul_succ, Nat.add_comm]
theorem bw_inj {a b : Int} (ha : 0 ≤ a ∧ a < 4294967296) (hb : 0 ≤ b ∧ b < 4294967296) (h : bw a = bw b) : a = b := by
  obtain ⟨n, rfl⟩ := Int.eq_ofNat_of_zero_le ha.1
  obtain ⟨m, rfl⟩ := Int.eq_ofNat_of_zero_le hb.1
  have := congrArg BitVec.toNat h
  unfold bw at this
  rw [BitVec.ofInt_natCast, BitVec.ofInt_natCast, BitVec.toNat_ofNat, BitVec.toNat_ofNat] at this
  omega
/-- Another word, another sum. -/
theorem crc_word {P S : List Int} {a b : Int} (ha : 0 ≤ a ∧ a < 4294967296) (hb : 0 ≤ b ∧ b < 4294967296) (h : crc (P ++ (le 4 a ++ S)) = crc (P ++ (le 4 b ++ S))) : a = b := by
  unfold crc at h
  have h1 := congrArg (fun v => ~~~ v) h
  simp only [BitVec.not_not] at h1
  rw [upd_app, upd_app, upd_app, upd_app] at h1
  have h2 := upd_inj h1
  rw [upd_le 4 _ a (by omega) ha.1 ha.2, upd_le 4 _ b (by omega) hb.1 hb.2] at h2
  have h3 := lfn_inj h2
  refine bw_inj ha hb ?_
  have h4 : ∀ s x y : BitVec 32, s ^^^ x = s ^^^ y → x = y := by
    intro s x y h
    have : s ^^^ (s ^^^ x) = s ^^^ (s ^^^ y) := by rw [h]
    rw [← BitVec.xor_assoc, ← BitVec.xor_assoc, BitVec.xor_self] at this
    simpa using this
  exact h4 _ _ _ h3
end Go.Proofs.Ytoebhddgpicegaa
namespace Go.Proofs.Ytoebhddgpicegaa
open Go.RowKit Go.Proofs.YtoebhddgpicegaaW.PrintWords
set_option linter.unusedSimpArgs false
/-- The event with another serial. -/
def serE (s : Int) (i : Nat) (x : Evt) : Evt := { x with serial := wrap64 (s + i) }
def lbOf (s : Int) (evs : List Evt) (n : Nat) : List Evt := (List.range n).map (fun i => serE s i (evs.getD i zev))
theorem lbOf_snoc (s : Int) (evs : List Evt) (n : Nat) : lbOf s evs (n + 1) = lbOf s evs n ++ [serE s n (evs.getD n zev)] := by unfold lbOf; rw [List.range_succ, List.map_append]; rfl
theorem lbOf_len (s : Int) (evs : List Evt) (n : Nat) : (lbOf s evs n).length = n := by simp [lbOf]
theorem lbOf_bytes (s : Int) (evs : List Evt) : ∀ n, n ≤ evs.length → ebytes (lbOf s evs n) = ebytes (evs.take n) := by
  intro n
  induction n with
  | zero => intro _; rfl
  | succ n ih =>
    intro hn
    rw [lbOf_snoc, ebytes_snoc, ih (by omega), snocG (by omega) zev, ebytes_snoc]
    rfl
theorem lbOf_at (s : Int) (evs : List Evt) {n i : Nat} (h : i < n) : (lbOf s evs n).getD i zev = serE s i (evs.getD i zev) := by
  rw [getD_at (by rw [lbOf_len]; exact h)]
  simp [lbOf]
/-- A flat row of one's own: only its block counts. -/
theorem R_flat {e : Nat} {w : World} {ok ok' : Nat → Prop} {v : Value} {xs : List Evt} (h : kev.R e w 0 ok v xs) (hn : ∀ k, v.ownBlock = some k → ok' k) : kev.R e w 0 ok' v xs :=
  ⟨hn, h.2.imp_ (fun _ _ hp => hp)⟩
theorem R_flat_step {e : Nat} {w w1 : World} {ok : Nat → Prop} {v : Value} {xs : List Evt} (h : kev.R e w 0 ok v xs) (hb : ∀ k, v.ownBlock = some k → w1.heap[k]? = w.heap[k]?) : kev.R e w1 0 ok v xs := by
  have h2 : kev.R e w 0 (fun k => v.ownBlock = some k) v xs := R_flat h (fun _ hk => hk)
  have h3 := Kd.R_move (w1 := w1) h2 (fun k hk => hb k hk)
  exact R_flat h3 h.1
def Evt.setW (x : Evt) (j : Nat) (z : Int) : Evt :=
  match j with
  | 0 => { x with a0 := z }
  | 1 => { x with a1 := z }
  | 2 => { x with a2 := z }
  | 3 => { x with a3 := z }
  | 4 => { x with a4 := z }
  | 5 => { x with v0 := z }
  | 6 => { x with v1 := z }
  | _ => { x with v2 := z }
def Evt.wd (x : Evt) (j : Nat) : Int := (x.as ++ x.vs).getD j 0
def wcell (j : Nat) : Nat := if j < 5 then 4 + j else 5 + j
theorem setW_bytes (x : Evt) (j : Nat) (hj : j < 8) (z : Int) : ∃ P S, x.bytes = P ++ (le 4 (x.wd j) ++ S) ∧ (x.setW j z).bytes = P ++ (le 4 z ++ S) := by
  match j, hj with
  | 0, _ => exact ⟨le 8 x.kind ++ le 8 x.k ++ le 8 x.steps ++ le 8 x.call, _, by simp only [Evt.bytes, List.append_assoc]; rfl, by simp only [Evt.bytes, Evt.setW, List.append_assoc]⟩
  | 1, _ => exact ⟨le 8 x.kind ++ le 8 x.k ++ le 8 x.steps ++ le 8 x.call ++ le 4 x.a0, _, by simp only [Evt.bytes, List.append_assoc]; rfl, by simp only [Evt.bytes, Evt.setW, List.append_assoc]⟩
  | 2, _ => exact ⟨le 8 x.kind ++ le 8 x.k ++ le 8 x.steps ++ le 8 x.call ++ le 4 x.a0 ++ le 4 x.a1, _, by simp only [Evt.bytes, List.append_assoc]; rfl, by simp only [Evt.bytes, Evt.setW, List.append_assoc]⟩
  | 3, _ => exact ⟨le 8 x.kind ++ le 8 x.k ++ le 8 x.steps ++ le 8 x.call ++ le 4 x.a0 ++ le 4 x.a1 ++ le 4 x.a2, _, by simp only [Evt.bytes, List.append_assoc]; rfl, by simp only [Evt.bytes, Evt.setW, List.append_assoc]⟩
  | 4, _ => exact ⟨le 8 x.kind ++ le 8 x.k ++ le 8 x.steps ++ le 8 x.call ++ le 4 x.a0 ++ le 4 x.a1 ++ le 4 x.a2 ++ le 4 x.a3, _, by simp only [Evt.bytes, List.append_assoc]; rfl, by simp only [Evt.bytes, Evt.setW, List.append_assoc]⟩
  | 5, _ => exact ⟨le 8 x.kind ++ le 8 x.k ++ le 8 x.steps ++ le 8 x.call ++ le 4 x.a0 ++ le 4 x.a1 ++ le 4 x.a2 ++ le 4 x.a3 ++ le 4 x.a4 ++ le 8 x.code, _, by simp only [Evt.bytes, List.append_assoc]; rfl, by simp only [Evt.bytes, Evt.setW, List.append_assoc]⟩
  | 6, _ => exact ⟨le 8 x.kind ++ le 8 x.k ++ le 8 x.steps ++ le 8 x.call ++ le 4 x.a0 ++ le 4 x.a1 ++ le 4 x.a2 ++ le 4 x.a3 ++ le 4 x.a4 ++ le 8 x.code ++ le 4 x.v0, _, by simp only [Evt.bytes, List.append_assoc]; rfl, by simp only [Evt.bytes, Evt.setW, List.append_assoc]⟩
  | 7, _ => exact ⟨le 8 x.kind ++ le 8 x.k ++ le 8 x.steps ++ le 8 x.call ++ le 4 x.a0 ++ le 4 x.a1 ++ le 4 x.a2 ++ le 4 x.a3 ++ le 4 x.a4 ++ le 8 x.code ++ le 4 x.v0 ++ le 4 x.v1, [], by simp only [Evt.bytes, List.append_assoc, List.append_nil]; rfl, by simp only [Evt.bytes, Evt.setW, List.append_assoc, List.append_nil]⟩
theorem setW_cells (x : Evt) (j : Nat) (hj : j < 8) (z : Int) : (x.setW j z).cells = x.cells.set (wcell j) (.int .u32 z) ∧ x.cells[wcell j]? = some (.int .u32 (x.wd j)) := by
  match j, hj with
  | 0, _ => exact ⟨rfl, rfl⟩
  | 1, _ => exact ⟨rfl, rfl⟩
  | 2, _ => exact ⟨rfl, rfl⟩
  | 3, _ => exact ⟨rfl, rfl⟩
  | 4, _ => exact ⟨rfl, rfl⟩
  | 5, _ => exact ⟨rfl, rfl⟩
  | 6, _ => exact ⟨rfl, rfl⟩
  | 7, _ => exact ⟨rfl, rfl⟩
theorem wd_ok {x : Evt} (h : EvOk x) (j : Nat) (hj : j < 8) : 0 ≤ x.wd j ∧ x.wd j < 4294967296 := by
  match j, hj with
  | 0, _ => exact h.a0
  | 1, _ => exact h.a1
  | 2, _ => exact h.a2
  | 3, _ => exact h.a3
  | 4, _ => exact h.a4
  | 5, _ => exact h.v0
  | 6, _ => exact h.v1
  | 7, _ => exact h.v2
theorem setW_ok {x : Evt} (h : EvOk x) (j : Nat) (hj : j < 8) {z : Int} (hz : 0 ≤ z ∧ z < 4294967296) : EvOk (x.setW j z) := by
  match j, hj with
  | 0, _ => exact ⟨hz, h.a1, h.a2, h.a3, h.a4, h.v0, h.v1, h.v2⟩
  | 1, _ => exact ⟨h.a0, hz, h.a2, h.a3, h.a4, h.v0, h.v1, h.v2⟩
  | 2, _ => exact ⟨h.a0, h.a1, hz, h.a3, h.a4, h.v0, h.v1, h.v2⟩
  | 3, _ => exact ⟨h.a0, h.a1, h.a2, hz, h.a4, h.v0, h.v1, h.v2⟩
  | 4, _ => exact ⟨h.a0, h.a1, h.a2, h.a3, hz, h.v0, h.v1, h.v2⟩
  | 5, _ => exact ⟨h.a0, h.a1, h.a2, h.a3, h.a4, hz, h.v1, h.v2⟩
  | 6, _ => exact ⟨h.a0, h.a1, h.a2, h.a3, h.a4, h.v0, hz, h.v2⟩
  | 7, _ => exact ⟨h.a0, h.a1, h.a2, h.a3, h.a4, h.v0, h.v1, hz⟩
theorem split_at (l : List Evt) (i : Nat) (h : i < l.length) (x : Evt) : ebytes (l.set i x) = ebytes (l.take i) ++ (x.bytes ++ ebytes (l.drop (i + 1))) := by
  rw [List.set_eq_take_append_cons_drop, if_pos h]
  simp [ebytes]
theorem crc_set (l : List Evt) (i : Nat) (h : i < l.length) (j : Nat) (hj : j < 8) (z : Int) (hz : 0 ≤ z ∧ z < 4294967296) (hw : 0 ≤ (l.getD i zev).wd j ∧ (l.getD i zev).wd j < 4294967296)
    (he : crc (ebytes (l.set i ((l.getD i zev).setW j z))) = crc (ebytes l)) : z = (l.getD i zev).wd j := by
  have e0 : l = l.set i (l.getD i zev) := by rw [getD_at h]; simp
  conv at he => rhs; rw [e0]
  obtain ⟨P, S, h1, h2⟩ := setW_bytes (l.getD i zev) j hj z
  rw [split_at l i h, split_at l i h, h1, h2] at he
  simp only [List.append_assoc] at he
  rw [← List.append_assoc, ← List.append_assoc (ebytes _) P (le 4 ((l.getD i zev).wd j) ++ _)] at he
  exact crc_word hz hw he
theorem add0 (g m : Nat) : (⟨g, 0, none⟩ : Addr).add m = ⟨g, m, none⟩ := by cases m <;> simp [Addr.add]
theorem C_ev_set {w : World} {g : Nat} {l : List Evt} (hC : Kd.C kev w (some ⟨g, 0, none⟩) l.length l) (i : Nat) (hi : i < l.length) (j : Nat) (v : Value) (x : Evt) (hx : x.cells = (l.getD i zev).cells.set j v) (hj : j < 14) :
    Kd.C kev (w.setCell ⟨g, i * 14 + j, none⟩ v) (some ⟨g, 0, none⟩) l.length (l.set i x) := by
  have hcell : ∀ k, k < l.length → ∀ q u, (l.getD k zev).cells[q]? = some u → w.cell? ⟨g, k * 14 + q, none⟩ = some u := by
    intro k hk q u hu
    obtain ⟨ad, y, e, hy, hc⟩ := at_ev hC k hk
    obtain rfl := Option.some.inj e
    rw [hy.out] at hu
    have := hc q u hu
    rwa [add0] at this
  have hcl : ∀ y : Evt, y.cells.length = 14 := fun y => rfl
  refine ⟨by rw [List.length_set], hC.2.1, fun _ => ⟨_, rfl, fun k p hp => ?_⟩⟩
  have hk : k < l.length := by have := (List.getElem?_eq_some_iff.1 hp).1; rwa [List.length_set] at this
  refine ⟨p.cells, rfl, rfl, fun q u hu => ?_⟩
  have hq : q < 14 := (List.getElem?_eq_some_iff.1 hu).1
  show (w.setCell ⟨g, i * 14 + j, none⟩ v).cell? ((⟨g, 0, none⟩ : Addr).add (k * 14 + q)) = some u
  rw [add0]
  by_cases hki : k = i
  · subst hki
    rw [List.getElem?_set_self hi] at hp
    obtain rfl := Option.some.inj hp
    rw [hx] at hu
    by_cases hqj : q = j
    · subst hqj
      rw [List.getElem?_set_self (by rw [hcl]; exact hq)] at hu
      obtain rfl := Option.some.inj hu
      obtain ⟨u0, hu0⟩ : ∃ u0, (l.getD k zev).cells[q]? = some u0 := ⟨_, List.getElem?_eq_getElem (by rw [hcl]; exact hq)⟩
      exact World.cell?_setCell_same' _ _ _ (by rw [hcell k hk q u0 hu0]; rfl)
    · rw [List.getElem?_set_ne (fun e => hqj e.symm)] at hu
      rw [World.cell?_setCell_other _ _ _ _ (fun e => hqj (by have := congrArg Addr.off e; simp at this; omega))]
      exact hcell k hk q u hu
  · rw [List.getElem?_set_ne (fun e => hki e.symm)] at hp
    have hpe : l.getD k zev = p := by rw [getD_at hk]; exact (List.getElem?_eq_some_iff.1 hp).2
    rw [World.cell?_setCell_other _ _ _ _ (fun e => hki (by have := congrArg Addr.off e; simp at this; omega))]
    exact hcell k hk q u (by rw [hpe]; exact hu)
theorem vn_bw {a : Int} (h : 0 ≤ a ∧ a < 4294967296) : vn (bw a) = a := by
  obtain ⟨n, rfl⟩ := Int.eq_ofNat_of_zero_le h.1
  unfold vn bw
  rw [BitVec.ofInt_natCast, BitVec.toNat_ofNat]
  omega
theorem xor_rng {a m : Int} (ha : 0 ≤ a ∧ a < 4294967296) (hm : 0 ≤ m ∧ m < 4294967296) : 0 ≤ Go.bits .xor .u32 a m ∧ Go.bits .xor .u32 a m < 4294967296 := by
  have := vn_xor (bw a) (bw m)
  rw [vn_bw ha, vn_bw hm] at this
  rw [this]
  exact vn_range _
theorem xor_ne {a m : Int} (ha : 0 ≤ a ∧ a < 4294967296) (hm : 0 ≤ m ∧ m < 4294967296) (h0 : m ≠ 0) : Go.bits .xor .u32 a m ≠ a := by
  intro h
  have e := vn_xor (bw a) (bw m)
  rw [vn_bw ha, vn_bw hm, h] at e
  have e2 : bw a = bw a ^^^ bw m := vn_inj (by rw [vn_bw ha]; exact e)
  have e3 : bw a ^^^ bw a = bw a ^^^ (bw a ^^^ bw m) := by rw [← e2]
  rw [← BitVec.xor_assoc, BitVec.xor_self] at e3
  have e4 : bw m = 0#32 := by simpa using e3.symm
  have := vn_bw hm
  rw [e4] at this
  exact h0 (by rw [← this]; rfl)
theorem dgs_tail (w6 : World) (g q i : Nat) (evs lb : List Evt) (mask : Int) (hC : Kd.C kev w6 (some ⟨g, 0, none⟩) lb.length lb) (hi : i < lb.length) (hl : lb.length ≤ 1599289640401) (hok : ∀ x ∈ lb, EvOk x) (hm : 0 ≤ mask ∧ mask < 4294967296) (h0 : mask ≠ 0)
    (he : ebytes lb = ebytes evs) (j : Nat) (hj : j < 8) :
    Calls Try.prog 17 #[.slice (some ⟨g, 0, none⟩) lb.length q] (w6.setCell ⟨g, i * 14 + wcell j, none⟩ (.int .u32 (Go.bits .xor .u32 ((lb.getD i zev).wd j) mask))).drew fun e w' => ∃ X, e = .returned (.int .u32 X) ∧ (X != vn (crc (ebytes evs))) = true ∧ Frm (fun k => k = g) w6 w' := by
  have hx : EvOk (lb.getD i zev) := hok _ (by rw [getD_at hi]; exact List.getElem_mem _)
  have hw := wd_ok hx j hj
  have hz := xor_rng hw hm
  have hwc : wcell j < 14 := by unfold wcell; split <;> omega
  have hC2 := Kd.C_drew (C_ev_set hC i hi (wcell j) (.int .u32 (Go.bits .xor .u32 ((lb.getD i zev).wd j) mask)) ((lb.getD i zev).setW j (Go.bits .xor .u32 ((lb.getD i zev).wd j) mask)) (setW_cells _ j hj _).1 hwc)
  have hll : (lb.set i ((lb.getD i zev).setW j (Go.bits .xor .u32 ((lb.getD i zev).wd j) mask))).length = lb.length := List.length_set
  rw [← hll] at hC2 ⊢
  refine (digest_calls _ (some ⟨g, 0, none⟩) q _ hC2 (by rw [hll]; exact hl) (fun x hx2 => ?_)).mono ?_
  · rcases List.mem_or_eq_of_mem_set hx2 with h | rfl
    · exact hok x h
    · exact setW_ok hx j hj hz
  · rintro e w' ⟨rfl, hf⟩
    refine ⟨_, rfl, ?_, ((((Frm.refl (fun k => k = g) w6).set (p := ⟨g, i * 14 + wcell j, none⟩) (.inl rfl) _).drew).quiet hf)⟩
    rw [bne_iff_ne]
    intro h
    have h2 := vn_inj h
    rw [← he] at h2
    exact xor_ne hw hm h0 (crc_set lb i hi j hj _ hz hw h2)
end Go.Proofs.Ytoebhddgpicegaa
namespace Go.Proofs.Ytoebhddgpicegaa
open Go.RowKit Go.Proofs.YtoebhddgpicegaaW.PrintWords
theorem opens_imp {α β : Type} {P : Program} {t : TypeId} {d : Kd α} {d' : Kd β} {ok : α → Prop} {ok' : β → Prop} {mu : α → Nat} (f : α → β) (hK : ∀ w a cs, d.K w a cs → d'.K w (f a) cs) (hok : ∀ a, ok a → ok' (f a)) (h : Opens P t d ok mu) : Opens P t d' ok' (fun _ => 0) := by
  intro H enc w base spare held fuel cs x hx hw
  obtain ⟨a, ha, hk, _⟩ := h hx hw
  exact ⟨f a, hK w a cs ha, hok a hk, Nat.zero_le _⟩
def ku : Kd Int := Kd.int .u32
def ki : Kd Int := Kd.int .i64
def wfu (n : Int) : Prop := (Lit.int .u32 n).wf = true
def wfi (n : Int) : Prop := (Lit.int .i64 n).wf = true
theorem opens_a5 : Opens Try.prog 36 (Kd.pair ku (Kd.pair ku (Kd.pair ku (Kd.pair ku ku)))) (fun x => wfu x.1 ∧ wfu x.2.1 ∧ wfu x.2.2.1 ∧ wfu x.2.2.2.1 ∧ wfu x.2.2.2.2) (fun _ => 5) := by
  refine opens_array Try.underlying36 (fun cs hcs => ?_) (opens_cons opens_u32 (opens_cons opens_u32 (opens_cons opens_u32 (opens_cons opens_u32 (opens_last opens_u32)))))
  have hc : Try.prog.cellsOf 36 = 5 := by kernel_rfl
  have h1 : Try.prog.cellsOf 35 = 1 := by kernel_rfl
  rw [hc] at hcs
  match cs, hcs with
  | [a, b, c, d, e], _ => simp [h1, List.range_succ]
theorem opens_v3 : Opens Try.prog 37 (Kd.pair ku (Kd.pair ku ku)) (fun x => wfu x.1 ∧ wfu x.2.1 ∧ wfu x.2.2) (fun _ => 3) := by
  refine opens_array Try.underlying37 (fun cs hcs => ?_) (opens_cons opens_u32 (opens_cons opens_u32 (opens_last opens_u32)))
  have hc : Try.prog.cellsOf 37 = 3 := by kernel_rfl
  have h1 : Try.prog.cellsOf 35 = 1 := by kernel_rfl
  rw [hc] at hcs
  match cs, hcs with
  | [a, b, c], _ => simp [h1, List.range_succ]
theorem opens_errno : Opens Try.prog 27 ki wfi (fun _ => 1) := opens_int Try.underlying27
theorem opens_ev : Opens Try.prog 39 kev EvOk (fun _ => 0) := by
  refine opens_imp (d := Kd.pair ki (Kd.pair ki (Kd.pair ki (Kd.pair ki (Kd.pair (Kd.pair ku (Kd.pair ku (Kd.pair ku (Kd.pair ku ku)))) (Kd.pair ki (Kd.pair (Kd.pair ku (Kd.pair ku ku)) ki)))))))
    (fun x => ⟨x.1, x.2.1, x.2.2.1, x.2.2.2.1, x.2.2.2.2.1.1, x.2.2.2.2.1.2.1, x.2.2.2.2.1.2.2.1, x.2.2.2.2.1.2.2.2.1, x.2.2.2.2.1.2.2.2.2, x.2.2.2.2.2.1, x.2.2.2.2.2.2.1.1, x.2.2.2.2.2.2.1.2.1, x.2.2.2.2.2.2.1.2.2, x.2.2.2.2.2.2.2⟩) ?_ ?_
    (opens_struct Try.underlying39 (fun cs hcs => ?_) (opens_cons opens_i64 (opens_cons opens_i64 (opens_cons opens_i64 (opens_cons opens_i64 (opens_cons opens_a5 (opens_cons opens_errno (opens_cons opens_v3 (opens_last opens_i64)))))))))
  · rintro w ⟨x0, x1, x2, x3, ⟨y0, y1, y2, y3, y4⟩, x5, ⟨z0, z1, z2⟩, x7⟩ cs ⟨_, _, rfl, rfl, _, _, rfl, rfl, _, _, rfl, rfl, _, _, rfl, rfl, _, _, rfl, ⟨_, _, rfl, rfl, _, _, rfl, rfl, _, _, rfl, rfl, _, _, rfl, rfl, rfl⟩, _, _, rfl, rfl, _, _, rfl, ⟨_, _, rfl, rfl, _, _, rfl, rfl, rfl⟩, rfl⟩
    rfl
  · rintro x ⟨_, _, _, _, ⟨a0, a1, a2, a3, a4⟩, _, ⟨v0, v1, v2⟩, _⟩
    exact ⟨wf_u32 a0, wf_u32 a1, wf_u32 a2, wf_u32 a3, wf_u32 a4, wf_u32 v0, wf_u32 v1, wf_u32 v2⟩
  · have hc : Try.prog.cellsOf 39 = 14 := by kernel_rfl
    have h1 : Try.prog.cellsOf 3 = 1 := by kernel_rfl
    have h2 : Try.prog.cellsOf 36 = 5 := by kernel_rfl
    have h3 : Try.prog.cellsOf 27 = 1 := by kernel_rfl
    have h4 : Try.prog.cellsOf 37 = 3 := by kernel_rfl
    rw [hc] at hcs
    match cs, hcs with
    | [a, b, c, d, e, f, g, h, i, j, k, l, m, n], _ => simp [cuts, h1, h2, h3, h4]
theorem opens_evs : Opens Try.prog 34 (Kd.slice 39 kev) (fun l => l.length * 88 ≤ reachBytes ∧ ∀ x ∈ l, EvOk x) (fun l => (l.map (fun _ => 0)).sum + 1) :=
  opens_slice Try.underlying34 (by kernel_rfl) (by kernel_rfl) opens_ev
end Go.Proofs.Ytoebhddgpicegaa
namespace Go.Proofs.Ytoebhddgpicegaa
open Go.RowKit Go.Proofs.YtoebhddgpicegaaW.PrintWords
theorem R_flatB {q : IntKind} {t e : Nat} {w : World} {ok ok' : Nat → Prop} {v : Value} {xs : List Int} (h : (Kd.int q).R t w e ok v xs) (hn : ∀ k, v.ownBlock = some k → ok' k) : (Kd.int q).R t w e ok' v xs :=
  ⟨hn, h.2.imp_ (fun _ _ hp => hp)⟩
theorem R_flatB_step {q : IntKind} {t e : Nat} {w w1 : World} {ok : Nat → Prop} {v : Value} {xs : List Int} (h : (Kd.int q).R t w e ok v xs) (hb : ∀ k, v.ownBlock = some k → w1.heap[k]? = w.heap[k]?) : (Kd.int q).R t w1 e ok v xs := by
  have h2 : (Kd.int q).R t w e (fun k => v.ownBlock = some k) v xs := R_flatB h (fun _ hk => hk)
  have h3 := Kd.R_move (w1 := w1) h2 (fun k hk => hb k hk)
  exact R_flatB h3 h.1
def Evt.first (x : Evt) : List Int := le 8 x.kind ++ le 8 x.k ++ le 8 x.steps ++ le 8 x.call
def les (n : Nat) (l : List Int) : List Int := (l.map (le n)).flatten
theorem les_snoc (n : Nat) (l : List Int) (v : Int) : les n (l ++ [v]) = les n l ++ le n v := by simp [les]
theorem les_len (n : Nat) (l : List Int) : (les n l).length = n * l.length := by
  induction l with
  | nil => rfl
  | cons v l ih => simp only [les, List.map_cons, List.flatten_cons, List.length_append, le_len, List.length_cons] at ih ⊢; rw [ih, Nat.mul_succ]; omega
theorem Evt.parts (x : Evt) : x.bytes = x.first ++ les 4 x.as ++ le 8 x.code ++ les 4 x.vs := by
  simp [Evt.bytes, Evt.first, les, Evt.as, Evt.vs]
theorem Evt.first_len (x : Evt) : x.first.length = 32 := by simp [Evt.first, le_len]
/-- A row of bytes of one's own, in S, since w0. -/
structure RowS (S : Nat → Prop) (w0 wc : World) (v : Value) (l : List Int) : Prop where
  own : (Kd.int .u8).R 5 wc 0 S v l
  frm : Frm S w0 wc
theorem rput_step {S : Nat → Prop} {w0 wc : World} {B : Option Addr} {m q : Nat} {l : List Int} (h : RowS S w0 wc (.slice B m q) l) (hS : ∀ k, w0.heap.size ≤ k → S k) (v : Int) (n : Nat) (hn : n ≤ 8) (hl : l.length + 8 ≤ 140737488355328) :
    Calls Try.prog 40 #[.slice B m q, .int .i64 v, .int .i64 n] wc fun e w' => ∃ B' m' q', e = .returned (.slice B' m' q') ∧ m' = (l ++ le n v).length ∧ RowS S w0 w' (.slice B' m' q') (l ++ le n v) := by
  refine (rput_calls wc S (fun k hk => hS k (Nat.le_trans h.frm.size hk)) _ l v n hn hl h.own).mono ?_
  rintro e w' ⟨u', rfl, ho, hf⟩
  obtain ⟨B', q', rfl, _, _⟩ := Kd.R_reads ho
  exact ⟨B', _, q', rfl, rfl, ho, h.frm.trans hf (fun i hi => .inl hi)⟩
set_option maxHeartbeats 4000000 in
set_option maxRecDepth 100000 in
theorem rdigest_calls (w : World) (A : Option Addr) (c : Nat) (evs : List Evt) (hr : Kd.C kev w A evs.length evs) (hl : evs.length ≤ 1599289640401) (hok : ∀ x ∈ evs, EvOk x) :
    Calls Try.prog 18 #[.slice A evs.length c] w fun e w' => e = .returned (.int .u32 (vn (crc (ebytes evs)))) ∧ Frm Nun w w' := by
  have HR := Lib.hid hr
  have HOKS := Lib.hid hok
  clear hr hok
  go_enter Try.func18, Try.ntmps18
  go_wp2
  go_loopw [3, 4] (fun v i wr => ∃ k : Nat, k ≤ evs.length ∧ i = .int .i64 k ∧ (Kd.int .u8).R 5 wr 0 (Nw Nun w) v (ebytes (evs.take k)) ∧ Frm Nun w wr) (fun _ i _ => evs.length - (intOf i).toNat)
  case atStart => exact ⟨0, Nat.zero_le _, rfl, Kd.R_nil _ _ _ _ _, Frm.refl _ _⟩
  case round =>
    obtain ⟨k, hk, rfl, ho, hf⟩ := hrel
    obtain ⟨wo, hwo⟩ : ∃ u, u = wr := ⟨_, rfl⟩
    subst hwo
    obtain ⟨B0, q0, rfl, _, _⟩ := Kd.R_reads ho
    obtain ⟨l0, hl0⟩ : ∃ l, l = ebytes (evs.take k) := ⟨_, rfl⟩
    have hlen0 : l0.length = 72 * k := by rw [hl0, ebytes_len, List.length_take]; congr 1; omega
    rw [← hl0] at ho ⊢
    obtain ⟨n0, hn0⟩ : ∃ n, n = l0.length := ⟨_, rfl⟩
    rw [← hn0] at ho ⊢
    have HO := Lib.hid ho
    have HF1 := Lib.hid hf
    have HL0 := Lib.hid hlen0
    have HN0 := Lib.hid hn0
    have HLE := Lib.hid hl0
    clear ho hf hn0 hlen0 hl0
    by_cases hlt : k < evs.length
    · obtain ⟨ad, x, rfl, hx, hc⟩ := at_ev' HR.out k hlt
      have hx' : EvOk x := HOKS.out x (by rw [← hx.out, getD_at hlt]; exact List.getElem_mem _)
      have HOK := Lib.hid hx'
      have HC := Lib.hid (hc.frm HF1.out (fun h => h))
      clear hx' hc
      obtain ⟨c0, c1, c2, c3, c4, c5, c6, c7, c8, c9, c10, c11, c12, c13⟩ := HC.out
      go_wp2_with fail
      clear c0 c1 c2 c3 c4 c5 c6 c7 c8 c9 c10 c11 c12 c13 HC
      obtain ⟨W2, hW2⟩ : ∃ W2, W2 = wo.alloc (.cells #[.int .i64 x.kind, .int .i64 x.k, .int .i64 x.steps, .int .i64 x.call, .int .u32 x.a0, .int .u32 x.a1, .int .u32 x.a2, .int .u32 x.a3, .int .u32 x.a4, .int .i64 x.code, .int .u32 x.v0, .int .u32 x.v1, .int .u32 x.v2, .int .i64 x.serial] 39) := ⟨_, rfl⟩
      have hb2 : EvBox W2 wo.heap.size x := by rw [hW2]; exact heap_alloc_new wo _
      have hf2 : Frm Nun wo W2 := by rw [hW2]; exact (Frm.refl _ _).alloc _
      have hz2 : W2.heap.size = wo.heap.size + 1 := by rw [hW2]; simp
      simp only [← hW2]
      clear hW2
      obtain ⟨b, hb⟩ : ∃ b, b = wo.heap.size := ⟨_, rfl⟩
      obtain ⟨S, hS⟩ : ∃ S : Nat → Prop, S = fun i => Nw Nun w i ∧ i ≠ b := ⟨_, rfl⟩
      have hSn : ∀ i, S i ↔ Nw Nun w i ∧ i ≠ b := fun i => by rw [hS]
      have hSg : ∀ i, W2.heap.size ≤ i → S i := fun i hi => (hSn i).2 ⟨.inr (by have := HF1.out.size; omega), by omega⟩
      have hnb : ¬ S b := fun h => ((hSn b).1 h).2 rfl
      have hrs : RowS S W2 W2 (.slice B0 n0 q0) l0 :=
        ⟨R_flatB_step (R_flatB HO.out (fun i hi => (hSn i).2 ⟨HO.out.1 i hi, by have := Kd.R_lt HO.out i hi; omega⟩)) (fun i hi => hf2.block i (Kd.R_lt HO.out i hi) (fun h => h)), Frm.refl _ _⟩
      rw [← hb] at hb2 ⊢
      have HB2 := Lib.hid hb2
      have HSN := Lib.hid hSn
      have HS := Lib.hid hSg
      have HNB := Lib.hid hnb
      have HRS := Lib.hid hrs
      have HF2 := Lib.hid (HF1.out.trans hf2 (fun _ h => h.elim))
      have HZ2 := Lib.hid hz2
      have HB := Lib.hid hb
      clear hb2 hSn hS hSg hnb hrs hf2 hz2 hb
      have hlm : l0.length + 100 ≤ 140737488355328 := by have := HL0.out; omega
      have HLM := Lib.hid hlm
      clear hlm
      refine (rput_step HRS.out HS.out x.kind 8 (by omega) (by have := HLM.out; omega)).mono ?_
      rintro e w1 ⟨B1, m1, q1, rfl, hm1, hrs1⟩
      obtain ⟨_, d1, _⟩ := (HB2.out.frm hrs1.frm HNB.out).cells
      have HRS1 := Lib.hid hrs1
      have HM1 := Lib.hid hm1
      clear hrs1 hm1 HRS
      go_wp2_with fail
      refine (rput_step HRS1.out HS.out x.k 8 (by omega) (by have := HLM.out; rw [List.length_append, le_len]; omega)).mono ?_
      rintro e w2 ⟨B2, m2, q2, rfl, hm2, hrs2⟩
      obtain ⟨_, _, d2, _⟩ := (HB2.out.frm hrs2.frm HNB.out).cells
      have HRS2 := Lib.hid hrs2
      have HM2 := Lib.hid hm2
      clear hrs2 hm2 HRS1 HM1 d1
      go_wp2_with fail
      refine (rput_step HRS2.out HS.out x.steps 8 (by omega) (by have := HLM.out; simp only [List.length_append, le_len]; omega)).mono ?_
      rintro e w3 ⟨B3, m3, q3, rfl, hm3, hrs3⟩
      obtain ⟨_, _, _, d3, _⟩ := (HB2.out.frm hrs3.frm HNB.out).cells
      have HRS3 := Lib.hid hrs3
      clear hrs3 hm3 HRS2 HM2 d2
      go_wp2_with fail
      refine (rput_step HRS3.out HS.out x.call 8 (by omega) (by have := HLM.out; simp only [List.length_append, le_len]; omega)).mono ?_
      rintro e w4 ⟨B4, m4, q4, rfl, hm4, hrs4⟩
      rw [show l0 ++ le 8 x.kind ++ le 8 x.k ++ le 8 x.steps ++ le 8 x.call = l0 ++ x.first by simp [Evt.first]] at hrs4
      have HRS4 := Lib.hid hrs4
      clear hrs4 hm4 HRS3 d3
      go_wp2
      go_loopw [3, 6] (fun v i wr => ∃ j m : Nat, ∃ B q, j ≤ 5 ∧ i = .int .i64 j ∧ v = .slice B m q ∧ RowS S W2 wr (.slice B m q) (l0 ++ x.first ++ les 4 (x.as.take j))) (fun _ i _ => 5 - (intOf i).toNat)
      case atStart => exact ⟨0, m4, B4, q4, by omega, rfl, rfl, by rw [List.take_zero, show les 4 [] = [] from rfl, List.append_nil]; exact HRS4.out⟩
      case round =>
        obtain ⟨j, m5, B5, q5, hj, rfl, rfl, hrs⟩ := hrel
        have hb5 := HB2.out.frm hrs.frm HNB.out
        have HRS := Lib.hid hrs
        clear hrs HRS4
        by_cases hlt5 : j < 5
        · have hyr := HOK.out.as j hlt5
          obtain ⟨y, hy⟩ : ∃ y, y = x.as.getD j 0 := ⟨_, rfl⟩
          have hc : wr.cell? ⟨b, 4 + j, none⟩ = some (.int .u32 y) := by
            rw [hy]
            refine (blk_cell hb5 (4 + j)).trans ?_
            match j, hlt5 with
            | 0, _ => rfl
            | 1, _ => rfl
            | 2, _ => rfl
            | 3, _ => rfl
            | 4, _ => rfl
          rw [← hy] at hyr
          have HY := Lib.hid hy
          clear hy hb5
          have hwy : wrap64 y = y := by unfold wrap64; omega
          go_wp2_with fail
          try rw [hwy]
          clear hwy
          refine (rput_step HRS.out HS.out y 4 (by omega) (by have := HLM.out; simp only [List.length_append, les_len, Evt.first_len, List.length_take]; omega)).mono ?_
          rintro e w6 ⟨B6, m6, q6, rfl, hm6, hrs6⟩
          have HRS6 := Lib.hid hrs6
          clear hrs6 hm6 hc
          go_wp2
          go_roundw
          case rel =>
            refine ⟨j + 1, m6, B6, q6, by omega, by go_num, rfl, ?_⟩
            have := HRS6.out
            rw [take_snoc (show j < x.as.length from hlt5), les_snoc, ← HY.out, ← List.append_assoc]
            exact this
          case measure => simp [intOf]; omega
        · obtain rfl : j = 5 := by omega
          obtain ⟨wp, hwp⟩ : ∃ u, u = wr := ⟨_, rfl⟩
          subst hwp
          obtain ⟨_, _, _, _, _, _, _, _, _, d9, _⟩ := hb5.cells
          clear hb5
          go_wp2_with fail
          clear d9
          refine (rput_step HRS.out HS.out x.code 8 (by omega) (by have := HLM.out; simp only [List.length_append, les_len, Evt.first_len, List.length_take]; omega)).mono ?_
          rintro e w6 ⟨B6, m6, q6, rfl, hm6, hrs6⟩
          rw [show x.as.take 5 = x.as from rfl] at hrs6
          have HRS6 := Lib.hid hrs6
          clear hrs6 hm6 HRS
          go_wp2
          go_loopw [3, 7] (fun v i wr => ∃ j m : Nat, ∃ B q, j ≤ 3 ∧ i = .int .i64 j ∧ v = .slice B m q ∧ RowS S W2 wr (.slice B m q) (l0 ++ x.first ++ les 4 x.as ++ le 8 x.code ++ les 4 (x.vs.take j))) (fun _ i _ => 3 - (intOf i).toNat)
          case atStart => exact ⟨0, m6, B6, q6, by omega, rfl, rfl, by rw [List.take_zero, show les 4 [] = [] from rfl, List.append_nil]; exact HRS6.out⟩
          case round =>
            obtain ⟨j, m5, B5, q5, hj, rfl, rfl, hrs⟩ := hrel
            have hb5 := HB2.out.frm hrs.frm HNB.out
            have HRS := Lib.hid hrs
            clear hrs HRS6
            by_cases hlt5 : j < 3
            · have hyr := HOK.out.vs j hlt5
              obtain ⟨y, hy⟩ : ∃ y, y = x.vs.getD j 0 := ⟨_, rfl⟩
              have hc : wr.cell? ⟨b, 10 + j, none⟩ = some (.int .u32 y) := by
                rw [hy]
                refine (blk_cell hb5 (10 + j)).trans ?_
                match j, hlt5 with
                | 0, _ => rfl
                | 1, _ => rfl
                | 2, _ => rfl
              rw [← hy] at hyr
              have HY := Lib.hid hy
              clear hy hb5
              have hwy : wrap64 y = y := by unfold wrap64; omega
              go_wp2_with fail
              try rw [hwy]
              clear hwy
              refine (rput_step HRS.out HS.out y 4 (by omega) (by have := HLM.out; simp only [List.length_append, les_len, le_len, Evt.first_len, List.length_take]; have : x.as.length = 5 := rfl; omega)).mono ?_
              rintro e w6 ⟨B6, m6, q6, rfl, hm6, hrs6⟩
              have HRS6 := Lib.hid hrs6
              clear hrs6 hm6 hc
              go_wp2
              go_roundw
              case rel =>
                refine ⟨j + 1, m6, B6, q6, by omega, by go_num, rfl, ?_⟩
                have := HRS6.out
                rw [take_snoc (show j < x.vs.length from hlt5), les_snoc, ← HY.out, ← List.append_assoc]
                exact this
              case measure => simp [intOf]; omega
            · obtain rfl : j = 3 := by omega
              go_wp2
              go_roundw
              case rel =>
                refine ⟨k + 1, by omega, by go_num, ?_, ?_⟩
                · have := HRS.out.own
                  rw [show x.vs.take 3 = x.vs from rfl] at this
                  rw [snocG hlt zev, ebytes_snoc, hx.out, Evt.parts, ← HLE.out]
                  simp only [← List.append_assoc]
                  exact R_flatB this (fun i hi => ((HSN.out i).1 (this.1 i hi)).1)
                · exact HF2.out.trans HRS.out.frm (fun i hi => ((HSN.out i).1 hi).1)
              case measure => simp [intOf]; omega
    · obtain rfl : k = evs.length := by omega
      rw [List.take_length] at HLE
      have hb := ebytes_byt evs
      rw [← HLE.out] at hb
      have hc := (Kd.R_reads HO.out)
      obtain ⟨A', q', he, _, hC⟩ := hc
      obtain ⟨rfl, hnn, rfl⟩ : B0 = A' ∧ n0 = l0.length ∧ q0 = q' := by simpa using he
      clear hnn
      have HC := Lib.hid hC
      clear he hC
      have HNN := Lib.hid (show n0 = l0.length from HN0.out)
      go_wp2_with fail
      have hsum := rsum_calls B0 q0 l0 hb wo HC.out (by have := HL0.out; omega)
      rw [← HN0.out] at hsum
      refine hsum.mono ?_
      rintro e w5 ⟨rfl, rfl⟩
      go_wp2
      go_ret
      exact ⟨by rw [HLE.out]; rfl, HF1.out⟩
end Go.Proofs.Ytoebhddgpicegaa
namespace Go.Proofs.Ytoebhddgpicegaa
open Go.RowKit Go.Proofs.YtoebhddgpicegaaW.PrintWords
theorem eqA5 (d : Nat) (w : World) (a b c e f : Int) : (Op.equalIn (d + 2) 36 (.agg #[.int .u32 a, .int .u32 b, .int .u32 c, .int .u32 e, .int .u32 f]) (.agg #[.int .u32 a, .int .u32 b, .int .u32 c, .int .u32 e, .int .u32 f])).run Try.prog w = .ok true w := by
  obtain ⟨i, hi⟩ : ∃ i, Try.prog.info? 35 = some i := ⟨_, rfl⟩
  rw [run_equalIn_array w (d + 1) _ _ Try.underlying36 hi]
  have hc : Try.prog.cellsOf 35 = 1 := by kernel_rfl
  rw [hc]
  rw [show List.range 5 = [0, 1, 2, 3, 4] from rfl]
  simp only [Op.eqItems, Sem.run_bind]
  go_simp
theorem eqA3 (d : Nat) (w : World) (a b c : Int) : (Op.equalIn (d + 2) 37 (.agg #[.int .u32 a, .int .u32 b, .int .u32 c]) (.agg #[.int .u32 a, .int .u32 b, .int .u32 c])).run Try.prog w = .ok true w := by
  obtain ⟨i, hi⟩ : ∃ i, Try.prog.info? 35 = some i := ⟨_, rfl⟩
  rw [run_equalIn_array w (d + 1) _ _ Try.underlying37 hi]
  have hc : Try.prog.cellsOf 35 = 1 := by kernel_rfl
  rw [hc]
  rw [show List.range 3 = [0, 1, 2] from rfl]
  simp only [Op.eqItems, Sem.run_bind]
  go_simp
theorem eqEv (d : Nat) (w : World) (a b c e f0 f1 f2 f3 f4 g h0 h1 h2 k : Int) :
    (Op.equalIn (d + 3) 39 (.agg #[.int .i64 a, .int .i64 b, .int .i64 c, .int .i64 e, .int .u32 f0, .int .u32 f1, .int .u32 f2, .int .u32 f3, .int .u32 f4, .int .i64 g, .int .u32 h0, .int .u32 h1, .int .u32 h2, .int .i64 k]) (.agg #[.int .i64 a, .int .i64 b, .int .i64 c, .int .i64 e, .int .u32 f0, .int .u32 f1, .int .u32 f2, .int .u32 f3, .int .u32 f4, .int .i64 g, .int .u32 h0, .int .u32 h1, .int .u32 h2, .int .i64 k])).run Try.prog w = .ok true w := by
  refine eqA_of Try.underlying39 (by kernel_rfl) ?_
  refine (eqf_cons (r := true) (s := true) (by rfl) (by go_simp; rfl) (by go_simp; rfl) (by go_simp) ?_)
  refine (eqf_cons (r := true) (s := true) (by rfl) (by go_simp; rfl) (by go_simp; rfl) (by go_simp) ?_)
  refine (eqf_cons (r := true) (s := true) (by rfl) (by go_simp; rfl) (by go_simp; rfl) (by go_simp) ?_)
  refine (eqf_cons (r := true) (s := true) (by rfl) (by go_simp; rfl) (by go_simp; rfl) (by go_simp) ?_)
  refine (eqf_cons (r := true) (s := true) (a := .agg #[.int .u32 f0, .int .u32 f1, .int .u32 f2, .int .u32 f3, .int .u32 f4]) (b := .agg #[.int .u32 f0, .int .u32 f1, .int .u32 f2, .int .u32 f3, .int .u32 f4]) (by rfl) (by go_simp) (by go_simp) (eqA5 _ _ _ _ _ _ _) ?_)
  refine (eqf_cons (r := true) (s := true) (by rfl) (by go_simp; rfl) (by go_simp; rfl) (by go_simp) ?_)
  refine (eqf_cons (r := true) (s := true) (a := .agg #[.int .u32 h0, .int .u32 h1, .int .u32 h2]) (b := .agg #[.int .u32 h0, .int .u32 h1, .int .u32 h2]) (by rfl) (by go_simp) (by go_simp) (eqA3 _ _ _ _ _) ?_)
  exact eqf_last (by rfl) (by go_simp; rfl) (by go_simp; rfl) (by go_simp)
end Go.Proofs.Ytoebhddgpicegaa
namespace Go.Proofs.Ytoebhddgpicegaa
open Go.RowKit Go.Proofs.YtoebhddgpicegaaW.PrintWords
attribute [local go_sem high] eqEv
set_option maxHeartbeats 4000000 in
set_option maxRecDepth 100000 in
theorem sevs_calls (w : World) (A B : Option Addr) (c d : Nat) (evs : List Evt) (hA : Kd.C kev w A evs.length evs) (hB : Kd.C kev w B evs.length evs) (hl : evs.length ≤ 1599289640401) :
    Calls Try.prog 19 #[.slice A evs.length c, .slice B evs.length d, .bool false] w fun e w' => e = .returned (.bool true) ∧ Frm Nun w w' := by
  have HA := Lib.hid hA
  have HB := Lib.hid hB
  clear hA hB
  go_enter Try.func19, Try.ntmps19
  go_wp2
  go_loopw [7] (fun i wr => ∃ k : Nat, k ≤ evs.length ∧ i = .int .i64 k ∧ Frm Nun w wr) (fun i _ => evs.length - (intOf i).toNat)
  case atStart => exact ⟨0, Nat.zero_le _, rfl, Frm.refl _ _⟩
  case round =>
    obtain ⟨k, hk, rfl, hf⟩ := hrel
    obtain ⟨wo, hwo⟩ : ∃ u, u = wr := ⟨_, rfl⟩
    subst hwo
    by_cases hlt : k < evs.length
    · obtain ⟨ad, x, rfl, hx, hc⟩ := at_ev' HA.out k hlt
      obtain ⟨bd, y, rfl, hy, hd⟩ := at_ev' HB.out k hlt
      obtain rfl : x = y := hx.out.symm.trans hy.out
      have HC := Lib.hid (hc.frm hf (fun h => h))
      have HD := Lib.hid (hd.frm (hf.alloc (.cells #[.int .i64 x.kind, .int .i64 x.k, .int .i64 x.steps, .int .i64 x.call, .int .u32 x.a0, .int .u32 x.a1, .int .u32 x.a2, .int .u32 x.a3, .int .u32 x.a4, .int .i64 x.code, .int .u32 x.v0, .int .u32 x.v1, .int .u32 x.v2, .int .i64 x.serial] 39)) (fun h => h))
      have HF := Lib.hid hf
      clear hc hd hy hx hf
      obtain ⟨c0, c1, c2, c3, c4, c5, c6, c7, c8, c9, c10, c11, c12, c13⟩ := HC.out
      obtain ⟨d0, d1, d2, d3, d4, d5, d6, d7, d8, d9, d10, d11, d12, d13⟩ := HD.out
      go_wp2_with fail
      go_roundw
      case rel => exact ⟨k + 1, by omega, by go_num, (HF.out.alloc _).alloc _⟩
      case measure => simp [intOf]; omega
    · go_wp2
      go_ret
      exact ⟨rfl, hf⟩
end Go.Proofs.Ytoebhddgpicegaa
namespace Go.Proofs.Ytoebhddgpicegaa
open Go.RowKit Go.Proofs.YtoebhddgpicegaaW.PrintWords
set_option maxHeartbeats 4000000 in
set_option maxRecDepth 100000 in
theorem sums_calls (w : World) (A : Option Addr) (c : Nat) (evs : List Evt) (hr : Kd.C kev w A evs.length evs) (hl : evs.length ≤ 1599289640354) (hok : ∀ x ∈ evs, EvOk x) :
    Calls Try.prog 4 #[.slice A evs.length c] w fun e w' => e = .returned (.bool true) ∧ Frm Nun w w' := by
  have HR := Lib.hid hr
  have HOK := Lib.hid hok
  clear hr hok
  go_enter Try.func4, Try.ntmps4
  go_wp2_with fail
  refine (fixed_calls w).mono ?_
  rintro e w1 ⟨rfl, k1⟩
  have K1 := Lib.hid k1
  clear k1
  go_wp2
  go_loopw [4, 5] (fun x i wr => ∃ k : Nat, k ≤ evs.length ∧ i = .int .i64 k ∧ Frm Nun w wr ∧ kev.R 39 wr 0 (Nw Nun w) x (evs.take k)) (fun _ i _ => evs.length - (intOf i).toNat)
  case atStart => exact ⟨0, Nat.zero_le _, rfl, K1.out, Kd.R_nil _ _ _ _ _⟩
  case round =>
    obtain ⟨k, hk, rfl, hf, hx⟩ := hrel
    have HF := Lib.hid hf
    obtain ⟨A2, q2, rfl, _, _⟩ := Kd.R_reads hx
    by_cases hlt : k < evs.length
    · obtain ⟨ad, x, rfl, hxe, hc⟩ := at_ev' HR.out k hlt
      obtain ⟨c0, c1, c2, c3, c4, c5, c6, c7, c8, c9, c10, c11, c12, c13⟩ := hc.frm HF.out (fun h => h)
      have HX := Lib.hid hx
      obtain ⟨n2, hn2⟩ : ∃ n, n = (evs.take k).length := ⟨_, rfl⟩
      have e2 : n2 = k := by rw [hn2, take_len (by omega)]
      rw [← hn2] at HX ⊢
      have E2 := Lib.hid e2
      have HN2 := Lib.hid hn2
      clear hc hx hf hn2 e2
      go_wp2_with (at_builtin; refine app_list kev (.tmp 17) (.tmp 22) 34 39 _ 88 rfl rfl Try.underlying34 info_ev rfl (by decide) (by decide) (.slice A2 n2 q2) (evs.take k) x x.cells (Nw Nun w) (fun _ => False) rfl rfl rfl rfl (fun _ h => h.elim) (fun i hi => .inr (Nat.le_trans HF.out.size hi)) HX.out (by rw [← HN2.out, E2.out]; omega) ?_; intro v1 w2 ho1 hg1; have HO1 := Lib.hid ho1; have HG1 := Lib.hid hg1; clear ho1 hg1)
      go_roundw
      case rel => exact ⟨k + 1, by omega, by go_num, HF.out.grown HG1.out (fun i hi => HX.out.1 i hi), by rw [snocG hlt zev, hxe.out]; exact HO1.out⟩
      case measure => simp [intOf]; omega
    · obtain rfl : k = evs.length := by omega
      rw [List.take_length] at hx ⊢
      obtain ⟨A3, q3, he, _, hC⟩ := Kd.R_reads hx
      obtain ⟨rfl, rfl⟩ : A2 = A3 ∧ q2 = q3 := by simpa using he
      have HC := Lib.hid hC
      clear he hC hx hf
      go_wp2_with fail
      refine (digest_calls wr A c evs (Kd.C_below HR.out HF.out.below0) (by omega) HOK.out).mono ?_
      rintro e w2 ⟨rfl, k2⟩
      have K2 := Lib.hid k2
      clear k2
      go_wp2_with fail
      refine (rdigest_calls w2 A2 q2 evs (Kd.C_below HC.out K2.out.below0) (by omega) HOK.out).mono ?_
      rintro e w3 ⟨rfl, k3⟩
      have K3 := Lib.hid k3
      clear k3
      go_wp2_with fail
      refine (sevs_calls w3 A A2 c q2 evs (Kd.C_below HR.out ((HF.out.quiet K2.out).quiet K3.out).below0) (Kd.C_below (Kd.C_below HC.out K2.out.below0) K3.out.below0) (by omega)).mono ?_
      rintro e w4 ⟨rfl, k4⟩
      go_wp2
      go_ret
      exact ⟨rfl, ((HF.out.quiet K2.out).quiet K3.out).quiet k4⟩
end Go.Proofs.Ytoebhddgpicegaa
namespace Go.Proofs.Ytoebhddgpicegaa.replaySums
open Go.ChangeShapes Go.WideShapes Go.ChangeAt Go.RowKit
open Go.Proofs.YtoebhddgpicegaaW.PrintWords
theorem own : ownKnob Try.prog.godebug = none := by kernel_rfl
theorem laidOut : laidOutB Try.prog = true := by kernel_rfl
set_option maxRecDepth 100000 in
theorem lifted (os : Os) (started : os.Started) (H : Type) (enc : TypeId × Value → H) :
    ReturnsInHanded {} Try.checked os 4 .any (Rows.replaySumsSpec.pre6 enc Try.prog Try.f4 Rows.replaySumsRow.domain false) (Rows.replaySumsSpec.post enc Try.prog Try.f4 false true false false) := by
  refine returnsInHanded_of_change_sized (C := Try.checked) own started (by kernel_rfl) Try.func4
    (ChangeSpec.witness6 (enc := enc) (C := Try.checked) false ⟨#[], #[.slice none 0 0], []⟩ 8 (by kernel_rfl) (by kernel_rfl) (by kernel_rfl) (by kernel_rfl)) ?_
  intro W base args ds gs before hval0 hW hcnd hsz0 _
  have hsz : (DataW.weightsEach Try.prog (Try.f4.params.toList ++ Rows.replaySumsSpec.plain.varTypes Try.prog) (ds ++ gs)).all (· ≤ reachBytes) = true := hsz0
  have hval : ∀ (j : Nat) t v, Try.f4.params[j]? = some t → args[j]? = some v → Value.okWide Try.prog W .any base t v := hval0
  have hW' := hW
  obtain ⟨p, q, hA0, hV, rfl, hfz, hnd⟩ := hW
  have hA : DataW.TrodAll enc Try.prog W 0 (fun _ => true) true Try.f4.params.toList args.toList ds p := hA0
  rw [Try.params4] at hA hval hsz
  obtain ⟨v0, vs0, d0, ds0, p0, q0, hargs, rfl, rfl, h0, r0⟩ := trodAll_cons hA
  obtain ⟨rfl, rfl, rfl⟩ := trodAll_nil r0
  obtain rfl : args = #[v0] := by cases args; simp_all
  obtain ⟨rfl, rfl⟩ := trodVars_none hV
  obtain ⟨a0, len0, cap0, rfl⟩ := okWide_slice Try.underlying34 (hval 0 34 v0 rfl rfl)
  have k0 := h0
  have lt0 : ∀ x ∈ p0, x.block < W.heap.size := by obtain ⟨m, hm⟩ := k0; exact DataW.trod_lt m _ _ _ hm
  have hw : ∀ n ∈ d0.weights Try.prog 34, n ≤ reachBytes := by
    intro n hn
    have := List.all_eq_true.1 hsz n (DataW.weights_mem_each (j := 0) rfl rfl n hn)
    simpa using this
  obtain ⟨m0, hm0⟩ := h0
  obtain ⟨evs, ⟨A, c, hcs, hc, hC⟩, hok, _⟩ := opens_evs hm0 hw
  obtain ⟨rfl, rfl, rfl⟩ : a0 = A ∧ len0 = evs.length ∧ cap0 = c := by simpa [Value.cells] using hcs
  have hlen : evs.length ≤ 1599289640354 := by have := hok.1; have e : reachBytes = 140737488351232 := rfl; omega
  clear hA0 hval0 hsz0 hsz
  refine (sums_calls W a0 cap0 evs hC hlen hok.2).mono fun e W' ⟨he, fr⟩ => ?_
  subst he
  have bel := fr.below0
  exact ⟨_, rfl, _, _, _, [], _, [], hW', trodAll_mk1 (shut_bool Try.underlying4 _), (trodAll_cons_mk (Below.trod laidOut (by kernel_rfl) (of_decide_eq_true (by kernel_rfl)) k0 bel lt0) trodAll_mk0), rfl, bel.frame _, fun h => by cases h⟩
theorem over : Rows.replaySumsRow.holds Try.pinned (OpenSpec.ofChange Rows.replaySumsSpec) :=
  OpenClaim.holds_of_wide 4 Try.f4 rfl rfl rfl rfl rfl rfl rfl ⟨rfl, rfl, rfl, rfl, rfl⟩ rfl rfl rfl rfl rfl (by kernel_rfl) Try.func4 (by kernel_rfl)
    (of_decide_eq_true (by kernel_rfl)) (by unfold Func.isWrapper; first | (rw [if_pos (by decide +kernel)]; kernel_rfl) | (rw [if_neg (by decide +kernel)]; exact ⟨rfl, rfl⟩))
    (fun os started H enc _ => lifted os started H enc)
end Go.Proofs.Ytoebhddgpicegaa.replaySums
namespace Go.Proofs.Ytoebhddgpicegaa
theorem replaySums_holds : Rows.ReplaySumsSaid := replaySums.over
#print axioms replaySums_holds
end Go.Proofs.Ytoebhddgpicegaa
