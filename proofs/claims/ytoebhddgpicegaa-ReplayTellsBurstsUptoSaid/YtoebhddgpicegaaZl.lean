/- Proved here: the statement of the second form for amberlaw21.ReplayTellsBursts: for every list of legs of bulk at most 1048576, every place, mask and cut the law returns true and changes nothing of what it was handed. -/
import Derived.Test.YtoebhddgpicegaaZf
import Derived.Test.YtoebhddgpicegaaZd
import Derived.Test.YtoebhddgpicegaaZg
import Derived.Test.YtoebhddgpicegaaPReplayApartx5
import Derived.Test.YtoebhddgpicegaaRows
import Derived.WalkKit
import Derived.ProofKit
import Derived.OpenShut
import Derived.ShutString
import Derived.ChangeOld
import Derived.Below
import Derived.SizedLaws
import Derived.JoinedCond
import Derived.Deep.CondSized
namespace Go.Proofs.Ytoebhddgpicegaa
open Go.RowKit Go.Proofs.YtoebhddgpicegaaW.PrintWords
open PReplayApart
theorem lf_zero {c : BitVec 32} (h : lf c = 0#32) : c = 0#32 := by
  have hp : poly.getLsbD 31 = true := by decide
  have h31 : (lf c).getLsbD 31 = c.getLsbD 0 := by
    unfold lf
    rw [BitVec.getLsbD_xor, BitVec.getLsbD_ushiftRight]
    have : c.getLsbD (1 + 31) = false := BitVec.getLsbD_of_ge c 32 (by omega)
    rw [this]
    cases c.getLsbD 0
    · simp
    · simp [hp]
  have h0 : c.getLsbD 0 = false := by rw [← h31, h]; simp
  have e : lf c = c >>> 1 := by
    unfold lf
    rw [h0]
    simp
  rw [e] at h
  apply BitVec.eq_of_getLsbD_eq
  intro i hi
  cases i with
  | zero => rw [h0]; simp
  | succ i =>
    have := congrArg (fun v => v.getLsbD i) h
    simp only [BitVec.getLsbD_ushiftRight] at this
    rw [Nat.add_comm] at this
    rw [this]
    simp
theorem lfn_zero (n : Nat) : ∀ c : BitVec 32, lfn n c = 0#32 → c = 0#32 := by
  induction n with
  | zero => intro c h; exact h
  | succ n ih => intro c h; exact lf_zero (ih _ h)
theorem xor_zero {a b : BitVec 32} (h : a ^^^ b = 0#32) : a = b := by
  have : a ^^^ b ^^^ b = 0#32 ^^^ b := by rw [h]
  rw [BitVec.xor_assoc, BitVec.xor_self] at this
  simpa using this
theorem lfn_inj {n : Nat} {a b : BitVec 32} (h : lfn n a = lfn n b) : a = b := by
  apply xor_zero
  apply lfn_zero n
  rw [lfn_xor, h]
  simp
theorem lfn_add (m : Nat) : ∀ (n : Nat) (s : BitVec 32), lfn m (lfn n s) = lfn (n + m) s := by
  intro n
  induction n with
  | zero => intro s; rw [Nat.zero_add]; rfl
  | succ n ih =>
    intro s
    rw [Nat.succ_add]
    show lfn m (lfn n (lf s)) = lfn (n + m) (lf s)
    exact ih _
theorem upd_inj {l : List Int} : ∀ {a b : BitVec 32}, upd a l = upd b l → a = b := by
  induction l with
  | nil => intro a b h; exact h
  | cons x l ih =>
    intro a b h
    have h1 : stepB a (bw x) = stepB b (bw x) := ih h
    have h2 := lfn_inj h1
    have h3 : a ^^^ bw x ^^^ bw x = b ^^^ bw x ^^^ bw x := by rw [h2]
    rw [BitVec.xor_assoc, BitVec.xor_assoc, BitVec.xor_self] at h3
    simpa using h3
theorem bw_cat {v : Int} (h0 : 0 ≤ v) (h1 : v < 4294967296) : bw v = bw (v % 256) ^^^ (bw (v / 256) <<< 8) := by
  apply BitVec.eq_of_toNat_eq
  obtain ⟨n, rfl⟩ := Int.eq_ofNat_of_zero_le h0
  have e : ∀ m : Nat, m < 4294967296 → (bw (m : Int)).toNat = m := by
    intro m hm
    unfold bw
    rw [BitVec.ofInt_natCast, BitVec.toNat_ofNat]
    omega
  have e1 : ((n : Int) % 256) = ((n % 256 : Nat) : Int) := by omega
  have e2 : ((n : Int) / 256) = ((n / 256 : Nat) : Int) := by omega
  rw [e1, e2, BitVec.toNat_xor, BitVec.toNat_shiftLeft, e n (by omega), e (n % 256) (by omega), e (n / 256) (by omega), Nat.shiftLeft_eq]
  have hm : n / 256 * 2 ^ 8 % 2 ^ 32 = n / 256 * 2 ^ 8 := by omega
  rw [hm]
  have := Nat.two_pow_add_eq_or_of_lt (i := 8) (b := n % 256) (by omega) (n / 256)
  have hx : n % 256 ^^^ n / 256 * 2 ^ 8 = n / 256 * 2 ^ 8 + n % 256 := by
    rw [Nat.xor_comm, Nat.mul_comm, this]
    apply Nat.eq_of_testBit_eq
    intro i
    rw [Nat.testBit_xor, Nat.testBit_or]
    by_cases hi : i < 8
    · have : (2 ^ 8 * (n / 256)).testBit i = false := by rw [Nat.testBit_two_pow_mul]; simp; omega
      rw [this]
      simp
    · have : (n % 256).testBit i = false := Nat.testBit_lt_two_pow (Nat.lt_of_lt_of_le (Nat.mod_lt n (by decide)) (by
        calc 256 = 2 ^ 8 := by decide
          _ ≤ 2 ^ i := Nat.pow_le_pow_right (by decide) (by omega)))
      rw [this]
      simp
  rw [hx]
  omega
theorem lfn8_shift {w : Int} (h0 : 0 ≤ w) (h1 : w < 16777216) : lfn 8 (bw w <<< 8) = bw w := by
  obtain ⟨n, rfl⟩ := Int.eq_ofNat_of_zero_le h0
  have e : (bw (n : Int)).toNat = n := by
    unfold bw
    rw [BitVec.ofInt_natCast, BitVec.toNat_ofNat]
    omega
  have e2 : (bw (n : Int) <<< 8).toNat = n * 256 := by
    rw [BitVec.toNat_shiftLeft, e, Nat.shiftLeft_eq]
    omega
  apply BitVec.eq_of_toNat_eq
  rw [lfn_even 8 _ (by rw [e2]; omega), e2, e]
  omega
/-- What n bytes do to the register. -/
theorem upd_le (n : Nat) : ∀ (s : BitVec 32) (v : Int), n ≤ 4 → 0 ≤ v → v < 256 ^ n → upd s (le n v) = lfn (8 * n) (s ^^^ bw v) := by
  induction n with
  | zero =>
    intro s v _ h0 h1
    obtain rfl : v = 0 := by rw [Int.pow_zero] at h1; omega
    show s = s ^^^ bw 0
    rw [show bw 0 = 0#32 by decide]
    simp
  | succ n ih =>
    intro s v hn h0 h1
    have hv : v < 4294967296 := Int.lt_of_lt_of_le h1 (pow_mono (m := n + 1) (n := 4) hn)
    rw [Int.pow_succ] at h1
    have ih' := ih (stepB s (bw (v % 256))) (v / 256) (by omega) (by omega) (by omega)
    show upd (stepB s (bw (v % 256))) (le n (v / 256)) = _
    have h2 : v / 256 < 16777216 := by omega
    rw [ih', stepB]
    conv => lhs; arg 2; arg 2; rw [← lfn8_shift (w := v / 256) (by omega) h2]
    rw [← lfn_xor, lfn_add, BitVec.xor_assoc, ← bw_cat h0 hv, Nat.mul_succ, Nat.add_comm]
theorem bw_inj {a b : Int} (ha : 0 ≤ a ∧ a < 4294967296) (hb : 0 ≤ b ∧ b < 4294967296) (h : bw a = bw b) : a = b := by
  obtain ⟨n, rfl⟩ := Int.eq_ofNat_of_zero_le ha.1
  obtain ⟨m, rfl⟩ := Int.eq_ofNat_of_zero_le hb.1
  have := congrArg BitVec.toNat h
  unfold bw at this
  rw [BitVec.ofInt_natCast, BitVec.ofInt_natCast, BitVec.toNat_ofNat, BitVec.toNat_ofNat] at this
  omega
/-- Another word, another sum. -/
theorem crc_word {P S : List Int} {a b : Int} (ha : 0 ≤ a ∧ a < 4294967296) (hb : 0 ≤ b ∧ b < 4294967296) (h : crc (P ++ (le 4 a ++ S)) = crc (P ++ (le 4 b ++ S))) : a = b := by
  unfold crc at h
  have h1 := congrArg (fun v => ~~~ v) h
  simp only [BitVec.not_not] at h1
  rw [upd_app, upd_app, upd_app, upd_app] at h1
  have h2 := upd_inj h1
  rw [upd_le 4 _ a (by omega) ha.1 ha.2, upd_le 4 _ b (by omega) hb.1 hb.2] at h2
  have h3 := lfn_inj h2
  refine bw_inj ha hb ?_
  have h4 : ∀ s x y : BitVec 32, s ^^^ x = s ^^^ y → x = y := by
    intro s x y h
    have : s ^^^ (s ^^^ x) = s ^^^ (s ^^^ y) := by rw [h]
    rw [← BitVec.xor_assoc, ← BitVec.xor_assoc, BitVec.xor_self] at this
    simpa using this
  exact h4 _ _ _ h3
end Go.Proofs.Ytoebhddgpicegaa
namespace Go.Proofs.Ytoebhddgpicegaa
open Go.RowKit Go.Proofs.YtoebhddgpicegaaW.PrintWords
open PReplayApart
/-- A bit into the register. -/
def b1 (b : Bool) : BitVec 32 := if b then 1#32 else 0#32
def sb (s : BitVec 32) (b : Bool) : BitVec 32 := lf (s ^^^ b1 b)
def sbs (s : BitVec 32) (l : List Bool) : BitVec 32 := l.foldl sb s
def nb : List Bool → Nat
  | [] => 0
  | b :: w => b.toNat + 2 * nb w
theorem nb_lt : ∀ w : List Bool, nb w < 2 ^ w.length
  | [] => by simp [nb]
  | b :: w => by
    have := nb_lt w
    have hb : b.toNat ≤ 1 := Bool.toNat_le b
    rw [nb, List.length_cons, Nat.pow_succ]
    omega
theorem nb_zero : ∀ w : List Bool, nb w = 0 → ∀ x ∈ w, x = false
  | [], _, x, hx => by cases hx
  | b :: w, h, x, hx => by
    rw [nb] at h
    rcases List.mem_cons.1 hx with rfl | hx
    · cases x
      · rfl
      · simp at h
    · exact nb_zero w (by omega) x hx
theorem nb_cons (b : Bool) (n : Nat) : BitVec.ofNat 32 (b.toNat + 2 * n) = b1 b ^^^ (BitVec.ofNat 32 n <<< 1) := by
  apply BitVec.eq_of_getLsbD_eq
  intro i hi
  rw [BitVec.getLsbD_xor, BitVec.getLsbD_shiftLeft, BitVec.getLsbD_ofNat]
  cases i with
  | zero =>
    cases b <;> simp [b1] <;> omega
  | succ i =>
    rw [Nat.testBit_succ]
    have e : (b.toNat + 2 * n) / 2 = n := by cases b <;> simp <;> omega
    have e1 : (b1 b).getLsbD (i + 1) = false := by cases b <;> simp [b1]
    rw [e, e1, BitVec.getLsbD_ofNat]
    have : i < 32 := by omega
    simp [hi, this]
theorem lf_shl {n : Nat} (h : n < 2147483648) : lf (BitVec.ofNat 32 n <<< 1) = BitVec.ofNat 32 n := by
  have e : (BitVec.ofNat 32 n <<< 1).toNat = 2 * n := by
    rw [BitVec.toNat_shiftLeft, BitVec.toNat_ofNat, Nat.shiftLeft_eq]
    omega
  apply BitVec.eq_of_toNat_eq
  rw [lf_even (by rw [e]; omega), e, BitVec.toNat_ofNat]
  omega
theorem sbs_nb : ∀ (w : List Bool) (s : BitVec 32), w.length ≤ 32 → sbs s w = lfn w.length (s ^^^ BitVec.ofNat 32 (nb w))
  | [], s, _ => by simp [sbs, nb, lfn]
  | b :: w, s, h => by
    have h' : w.length ≤ 31 := by rw [List.length_cons] at h; omega
    have hn : nb w < 2147483648 := Nat.lt_of_lt_of_le (nb_lt w) (Nat.pow_le_pow_right (by decide) h')
    have ih := sbs_nb w (sb s b) (by omega)
    show sbs (sb s b) w = _
    rw [ih, nb, nb_cons, List.length_cons]
    show _ = lfn w.length (lf _)
    rw [← BitVec.xor_assoc, lf_xor, lf_shl hn]
    rfl
theorem sbs_false : ∀ (w : List Bool) (s : BitVec 32), (∀ x ∈ w, x = false) → sbs s w = lfn w.length s
  | [], s, _ => rfl
  | b :: w, s, h => by
    have hb : b = false := h b (by simp)
    show sbs (sb s b) w = lfn w.length (lf s)
    rw [sbs_false w _ (fun x hx => h x (by simp [hx])), hb]
    simp [sb, b1]
theorem sbs_app (s : BitVec 32) (l m : List Bool) : sbs s (l ++ m) = sbs (sbs s l) m := by unfold sbs; rw [List.foldl_append]
theorem lf_0 : lf 0#32 = 0#32 := by decide
theorem lfn_0 (n : Nat) : lfn n 0#32 = 0#32 := by
  induction n with
  | zero => rfl
  | succ n ih => show lfn n (lf 0#32) = _; rw [lf_0, ih]
/-- A burst of at most 32 bits is never no change of the register. -/
theorem sbs_burst : ∀ (l : List Bool) (p : Int), (∀ k : Nat, l[k]? = some true → p ≤ k ∧ (k : Int) < p + 32) → sbs 0#32 l = 0#32 → ∀ x ∈ l, x = false
  | [], _, _, _, x, hx => by cases hx
  | false :: l, p, hw, h, x, hx => by
    have h' : sbs 0#32 l = 0#32 := by
      have e : sb 0#32 false = 0#32 := by decide
      have : sbs (sb 0#32 false) l = 0#32 := h
      rwa [e] at this
    have ih := sbs_burst l (p - 1) (fun k hk => by
      have := hw (k + 1) (by simpa using hk)
      omega) h'
    rcases List.mem_cons.1 hx with rfl | hx
    · rfl
    · exact ih x hx
  | true :: l, p, hw, h, x, hx => by
    exfalso
    have hp := (hw 0 (by simp)).1
    have hs : true :: l = (true :: l).take 32 ++ (true :: l).drop 32 := (List.take_append_drop 32 _).symm
    rw [hs, sbs_app] at h
    have hz : ∀ x ∈ (true :: l).drop 32, x = false := by
      intro x hx
      obtain ⟨k, hk, rfl⟩ := List.mem_iff_getElem.1 hx
      rw [List.getElem_drop]
      cases hv : (true :: l)[32 + k]'(by rw [List.length_drop] at hk; omega) with
      | false => rfl
      | true =>
        have := hw (32 + k) (by rw [List.getElem?_eq_getElem (by rw [List.length_drop] at hk; omega), hv])
        omega
    rw [sbs_false _ _ hz] at h
    have h2 := lfn_zero _ _ h
    rw [sbs_nb _ _ (by rw [List.length_take]; omega), BitVec.zero_xor] at h2
    have h3 := lfn_zero _ _ h2
    have h4 : nb ((true :: l).take 32) = 0 := by
      have := congrArg BitVec.toNat h3
      rw [BitVec.toNat_ofNat] at this
      have hl := nb_lt ((true :: l).take 32)
      have : nb ((true :: l).take 32) < 2 ^ 32 := Nat.lt_of_lt_of_le hl (Nat.pow_le_pow_right (by decide) (by rw [List.length_take]; omega))
      simp at *
      omega
    have := nb_zero _ h4 true (by simp)
    cases this
/-- The bits of a byte, lowest first. -/
def bits8 (v : BitVec 32) : List Bool := [v.getLsbD 0, v.getLsbD 1, v.getLsbD 2, v.getLsbD 3, v.getLsbD 4, v.getLsbD 5, v.getLsbD 6, v.getLsbD 7]
theorem nb_bits8 {v : BitVec 32} (h : v.toNat < 256) : nb (bits8 v) = v.toNat := by
  have key : ∀ n : Fin 256, nb (bits8 (BitVec.ofNat 32 n.1)) = n.1 := by decide +kernel
  have e : v = BitVec.ofNat 32 v.toNat := by simp
  have := key ⟨v.toNat, h⟩
  rwa [← e] at this
theorem stepB_bits {s v : BitVec 32} (h : v.toNat < 256) : stepB s v = sbs s (bits8 v) := by
  rw [sbs_nb _ _ (by simp [bits8]), nb_bits8 h]
  simp [stepB, bits8]
def bitsV (d : List (BitVec 32)) : List Bool := (d.map bits8).flatten
theorem bitsV_at : ∀ (d : List (BitVec 32)) (k : Nat), (bitsV d)[k]? = some true → ∃ v, d[k / 8]? = some v ∧ v.getLsbD (k % 8) = true ∧ k % 8 < 8
  | [], k, h => by simp [bitsV] at h
  | v :: d, k, h => by
    by_cases hk : k < 8
    · refine ⟨v, by rw [Nat.div_eq_of_lt hk]; rfl, ?_, Nat.mod_lt _ (by decide)⟩
      have h' : (bits8 v ++ bitsV d)[k]? = some true := h
      rw [List.getElem?_append_left (by simpa [bits8] using hk)] at h'
      rw [Nat.mod_eq_of_lt hk]
      match k, hk, h' with
      | 0, _, h => simpa [bits8] using h
      | 1, _, h => simpa [bits8] using h
      | 2, _, h => simpa [bits8] using h
      | 3, _, h => simpa [bits8] using h
      | 4, _, h => simpa [bits8] using h
      | 5, _, h => simpa [bits8] using h
      | 6, _, h => simpa [bits8] using h
      | 7, _, h => simpa [bits8] using h
    · have h' : (bits8 v ++ bitsV d)[k]? = some true := h
      have hl : (bits8 v).length = 8 := by simp [bits8]
      rw [List.getElem?_append_right (by omega), hl] at h'
      obtain ⟨u, h1, h2, h3⟩ := bitsV_at d (k - 8) h'
      refine ⟨u, ?_, ?_, by omega⟩
      · rw [show k / 8 = (k - 8) / 8 + 1 by omega]
        simpa using h1
      · rw [show k % 8 = (k - 8) % 8 by omega]
        exact h2
theorem bits8_zero {v : BitVec 32} (h : v.toNat < 256) (hz : ∀ x ∈ bits8 v, x = false) : v = 0#32 := by
  have h1 := nb_bits8 h
  have h2 : ∀ w : List Bool, (∀ x ∈ w, x = false) → nb w = 0 := by
    intro w
    induction w with
    | nil => intro _; rfl
    | cons b w ih => intro h; rw [nb, h b (by simp), ih (fun x hx => h x (by simp [hx]))]; rfl
  rw [h2 _ hz] at h1
  apply BitVec.eq_of_toNat_eq
  rw [← h1]
  rfl
def updV (s : BitVec 32) (l : List (BitVec 32)) : BitVec 32 := l.foldl stepB s
theorem updV_bits : ∀ (d : List (BitVec 32)) (s : BitVec 32), (∀ v ∈ d, v.toNat < 256) → updV s d = sbs s (bitsV d)
  | [], s, _ => rfl
  | v :: d, s, h => by
    show updV (stepB s v) d = sbs s (bits8 v ++ bitsV d)
    rw [updV_bits d _ (fun x hx => h x (by simp [hx])), sbs_app, stepB_bits (h v (by simp))]
theorem upd_V (s : BitVec 32) (l : List Int) : upd s l = updV s (l.map bw) := by unfold upd updV; rw [List.foldl_map]
theorem stepB_xor (s t a b : BitVec 32) : stepB (s ^^^ t) (a ^^^ b) = stepB s a ^^^ stepB t b := by
  unfold stepB
  rw [← lfn_xor]
  congr 1
  ac_rfl
def dV (a b : List Int) : List (BitVec 32) := List.zipWith (fun x y => bw x ^^^ bw y) a b
theorem updV_dV : ∀ (a b : List Int) (s t : BitVec 32), a.length = b.length → updV (s ^^^ t) (dV a b) = upd s a ^^^ upd t b
  | [], [], s, t, _ => rfl
  | x :: a, y :: b, s, t, h => by
    show updV (stepB (s ^^^ t) (bw x ^^^ bw y)) (dV a b) = upd (stepB s (bw x)) a ^^^ upd (stepB t (bw y)) b
    rw [stepB_xor, updV_dV a b _ _ (by simpa using h)]
  | [], y :: b, _, _, h => by simp at h
  | x :: a, [], _, _, h => by simp at h
theorem xor_not (u : BitVec 32) : u ^^^ ~~~u = BitVec.allOnes 32 := by
  apply BitVec.eq_of_getLsbD_eq
  intro i hi
  rw [BitVec.getLsbD_xor, BitVec.getLsbD_not, BitVec.getLsbD_allOnes]
  cases u.getLsbD i <;> simp [hi]
/-- The register behind what bears its sum. -/
theorem upd_sum (x : List Int) : upd (~~~ 0#32) (withSum x) = lfn 32 (BitVec.allOnes 32) := by
  unfold withSum
  rw [upd_app]
  have hr := vn_range (crc x)
  rw [upd_le 4 _ _ (by omega) hr.1 (by omega), bw_vn]
  congr 1
  unfold crc
  exact xor_not (upd (~~~0#32) x)
/-- Where two rows of bytes part: within 32 bits from p on. -/
def Win (p : Int) (a b : List Int) : Prop := ∀ i j : Nat, j < 8 → i < a.length → (bw (a.getD i 0) ^^^ bw (b.getD i 0)).getLsbD j = true → p ≤ 8 * (i : Int) + j ∧ 8 * (i : Int) + j < p + 32
theorem bw_small {x : Int} (h : 0 ≤ x ∧ x < 256) : (bw x).toNat < 256 := by
  have := bw_nat h
  unfold vn at this
  omega
theorem dV_at : ∀ (a b : List Int) (i : Nat) (v : BitVec 32), (dV a b)[i]? = some v → i < a.length ∧ v = bw (a.getD i 0) ^^^ bw (b.getD i 0)
  | x :: a, y :: b, 0, v, h => by
    have : bw x ^^^ bw y = v := by simpa [dV] using h
    exact ⟨by simp, by rw [← this]; rfl⟩
  | x :: a, y :: b, i + 1, v, h => by
    have h' : (dV a b)[i]? = some v := by simpa [dV] using h
    obtain ⟨h1, h2⟩ := dV_at a b i v h'
    exact ⟨by simpa using h1, by rw [h2]; rfl⟩
  | [], _, i, v, h => by simp [dV] at h
  | x :: a, [], i, v, h => by simp [dV] at h
theorem dV_small {a b : List Int} (ha : Byt a) (hb : Byt b) : ∀ v ∈ dV a b, v.toNat < 256 := by
  intro v hv
  obtain ⟨i, hi, rfl⟩ := List.mem_iff_getElem.1 hv
  simp only [dV, List.getElem_zipWith]
  rw [BitVec.toNat_xor]
  exact Nat.xor_lt_two_pow (n := 8) (bw_small (ha _ (List.getElem_mem _))) (bw_small (hb _ (List.getElem_mem _)))
/-- What bears its sum is told from what bears its sum, but for bursts. -/
theorem sum_burst {x y : List Int} (hx : Byt x) (hy : Byt y) (hl : x.length = y.length) {p : Int} (hw : Win p (withSum x) (withSum y)) : x = y := by
  have hl2 : (withSum x).length = (withSum y).length := by rw [withSum_len, withSum_len, hl]
  have h0 : updV 0#32 (dV (withSum x) (withSum y)) = 0#32 := by
    have := updV_dV (withSum x) (withSum y) (~~~ 0#32) (~~~ 0#32) hl2
    rw [upd_sum, upd_sum, BitVec.xor_self, BitVec.xor_self] at this
    exact this
  have hsm := dV_small (withSum_byt hx) (withSum_byt hy)
  rw [updV_bits _ _ hsm] at h0
  have hz := sbs_burst _ p (fun k hk => by
    obtain ⟨v, h1, h2, h3⟩ := bitsV_at _ k hk
    obtain ⟨h4, rfl⟩ := dV_at _ _ _ _ h1
    have := hw (k / 8) (k % 8) h3 h4 h2
    omega) h0
  have hd : ∀ v ∈ dV (withSum x) (withSum y), v = 0#32 := fun v hv => bits8_zero (hsm v hv) (fun b hb => hz b (by
    unfold bitsV
    exact List.mem_flatten.2 ⟨bits8 v, List.mem_map.2 ⟨v, hv, rfl⟩, hb⟩))
  apply List.ext_getElem hl
  intro i h1 h2
  have hm : bw x[i] ^^^ bw y[i] ∈ dV (withSum x) (withSum y) := by
    refine List.mem_iff_getElem?.2 ⟨i, ?_⟩
    unfold dV withSum
    rw [List.getElem?_zipWith, List.getElem?_append_left h1, List.getElem?_append_left h2, List.getElem?_eq_getElem h1, List.getElem?_eq_getElem h2]
  have := xor_zero (hd _ hm)
  have a1 := hx _ (List.getElem_mem h1)
  have a2 := hy _ (List.getElem_mem h2)
  exact bw_inj (by omega) (by omega) this
end Go.Proofs.Ytoebhddgpicegaa
namespace Go.Proofs.Ytoebhddgpicegaa
open Go.RowKit Go.Proofs.YtoebhddgpicegaaW.PrintWords
open PReplayApart
theorem legsB_cons (l : S50) (ls : List S50) : legsB (l :: ls) = legB l ++ legsB ls := by simp [legsB]
theorem legB_pos (l : S50) : 24 ≤ (legB l).length := by have := legB_len l; have := sizeL_pos l; omega
/-- Legs at the beginning of legs. -/
theorem legsB_pre : ∀ (ls ms : List S50) (y : List Int), (∀ l ∈ ls, LegRd l) → (∀ m ∈ ms, LegRd m) → legsB ls ++ y = legsB ms → ∃ r, ms = ls ++ r
  | [], ms, _, _, _, _ => ⟨ms, rfl⟩
  | l :: ls, [], y, _, _, h => by
    exfalso
    rw [legsB_cons] at h
    have h1 := congrArg List.length h
    have h2 := legB_pos l
    rw [List.length_append, List.length_append, show legsB [] = [] from rfl, List.length_nil] at h1
    omega
  | l :: ls, m :: ms, y, hl, hm, h => by
    rw [legsB_cons, legsB_cons, List.append_assoc] at h
    have h1 := legAt_leg l (hl l (by simp)) (legsB ls ++ y)
    have h2 := legAt_leg m (hm m (by simp)) (legsB ms)
    rw [h, h2] at h1
    obtain rfl := Option.some.inj h1
    obtain ⟨r, hr⟩ := legsB_pre ls ms y (fun x hx => hl x (by simp [hx])) (fun x hx => hm x (by simp [hx])) (List.append_cancel_left h)
    exact ⟨r, by rw [hr]; rfl⟩
/-- A log cut within its last leg is none. -/
theorem dec_cut (ls : List S50) (hr : ∀ l ∈ ls, LegRd l) (k : Nat) (h1 : sumL (ls.take (ls.length - 1)) < k) (h2 : (k : Int) < sumL ls) : decT ((legsB ls).take k) = ([], 210) := by
  have hlen := legsB_len ls
  apply dec_no
  intro h0
  have hb : Byt ((legsB ls).take k) := (legsB_byt ls).take k
  obtain ⟨_, h3, h4⟩ := dec_yes hb h0 rfl
  generalize (decT ((legsB ls).take k)).1 = ms at h3 h4
  obtain ⟨r, hre⟩ := legsB_pre ms ls ((legsB ls).drop k) h4 hr (by rw [← h3, List.take_append_drop])
  have hk : ((legsB ms).length : Int) = k := by rw [← h3, List.length_take]; omega
  rw [legsB_len] at hk
  have hlt : ms.length ≤ ls.length - 1 := by
    rcases Nat.lt_or_ge ms.length ls.length with h | h
    · omega
    · exfalso
      have : r = [] := by
        apply List.eq_nil_of_length_eq_zero
        have := congrArg List.length hre
        rw [List.length_append] at this
        omega
      rw [this, List.append_nil] at hre
      rw [hre] at h2
      omega
  have he : ms = (ls.take (ls.length - 1)).take ms.length := by
    rw [List.take_take, Nat.min_eq_left hlt]
    conv => rhs; rw [hre]
    rw [List.take_left]
  have := sumL_take (ls.take (ls.length - 1)) ms.length
  rw [← he] at this
  omega
theorem Win.left {p : Int} {a b x y : List Int} (h : Win p (a ++ x) (b ++ y)) (hl : a.length = b.length) : Win p a b := by
  intro i j hj hi hd
  refine h i j hj (by rw [List.length_append]; omega) ?_
  rw [List.getD_eq_getElem?_getD, List.getD_eq_getElem?_getD, List.getElem?_append_left hi, List.getElem?_append_left (by omega), ← List.getD_eq_getElem?_getD, ← List.getD_eq_getElem?_getD]
  exact hd
theorem Win.right {p : Int} {a b x y : List Int} (h : Win p (a ++ x) (b ++ y)) (hl : a.length = b.length) : Win (p - 8 * a.length) x y := by
  intro i j hj hi hd
  have := h (a.length + i) j hj (by rw [List.length_append]; omega) (by
    rw [List.getD_eq_getElem?_getD, List.getD_eq_getElem?_getD, List.getElem?_append_right (by omega), List.getElem?_append_right (by omega), Nat.add_sub_cancel_left, show a.length + i - b.length = i by omega, ← List.getD_eq_getElem?_getD, ← List.getD_eq_getElem?_getD]
    exact hd)
  omega
theorem le4_inj {v u : Int} (hv : 0 ≤ v ∧ v < 4294967296) (hu : 0 ≤ u ∧ u < 4294967296) (h : le 4 v = le 4 u) : v = u := by rw [← fle4 hv, h, fle4 hu]
theorem headB_inj {l m : S50} (hl : LegRd l) (hm : LegRd m) (h : headB l = headB m) : l.f0.length = m.f0.length ∧ l.f1.length = m.f1.length ∧ l.f2 = m.f2 := by
  unfold headB at h
  obtain ⟨h1, h2⟩ := List.append_inj' h (by simp [le_len])
  obtain ⟨h3, h4⟩ := List.append_inj' h1 (by simp [le_len])
  obtain ⟨_, h6⟩ := List.append_inj' h3 (by simp [le_len])
  have a := le4_inj ⟨by omega, by have := hl.n0; omega⟩ ⟨by omega, by have := hm.n0; omega⟩ h6
  have b := le4_inj ⟨by omega, by have := hl.n1; omega⟩ ⟨by omega, by have := hm.n1; omega⟩ h4
  exact ⟨by omega, by omega, le4_inj hl.sum hm.sum h2⟩
theorem legB_inj {l m : S50} (hl : LegRd l) (hm : LegRd m) (h : legB l = legB m) : l = m := by
  have h1 := legAt_leg l hl []
  have h2 := legAt_leg m hm []
  rw [h, h2] at h1
  exact (Option.some.inj h1).symm
/-- Two logs of one length that part within 32 bits are one log. -/
theorem legs_burst : ∀ (ls ms : List S50) (p : Int), (∀ l ∈ ls, LegRd l) → (∀ m ∈ ms, LegRd m) → (legsB ls).length = (legsB ms).length → Win p (legsB ls) (legsB ms) → ls = ms
  | [], [], _, _, _, _, _ => rfl
  | [], m :: ms, _, _, _, h, _ => by
    exfalso
    rw [legsB_cons, List.length_append, show legsB [] = [] from rfl, List.length_nil] at h
    have := legB_pos m
    omega
  | l :: ls, [], _, _, _, h, _ => by
    exfalso
    rw [legsB_cons, List.length_append, show legsB [] = [] from rfl, List.length_nil] at h
    have := legB_pos l
    omega
  | l :: ls, m :: ms, p, hl, hm, h, hw => by
    have rl := hl l (by simp)
    have rm := hm m (by simp)
    rw [legsB_cons, legsB_cons] at hw h
    have hw2 : Win p (withSum (headB l) ++ (withSum (bodyB l) ++ legsB ls)) (withSum (headB m) ++ (withSum (bodyB m) ++ legsB ms)) := by
      rw [← List.append_assoc, ← List.append_assoc]
      exact hw
    have e20 : (withSum (headB l)).length = (withSum (headB m)).length := by rw [withSum_len, withSum_len, headB_len, headB_len]
    have hh := sum_burst (headB_byt l) (headB_byt m) (by rw [headB_len, headB_len]) (hw2.left e20)
    obtain ⟨n0, n1, n2⟩ := headB_inj rl rm hh
    have hbl : (bodyB l).length = (bodyB m).length := by rw [bodyB_len, bodyB_len, n0, n1]
    have hb := sum_burst (bodyB_byt l) (bodyB_byt m) hbl ((hw2.right e20).left (by rw [withSum_len, withSum_len, hbl]))
    have he : legB l = legB m := by unfold legB; rw [hh, hb]
    obtain rfl := legB_inj rl rm he
    have hr := legs_burst ls ms _ (fun x hx => hl x (by simp [hx])) (fun x hx => hm x (by simp [hx])) (by rw [List.length_append, List.length_append] at h; omega) (hw.right rfl)
    rw [hr]
/-- What parts from a log within 32 bits is none. -/
theorem dec_burst (ls : List S50) (hr : ∀ l ∈ ls, LegRd l) (b : List Int) (hb : Byt b) (hl : b.length = (legsB ls).length) {p : Int} (hw : Win p (legsB ls) b) (hne : b ≠ legsB ls) : decT b = ([], 210) := by
  apply dec_no
  intro h0
  obtain ⟨_, h3, h4⟩ := dec_yes hb h0 rfl
  generalize (decT b).1 = ms at h3 h4
  rw [h3] at hl hw
  have := legs_burst ls ms p hr h4 hl.symm hw
  rw [this, ← h3] at hne
  exact hne rfl
end Go.Proofs.Ytoebhddgpicegaa
namespace Go.Proofs.Ytoebhddgpicegaa
open Go.RowKit Go.Proofs.YtoebhddgpicegaaW.PrintWords
/-- Where two rows of bytes part: among the n bits from p on. -/
def WinN (p : Int) (n : Nat) (a b : List Int) : Prop := ∀ i j : Nat, j < 8 → i < a.length → (bw (a.getD i 0) ^^^ bw (b.getD i 0)).getLsbD j = true → p ≤ 8 * (i : Int) + j ∧ 8 * (i : Int) + j < p + n
theorem bw_flip {b : Int} (h : 0 ≤ b ∧ b < 256) {k : Nat} (hk : k < 8) : (0 ≤ Go.bits .xor .u8 b (2 ^ k % 256) ∧ Go.bits .xor .u8 b (2 ^ k % 256) < 256) ∧ bw (Go.bits .xor .u8 b (2 ^ k % 256)) = bw b ^^^ BitVec.ofNat 32 (2 ^ k) := by
  have hp : (2 : Nat) ^ k ≤ 2 ^ 7 := Nat.pow_le_pow_right (by decide) (by omega)
  have e : (2 ^ k % 256 : Int) = ((2 ^ k : Nat) : Int) := by
    have : ((2 ^ k : Nat) : Int) = 2 ^ k := by push_cast; rfl
    rw [← this]
    exact Int.emod_eq_of_lt (Int.natCast_nonneg _) (by omega)
  obtain ⟨n, rfl⟩ := Int.eq_ofNat_of_zero_le h.1
  rw [e, u8_xor h ⟨by omega, by omega⟩, Int.toNat_natCast, Int.toNat_natCast]
  have hlt : n ^^^ 2 ^ k < 2 ^ 8 := Nat.xor_lt_two_pow (by omega) (by omega)
  refine ⟨⟨by omega, by omega⟩, ?_⟩
  unfold bw
  rw [BitVec.ofInt_natCast, BitVec.ofInt_natCast]
  apply BitVec.eq_of_getLsbD_eq
  intro i hi
  rw [BitVec.getLsbD_xor, BitVec.getLsbD_ofNat, BitVec.getLsbD_ofNat, BitVec.getLsbD_ofNat, Nat.testBit_xor]
  simp [hi]
theorem set_getD {l : List Int} {q x : Nat} {v : Int} (hq : q < l.length) : (l.set q v).getD x 0 = if x = q then v else l.getD x 0 := by
  rw [List.getD_eq_getElem?_getD, List.getD_eq_getElem?_getD, List.getElem?_set]
  by_cases h : q = x
  · subst h; simp [hq]
  · rw [if_neg h, if_neg (fun e => h e.symm)]
theorem WinN.flip {p : Nat} {i : Nat} {l m : List Int} (h : WinN p i l m) (hb : Byt m) (hq : (p + i) / 8 < m.length) :
    WinN p (i + 1) l (m.set ((p + i) / 8) (Go.bits .xor .u8 (m.getD ((p + i) / 8) 0) (2 ^ ((p + i) % 8) % 256))) := by
  intro x j hj hx hd
  rw [set_getD hq] at hd
  by_cases he : x = (p + i) / 8
  · subst he
    rw [if_pos rfl, (bw_flip (hb.get hq) (Nat.mod_lt _ (by decide))).2, ← BitVec.xor_assoc, BitVec.getLsbD_xor, BitVec.getLsbD_ofNat, Nat.testBit_two_pow] at hd
    by_cases hj2 : (p + i) % 8 = j
    · omega
    · have : (bw (l.getD ((p + i) / 8) 0) ^^^ bw (m.getD ((p + i) / 8) 0)).getLsbD j = true := by simpa [hj2] using hd
      have := h _ j hj hx this
      omega
  · rw [if_neg he] at hd
    have := h x j hj hx hd
    omega
theorem Byt.set {l : List Int} (h : Byt l) (q : Nat) {v : Int} (hv : 0 ≤ v ∧ v < 256) : Byt (l.set q v) := fun x hx => (List.mem_or_eq_of_mem_set hx).elim (h x) (fun e => by rw [e]; exact hv)
/-- What Burst answers. -/
def BurstPost (w : World) (l : List Int) (at_ : Int) (e : Ending) (w' : World) : Prop :=
  Frm Nun w w' ∧ ((e = .returned (.tuple #[.slice none 0 0, .int .i64 1])) ∨ ∃ v m, e = .returned (.tuple #[v, .int .i64 0]) ∧ Kd.R (Kd.int .u8) 5 w' 0 (Nw Nun w) v m ∧ m.length = l.length ∧ Byt m ∧ Win at_ l m)
set_option maxHeartbeats 2000000 in
set_option maxRecDepth 100000 in
theorem burst_calls (w : World) (A : Option Addr) (c : Nat) (l : List Int) (at_ mask : Int) (hC : Kd.C (Kd.int .u8) w A l.length l) (hby : Byt l) (hl : l.length ≤ 140737488355328) (_ : 0 ≤ mask ∧ mask < 4294967296) :
    Calls Try.prog 23 #[.slice A l.length c, .int .i64 at_, .int .u32 mask] w (BurstPost w l at_) := by
  have HC := Lib.hid hC
  have HBY := Lib.hid hby
  clear hC hby
  go_enter Try.func23, Try.ntmps23
  by_cases h0 : at_ < 0
  · go_wp2
    go_ret2
    exact ⟨Frm.refl _ _, .inl rfl⟩
  · by_cases h1 : at_ > 8 * (l.length : Int)
    · go_wp2
      go_ret2
      exact ⟨Frm.refl _ _, .inl rfl⟩
    · obtain ⟨a, rfl⟩ := Int.eq_ofNat_of_zero_le (Int.not_lt.1 h0)
      go_wp2_with (first | (at_builtin; refine app_ints .u8 (.const (.slice none 0 0)) (.tmp 21) 22 5 1 rfl rfl Try.underlying22 info_u8 (by decide) (.slice none 0 0) [] l A l.length c (Nw Nun w) rfl rfl (Kd.R_nil _ _ _ _ _) HC.out (fun i hi => .inr hi) (by rw [List.length_nil]; omega) ?_; intro v1 w3 ho hg1; rw [List.nil_append] at ho; obtain ⟨A1, c3, rfl, hl1, _⟩ := Kd.R_reads ho; have HO := Lib.hid ho; have HG1 := Lib.hid ((Frm.refl Nun w).grown hg1 (fun k hk => by cases hk)); clear ho hg1))
      go_loopw [23] (fun t wr => ∃ i : Nat, i ≤ 32 ∧ t = .int .i64 i ∧ Frm Nun w wr ∧ ∃ m : List Int, m.length = l.length ∧ Hid (Byt m ∧ WinN a i l m) ∧ Kd.R (Kd.int .u8) 5 wr 0 (Nw Nun w) (.slice A1 l.length c3) m) (fun t _ => 32 - (intOf t).toNat)
      case atStart => exact ⟨0, by omega, rfl, HG1.out, l, rfl, Lib.hid ⟨HBY.out, fun i j _ _ hd => by rw [BitVec.xor_self] at hd; simp at hd⟩, HO.out⟩
      case round =>
        clear HO HG1
        obtain ⟨i, hi, rfl, hf, m, hml, HM, hr⟩ := hrel
        have HF := Lib.hid hf
        have HR := Lib.hid hr
        have HML := Lib.hid hml
        clear hf hr hml
        obtain ⟨wo, hwo⟩ : ∃ u, u = wr := ⟨_, rfl⟩
        subst hwo
        by_cases hlt : i < 32
        · cases hq : (Go.bits .and .u32 (mask / 2 ^ i) 1 == 0)
          · by_cases hin : (a : Int) + i < 8 * (l.length : Int)
            · obtain ⟨g, rfl⟩ : ∃ g, A1 = some ⟨g, 0, none⟩ := by
                cases A1 with
                | none => have := Kd.R_reads' HR.out; have h2 := this.2.2.2.2 (by rw [HML.out]; omega); obtain ⟨ad, e, _⟩ := h2; cases e
                | some ad => obtain ⟨g, rfl⟩ := Kd.R_head HR.out; exact ⟨g, rfl⟩
              have hr2 : Kd.R (Kd.int .u8) 5 wo 0 (Nw Nun w) (.slice (some ⟨g, 0, none⟩) m.length c3) m := by rw [HML.out]; exact HR.out
              obtain ⟨hcell, hfroz⟩ := Kd.R_cell (enc := Value.int .u8) (h1 := fun _ => rfl) 0 hr2 (((a + i) / 8 : Nat) : Int) (by omega) (by rw [HML.out]; omega)
              obtain ⟨bv, hbv⟩ : ∃ v, v = rdOf 0 m (((a + i) / 8 : Nat) : Int) := ⟨_, rfl⟩
              rw [← hbv] at hcell
              have HBV := Lib.hid hbv
              rw [Int.toNat_natCast] at hcell hfroz
              have HR2 := Lib.hid hr2
              clear hr2 hbv
              go_wp2_with fail
              go_region
              go_wp2
              go_roundw
              case rel =>
                have hq : (a + i) / 8 < m.length := by rw [HML.out]; omega
                have hbv : bv = m.getD ((a + i) / 8) 0 := HBV.out
                have hput := (Kd.R_put (enc := Value.int .u8) (h1 := fun _ => rfl) HR2.out (((a + i) / 8 : Nat) : Int) (Go.bits .xor .u8 bv (2 ^ ((a + i) % 8) % 256))).1
                rw [Int.toNat_natCast, HML.out] at hput
                refine ⟨i + 1, by omega, by go_num, (HF.out.set (p := ⟨g, (a + i) / 8, none⟩) (HR2.out.1 g rfl) _).drew, m.set ((a + i) / 8) (Go.bits .xor .u8 bv (2 ^ ((a + i) % 8) % 256)), by rw [List.length_set]; exact HML.out, Lib.hid ?_, Kd.R_drew hput⟩
                rw [hbv]
                exact ⟨HM.out.1.set _ (bw_flip (HM.out.1.get hq) (Nat.mod_lt _ (by decide))).1, HM.out.2.flip HM.out.1 hq⟩
              case measure => simp [intOf]; omega
            · go_wp2
              go_ret2
              exact ⟨HF.out, .inl rfl⟩
          · have HQ := Lib.hid hq
            go_wp2
            go_roundw
            case rel => exact ⟨i + 1, by omega, by go_num, HF.out, m, HML.out, Lib.hid ⟨HM.out.1, fun x j h1 h2 h3 => by have := HM.out.2 x j h1 h2 h3; omega⟩, HR.out⟩
            case measure => simp [intOf]; omega
        · obtain rfl : i = 32 := by omega
          go_wp2
          go_ret2
          exact ⟨HF.out, .inr ⟨_, m, rfl, HR.out, HML.out, HM.out.1, fun i j h1 h2 h3 => HM.out.2 i j h1 h2 h3⟩⟩
end Go.Proofs.Ytoebhddgpicegaa
namespace Go.Proofs.Ytoebhddgpicegaa
open Go.RowKit Go.Proofs.YtoebhddgpicegaaW.PrintWords
open PReplayApart
theorem lengthOf_ev (l : List S50) (hl : l.length ≤ 140737488355328) (hs : sumL l ≤ 1000000000000) : Ev (fun k => amberlaw21_lengthOf.f k l) (sumL l) := by
  have loop : ∀ d i : Nat, i + d = l.length → Ev (fun k => amberlaw21_lengthOf.l0 k l (sumL (l.take i)) (i : Int)) (sumL l) := by
    intro d
    induction d with
    | zero =>
      intro i hi
      refine Ev.step (f := fun _ => some _) (fun k => ?_) (Ev.now _)
      simp only [amberlaw21_lengthOf.l0]
      rw [if_neg (by omega), List.take_of_length_le (by omega)]
    | succ d ih =>
      intro i hi
      have hr : rd_T50 l (i : Int) = l.getD i z50 := by simp [rd_T50]
      refine Ev.step (f := fun k => amberlaw21_lengthOf.l0 k l (sumL (l.take (i + 1))) ((i + 1 : Nat) : Int)) (fun k => ?_) (ih (i + 1) (by omega))
      have h1 : sumL (l.take (i + 1)) = sumL (l.take i) + sizeL (l.getD i z50) := by rw [snocG (by omega) z50, sumL_snoc]
      have h2 := sumL_take l (i + 1)
      have h3 := sumL_nonneg (l.take i)
      have h4 := sizeL_pos (l.getD i z50)
      simp only [amberlaw21_lengthOf.l0]
      rw [if_pos (by omega), if_pos (by omega), wrap_nat (by omega), hr]
      congr 1
      rw [h1]
      unfold sizeL at h4 h1 ⊢
      unfold wrap64
      omega
  have := loop l.length 0 (by omega)
  rw [List.take_zero] at this
  exact this
theorem lengthOf_calls (w : World) (A : Option Addr) (c : Nat) (l : List S50) (hr : Kd.C k50 w A l.length l) (hc : l.length ≤ c) (hl : l.length ≤ 140737488355328) (hs : sumL l ≤ 1000000000000) :
    Calls Try.prog 20 #[.slice A l.length c] w fun e w' => e = .returned (.int .i64 (sumL l)) ∧ Frm Nun w w' := by
  obtain ⟨k, hk⟩ := (lengthOf_ev l hl hs).rounds
  refine (amberlaw21_lengthOf.calls k A c l _ w hr hc hk).mono ?_
  rintro e w' ⟨rfl, h⟩
  exact ⟨rfl, (Frm.refl _ _).drawn h⟩
/-- The legs' numbers are int's. -/
def PkOk (l : List S50) : Prop := ∀ x ∈ l, ∀ p ∈ x.f0, (-9223372036854775808 ≤ p.f0 ∧ p.f0 < 9223372036854775808) ∧ (-9223372036854775808 ≤ p.f1 ∧ p.f1 < 9223372036854775808)
theorem sum_each {l : List S50} {x : S50} (h : x ∈ l) : sizeL x ≤ sumL l := by
  obtain ⟨a, b, rfl⟩ := List.append_of_mem h
  rw [sumL_app]
  have h1 := sumL_nonneg a
  have h2 := sumL_nonneg b
  show _ ≤ sumL a + (sizeL x + sumL b)
  omega
theorem legs_rd {l : List S50} (h : LegsOk l) (hp : PkOk l) (hs : sumL l ≤ 65536) : ∀ x ∈ l, LegRd x := by
  intro x hx
  have h1 := sum_each hx
  have h2 := h.each x hx
  unfold sizeL at h1
  exact ⟨hp x hx, h2.sum, h2.ans, by omega, by omega⟩
theorem rd_ok {l : List S50} (h : ∀ x ∈ l, LegRd x) (hs : sumL l ≤ 65536) : LegsOk l := by
  refine ⟨?_, fun x hx => ⟨(h x hx).sum, (h x hx).ans, by have := (h x hx).n0; omega, by have := (h x hx).n1; omega⟩⟩
  have : ∀ l : List S50, 24 * (l.length : Int) ≤ sumL l := by
    intro l
    induction l with
    | nil => decide
    | cons x l ih => have := sizeL_pos x; simp only [sumL, List.map_cons, List.sum_cons, List.length_cons] at ih ⊢; omega
  have := this l
  omega
theorem enc_fit {l : List S50} (hs : sumL l ≤ 65536) : encT l = (legsB l, 0) := by rw [enc_eq, rencT, if_neg (by omega)]
theorem enc_big {l : List S50} (hs : 65536 < sumL l) : encT l = ([], 2) := by rw [enc_eq, rencT, if_pos hs]
set_option maxHeartbeats 4000000 in
set_option maxRecDepth 100000 in
theorem back_calls (w : World) (A B : Option Addr) (c d : Nat) (legs : List S50) (b : List Int) (hr : Kd.C k50 w A legs.length legs) (hc : legs.length ≤ c) (hb : Kd.C (Kd.int .u8) w B b.length b) (hd : b.length ≤ d)
    (hok : LegsOk legs) (hp : PkOk legs) (hs : sumL legs ≤ 1000000000000) (hby : Byt b) (hbl : b.length ≤ 140737488355328) :
    Calls Try.prog 5 #[.slice A legs.length c, .slice B b.length d] w fun e w' => e = .returned (.bool true) ∧ Frm Nun w w' := by
  have HR := Lib.hid hr
  have HB := Lib.hid hb
  have HOK := Lib.hid hok
  have HBY := Lib.hid hby
  have HP := Lib.hid hp
  clear hr hb hok hby hp
  go_enter Try.func5, Try.ntmps5
  go_wp2_with fail
  refine (fixed_calls w).mono ?_
  rintro e w1 ⟨rfl, k1⟩
  have K1 := Lib.hid k1
  clear k1
  go_wp2_with fail
  refine (lengthOf_calls w1 A c legs (Kd.C_below HR.out K1.out.below0) hc (by have := HOK.out.n; omega) hs).mono ?_
  rintro e w2 ⟨rfl, k2⟩
  have K2 := Lib.hid (K1.out.quiet k2)
  clear k2 K1
  obtain ⟨s, hse⟩ : ∃ s, s = sumL legs := ⟨_, rfl⟩
  rw [← hse] at hs ⊢
  have HSE := Lib.hid hse
  clear hse
  go_wp2_with fail
  refine (ownLegs_calls w2 A c legs (Kd.C_below HR.out K2.out.below0) hc HOK.out).mono ?_
  rintro e w3 ⟨v3, rfl, h3, k3⟩
  obtain ⟨A3, c3, rfl, hc3, hC3⟩ := Kd.S_reads h3
  have K3 := Lib.hid (K2.out.quiet k3)
  have HC3 := Lib.hid hC3
  clear k3 K2 h3 hC3
  go_wp2_with fail
  refine (encode_calls w3 A3 c3 legs HC3.out HOK.out.n HOK.out.each).mono ?_
  rintro e w4 ⟨v4, rfl, h4, k4⟩
  have K4 := Lib.hid (K3.out.quiet k4)
  clear k4 K3
  by_cases hbig : 65536 < s
  · have e1 : (encT legs).1 = [] := by rw [enc_big (by rw [← HSE.out]; exact hbig)]
    have e2 : (encT legs).2 = 2 := by rw [enc_big (by rw [← HSE.out]; exact hbig)]
    obtain ⟨A4, c4, rfl, _, _⟩ := Kd.R_reads h4
    rw [e1, e2, List.length_nil]
    clear e1 e2 h4
    go_wp2
    go_ret
    exact ⟨rfl, K4.out⟩
  · have hs2 : sumL legs ≤ 65536 := by rw [← HSE.out]; omega
    have hfit := enc_fit hs2
    have e1 : (encT legs).1 = legsB legs := by rw [hfit]
    have e2 : (encT legs).2 = 0 := by rw [hfit]
    have hlen : ((legsB legs).length : Int) = s := by rw [legsB_len, HSE.out]
    have hrd := legs_rd HOK.out HP.out hs2
    have hdec := dec_legs legs hrd (by omega)
    rw [e1] at h4
    rw [e2]
    obtain ⟨A4, c4, rfl, hc4, hC4⟩ := Kd.R_reads h4
    have HC4 := Lib.hid hC4
    have HDEC := Lib.hid hdec
    obtain ⟨n, hn⟩ : ∃ n, n = (legsB legs).length := ⟨_, rfl⟩
    have HLB := Lib.hid (legsB_byt legs)
    rw [← hn] at hc4 hlen HC4 ⊢
    have HN := Lib.hid hn
    clear e1 e2 h4 hC4 hdec hfit hn
    go_wp2_with fail
    have hob := ownBytes_calls w4 A4 c4 (legsB legs) (by rw [← HN.out]; exact HC4.out) (by rw [← HN.out]; exact hc4) (by rw [← HN.out]; omega)
    rw [← HN.out] at hob
    refine hob.mono ?_
    rintro e w5 ⟨v5, rfl, h5, k5⟩
    obtain ⟨A5, c5, rfl, hc5, hC5⟩ := Kd.R_reads h5
    rw [← HN.out] at hc5 hC5 ⊢
    have HC5 := Lib.hid hC5
    have K5 := Lib.hid (K4.out.quiet k5)
    clear k5 h5 hC5 K4 hob
    go_wp2_with fail
    have hdc := decode_calls A5 c5 (legsB legs) HLB.out (by rw [← HN.out]; omega) w5 (by rw [← HN.out]; exact HC5.out)
    rw [← HN.out, HDEC.out] at hdc
    refine hdc.mono ?_
    rintro e w6 ⟨v6, rfl, h6, k6⟩
    obtain ⟨A6, c6, rfl, hc6, hC6⟩ := Kd.S_reads h6
    have K6 := Lib.hid (K5.out.quiet k6)
    have HC6 := Lib.hid hC6
    have hsl := sameLegs_self w6 A6 A c6 c legs hC6 hc6 (Kd.C_below HR.out K6.out.below0) hc HOK.out
    have HSL := Lib.hid hsl
    clear k6 h6 hC6 K5 hdc hsl HDEC
    go_wp2_with (first
      | (go_at_call 14; refine HSL.out.mono ?_; rintro e w7 ⟨rfl, k7⟩; have K7 := Lib.hid (K6.out.quiet k7); clear k7)
      | (go_at_call 10; refine (ownBytes_calls w7 B d b (Kd.C_below HB.out K7.out.below0) hd (by omega)).mono ?_; rintro e w8 ⟨v8, rfl, h8, k8⟩; obtain ⟨A8, c8, rfl, hc8, hC8⟩ := Kd.R_reads h8; have HC8 := Lib.hid hC8; have K8 := Lib.hid (K7.out.quiet k8); clear k8 h8 hC8))
    refine (decode_calls A8 c8 b HBY.out (by omega) w8 HC8.out).mono ?_
    rintro e w9 ⟨v9, rfl, h9, k9⟩
    have K9 := Lib.hid (K8.out.quiet k9)
    clear k9
    by_cases hg : (decT b).2 = 0
    · obtain ⟨m, hm⟩ : ∃ m, m = (decT b).1 := ⟨_, rfl⟩
      obtain ⟨y1, y2, y3⟩ := dec_yes HBY.out hg hm.symm
      rw [← hm] at h9
      rw [hg]
      obtain ⟨A9, c9, rfl, hc9, hC9⟩ := Kd.S_reads h9
      have hsm : sumL m ≤ 65536 := by rw [← legsB_len, ← y2]; omega
      have hmok := rd_ok y3 hsm
      have e1 : (encT m).1 = b := by rw [enc_fit hsm, ← y2]
      have e2 : (encT m).2 = 0 := by rw [enc_fit hsm]
      have hen := encode_calls w9 A9 c9 m hC9 hmok.n hmok.each
      rw [e1, e2] at hen
      have HEN := Lib.hid hen
      clear hm y1 y2 y3 h9 hC9 hsm hmok e1 e2 hen hg
      go_wp2_with (first
        | (go_at_call 15; refine HEN.out.mono ?_; rintro e w10 ⟨v10, rfl, h10, k10⟩; obtain ⟨A10, c10, rfl, hc10, hC10⟩ := Kd.R_reads h10; have hs1 := Kd.C_string (P := Try.prog) (A := A10) (c := c10) Try.underlying22 Try.underlying5 Try.underlying9 hC10; have hs2 := Kd.C_string (P := Try.prog) (A := B) (c := d) Try.underlying22 Try.underlying5 Try.underlying9 (Kd.C_below HB.out (K9.out.quiet k10).below0); have K10 := Lib.hid (K9.out.quiet k10); clear k10 h10 hC10))
      go_ret
      exact ⟨rfl, K10.out⟩
    · have hno := dec_no hg
      have e1 : (decT b).1 = [] := by rw [hno]
      have e2 : (decT b).2 = 210 := by rw [hno]
      obtain ⟨A9, c9, rfl, hc9, hC9⟩ := Kd.S_reads h9
      rw [e1, e2, List.length_nil]
      clear h9 hc9 hC9 e1 e2 hno hg
      go_wp2
      go_ret
      exact ⟨rfl, K9.out⟩
end Go.Proofs.Ytoebhddgpicegaa
namespace Go.Proofs.Ytoebhddgpicegaa
open Go.RowKit Go.Proofs.YtoebhddgpicegaaW.PrintWords
open PReplayApart
/-- The legs' bytes are bounded by their bulk. -/
theorem sum_bulk (l : List S50) : sumL l ≤ 24 * ((l.map muL).sum : Nat) := by
  induction l with
  | nil => decide
  | cons x l ih =>
    have h3 : sizeL x ≤ 24 * (muL x : Nat) := by
      have s1 : ∀ l : List S80, (l.map (fun _ => 2)).sum = 2 * l.length := by
        intro l; induction l with | nil => rfl | cons y l ih => simp only [List.map_cons, List.sum_cons, List.length_cons, ih]; omega
      have s2 : ∀ l : List Int, (l.map (fun _ => 1)).sum = l.length := by
        intro l; induction l with | nil => rfl | cons y l ih => simp only [List.map_cons, List.sum_cons, List.length_cons, ih]; omega
      unfold sizeL muL
      rw [s1, s2]
      omega
    have e : sumL (x :: l) = sizeL x + sumL l := by simp [sumL]
    rw [e, List.map_cons, List.sum_cons]
    omega
end Go.Proofs.Ytoebhddgpicegaa
namespace Go.Proofs.Ytoebhddgpicegaa
open Go.RowKit Go.Proofs.YtoebhddgpicegaaW.PrintWords
open PReplayApart
theorem str_ne {l m : List Int} (hl : Byt l) (hm : Byt m) (h : m ≠ l) : ((strOfNums l).toList == (strOfNums m).toList) = false := by
  rw [beq_eq_false_iff_ne]
  intro he
  rw [ByteArray.toList_eq, ByteArray.toList_eq, strOfNums, strOfNums] at he
  simp only at he
  apply h
  have key : ∀ x y : Int, 0 ≤ x ∧ x < 256 → 0 ≤ y ∧ y < 256 → UInt8.ofNat x.toNat = UInt8.ofNat y.toNat → x = y := by
    intro x y h0 h1 h
    have := congrArg UInt8.toNat h
    simp at this
    omega
  have : ∀ l m : List Int, Byt l → Byt m → l.map (fun n => UInt8.ofNat n.toNat) = m.map (fun n => UInt8.ofNat n.toNat) → m = l := by
    intro l
    induction l with
    | nil => intro m _ _ h; exact List.map_eq_nil_iff.1 h.symm
    | cons x l ih =>
      intro m h1 h2 h
      cases m with
      | nil => cases h
      | cons y m =>
        simp only [List.map_cons, List.cons.injEq] at h
        rw [key x y (h1 x (by simp)) (h2 y (by simp)) h.1, ih m (fun z hz => h1 z (by simp [hz])) (fun z hz => h2 z (by simp [hz])) h.2]
  exact this l m hl hm he
set_option maxHeartbeats 4000000 in
set_option maxRecDepth 100000 in
theorem tells_calls (w : World) (A : Option Addr) (c : Nat) (legs : List S50) (at_ mask cut : Int) (hr : Kd.C k50 w A legs.length legs) (hc : legs.length ≤ c)
    (hok : LegsOk legs) (hp : PkOk legs) (hs : sumL legs ≤ 1000000000000) (hm : 0 ≤ mask ∧ mask < 4294967296) :
    Calls Try.prog 8 #[.slice A legs.length c, .int .i64 at_, .int .u32 mask, .int .i64 cut] w fun e w' => e = .returned (.bool true) ∧ Frm Nun w w' := by
  have HR := Lib.hid hr
  have HOK := Lib.hid hok
  have HP := Lib.hid hp
  have HMM := Lib.hid hm
  obtain ⟨N, hN⟩ : ∃ n, n = legs.length := ⟨_, rfl⟩
  have hNb : N ≤ 2513169434916 := by rw [hN]; exact hok.n
  have HN := Lib.hid hN
  rw [← hN] at hc ⊢
  clear hr hok hp hm hN
  go_enter Try.func8, Try.ntmps8
  go_wp2_with fail
  refine (fixed_calls w).mono ?_
  rintro e w1 ⟨rfl, k1⟩
  have K1 := Lib.hid k1
  clear k1
  obtain ⟨s, hse⟩ : ∃ s, s = sumL legs := ⟨_, rfl⟩
  have HSE := Lib.hid hse
  have hlo : Calls Try.prog 20 #[.slice A N c] w1 fun e w' => e = .returned (.int .i64 s) ∧ Frm Nun w1 w' := by
    have := lengthOf_calls w1 A c legs (Kd.C_below HR.out K1.out.below0) (by rw [← HN.out]; exact hc) (by rw [← HN.out]; omega) hs
    rwa [← HN.out, ← hse] at this
  have HLO := Lib.hid hlo
  rw [← hse] at hs
  clear hse hlo
  by_cases hbig : 65536 < s
  · go_wp2_with fail
    refine HLO.out.mono ?_
    rintro e w2 ⟨rfl, k2⟩
    have K2 := Lib.hid (K1.out.quiet k2)
    clear k2
    go_wp2
    go_ret
    exact ⟨rfl, K2.out⟩
  · by_cases hz : N = 0
    · subst hz
      go_wp2_with fail
      refine HLO.out.mono ?_
      rintro e w2 ⟨rfl, k2⟩
      have K2 := Lib.hid (K1.out.quiet k2)
      clear k2
      go_wp2
      go_ret
      exact ⟨rfl, K2.out⟩
    · have hz2 : ((N : Int) == 0) = false := by simp; omega
      go_wp2_with fail
      refine HLO.out.mono ?_
      rintro e w2 ⟨rfl, k2⟩
      have K2 := Lib.hid (K1.out.quiet k2)
      clear k2
      go_wp2_with fail
      have hs2 : sumL legs ≤ 65536 := by rw [← HSE.out]; omega
      have hfit := enc_fit hs2
      have hrd := legs_rd HOK.out HP.out hs2
      have hLB : ((legsB legs).length : Int) = s := by rw [legsB_len, HSE.out]
      obtain ⟨M, hM⟩ : ∃ n, n = (legsB legs).length := ⟨_, rfl⟩
      have hMs : (M : Int) = s := by rw [hM]; exact hLB
      have HM := Lib.hid hM
      have HRD := Lib.hid hrd
      have hol := ownLegs_calls w2 A c legs (Kd.C_below HR.out K2.out.below0) (by rw [← HN.out]; exact hc) HOK.out
      rw [← HN.out] at hol
      refine hol.mono ?_
      rintro e w3 ⟨v3, rfl, h3, k3⟩
      obtain ⟨A3, c3, rfl, hc3, hC3⟩ := Kd.S_reads h3
      have K3 := Lib.hid (K2.out.quiet k3)
      have hen := encode_calls w3 A3 c3 legs hC3 HOK.out.n HOK.out.each
      rw [hfit, ← HN.out] at hen
      rw [← HN.out]
      have HEN := Lib.hid hen
      clear hs2 hfit hrd hLB hM hol k3 h3 hC3 hc3 hen K2
      go_wp2_with fail
      refine HEN.out.mono ?_
      rintro e w4 ⟨v4, rfl, h4, k4⟩
      obtain ⟨A4, c4, rfl, hc4, hC4⟩ := Kd.R_reads h4
      dsimp only at hc4 hC4 ⊢
      rw [← HM.out] at hc4 hC4 ⊢
      have K4 := Lib.hid (K3.out.quiet k4)
      have HC4 := Lib.hid hC4
      clear k4 h4 hC4 K3 HEN
      obtain ⟨i0, hi0, _, _, _⟩ := info_parts info50
      have hcut := cut_to (P := Try.prog) 23 50 .i64 Try.underlying23 hi0 A N c ((N : Int) - 1) (by omega) (by omega) (by omega)
      go_wp2_with fail
      clear hcut hz2
      obtain ⟨t, hte⟩ : ∃ t, t = sumL (legs.take (N - 1)) := ⟨_, rfl⟩
      have hlt : (legs.take (N - 1)).length = N - 1 := take_len (by rw [← HN.out]; omega)
      have hst := sumL_take legs (N - 1)
      have hlo := lengthOf_calls w4 A c (legs.take (N - 1)) (Kd.C_take (Kd.C_below HR.out K4.out.below0) (by rw [← HN.out]; omega)) (by rw [hlt]; omega) (by rw [hlt]; omega) (by rw [← HSE.out] at hst; omega)
      rw [hlt, ← hte] at hlo
      have ht0 := sumL_nonneg (legs.take (N - 1))
      rw [← hte] at ht0
      have HTE := Lib.hid hte
      clear hlt hst hte
      refine hlo.mono ?_
      rintro e w5 ⟨rfl, k5⟩
      have K5 := Lib.hid (K4.out.quiet k5)
      have HC5 := Lib.hid (Kd.C_below HC4.out k5.below0)
      clear hlo k5 K4 HC4
      by_cases hcut : t < cut ∧ cut < M
      · obtain ⟨hc1, hc2⟩ := hcut
        obtain ⟨k, rfl⟩ := Int.eq_ofNat_of_zero_le (show 0 ≤ cut by omega)
        obtain ⟨i1, hi1, _, _, _⟩ := info_parts info_u8
        have hcut := cut_to (P := Try.prog) 22 5 .i64 Try.underlying22 hi1 A4 M c4 (k : Int) (by omega) (by omega) (by omega)
        go_wp2_with fail
        clear hcut
        have hkl : ((legsB legs).take k).length = k := take_len (by rw [← HM.out]; omega)
        have hob := ownBytes_calls w5 A4 c4 ((legsB legs).take k) (Kd.C_take (show Kd.C (Kd.int .u8) w5 A4 (legsB legs).length (legsB legs) by rw [← HM.out]; exact HC5.out) (by rw [← HM.out]; omega)) (by rw [hkl]; omega) (by rw [hkl]; omega)
        rw [hkl] at hob
        have hdk := dec_cut legs HRD.out k (by rw [← HN.out, ← HTE.out]; exact hc1) (by rw [← HSE.out]; omega)
        have HDK := Lib.hid hdk
        have HKL := Lib.hid hkl
        clear hdk hkl
        refine hob.mono ?_
        rintro e w6 ⟨v6, rfl, h6, k6⟩
        obtain ⟨A6, c6, rfl, hc6, hC6⟩ := Kd.R_reads h6
        have K6 := Lib.hid (K5.out.quiet k6)
        have HC6 := Lib.hid (Kd.C_below HC5.out k6.below0)
        have hde := decode_calls A6 c6 ((legsB legs).take k) ((legsB_byt legs).take k) (by rw [HKL.out]; omega) w6 hC6
        rw [HKL.out] at hc6 hde ⊢
        rw [HDK.out] at hde
        have HDE := Lib.hid hde
        clear hob k6 h6 hC6 hde K5 HC5 HDK HKL
        go_wp2_with fail
        refine HDE.out.mono ?_
        rintro e w7 ⟨v7, rfl, h7, k7⟩
        obtain ⟨A7, c7, rfl, hc7, hC7⟩ := Kd.S_reads h7
        dsimp only [List.length_nil] at hc7 hC7 ⊢
        have K7 := Lib.hid (K6.out.quiet k7)
        have HC7 := Lib.hid (Kd.C_below HC6.out k7.below0)
        clear k7 h7 hC7 K6 HC6 HDE
        have KX := K7
        have HCX := HC7
        clear K7 HC7
        obtain ⟨wx, hwx⟩ : ∃ u, u = w7 := ⟨_, rfl⟩
        subst hwx
        go_wp2_with fail
        have hob := ownBytes_calls wx A4 c4 (legsB legs) (by rw [← HM.out]; exact HCX.out) (by rw [← HM.out]; exact hc4) (by rw [← HM.out]; omega)
        rw [← HM.out] at hob
        refine hob.mono ?_
        rintro e w8 ⟨v8, rfl, h8, k8⟩
        obtain ⟨A8, c8, rfl, hc8, hC8⟩ := Kd.R_reads h8
        rw [← HM.out] at hc8 hC8 ⊢
        have K8 := Lib.hid (KX.out.quiet k8)
        have HC8 := Lib.hid (Kd.C_below HCX.out k8.below0)
        have hbu := burst_calls w8 A8 c8 (legsB legs) at_ mask (by rw [← HM.out]; exact hC8) (legsB_byt legs) (by rw [← HM.out]; omega) HMM.out
        rw [← HM.out] at hbu
        have HBU := Lib.hid hbu
        clear hob k8 h8 hC8 hbu KX HCX
        go_wp2_with fail
        refine HBU.out.mono ?_
        rintro e w9 ⟨k9, (rfl | ⟨v9, m, rfl, h9, hml, hmb, hmw⟩)⟩
        · have K9 := Lib.hid (K8.out.quiet k9)
          clear k9
          go_wp2
          go_ret
          exact ⟨rfl, K9.out⟩
        · obtain ⟨A9, c9, rfl, hc9, hC9⟩ := Kd.R_reads h9
          have K9 := Lib.hid (K8.out.quiet k9)
          have hs1 := Kd.C_string (P := Try.prog) (A := A4) (c := c4) Try.underlying22 Try.underlying5 Try.underlying9 (Kd.C_below HC8.out k9.below0)
          have hs2 := Kd.C_string (P := Try.prog) (A := A9) (c := c9) Try.underlying22 Try.underlying5 Try.underlying9 hC9
          rw [hml, ← HM.out] at hs2 hc9 hC9 ⊢
          by_cases he : m = legsB legs
          · subst he
            clear hmw hmb hml hC9 h9 k9
            go_wp2
            go_ret
            exact ⟨rfl, K9.out⟩
          · have hne := str_ne (legsB_byt legs) hmb he
            have hdb := dec_burst legs HRD.out m hmb hml hmw he
            have hde := decode_calls A9 c9 m hmb (by rw [hml, ← HM.out]; omega) w9 (by rw [hml, ← HM.out]; exact hC9)
            rw [hdb, hml, ← HM.out] at hde
            have HDE := Lib.hid hde
            obtain ⟨st1, hst1⟩ : ∃ st, st = strOfNums (legsB legs) := ⟨_, rfl⟩
            obtain ⟨st2, hst2⟩ : ∃ st, st = strOfNums m := ⟨_, rfl⟩
            rw [← hst1] at hs1 hne
            rw [← hst2] at hs2 hne
            clear hmw hmb hml hC9 h9 k9 he hde hdb hst1 hst2
            go_wp2_with fail
            refine HDE.out.mono ?_
            rintro e w10 ⟨v10, rfl, h10, k10⟩
            obtain ⟨A10, c10, rfl, hc10, hC10⟩ := Kd.S_reads h10
            have K10 := Lib.hid (K9.out.quiet k10)
            clear h10 k10 hC10
            dsimp only [List.length_nil] at hc10 ⊢
            go_wp2
            go_ret
            exact ⟨rfl, K10.out⟩
      · have KX := K5
        have HCX := HC5
        clear K5 HC5
        obtain ⟨wx, hwx⟩ : ∃ u, u = w5 := ⟨_, rfl⟩
        subst hwx
        go_wp2_with fail
        all_goals
          have hob := ownBytes_calls wx A4 c4 (legsB legs) (by rw [← HM.out]; exact HCX.out) (by rw [← HM.out]; exact hc4) (by rw [← HM.out]; omega)
          rw [← HM.out] at hob
          refine hob.mono ?_
          rintro e w8 ⟨v8, rfl, h8, k8⟩
          obtain ⟨A8, c8, rfl, hc8, hC8⟩ := Kd.R_reads h8
          rw [← HM.out] at hc8 hC8 ⊢
          have K8 := Lib.hid (KX.out.quiet k8)
          have HC8 := Lib.hid (Kd.C_below HCX.out k8.below0)
          have hbu := burst_calls w8 A8 c8 (legsB legs) at_ mask (by rw [← HM.out]; exact hC8) (legsB_byt legs) (by rw [← HM.out]; omega) HMM.out
          rw [← HM.out] at hbu
          have HBU := Lib.hid hbu
          clear hob k8 h8 hC8 hbu KX HCX
          go_wp2_with fail
          refine HBU.out.mono ?_
          rintro e w9 ⟨k9, (rfl | ⟨v9, m, rfl, h9, hml, hmb, hmw⟩)⟩
          · have K9 := Lib.hid (K8.out.quiet k9)
            clear k9
            go_wp2
            go_ret
            exact ⟨rfl, K9.out⟩
          · obtain ⟨A9, c9, rfl, hc9, hC9⟩ := Kd.R_reads h9
            have K9 := Lib.hid (K8.out.quiet k9)
            have hs1 := Kd.C_string (P := Try.prog) (A := A4) (c := c4) Try.underlying22 Try.underlying5 Try.underlying9 (Kd.C_below HC8.out k9.below0)
            have hs2 := Kd.C_string (P := Try.prog) (A := A9) (c := c9) Try.underlying22 Try.underlying5 Try.underlying9 hC9
            rw [hml, ← HM.out] at hs2 hc9 hC9 ⊢
            by_cases he : m = legsB legs
            · subst he
              clear hmw hmb hml hC9 h9 k9
              go_wp2
              go_ret
              exact ⟨rfl, K9.out⟩
            · have hne := str_ne (legsB_byt legs) hmb he
              have hdb := dec_burst legs HRD.out m hmb hml hmw he
              have hde := decode_calls A9 c9 m hmb (by rw [hml, ← HM.out]; omega) w9 (by rw [hml, ← HM.out]; exact hC9)
              rw [hdb, hml, ← HM.out] at hde
              have HDE := Lib.hid hde
              obtain ⟨st1, hst1⟩ : ∃ st, st = strOfNums (legsB legs) := ⟨_, rfl⟩
              obtain ⟨st2, hst2⟩ : ∃ st, st = strOfNums m := ⟨_, rfl⟩
              rw [← hst1] at hs1 hne
              rw [← hst2] at hs2 hne
              clear hmw hmb hml hC9 h9 k9 he hde hdb hst1 hst2
              go_wp2_with fail
              refine HDE.out.mono ?_
              rintro e w10 ⟨v10, rfl, h10, k10⟩
              obtain ⟨A10, c10, rfl, hc10, hC10⟩ := Kd.S_reads h10
              have K10 := Lib.hid (K9.out.quiet k10)
              clear h10 k10 hC10
              dsimp only [List.length_nil] at hc10 ⊢
              go_wp2
              go_ret
              exact ⟨rfl, K10.out⟩
end Go.Proofs.Ytoebhddgpicegaa
namespace Go.Proofs.Ytoebhddgpicegaa.replayTellsBursts
open Go.ChangeShapes Go.WideShapes Go.ChangeAt Go.RowKit
open Go.Proofs.YtoebhddgpicegaaW.PrintWords PReplayApart
theorem own : ownKnob Try.prog.godebug = none := by kernel_rfl
theorem laidOut : laidOutB Try.prog = true := by kernel_rfl
theorem contract (H : Type) (enc : TypeId × Value → H) (W : World) (base : Nat) (args : Array Value) (ds gs : List (DataW H)) (before : List MemPlace)
    (hval : ∀ (j : Nat) t v, Try.f8.params[j]? = some t → args[j]? = some v → Value.okWide Try.prog W .any base t v)
    (hW : DataW.Whole enc Try.prog Try.f8.params.toList Rows.replayTellsBurstsSpec.vars false W args.toList ds gs before) (hk : Rows.uptoSmall H (ds ++ gs) = true)
    (hsz : (DataW.weightsEach Try.prog (Try.f8.params.toList ++ Rows.replayTellsBurstsSpec.plain.varTypes Try.prog) (ds ++ gs)).all (· ≤ reachBytes) = true) :
    Calls Try.prog 8 args W fun e W' => ∃ v, e = .returned v ∧ Rows.replayTellsBurstsSpec.post enc Try.prog Try.f8 false true false false W args v W' := by
  have hW' := hW
  obtain ⟨p, q, hA0, hV, rfl, hfz, hnd⟩ := hW
  have hA : DataW.TrodAll enc Try.prog W 0 (fun _ => true) true Try.f8.params.toList args.toList ds p := hA0
  rw [Try.params8] at hA hval hsz
  obtain ⟨v0, vs0, d0, ds0, p0, q0, hargs, rfl, rfl, h0, r0⟩ := trodAll_cons hA
  obtain ⟨v1, vs1, d1, ds1, p1, q1, rfl, rfl, rfl, h1, r1⟩ := trodAll_cons r0
  obtain ⟨v2, vs2, d2, ds2, p2, q2, rfl, rfl, rfl, h2, r2⟩ := trodAll_cons r1
  obtain ⟨v3, vs3, d3, ds3, p3, q3, rfl, rfl, rfl, h3, r3⟩ := trodAll_cons r2
  obtain ⟨rfl, rfl, rfl⟩ := trodAll_nil r3
  obtain rfl : args = #[v0, v1, v2, v3] := by cases args; simp_all
  obtain ⟨rfl, rfl⟩ := trodVars_none hV
  obtain ⟨a0, len0, cap0, rfl⟩ := okWide_slice Try.underlying23 (hval 0 23 v0 rfl rfl)
  obtain ⟨a1, rfl, rfl, rfl, w1⟩ := open_int Try.underlying3 (hval 1 3 v1 rfl rfl) h1
  obtain ⟨a2, rfl, rfl, rfl, w2⟩ := open_int Try.underlying35 (hval 2 35 v2 rfl rfl) h2
  obtain ⟨a3, rfl, rfl, rfl, w3⟩ := open_int Try.underlying3 (hval 3 3 v3 rfl rfl) h3
  have k0 := h0
  have lt0 : ∀ x ∈ p0, x.block < W.heap.size := by obtain ⟨m, hm⟩ := k0; exact DataW.trod_lt m _ _ _ hm
  have hw : ∀ n ∈ d0.weights Try.prog 23, n ≤ reachBytes := by
    intro n hn
    have := List.all_eq_true.1 hsz n (DataW.weights_mem_each (j := 0) rfl rfl n hn)
    simpa using this
  have hbk : Rows.uptoBulkAll (d0 :: _) ≤ 1048576 := of_decide_eq_true hk
  obtain ⟨m0, hm0⟩ := h0
  obtain ⟨legs, ⟨A, c, hcs, hc, hC⟩, hok, hmu⟩ := opens_legs hm0 hw
  obtain ⟨rfl, rfl, rfl⟩ : a0 = A ∧ len0 = legs.length ∧ cap0 = c := by simpa [Value.cells] using hcs
  obtain ⟨hlo, hpk⟩ := legs_ok hok
  have hs : sumL legs ≤ 1000000000000 := by
    have h4 := sum_bulk legs
    have hmu' : (legs.map muL).sum + 1 ≤ Rows.uptoBulk d0 := hmu
    simp only [Rows.uptoBulkAll] at hbk
    omega
  clear hA0 hA hval hsz hk hbk
  refine (tells_calls W a0 cap0 legs a1 a2 a3 hC hc hlo hpk hs (wf_u32 w2)).mono fun e W' ⟨he, fr⟩ => ?_
  subst he
  have bel := fr.below0
  exact ⟨_, rfl, _, _, _, [], _, [], hW', trodAll_mk1 (shut_bool Try.underlying4 _), (trodAll_cons_mk (Below.trod laidOut (by kernel_rfl) (of_decide_eq_true (by kernel_rfl)) k0 bel lt0) (trodAll_cons_mk (shut_int Try.underlying3 w1) (trodAll_cons_mk (shut_int Try.underlying35 w2) (trodAll_cons_mk (shut_int Try.underlying3 w3) trodAll_mk0)))), rfl, bel.frame _, fun h => by cases h⟩
set_option maxRecDepth 100000 in
theorem lifted (os : Os) (started : os.Started) (H : Type) (enc : TypeId × Value → H) (F : Stop.Interp) :
    ReturnsInHanded {} Try.checked os 8 .any ((Rows.OpenSpec.upto Rows.replayTellsBurstsSpec).pre6 enc Try.prog Try.f8 Rows.replayTellsBurstsUptoRow.domain false) (((Rows.OpenSpec.upto Rows.replayTellsBurstsSpec).at F).post enc Try.prog Try.f8 false true false false) := by
  refine returnsInHanded_of_cond_sized (C := Try.checked) (s := Rows.OpenSpec.upto Rows.replayTellsBurstsSpec) (k := Rows.uptoSmall) rfl own started (by kernel_rfl) Try.func8
    (OpenSpec.witness (enc := enc) (C := Try.checked) (s := Rows.OpenSpec.upto Rows.replayTellsBurstsSpec) (k := Rows.uptoSmall) rfl false ⟨#[], #[.slice none 0 0, .int .i64 0, .int .u32 0, .int .i64 0], []⟩ 8 (by kernel_rfl) (by kernel_rfl) (by kernel_rfl)
      (x := ([.nil, .lit (.int .i64 0), .lit (.int .u32 0), .lit (.int .i64 0)], [], [])) (by kernel_rfl) rfl (by kernel_rfl)) ?_
  intro W base args ds gs before hval hW _ hk hsz _
  exact contract H enc W base args ds gs before hval hW hk hsz
theorem over : Rows.replayTellsBurstsUptoRow.holds Try.pinned (Rows.OpenSpec.upto Rows.replayTellsBurstsSpec) :=
  OpenClaim.holds_of_cond 8 Try.f8 rfl rfl rfl rfl rfl rfl rfl ⟨rfl, rfl, rfl, rfl, rfl⟩ rfl rfl rfl rfl rfl (by kernel_rfl) Try.func8 (by kernel_rfl)
    (of_decide_eq_true (by kernel_rfl)) (by unfold Func.isWrapper; first | (rw [if_pos (by decide +kernel)]; kernel_rfl) | (rw [if_neg (by decide +kernel)]; exact ⟨rfl, rfl⟩))
    (fun os started H enc _ F => lifted os started H enc F)
end Go.Proofs.Ytoebhddgpicegaa.replayTellsBursts
namespace Go.Proofs.Ytoebhddgpicegaa
theorem replayTellsBursts_upto : Rows.ReplayTellsBurstsUptoSaid := replayTellsBursts.over
#print axioms replayTellsBursts_upto
end Go.Proofs.Ytoebhddgpicegaa
