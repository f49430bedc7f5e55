/- Lemmas for this claim: PureE, PureF, PureG, Scr, Scr2, Bears, Rws, Back, Bulk, Rws2. -/
import Derived.Test.YtoebhddgpicegaaZf
import Derived.Test.YtoebhddgpicegaaZd
import Derived.Test.YtoebhddgpicegaaPReplayApartx6
import Derived.Test.YtoebhddgpicegaaZg
import Derived.Test.YtoebhddgpicegaaPReplayApartx5
namespace Go.Proofs.Ytoebhddgpicegaa
open Go.RowKit Go.Proofs.YtoebhddgpicegaaW.PrintWords
open PReplayApart
theorem lf_zero {c : BitVec 32} (h : lf c = 0#32) : c = 0#32 := by
  have hp : poly.getLsbD 31 = true := by decide
  have h31 : (lf c).getLsbD 31 = c.getLsbD 0 := by
    unfold lf
    rw [BitVec.getLsbD_xor, BitVec.getLsbD_ushiftRight]
    have : c.getLsbD (1 + 31) = false := BitVec.getLsbD_of_ge c 32 (by omega)
    rw [this]
    cases c.getLsbD 0
    · simp
    · simp [hp]
  have h0 : c.getLsbD 0 = false := by rw [← h31, h]; simp
  have e : lf c = c >>> 1 := by
    unfold lf
    rw [h0]
    simp
  rw [e] at h
  apply BitVec.eq_of_getLsbD_eq
  intro i hi
  cases i with
  | zero => rw [h0]; simp
  | succ i =>
    have := congrArg (fun v => v.getLsbD i) h
    simp only [BitVec.getLsbD_ushiftRight] at this
    rw [Nat.add_comm] at this
    rw [this]
    simp
theorem lfn_zero (n : Nat) : ∀ c : BitVec 32, lfn n c = 0#32 → c = 0#32 := by
  induction n with
  | zero => intro c h; exact h
  | succ n ih => intro c h; exact lf_zero (ih _ h)
theorem xor_zero {a b : BitVec 32} (h : a ^^^ b = 0#32) : a = b := by
  have : a ^^^ b ^^^ b = 0#32 ^^^ b := by rw [h]
  rw [BitVec.xor_assoc, BitVec.xor_self] at this
  simpa using this
theorem lfn_inj {n : Nat} {a b : BitVec 32} (h : lfn n a = lfn n b) : a = b := by
  apply xor_zero
  apply lfn_zero n
  rw [lfn_xor, h]
  simp
theorem lfn_add (m : Nat) : ∀ (n : Nat) (s : BitVec 32), lfn m (lfn n s) = lfn (n + m) s := by
  intro n
  induction n with
  | zero => intro s; rw [Nat.zero_add]; rfl
  | succ n ih =>
    intro s
    rw [Nat.succ_add]
    show lfn m (lfn n (lf s)) = lfn (n + m) (lf s)
    exact ih _
theorem upd_inj {l : List Int} : ∀ {a b : BitVec 32}, upd a l = upd b l → a = b := by
  induction l with
  | nil => intro a b h; exact h
  | cons x l ih =>
    intro a b h
    have h1 : stepB a (bw x) = stepB b (bw x) := ih h
    have h2 := lfn_inj h1
    have h3 : a ^^^ bw x ^^^ bw x = b ^^^ bw x ^^^ bw x := by rw [h2]
    rw [BitVec.xor_assoc, BitVec.xor_assoc, BitVec.xor_self] at h3
    simpa using h3
theorem bw_cat {v : Int} (h0 : 0 ≤ v) (h1 : v < 4294967296) : bw v = bw (v % 256) ^^^ (bw (v / 256) <<< 8) := by
  apply BitVec.eq_of_toNat_eq
  obtain ⟨n, rfl⟩ := Int.eq_ofNat_of_zero_le h0
  have e : ∀ m : Nat, m < 4294967296 → (bw (m : Int)).toNat = m := by
    intro m hm
    unfold bw
    rw [BitVec.ofInt_natCast, BitVec.toNat_ofNat]
    omega
  have e1 : ((n : Int) % 256) = ((n % 256 : Nat) : Int) := by omega
  have e2 : ((n : Int) / 256) = ((n / 256 : Nat) : Int) := by omega
  rw [e1, e2, BitVec.toNat_xor, BitVec.toNat_shiftLeft, e n (by omega), e (n % 256) (by omega), e (n / 256) (by omega), Nat.shiftLeft_eq]
  have hm : n / 256 * 2 ^ 8 % 2 ^ 32 = n / 256 * 2 ^ 8 := by omega
  rw [hm]
  have := Nat.two_pow_add_eq_or_of_lt (i := 8) (b := n % 256) (by omega) (n / 256)
  have hx : n % 256 ^^^ n / 256 * 2 ^ 8 = n / 256 * 2 ^ 8 + n % 256 := by
    rw [Nat.xor_comm, Nat.mul_comm, this]
    apply Nat.eq_of_testBit_eq
    intro i
    rw [Nat.testBit_xor, Nat.testBit_or]
    by_cases hi : i < 8
    · have : (2 ^ 8 * (n / 256)).testBit i = false := by rw [Nat.testBit_two_pow_mul]; simp; omega
      rw [this]
      simp
    · have : (n % 256).testBit i = false := Nat.testBit_lt_two_pow (Nat.lt_of_lt_of_le (Nat.mod_lt n (by decide)) (by
        calc 256 = 2 ^ 8 := by decide
          _ ≤ 2 ^ i := Nat.pow_le_pow_right (by decide) (by omega)))
      rw [this]
      simp
  rw [hx]
  omega
theorem lfn8_shift {w : Int} (h0 : 0 ≤ w) (h1 : w < 16777216) : lfn 8 (bw w <<< 8) = bw w := by
  obtain ⟨n, rfl⟩ := Int.eq_ofNat_of_zero_le h0
  have e : (bw (n : Int)).toNat = n := by
    unfold bw
    rw [BitVec.ofInt_natCast, BitVec.toNat_ofNat]
    omega
  have e2 : (bw (n : Int) <<< 8).toNat = n * 256 := by
    rw [BitVec.toNat_shiftLeft, e, Nat.shiftLeft_eq]
    omega
  apply BitVec.eq_of_toNat_eq
  rw [lfn_even 8 _ (by rw [e2]; omega), e2, e]
  omega
/-- What n bytes do to the register. -/
theorem upd_le (n : Nat) : ∀ (s : BitVec 32) (v : Int), n ≤ 4 → 0 ≤ v → v < 256 ^ n → upd s (le n v) = lfn (8 * n) (s ^^^ bw v) := by
  induction n with
  | zero =>
    intro s v _ h0 h1
    obtain rfl : v = 0 := by rw [Int.pow_zero] at h1; omega
    show s = s ^^^ bw 0
    rw [show bw 0 = 0#32 by decide]
    simp
  | succ n ih =>
    intro s v hn h0 h1
    have hv : v < 4294967296 := Int.lt_of_lt_of_le h1 (pow_mono (m := n + 1) (n := 4) hn)
    rw [Int.pow_succ] at h1
    have ih' := ih (stepB s (bw (v % 256))) (v / 256) (by omega) (by omega) (by omega)
    show upd (stepB s (bw (v % 256))) (le n (v / 256)) = _
    have h2 : v / 256 < 16777216 := by omega
    rw [ih', stepB]
    conv => lhs; arg 2; arg 2; rw [← lfn8_shift (w := v / 256) (by omega) h2]
    rw [← lfn_xor, lfn_add, BitVec.xor_assoc, ← bw_cat h0 hv, Nat.mul_succ, Nat.add_comm]
theorem bw_inj {a b : Int} (ha : 0 ≤ a ∧ a < 4294967296) (hb : 0 ≤ b ∧ b < 4294967296) (h : bw a = bw b) : a = b := by
  obtain ⟨n, rfl⟩ := Int.eq_ofNat_of_zero_le ha.1
  obtain ⟨m, rfl⟩ := Int.eq_ofNat_of_zero_le hb.1
  have := congrArg BitVec.toNat h
  unfold bw at this
  rw [BitVec.ofInt_natCast, BitVec.ofInt_natCast, BitVec.toNat_ofNat, BitVec.toNat_ofNat] at this
  omega
/-- Another word, another sum. -/
theorem crc_word {P S : List Int} {a b : Int} (ha : 0 ≤ a ∧ a < 4294967296) (hb : 0 ≤ b ∧ b < 4294967296) (h : crc (P ++ (le 4 a ++ S)) = crc (P ++ (le 4 b ++ S))) : a = b := by
  unfold crc at h
  have h1 := congrArg (fun v => ~~~ v) h
  simp only [BitVec.not_not] at h1
  rw [upd_app, upd_app, upd_app, upd_app] at h1
  have h2 := upd_inj h1
  rw [upd_le 4 _ a (by omega) ha.1 ha.2, upd_le 4 _ b (by omega) hb.1 hb.2] at h2
  have h3 := lfn_inj h2
  refine bw_inj ha hb ?_
  have h4 : ∀ s x y : BitVec 32, s ^^^ x = s ^^^ y → x = y := by
    intro s x y h
    have : s ^^^ (s ^^^ x) = s ^^^ (s ^^^ y) := by rw [h]
    rw [← BitVec.xor_assoc, ← BitVec.xor_assoc, BitVec.xor_self] at this
    simpa using this
  exact h4 _ _ _ h3
end Go.Proofs.Ytoebhddgpicegaa
namespace Go.Proofs.Ytoebhddgpicegaa
open Go.RowKit Go.Proofs.YtoebhddgpicegaaW.PrintWords
open PReplayApart
/-- A bit into the register. -/
def b1 (b : Bool) : BitVec 32 := if b then 1#32 else 0#32
def sb (s : BitVec 32) (b : Bool) : BitVec 32 := lf (s ^^^ b1 b)
def sbs (s : BitVec 32) (l : List Bool) : BitVec 32 := l.foldl sb s
def nb : List Bool → Nat
  | [] => 0
  | b :: w => b.toNat + 2 * nb w
theorem nb_lt : ∀ w : List Bool, nb w < 2 ^ w.length
  | [] => by simp [nb]
  | b :: w => by
    have := nb_lt w
    have hb : b.toNat ≤ 1 := Bool.toNat_le b
    rw [nb, List.length_cons, Nat.pow_succ]
    omega
theorem nb_zero : ∀ w : List Bool, nb w = 0 → ∀ x ∈ w, x = false
  | [], _, x, hx => by cases hx
  | b :: w, h, x, hx => by
    rw [nb] at h
    rcases List.mem_cons.1 hx with rfl | hx
    · cases x
      · rfl
      · simp at h
    · exact nb_zero w (by omega) x hx
theorem nb_cons (b : Bool) (n : Nat) : BitVec.ofNat 32 (b.toNat + 2 * n) = b1 b ^^^ (BitVec.ofNat 32 n <<< 1) := by
  apply BitVec.eq_of_getLsbD_eq
  intro i hi
  rw [BitVec.getLsbD_xor, BitVec.getLsbD_shiftLeft, BitVec.getLsbD_ofNat]
  cases i with
  | zero =>
    cases b <;> simp [b1] <;> omega
  | succ i =>
    rw [Nat.testBit_succ]
    have e : (b.toNat + 2 * n) / 2 = n := by cases b <;> simp <;> omega
    have e1 : (b1 b).getLsbD (i + 1) = false := by cases b <;> simp [b1]
    rw [e, e1, BitVec.getLsbD_ofNat]
    have : i < 32 := by omega
    simp [hi, this]
theorem lf_shl {n : Nat} (h : n < 2147483648) : lf (BitVec.ofNat 32 n <<< 1) = BitVec.ofNat 32 n := by
  have e : (BitVec.ofNat 32 n <<< 1).toNat = 2 * n := by
    rw [BitVec.toNat_shiftLeft, BitVec.toNat_ofNat, Nat.shiftLeft_eq]
    omega
  apply BitVec.eq_of_toNat_eq
  rw [lf_even (by rw [e]; omega), e, BitVec.toNat_ofNat]
  omega
theorem sbs_nb : ∀ (w : List Bool) (s : BitVec 32), w.length ≤ 32 → sbs s w = lfn w.length (s ^^^ BitVec.ofNat 32 (nb w))
  | [], s, _ => by simp [sbs, nb, lfn]
  | b :: w, s, h => by
    have h' : w.length ≤ 31 := by rw [List.length_cons] at h; omega
    have hn : nb w < 2147483648 := Nat.lt_of_lt_of_le (nb_lt w) (Nat.pow_le_pow_right (by decide) h')
    have ih := sbs_nb w (sb s b) (by omega)
    show sbs (sb s b) w = _
    rw [ih, nb, nb_cons, List.length_cons]
    show _ = lfn w.length (lf _)
    rw [← BitVec.xor_assoc, lf_xor, lf_shl hn]
    rfl
theorem sbs_false : ∀ (w : List Bool) (s : BitVec 32), (∀ x ∈ w, x = false) → sbs s w = lfn w.length s
  | [], s, _ => rfl
  | b :: w, s, h => by
    have hb : b = false := h b (by simp)
    show sbs (sb s b) w = lfn w.length (lf s)
    rw [sbs_false w _ (fun x hx => h x (by simp [hx])), hb]
    simp [sb, b1]
theorem sbs_app (s : BitVec 32) (l m : List Bool) : sbs s (l ++ m) = sbs (sbs s l) m := by unfold sbs; rw [List.foldl_append]
theorem lf_0 : lf 0#32 = 0#32 := by decide
theorem lfn_0 (n : Nat) : lfn n 0#32 = 0#32 := by
  induction n with
  | zero => rfl
  | succ n ih => show lfn n (lf 0#32) = _; rw [lf_0, ih]
/-- A burst of at most 32 bits is never no change of the register. -/
theorem sbs_burst : ∀ (l : List Bool) (p : Int), (∀ k : Nat, l[k]? = some true → p ≤ k ∧ (k : Int) < p + 32) → sbs 0#32 l = 0#32 → ∀ x ∈ l, x = false
  | [], _, _, _, x, hx => by cases hx
  | false :: l, p, hw, h, x, hx => by
    have h' : sbs 0#32 l = 0#32 := by
      have e : sb 0#32 false = 0#32 := by decide
      have : sbs (sb 0#32 false) l = 0#32 := h
      rwa [e] at this
    have ih := sbs_burst l (p - 1) (fun k hk => by
      have := hw (k + 1) (by simpa using hk)
      omega) h'
    rcases List.mem_cons.1 hx with rfl | hx
    · rfl
    · exact ih x hx
  | true :: l, p, hw, h, x, hx => by
    exfalso
    have hp := (hw 0 (by simp)).1
    have hs : true :: l = (true :: l).take 32 ++ (true :: l).drop 32 := (List.take_append_drop 32 _).symm
    rw [hs, sbs_app] at h
    have hz : ∀ x ∈ (true :: l).drop 32, x = false := by
      intro x hx
      obtain ⟨k, hk, rfl⟩ := List.mem_iff_getElem.1 hx
      rw [List.getElem_drop]
      cases hv : (true :: l)[32 + k]'(by rw [List.length_drop] at hk; omega) with
      | false => rfl
      | true =>
        have := hw (32 + k) (by rw [List.getElem?_eq_getElem (by rw [List.length_drop] at hk; omega), hv])
        omega
    rw [sbs_false _ _ hz] at h
    have h2 := lfn_zero _ _ h
    rw [sbs_nb _ _ (by rw [List.length_take]; omega), BitVec.zero_xor] at h2
    have h3 := lfn_zero _ _ h2
    have h4 : nb ((true :: l).take 32) = 0 := by
      have := congrArg BitVec.toNat h3
      rw [BitVec.toNat_ofNat] at this
      have hl := nb_lt ((true :: l).take 32)
      have : nb ((true :: l).take 32) < 2 ^ 32 := Nat.lt_of_lt_of_le hl (Nat.pow_le_pow_right (by decide) (by rw [List.length_take]; omega))
      simp at *
      omega
    have := nb_zero _ h4 true (by simp)
    cases this
/-- The bits of a byte, lowest first. -/
def bits8 (v : BitVec 32) : List Bool := [v.getLsbD 0, v.getLsbD 1, v.getLsbD 2, v.getLsbD 3, v.getLsbD 4, v.getLsbD 5, v.getLsbD 6, v.getLsbD 7]
theorem nb_bits8 {v : BitVec 32} (h : v.toNat < 256) : nb (bits8 v) = v.toNat := by
  have key : ∀ n : Fin 256, nb (bits8 (BitVec.ofNat 32 n.1)) = n.1 := by decide +kernel
  have e : v = BitVec.ofNat 32 v.toNat := by simp
  have := key ⟨v.toNat, h⟩
  rwa [← e] at this
theorem stepB_bits {s v : BitVec 32} (h : v.toNat < 256) : stepB s v = sbs s (bits8 v) := by
  rw [sbs_nb _ _ (by simp [bits8]), nb_bits8 h]
  simp [stepB, bits8]
def bitsV (d : List (BitVec 32)) : List Bool := (d.map bits8).flatten
theorem bitsV_at : ∀ (d : List (BitVec 32)) (k : Nat), (bitsV d)[k]? = some true → ∃ v, d[k / 8]? = some v ∧ v.getLsbD (k % 8) = true ∧ k % 8 < 8
  | [], k, h => by simp [bitsV] at h
  | v :: d, k, h => by
    by_cases hk : k < 8
    · refine ⟨v, by rw [Nat.div_eq_of_lt hk]; rfl, ?_, Nat.mod_lt _ (by decide)⟩
      have h' : (bits8 v ++ bitsV d)[k]? = some true := h
      rw [List.getElem?_append_left (by simpa [bits8] using hk)] at h'
      rw [Nat.mod_eq_of_lt hk]
      match k, hk, h' with
      | 0, _, h => simpa [bits8] using h
      | 1, _, h => simpa [bits8] using h
      | 2, _, h => simpa [bits8] using h
      | 3, _, h => simpa [bits8] using h
      | 4, _, h => simpa [bits8] using h
      | 5, _, h => simpa [bits8] using h
      | 6, _, h => simpa [bits8] using h
      | 7, _, h => simpa [bits8] using h
    · have h' : (bits8 v ++ bitsV d)[k]? = some true := h
      have hl : (bits8 v).length = 8 := by simp [bits8]
      rw [List.getElem?_append_right (by omega), hl] at h'
      obtain ⟨u, h1, h2, h3⟩ := bitsV_at d (k - 8) h'
      refine ⟨u, ?_, ?_, by omega⟩
      · rw [show k / 8 = (k - 8) / 8 + 1 by omega]
        simpa using h1
      · rw [show k % 8 = (k - 8) % 8 by omega]
        exact h2
theorem bits8_zero {v : BitVec 32} (h : v.toNat < 256) (hz : ∀ x ∈ bits8 v, x = false) : v = 0#32 := by
  have h1 := nb_bits8 h
  have h2 : ∀ w : List Bool, (∀ x ∈ w, x = false) → nb w = 0 := by
    intro w
    induction w with
    | nil => intro _; rfl
    | cons b w ih => intro h; rw [nb, h b (by simp), ih (fun x hx => h x (by simp [hx]))]; rfl
  rw [h2 _ hz] at h1
  apply BitVec.eq_of_toNat_eq
  rw [← h1]
  rfl
def updV (s : BitVec 32) (l : List (BitVec 32)) : BitVec 32 := l.foldl stepB s
theorem updV_bits : ∀ (d : List (BitVec 32)) (s : BitVec 32), (∀ v ∈ d, v.toNat < 256) → updV s d = sbs s (bitsV d)
  | [], s, _ => rfl
  | v :: d, s, h => by
    show updV (stepB s v) d = sbs s (bits8 v ++ bitsV d)
    rw [updV_bits d _ (fun x hx => h x (by simp [hx])), sbs_app, stepB_bits (h v (by simp))]
theorem upd_V (s : BitVec 32) (l : List Int) : upd s l = updV s (l.map bw) := by unfold upd updV; rw [List.foldl_map]
theorem stepB_xor (s t a b : BitVec 32) : stepB (s ^^^ t) (a ^^^ b) = stepB s a ^^^ stepB t b := by
  unfold stepB
  rw [← lfn_xor]
  congr 1
  ac_rfl
def dV (a b : List Int) : List (BitVec 32) := List.zipWith (fun x y => bw x ^^^ bw y) a b
theorem updV_dV : ∀ (a b : List Int) (s t : BitVec 32), a.length = b.length → updV (s ^^^ t) (dV a b) = upd s a ^^^ upd t b
  | [], [], s, t, _ => rfl
  | x :: a, y :: b, s, t, h => by
    show updV (stepB (s ^^^ t) (bw x ^^^ bw y)) (dV a b) = upd (stepB s (bw x)) a ^^^ upd (stepB t (bw y)) b
    rw [stepB_xor, updV_dV a b _ _ (by simpa using h)]
  | [], y :: b, _, _, h => by simp at h
  | x :: a, [], _, _, h => by simp at h
theorem xor_not (u : BitVec 32) : u ^^^ ~~~u = BitVec.allOnes 32 := by
  apply BitVec.eq_of_getLsbD_eq
  intro i hi
  rw [BitVec.getLsbD_xor, BitVec.getLsbD_not, BitVec.getLsbD_allOnes]
  cases u.getLsbD i <;> simp [hi]
/-- The register behind what bears its sum. -/
theorem upd_sum (x : List Int) : upd (~~~ 0#32) (withSum x) = lfn 32 (BitVec.allOnes 32) := by
  unfold withSum
  rw [upd_app]
  have hr := vn_range (crc x)
  rw [upd_le 4 _ _ (by omega) hr.1 (by omega), bw_vn]
  congr 1
  unfold crc
  exact xor_not (upd (~~~0#32) x)
/-- Where two rows of bytes part: within 32 bits from p on. -/
def Win (p : Int) (a b : List Int) : Prop := ∀ i j : Nat, j < 8 → i < a.length → (bw (a.getD i 0) ^^^ bw (b.getD i 0)).getLsbD j = true → p ≤ 8 * (i : Int) + j ∧ 8 * (i : Int) + j < p + 32
theorem bw_small {x : Int} (h : 0 ≤ x ∧ x < 256) : (bw x).toNat < 256 := by
  have := bw_nat h
  unfold vn at this
  omega
theorem dV_at : ∀ (a b : List Int) (i : Nat) (v : BitVec 32), (dV a b)[i]? = some v → i < a.length ∧ v = bw (a.getD i 0) ^^^ bw (b.getD i 0)
  | x :: a, y :: b, 0, v, h => by
    have : bw x ^^^ bw y = v := by simpa [dV] using h
    exact ⟨by simp, by rw [← this]; rfl⟩
  | x :: a, y :: b, i + 1, v, h => by
    have h' : (dV a b)[i]? = some v := by simpa [dV] using h
    obtain ⟨h1, h2⟩ := dV_at a b i v h'
    exact ⟨by simpa using h1, by rw [h2]; rfl⟩
  | [], _, i, v, h => by simp [dV] at h
  | x :: a, [], i, v, h => by simp [dV] at h
theorem dV_small {a b : List Int} (ha : Byt a) (hb : Byt b) : ∀ v ∈ dV a b, v.toNat < 256 := by
  intro v hv
  obtain ⟨i, hi, rfl⟩ := List.mem_iff_getElem.1 hv
  simp only [dV, List.getElem_zipWith]
  rw [BitVec.toNat_xor]
  exact Nat.xor_lt_two_pow (n := 8) (bw_small (ha _ (List.getElem_mem _))) (bw_small (hb _ (List.getElem_mem _)))
/-- What bears its sum is told from what bears its sum, but for bursts. -/
theorem sum_burst {x y : List Int} (hx : Byt x) (hy : Byt y) (hl : x.length = y.length) {p : Int} (hw : Win p (withSum x) (withSum y)) : x = y := by
  have hl2 : (withSum x).length = (withSum y).length := by rw [withSum_len, withSum_len, hl]
  have h0 : updV 0#32 (dV (withSum x) (withSum y)) = 0#32 := by
    have := updV_dV (withSum x) (withSum y) (~~~ 0#32) (~~~ 0#32) hl2
    rw [upd_sum, upd_sum, BitVec.xor_self, BitVec.xor_self] at this
    exact this
  have hsm := dV_small (withSum_byt hx) (withSum_byt hy)
  rw [updV_bits _ _ hsm] at h0
  have hz := sbs_burst _ p (fun k hk => by
    obtain ⟨v, h1, h2, h3⟩ := bitsV_at _ k hk
    obtain ⟨h4, rfl⟩ := dV_at _ _ _ _ h1
    have := hw (k / 8) (k % 8) h3 h4 h2
    omega) h0
  have hd : ∀ v ∈ dV (withSum x) (withSum y), v = 0#32 := fun v hv => bits8_zero (hsm v hv) (fun b hb => hz b (by
    unfold bitsV
    exact List.mem_flatten.2 ⟨bits8 v, List.mem_map.2 ⟨v, hv, rfl⟩, hb⟩))
  apply List.ext_getElem hl
  intro i h1 h2
  have hm : bw x[i] ^^^ bw y[i] ∈ dV (withSum x) (withSum y) := by
    refine List.mem_iff_getElem?.2 ⟨i, ?_⟩
    unfold dV withSum
    rw [List.getElem?_zipWith, List.getElem?_append_left h1, List.getElem?_append_left h2, List.getElem?_eq_getElem h1, List.getElem?_eq_getElem h2]
  have := xor_zero (hd _ hm)
  have a1 := hx _ (List.getElem_mem h1)
  have a2 := hy _ (List.getElem_mem h2)
  exact bw_inj (by omega) (by omega) this
end Go.Proofs.Ytoebhddgpicegaa
namespace Go.Proofs.Ytoebhddgpicegaa
open Go.RowKit Go.Proofs.YtoebhddgpicegaaW.PrintWords
open PReplayApart
theorem legsB_cons (l : S50) (ls : List S50) : legsB (l :: ls) = legB l ++ legsB ls := by simp [legsB]
theorem legB_pos (l : S50) : 24 ≤ (legB l).length := by have := legB_len l; have := sizeL_pos l; omega
/-- Legs at the beginning of legs. -/
theorem legsB_pre : ∀ (ls ms : List S50) (y : List Int), (∀ l ∈ ls, LegRd l) → (∀ m ∈ ms, LegRd m) → legsB ls ++ y = legsB ms → ∃ r, ms = ls ++ r
  | [], ms, _, _, _, _ => ⟨ms, rfl⟩
  | l :: ls, [], y, _, _, h => by
    exfalso
    rw [legsB_cons] at h
    have h1 := congrArg List.length h
    have h2 := legB_pos l
    rw [List.length_append, List.length_append, show legsB [] = [] from rfl, List.length_nil] at h1
    omega
  | l :: ls, m :: ms, y, hl, hm, h => by
    rw [legsB_cons, legsB_cons, List.append_assoc] at h
    have h1 := legAt_leg l (hl l (by simp)) (legsB ls ++ y)
    have h2 := legAt_leg m (hm m (by simp)) (legsB ms)
    rw [h, h2] at h1
    obtain rfl := Option.some.inj h1
    obtain ⟨r, hr⟩ := legsB_pre ls ms y (fun x hx => hl x (by simp [hx])) (fun x hx => hm x (by simp [hx])) (List.append_cancel_left h)
    exact ⟨r, by rw [hr]; rfl⟩
/-- A log cut within its last leg is none. -/
theorem dec_cut (ls : List S50) (hr : ∀ l ∈ ls, LegRd l) (k : Nat) (h1 : sumL (ls.take (ls.length - 1)) < k) (h2 : (k : Int) < sumL ls) : decT ((legsB ls).take k) = ([], 210) := by
  have hlen := legsB_len ls
  apply dec_no
  intro h0
  have hb : Byt ((legsB ls).take k) := (legsB_byt ls).take k
  obtain ⟨_, h3, h4⟩ := dec_yes hb h0 rfl
  generalize (decT ((legsB ls).take k)).1 = ms at h3 h4
  obtain ⟨r, hre⟩ := legsB_pre ms ls ((legsB ls).drop k) h4 hr (by rw [← h3, List.take_append_drop])
  have hk : ((legsB ms).length : Int) = k := by rw [← h3, List.length_take]; omega
  rw [legsB_len] at hk
  have hlt : ms.length ≤ ls.length - 1 := by
    rcases Nat.lt_or_ge ms.length ls.length with h | h
    · omega
    · exfalso
      have : r = [] := by
        apply List.eq_nil_of_length_eq_zero
        have := congrArg List.length hre
        rw [List.length_append] at this
        omega
      rw [this, List.append_nil] at hre
      rw [hre] at h2
      omega
  have he : ms = (ls.take (ls.length - 1)).take ms.length := by
    rw [List.take_take, Nat.min_eq_left hlt]
    conv => rhs; rw [hre]
    rw [List.take_left]
  have := sumL_take (ls.take (ls.length - 1)) ms.length
  rw [← he] at this
  omega
theorem Win.left {p : Int} {a b x y : List Int} (h : Win p (a ++ x) (b ++ y)) (hl : a.length = b.length) : Win p a b := by
  intro i j hj hi hd
  refine h i j hj (by rw [List.length_append]; omega) ?_
  rw [List.getD_eq_getElem?_getD, List.getD_eq_getElem?_getD, List.getElem?_append_left hi, List.getElem?_append_left (by omega), ← List.getD_eq_getElem?_getD, ← List.getD_eq_getElem?_getD]
  exact hd
theorem Win.right {p : Int} {a b x y : List Int} (h : Win p (a ++ x) (b ++ y)) (hl : a.length = b.length) : Win (p - 8 * a.length) x y := by
  intro i j hj hi hd
  have := h (a.length + i) j hj (by rw [List.length_append]; omega) (by
    rw [List.getD_eq_getElem?_getD, List.getD_eq_getElem?_getD, List.getElem?_append_right (by omega), List.getElem?_append_right (by omega), Nat.add_sub_cancel_left, show a.length + i - b.length = i by omega, ← List.getD_eq_getElem?_getD, ← List.getD_eq_getElem?_getD]
    exact hd)
  omega
theorem le4_inj {v u : Int} (hv : 0 ≤ v ∧ v < 4294967296) (hu : 0 ≤ u ∧ u < 4294967296) (h : le 4 v = le 4 u) : v = u := by rw [← fle4 hv, h, fle4 hu]
theorem headB_inj {l m : S50} (hl : LegRd l) (hm : LegRd m) (h : headB l = headB m) : l.f0.length = m.f0.length ∧ l.f1.length = m.f1.length ∧ l.f2 = m.f2 := by
  unfold headB at h
  obtain ⟨h1, h2⟩ := List.append_inj' h (by simp [le_len])
  obtain ⟨h3, h4⟩ := List.append_inj' h1 (by simp [le_len])
  obtain ⟨_, h6⟩ := List.append_inj' h3 (by simp [le_len])
  have a := le4_inj ⟨by omega, by have := hl.n0; omega⟩ ⟨by omega, by have := hm.n0; omega⟩ h6
  have b := le4_inj ⟨by omega, by have := hl.n1; omega⟩ ⟨by omega, by have := hm.n1; omega⟩ h4
  exact ⟨by omega, by omega, le4_inj hl.sum hm.sum h2⟩
theorem legB_inj {l m : S50} (hl : LegRd l) (hm : LegRd m) (h : legB l = legB m) : l = m := by
  have h1 := legAt_leg l hl []
  have h2 := legAt_leg m hm []
  rw [h, h2] at h1
  exact (Option.some.inj h1).symm
/-- Two logs of one length that part within 32 bits are one log. -/
theorem legs_burst : ∀ (ls ms : List S50) (p : Int), (∀ l ∈ ls, LegRd l) → (∀ m ∈ ms, LegRd m) → (legsB ls).length = (legsB ms).length → Win p (legsB ls) (legsB ms) → ls = ms
  | [], [], _, _, _, _, _ => rfl
  | [], m :: ms, _, _, _, h, _ => by
    exfalso
    rw [legsB_cons, List.length_append, show legsB [] = [] from rfl, List.length_nil] at h
    have := legB_pos m
    omega
  | l :: ls, [], _, _, _, h, _ => by
    exfalso
    rw [legsB_cons, List.length_append, show legsB [] = [] from rfl, List.length_nil] at h
    have := legB_pos l
    omega
  | l :: ls, m :: ms, p, hl, hm, h, hw => by
    have rl := hl l (by simp)
    have rm := hm m (by simp)
    rw [legsB_cons, legsB_cons] at hw h
    have hw2 : Win p (withSum (headB l) ++ (withSum (bodyB l) ++ legsB ls)) (withSum (headB m) ++ (withSum (bodyB m) ++ legsB ms)) := by
      rw [← List.append_assoc, ← List.append_assoc]
      exact hw
    have e20 : (withSum (headB l)).length = (withSum (headB m)).length := by rw [withSum_len, withSum_len, headB_len, headB_len]
    have hh := sum_burst (headB_byt l) (headB_byt m) (by rw [headB_len, headB_len]) (hw2.left e20)
    obtain ⟨n0, n1, n2⟩ := headB_inj rl rm hh
    have hbl : (bodyB l).length = (bodyB m).length := by rw [bodyB_len, bodyB_len, n0, n1]
    have hb := sum_burst (bodyB_byt l) (bodyB_byt m) hbl ((hw2.right e20).left (by rw [withSum_len, withSum_len, hbl]))
    have he : legB l = legB m := by unfold legB; rw [hh, hb]
    obtain rfl := legB_inj rl rm he
    have hr := legs_burst ls ms _ (fun x hx => hl x (by simp [hx])) (fun x hx => hm x (by simp [hx])) (by rw [List.length_append, List.length_append] at h; omega) (hw.right rfl)
    rw [hr]
/-- What parts from a log within 32 bits is none. -/
theorem dec_burst (ls : List S50) (hr : ∀ l ∈ ls, LegRd l) (b : List Int) (hb : Byt b) (hl : b.length = (legsB ls).length) {p : Int} (hw : Win p (legsB ls) b) (hne : b ≠ legsB ls) : decT b = ([], 210) := by
  apply dec_no
  intro h0
  obtain ⟨_, h3, h4⟩ := dec_yes hb h0 rfl
  generalize (decT b).1 = ms at h3 h4
  rw [h3] at hl hw
  have := legs_burst ls ms p hr h4 hl.symm hw
  rw [this, ← h3] at hne
  exact hne rfl
end Go.Proofs.Ytoebhddgpicegaa
namespace Go.Proofs.Ytoebhddgpicegaa
open Go.RowKit Go.Proofs.YtoebhddgpicegaaW.PrintWords Go.Proofs.YtoebhddgpicegaaW.PrintMore
open PReplayApart
/-- One element of the legs is lent: the row without it; its two lists. -/
structure Lent (w : World) (ok : Nat → Prop) (g n c : Nat) (cur : List S50) (i : Nat) (okI : Nat → Prop) (sm : Int) (wr : World) (v0 v1 : Value) (ps : List S80) (ws : List Int) : Prop where
  hole : Kd.H k50 50 wr 0 ok (.slice (some ⟨g, 0, none⟩) n c) cur i okI [v0, v1, .int .u32 sm]
  pk : Kd.R k80 80 wr 0 okI v0 ps
  an : Kd.R (Kd.int .u32) 35 wr 0 okI v1 ws
  frm : Frm ok w wr
section
variable {w wr w1 : World} {ok okI : Nat → Prop} {g n c i : Nat} {cur : List S50} {sm : Int} {v0 v1 : Value} {ps : List S80} {ws : List Int}
theorem Lent.drew (h : Lent w ok g n c cur i okI sm wr v0 v1 ps ws) : Lent w ok g n c cur i okI sm wr.drew v0 v1 ps ws := ⟨Kd.H_drew h.hole, Kd.R_drew h.pk, Kd.R_drew h.an, h.frm.drew⟩
theorem Lent.setPick {g0 m q : Nat} (h : Lent w ok g n c cur i okI sm wr (.slice (some ⟨g0, 0, none⟩) m q) v1 ps ws) (hok : ∀ k, okI k → ok k) (k : Nat) (hk : k < m) (a b : Int) :
    Lent w ok g n c cur i okI sm ((wr.setCell ⟨g0, k * 2, none⟩ (.int .i64 a)).setCell ⟨g0, k * 2 + 1, none⟩ (.int .i64 b)) (.slice (some ⟨g0, 0, none⟩) m q) v1 (ps.set k ⟨a, b⟩) ws := by
  obtain ⟨cc, hcl, hM, hcc, hfr⟩ := Kd.R_elem h.pk z80 (k : Int) (by omega) (by omega)
  have hs : cc.length = 2 := hcl
  have e0 : cc.take 0 ++ [Value.int .i64 a, Value.int .i64 b] ++ cc.drop 2 = [.int .i64 a, .int .i64 b] := by rw [List.take_zero, List.drop_of_length_le (by omega)]; rfl
  obtain ⟨h1, h2⟩ := Kd.R_seg (x' := (⟨a, b⟩ : S80)) (okp := fun _ => False) h.pk (k : Int) (by omega) (by omega) (c := cc) (seg := [.int .i64 a, .int .i64 b]) (j := 0) hcl hcc (show 2 ≤ 2 by decide) (by rw [show (0 + [Value.int .i64 a, Value.int .i64 b].length) = 2 from rfl, e0]; exact k80_mkM _ _ _ _) (fun _ hk => hk.elim)
  have hg0 : okI g0 := h.pk.1 g0 rfl
  have e1 : wr.setCells g0 (((k : Int)).toNat * k80.sz + 0) [.int .i64 a, .int .i64 b] = (wr.setCell ⟨g0, k * 2, none⟩ (.int .i64 a)).setCell ⟨g0, k * 2 + 1, none⟩ (.int .i64 b) := rfl
  rw [e1] at h1 h2
  exact ⟨Kd.H_grown h.hole h2 (fun k hk => by injection hk with hk; rw [← hk]; exact hg0), h1, Kd.R_over h.an h.pk (by decide) h2, h.frm.grown h2 (fun k hk => by injection hk with hk; rw [← hk]; exact .inl (hok _ hg0))⟩
theorem Lent.setWord {g0 m q : Nat} (h : Lent w ok g n c cur i okI sm wr v0 (.slice (some ⟨g0, 0, none⟩) m q) ps ws) (hok : ∀ k, okI k → ok k) (k : Nat) (hk : k < m) (a : Int) :
    Lent w ok g n c cur i okI sm (wr.setCell ⟨g0, k, none⟩ (.int .u32 a)) v0 (.slice (some ⟨g0, 0, none⟩) m q) ps (ws.set k a) := by
  obtain ⟨cc, hcl, hM, hcc, hfr⟩ := Kd.R_elem h.an 0 (k : Int) (by omega) (by omega)
  have hs : cc.length = 1 := hcl
  have e0 : cc.take 0 ++ [Value.int .u32 a] ++ cc.drop 1 = [.int .u32 a] := by rw [List.take_zero, List.drop_of_length_le (by omega)]; rfl
  obtain ⟨h1, h2⟩ := Kd.R_seg (x' := a) (okp := fun _ => False) h.an (k : Int) (by omega) (by omega) (c := cc) (seg := [.int .u32 a]) (j := 0) hcl hcc (show 1 ≤ 1 by decide) (by rw [show (0 + [Value.int .u32 a].length) = 1 from rfl, e0]; rfl) (fun _ hk => hk.elim)
  have hg0 : okI g0 := h.an.1 g0 rfl
  have e1 : wr.setCells g0 (((k : Int)).toNat * (Kd.int .u32).sz + 0) [.int .u32 a] = wr.setCell ⟨g0, k, none⟩ (.int .u32 a) := by
    show wr.setCell ⟨g0, k * 1 + 0, none⟩ (.int .u32 a) = _
    rw [Nat.mul_one, Nat.add_zero]
  rw [e1] at h1 h2
  exact ⟨Kd.H_grown h.hole h2 (fun k hk => by injection hk with hk; rw [← hk]; exact hg0), Kd.R_over h.pk h.an (by decide) h2, h1, h.frm.grown h2 (fun k hk => by injection hk with hk; rw [← hk]; exact .inl (hok _ hg0))⟩
theorem Lent.gap (h : Lent w ok g n c cur i okI sm wr v0 v1 ps ws) : ¬ okI g := by
  obtain ⟨_, f, hR⟩ := h.hole
  exact (hR.1 g rfl).2
theorem Lent.addPick {v0' : Value} {p : S80} (h : Lent w ok g n c cur i okI sm wr v0 v1 ps ws) (hok : ∀ k, okI k → ok k) (hi : i < n) (hR : Kd.R k80 80 w1 0 okI v0' (ps ++ [p])) (hg : wr.grownBy w1 v0.ownBlock) :
    Lent w ok g n c cur i okI sm (w1.setCell ⟨g, i * 3, none⟩ v0') v0' v1 (ps ++ [p]) ws := by
  have hgok : ok g := by obtain ⟨_, f, hR⟩ := h.hole; exact (hR.1 g rfl).1
  have h1 := Kd.H_grown h.hole hg (fun k hk => h.pk.1 k hk)
  obtain ⟨h2, h3⟩ := Kd.H_seg h1 (by omega) (by omega) (seg := [v0']) (j := 0) (show 1 ≤ 3 by decide) (fun q hq => by rw [List.mem_singleton.1 hq]; exact (Kd.R_val hR).2)
  have e1 : w1.setCells g (((i : Int)).toNat * k50.sz + 0) [v0'] = w1.setCell ⟨g, i * 3, none⟩ v0' := rfl
  rw [e1] at h2 h3
  have hne : ∀ k, okI k → some k ≠ some g := fun k hk e => h.gap (by injection e with e; rw [← e]; exact hk)
  exact ⟨h2, Kd.R_grown hR h3 hne, Kd.R_grown (Kd.R_over h.an h.pk (by decide) hg) h3 hne, (h.frm.grown hg (fun k hk => .inl (hok _ (h.pk.1 k hk)))).grown h3 (fun k hk => by injection hk with hk; rw [← hk]; exact .inl hgok)⟩
theorem Lent.addWord {v1' : Value} {p : Int} (h : Lent w ok g n c cur i okI sm wr v0 v1 ps ws) (hok : ∀ k, okI k → ok k) (hi : i < n) (hR : Kd.R (Kd.int .u32) 35 w1 0 okI v1' (ws ++ [p])) (hg : wr.grownBy w1 v1.ownBlock) :
    Lent w ok g n c cur i okI sm (w1.setCell ⟨g, i * 3 + 1, none⟩ v1') v0 v1' ps (ws ++ [p]) := by
  have hgok : ok g := by obtain ⟨_, f, hR⟩ := h.hole; exact (hR.1 g rfl).1
  have h1 := Kd.H_grown h.hole hg (fun k hk => h.an.1 k hk)
  obtain ⟨h2, h3⟩ := Kd.H_seg h1 (by omega) (by omega) (seg := [v1']) (j := 1) (show 2 ≤ 3 by decide) (fun q hq => by rw [List.mem_singleton.1 hq]; exact (Kd.R_val hR).2)
  have e1 : w1.setCells g (((i : Int)).toNat * k50.sz + 1) [v1'] = w1.setCell ⟨g, i * 3 + 1, none⟩ v1' := rfl
  rw [e1] at h2 h3
  have hne : ∀ k, okI k → some k ≠ some g := fun k hk e => h.gap (by injection e with e; rw [← e]; exact hk)
  exact ⟨h2, Kd.R_grown (Kd.R_over h.pk h.an (by decide) hg) h3 hne, Kd.R_grown hR h3 hne, (h.frm.grown hg (fun k hk => .inl (hok _ (h.an.1 k hk)))).grown h3 (fun k hk => by injection hk with hk; rw [← hk]; exact .inl hgok)⟩
/-- The lent element's cells. -/
theorem Lent.cells (h : Lent w ok g n c cur i okI sm wr v0 v1 ps ws) (hi : i < n) : ∃ P0 q0 P1 q1, v0 = .slice P0 ps.length q0 ∧ v1 = .slice P1 ws.length q1 ∧ wr.cell? ⟨g, i * 3, none⟩ = some (.slice P0 ps.length q0) ∧ wr.cell? ⟨g, i * 3 + 1, none⟩ = some (.slice P1 ws.length q1) ∧
    wr.frozen? ⟨g, i * 3, none⟩ = false ∧ wr.frozen? ⟨g, i * 3 + 1, none⟩ = false := by
  obtain ⟨P0, q0, rfl, _, _⟩ := Kd.R_reads h.pk
  obtain ⟨P1, q1, rfl, _, _⟩ := Kd.R_reads h.an
  obtain ⟨hcc, hfr⟩ := Kd.H_at h.hole (by omega) (by omega)
  exact ⟨P0, q0, P1, q1, rfl, rfl, hcc 0 _ rfl, hcc 1 _ rfl, hfr 0, hfr 1⟩
theorem Lent.cells2 (h : Lent w ok g n c cur i okI sm wr v0 v1 ps ws) (hi : i < n) : wr.cell? ⟨g, i * 3, none⟩ = some v0 ∧ wr.cell? ⟨g, i * 3 + 1, none⟩ = some v1 ∧ wr.frozen? ⟨g, i * 3, none⟩ = false ∧ wr.frozen? ⟨g, i * 3 + 1, none⟩ = false := by
  obtain ⟨hcc, hfr⟩ := Kd.H_at h.hole (by omega) (by omega)
  exact ⟨hcc 0 _ rfl, hcc 1 _ rfl, hfr 0, hfr 1⟩
/-- The lent element's cells, one of its lists being longer now. -/
theorem Lent.grown2 {row : Option Nat} (h : Lent w ok g n c cur i okI sm wr v0 v1 ps ws) (hi : i < n) (hg : wr.grownBy w1 row) (hrow : ∀ k, row = some k → okI k) : w1.cell? ⟨g, i * 3, none⟩ = some v0 ∧ w1.cell? ⟨g, i * 3 + 1, none⟩ = some v1 ∧ w1.frozen? ⟨g, i * 3, none⟩ = false ∧ w1.frozen? ⟨g, i * 3 + 1, none⟩ = false := by
  obtain ⟨hcc, hfr⟩ := Kd.H_at (Kd.H_grown h.hole hg hrow) (by omega) (by omega)
  exact ⟨hcc 0 _ rfl, hcc 1 _ rfl, hfr 0, hfr 1⟩
theorem Lent.pickAt {g0 m q : Nat} (h : Lent w ok g n c cur i okI sm wr (.slice (some ⟨g0, 0, none⟩) m q) v1 ps ws) (k : Nat) (hk : k < m) :
    ∃ a b, wr.cell? ⟨g0, k * 2, none⟩ = some a ∧ wr.cell? ⟨g0, k * 2 + 1, none⟩ = some b ∧ wr.frozen? ⟨g0, k * 2, none⟩ = false ∧ wr.frozen? ⟨g0, k * 2 + 1, none⟩ = false := by
  obtain ⟨cc, hcl, hM, hcc, hfr⟩ := Kd.R_elem h.pk z80 (k : Int) (by omega) (by omega)
  obtain rfl := k80_openM hM
  exact ⟨_, _, hcc 0 _ rfl, hcc 1 _ rfl, hfr 0, hfr 1⟩
theorem Lent.wordAt {g0 m q : Nat} (h : Lent w ok g n c cur i okI sm wr v0 (.slice (some ⟨g0, 0, none⟩) m q) ps ws) (k : Nat) (hk : k < m) : ∃ a, wr.cell? ⟨g0, k, none⟩ = some a ∧ wr.frozen? ⟨g0, k, none⟩ = false := by
  obtain ⟨cc, hcl, hM, hcc, hfr⟩ := Kd.R_elem h.an 0 (k : Int) (by omega) (by omega)
  have hs : cc.length = 1 := hcl
  obtain ⟨a, rfl⟩ : ∃ a, cc = [a] := by
    match cc, hs with
    | [a], _ => exact ⟨a, rfl⟩
  have h0 := hcc 0 a rfl
  have h1 := hfr 0
  have e : ((k : Int)).toNat * (Kd.int .u32).sz + 0 = k := by show k * 1 + 0 = k; omega
  rw [e] at h0 h1
  exact ⟨a, h0, h1⟩
theorem Lent.back (h : Lent w ok g n c cur i okI sm wr v0 v1 ps ws) : Kd.S k50 50 wr 0 ok (.slice (some ⟨g, 0, none⟩) n c) (cur.set i ⟨ps, ws, sm⟩) :=
  Kd.H_back h.hole (k50_mkM _ _ _ (⟨ps, ws, sm⟩ : S50) h.pk h.an) (fun _ hk => hk)
theorem Lent.lend (hS : Kd.S k50 50 wr 0 ok (.slice (some ⟨g, 0, none⟩) n c) cur) (hf : Frm ok w wr) (hi : i < n) : ∃ okI v0 v1, (∀ k, okI k → ok k) ∧ (∀ k, ok k → wr.heap.size ≤ k → okI k) ∧
    Lent w ok g n c cur i okI (cur.getD i z50).f2 wr v0 v1 (cur.getD i z50).f0 (cur.getD i z50).f1 := by
  obtain ⟨oki, cc, hcl, hM, hcc, hoki, hH⟩ := Kd.S_lend hS z50 (i : Int) (by omega) (by omega)
  obtain ⟨v0, v1, rfl, h0, h1⟩ := k50_openM hM
  exact ⟨_, v0, v1, fun k hk => hk.elim (fun h => (hoki k h).1) (fun h => h.1), fun k h2 h3 => .inr ⟨h2, h3⟩, Kd.H_widen hH, Kd.R_mono h0 (fun _ h => .inl h), Kd.R_mono h1 (fun _ h => .inl h), hf⟩
end
end Go.Proofs.Ytoebhddgpicegaa
namespace Go.Proofs.Ytoebhddgpicegaa
open Go.RowKit Go.Proofs.YtoebhddgpicegaaW.PrintWords Go.Proofs.YtoebhddgpicegaaW.PrintMore
open PReplayApart
/-- The first i legs turned by f, each in its place. -/
def mapTo (f : Nat → S50 → S50) : Nat → List S50 → List S50
  | 0, l => l
  | i + 1, l => (mapTo f i l).set i (f i (l.getD i z50))
theorem mapTo_len (f : Nat → S50 → S50) : ∀ i l, (mapTo f i l).length = l.length
  | 0, _ => rfl
  | i + 1, l => by rw [mapTo, List.length_set, mapTo_len f i l]
theorem mapTo_at (f : Nat → S50 → S50) (j : Nat) : ∀ (i : Nat) (l : List S50), i ≤ l.length → (mapTo f i l).getD j z50 = if j < i then f j (l.getD j z50) else l.getD j z50
  | 0, l, _ => by simp [mapTo]
  | i + 1, l, hi => by
    have ih := mapTo_at f j i l (by omega)
    rw [mapTo, List.getD_eq_getElem?_getD, List.getElem?_set]
    by_cases h : i = j
    · subst h
      rw [if_pos rfl, if_pos (by rw [mapTo_len]; omega), if_pos (by omega)]
      rfl
    · rw [if_neg h, ← List.getD_eq_getElem?_getD, ih]
      by_cases h2 : j < i
      · rw [if_pos h2, if_pos (by omega)]
      · rw [if_neg h2, if_neg (by omega)]
def ans1 (mark : Int) (i : Nat) : Int := 100000 * (9 + mark) + i
def ans2 (mark : Int) (i : Nat) : Int := 100000 * (19 + mark) + i
def scrA (mark : Int) (i : Nat) (x : S50) : S50 := ⟨List.replicate x.f0.length ⟨mark, i⟩, List.replicate x.f1.length (ans1 mark i), x.f2⟩
def scrB (mark : Int) (i : Nat) (x : S50) : S50 := ⟨x.f0 ++ List.replicate 40 ⟨mark - 10, i⟩, x.f1 ++ List.replicate 40 (ans2 mark i), x.f2⟩
theorem rep_set {α : Type} (a : α) (l : List α) (k : Nat) (hk : k < l.length) : (List.replicate k a ++ l.drop k).set k a = List.replicate (k + 1) a ++ l.drop (k + 1) := by
  rw [List.set_append_right _ _ (by simp), List.length_replicate, Nat.sub_self, List.drop_eq_getElem_cons hk, List.set_cons_zero, List.replicate_succ', List.append_assoc]
  rfl
theorem rep_snoc {α : Type} (a : α) (k : Nat) : List.replicate k a ++ [a] = List.replicate (k + 1) a := by rw [List.replicate_succ']
set_option maxHeartbeats 4000000 in
set_option maxRecDepth 100000 in
theorem scr_calls (w : World) (ok : Nat → Prop) (A : Option Addr) (c : Nat) (l : List S50) (mark : Int) (hS : Kd.S k50 50 w 0 ok (.slice A l.length c) l) (hfresh : ∀ k, w.heap.size ≤ k → ok k) (hn : l.length ≤ 100000)
    (hl : ∀ x ∈ l, x.f0.length ≤ 65536 ∧ x.f1.length ≤ 65536) (hm : -4 ≤ mark ∧ mark ≤ -1) :
    Calls Try.prog 21 #[.slice A l.length c, .int .i64 mark] w fun e w' => e = .returned (.tuple #[]) ∧ Kd.S k50 50 w' 0 ok (.slice A l.length c) (mapTo (scrB mark) l.length (mapTo (scrA mark) l.length l)) ∧ Frm ok w w' := by
  obtain ⟨n, hne⟩ : ∃ n, n = l.length := ⟨_, rfl⟩
  have HN := Lib.hid hne
  have HF := Lib.hid hfresh
  have HL := Lib.hid hl
  rw [← hne] at hS hn ⊢
  have HS := Lib.hid hS
  clear hne hfresh hl hS
  by_cases h0 : 0 < n
  · obtain ⟨g, rfl⟩ : ∃ g, A = some ⟨g, 0, none⟩ := by
      cases A with
      | none => have := (Kd.R_reads' (Kd.S_R HS.out)).2.2.2.2 (by rw [← HN.out]; exact h0); obtain ⟨ad, e, _⟩ := this; cases e
      | some ad => obtain ⟨g, rfl⟩ := Kd.R_head (Kd.S_R HS.out); exact ⟨g, rfl⟩
    go_enter Try.func21, Try.ntmps21
    go_wp2
    go_loopw [4] (fun t wr => ∃ i : Nat, i ≤ n ∧ t = .int .i64 i ∧ Kd.S k50 50 wr 0 ok (.slice (some ⟨g, 0, none⟩) n c) (mapTo (scrA mark) i l) ∧ Frm ok w wr) (fun t _ => n - (intOf t).toNat)
    case atStart => exact ⟨0, Nat.zero_le _, rfl, HS.out, Frm.refl _ _⟩
    case round =>
      clear HS
      obtain ⟨i, hi, rfl, hS, hf⟩ := hrel
      by_cases hlt : i < n
      · obtain ⟨okI, v0, v1, hok, hwd, hL⟩ := Lent.lend hS hf hlt
        obtain ⟨cur, hcur⟩ : ∃ u, u = mapTo (scrA mark) i l := ⟨_, rfl⟩
        rw [mapTo_at _ _ _ _ (by rw [← HN.out]; exact hi), if_neg (Nat.lt_irrefl _), ← hcur] at hL
        obtain ⟨x, hx⟩ : ∃ x, x = l.getD i z50 := ⟨_, rfl⟩
        have hxl := HL.out x (by rw [hx, getD_at (by rw [← HN.out]; exact hlt)]; exact List.getElem_mem _)
        rw [← hx] at hL
        obtain ⟨⟨ps, ws, sm⟩, rfl⟩ : ∃ y, y = x := ⟨x, rfl⟩
        dsimp only at hL hxl
        obtain ⟨P0, p, q0, rfl, hp⟩ : ∃ P0 p q0, v0 = .slice P0 p q0 ∧ p = ps.length := by obtain ⟨P0, q0, rfl, _, _⟩ := Kd.R_reads hL.pk; exact ⟨P0, _, q0, rfl, rfl⟩
        obtain ⟨P1, r, q1, rfl, hr⟩ : ∃ P1 r q1, v1 = .slice P1 r q1 ∧ r = ws.length := by obtain ⟨P1, q1, rfl, _, _⟩ := Kd.R_reads hL.an; exact ⟨P1, _, q1, rfl, rfl⟩
        rw [← hp, ← hr] at hxl
        have HLE := Lib.hid hL
        have HOKI := Lib.hid hok
        have HX := Lib.hid hx
        have HP := Lib.hid hp
        have HR := Lib.hid hr
        have HCUR := Lib.hid hcur
        clear hS hf hok hwd hL hcur hx hp hr
        obtain ⟨wo, hwo⟩ : ∃ u, u = wr := ⟨_, rfl⟩
        subst hwo
        go_wp2
        go_loopw [5] (fun t wr => ∃ k : Nat, k ≤ p ∧ t = .int .i64 k ∧ Lent w ok g n c cur i okI sm wr (.slice P0 p q0) (.slice P1 r q1) (List.replicate k ⟨mark, i⟩ ++ ps.drop k) ws) (fun t _ => p - (intOf t).toNat)
        case atStart => exact ⟨0, Nat.zero_le _, rfl, HLE.out⟩
        case round =>
          clear HLE
          obtain ⟨k, hk, rfl, hL⟩ := hrel
          obtain ⟨c0, c1, f0, f1⟩ := hL.cells2 hlt
          by_cases hkp : k < p
          · obtain ⟨g0, rfl⟩ : ∃ g, P0 = some ⟨g, 0, none⟩ := by
              cases P0 with
              | none => have h3 := Kd.R_reads' hL.pk; obtain ⟨ad, e, _⟩ := h3.2.2.2.2 (by have := h3.1; omega); cases e
              | some ad => obtain ⟨g, rfl⟩ := Kd.R_head hL.pk; exact ⟨g, rfl⟩
            obtain ⟨a, b, s0, s1, t0, t1⟩ := hL.pickAt k hkp
            have HLE := Lib.hid hL
            clear hL
            go_wp2_with fail
            go_roundw
            case rel =>
              refine ⟨k + 1, by omega, by go_num, ?_⟩
              have := HLE.out.setPick HOKI.out k hkp mark i
              rwa [rep_set _ _ _ (by rw [← HP.out]; exact hkp)] at this
            case measure => simp [intOf]; omega
          · obtain rfl : k = p := by omega
            rw [show List.replicate k (⟨mark, i⟩ : S80) ++ ps.drop k = List.replicate k ⟨mark, i⟩ by rw [List.drop_of_length_le (by rw [← HP.out]; omega), List.append_nil]] at hL
            have HLE := Lib.hid hL
            clear hL
            obtain ⟨wp, hwp⟩ : ∃ u, u = wr := ⟨_, rfl⟩
            subst hwp
            go_wp2
            clear c0 c1 f0 f1
            go_loopw [6] (fun t wr => ∃ j : Nat, j ≤ r ∧ t = .int .i64 j ∧ Lent w ok g n c cur i okI sm wr (.slice P0 k q0) (.slice P1 r q1) (List.replicate k ⟨mark, i⟩) (List.replicate j (ans1 mark i) ++ ws.drop j)) (fun t _ => r - (intOf t).toNat)
            case atStart => exact ⟨0, Nat.zero_le _, rfl, HLE.out⟩
            case round =>
              clear HLE
              obtain ⟨j, hj, rfl, hL⟩ := hrel
              obtain ⟨c0, c1, f0, f1⟩ := hL.cells2 hlt
              by_cases hjr : j < r
              · obtain ⟨g0, rfl⟩ : ∃ g, P1 = some ⟨g, 0, none⟩ := by
                  cases P1 with
                  | none => have h3 := Kd.R_reads' hL.an; obtain ⟨ad, e, _⟩ := h3.2.2.2.2 (by have := h3.1; omega); cases e
                  | some ad => obtain ⟨g, rfl⟩ := Kd.R_head hL.an; exact ⟨g, rfl⟩
                obtain ⟨a, s0, t0⟩ := hL.wordAt j hjr
                have HLE := Lib.hid hL
                clear hL
                go_wp2_with fail
                go_roundw
                case rel =>
                  refine ⟨j + 1, by omega, by go_num, ?_⟩
                  have := HLE.out.setWord HOKI.out j hjr (ans1 mark i)
                  rwa [rep_set _ _ _ (by rw [← HR.out]; exact hjr)] at this
                case measure => simp [intOf]; omega
              · obtain rfl : j = r := by omega
                rw [show List.replicate j (ans1 mark i) ++ ws.drop j = List.replicate j (ans1 mark i) by rw [List.drop_of_length_le (by rw [← HR.out]; omega), List.append_nil]] at hL
                have HLE := Lib.hid hL
                clear hL
                go_wp2
                go_roundw
                case rel =>
                  refine ⟨i + 1, by omega, by go_num, ?_, HLE.out.frm⟩
                  rw [mapTo, ← HCUR.out, ← HX.out, scrA]
                  dsimp only
                  rw [← HP.out, ← HR.out]
                  exact HLE.out.back
                case measure => simp [intOf]; omega
      · obtain rfl : i = n := by omega
        obtain ⟨lA, hlA⟩ : ∃ u, u = mapTo (scrA mark) i l := ⟨_, rfl⟩
        rw [← hlA] at hS
        have hlAn : lA.length = i := by rw [hlA, mapTo_len]; exact HN.out.symm
        have hlAl : ∀ j, (lA.getD j z50).f0.length ≤ 65536 ∧ (lA.getD j z50).f1.length ≤ 65536 := by
          intro j
          rw [hlA, mapTo_at _ _ _ _ (by rw [← HN.out]; exact Nat.le_refl _)]
          have hj : (l.getD j z50).f0.length ≤ 65536 ∧ (l.getD j z50).f1.length ≤ 65536 := by
            rcases Nat.lt_or_ge j l.length with h | h
            · rw [getD_at h]; exact HL.out _ (List.getElem_mem _)
            · rw [List.getD_eq_getElem?_getD, List.getElem?_eq_none h]; exact ⟨by decide, by decide⟩
          split
          · unfold scrA; simpa using hj
          · exact hj
        have HS := Lib.hid hS
        have HFR := Lib.hid hf
        have HAN := Lib.hid hlAn
        have HAL := Lib.hid hlAl
        obtain ⟨wo, hwo⟩ : ∃ u, u = wr := ⟨_, rfl⟩
        subst hwo
        have HLA := Lib.hid hlA
        clear hS hf hlAn hlAl hlA hlt hi
        go_wp2
        obtain ⟨n, hni⟩ : ∃ n, n = i := ⟨_, rfl⟩
        subst hni
        go_loopw [7] (fun t wr => ∃ i : Nat, i ≤ n ∧ t = .int .i64 i ∧ Kd.S k50 50 wr 0 ok (.slice (some ⟨g, 0, none⟩) n c) (mapTo (scrB mark) i lA) ∧ Frm ok w wr) (fun t _ => n - (intOf t).toNat)
        case atStart => exact ⟨0, Nat.zero_le _, rfl, HS.out, HFR.out⟩
        case round =>
          clear HS HFR
          obtain ⟨i, hi, rfl, hS, hf⟩ := hrel
          by_cases hlt : i < n
          · obtain ⟨okI, v0, v1, hok, hwd, hL⟩ := Lent.lend hS hf hlt
            have hxl := HAL.out i
            obtain ⟨cur, hcur⟩ : ∃ u, u = mapTo (scrB mark) i lA := ⟨_, rfl⟩
            rw [mapTo_at _ _ _ _ (by rw [HAN.out]; exact hi), if_neg (Nat.lt_irrefl _), ← hcur] at hL
            obtain ⟨x, hx⟩ : ∃ x, x = lA.getD i z50 := ⟨_, rfl⟩
            rw [← hx] at hL hxl
            obtain ⟨⟨ps, ws, sm⟩, rfl⟩ : ∃ y, y = x := ⟨x, rfl⟩
            dsimp only at hL hxl
            have hfr2 : ∀ k, wr.heap.size ≤ k → okI k := fun k hk => hwd k (HF.out k (Nat.le_trans hf.size hk)) hk
            have HLE := Lib.hid hL
            have HOKI := Lib.hid hok
            have HWD := Lib.hid hfr2
            have HX := Lib.hid hx
            have HCUR := Lib.hid hcur
            have hzr : wr.heap.size ≤ wr.heap.size := Nat.le_refl _
            obtain ⟨wo, hwo⟩ : ∃ u, u = wr := ⟨_, rfl⟩
            subst hwo
            clear hS hok hwd hL hcur hx hfr2 hzr hf
            go_wp2
            go_loopw [8] (fun t wr => ∃ k : Nat, k ≤ 40 ∧ t = .int .i64 k ∧ wo.heap.size ≤ wr.heap.size ∧ ∃ v0 v1, Lent w ok g n c cur i okI sm wr v0 v1 (ps ++ List.replicate k ⟨mark - 10, i⟩) (ws ++ List.replicate k (ans2 mark i))) (fun t _ => 40 - (intOf t).toNat)
            case atStart => exact ⟨0, by omega, rfl, Nat.le_refl _, v0, v1, by rw [show List.replicate 0 (⟨mark - 10, i⟩ : S80) = [] from rfl, show List.replicate 0 (ans2 mark i) = [] from rfl, List.append_nil, List.append_nil]; exact HLE.out⟩
            case round =>
              clear HLE
              obtain ⟨k, hk, rfl, hsz, v0, v1, hL⟩ := hrel
              obtain ⟨P0, q0, rfl, _, _⟩ := Kd.R_reads hL.pk
              obtain ⟨P1, q1, rfl, _, _⟩ := Kd.R_reads hL.an
              obtain ⟨c0, c1, f0, f1⟩ := hL.cells2 hlt
              have hlp : (ps ++ List.replicate k (⟨mark - 10, i⟩ : S80)).length = ps.length + k := by simp
              have hlw : (ws ++ List.replicate k (ans2 mark i)).length = ws.length + k := by simp
              obtain ⟨pk, hpk⟩ : ∃ u, u = ps ++ List.replicate k (⟨mark - 10, i⟩ : S80) := ⟨_, rfl⟩
              obtain ⟨wk, hwk⟩ : ∃ u, u = ws ++ List.replicate k (ans2 mark i) := ⟨_, rfl⟩
              rw [← hpk] at hL c0 hlp
              rw [← hwk] at hL c1 hlw
              have HPK := Lib.hid hpk
              have HWK := Lib.hid hwk
              have HLP := Lib.hid hlp
              have HLW := Lib.hid hlw
              have HLE := Lib.hid hL
              clear hL hpk hwk hlp hlw
              by_cases hkp : k < 40
              · go_upto_region 18 with (first | (at_builtin; refine app_list k80 (W := wr) (.tmp 74) (.tmp 79) 47 80 (.agg #[.int .i64 0, .int .i64 0]) 16 rfl rfl Try.underlying47 info80 rfl (by decide) (by decide) (.slice P0 pk.length q0) pk ⟨mark - 10, i⟩ [.int .i64 (mark - 10), .int .i64 i] okI (fun _ => False) rfl rfl rfl (k80_mkM _ _ _ _) (fun _ h => h.elim) (fun k hk => HWD.out k (Nat.le_trans hsz hk)) HLE.out.pk (by rw [HLP.out]; omega) ?_; intro v2 w2 ho hg1; obtain ⟨P2, q2, rfl, _, _⟩ := Kd.R_reads ho; have HO := Lib.hid ho; have HG := Lib.hid hg1; obtain ⟨d0, d1, e0, e1⟩ := HLE.out.grown2 hlt hg1 (fun k hk => HLE.out.pk.1 k hk); clear ho hg1 c0 c1 f0 f1))
                have hL2 := HLE.out.addPick HOKI.out hlt HO.out HG.out
                have hsz2 : wo.heap.size ≤ (w2.setCell ⟨g, i * 3, none⟩ (.slice P2 (pk.length + 1) q2)).heap.size := by
                  have := HG.out.size
                  have h2 : (w2.setCell ⟨g, i * 3, none⟩ (.slice P2 (pk.length + 1) q2)).heap.size = w2.heap.size := by simp [World.setCell]
                  omega
                have hpl : (pk ++ [(⟨mark - 10, i⟩ : S80)]).length = pk.length + 1 := by simp
                rw [hpl] at hL2
                obtain ⟨w3, hw3⟩ : ∃ u, u = w2.setCell ⟨g, i * 3, none⟩ (.slice P2 (pk.length + 1) q2) := ⟨_, rfl⟩
                rw [← hw3] at hL2 hsz2 ⊢
                obtain ⟨c0, c1, f0, f1⟩ := hL2.cells2 hlt
                have HL2 := Lib.hid hL2
                clear hw3 hL2 d0 d1 e0 e1 hpl HO HG
                have hwl : (wk.length + 1) * 4 ≤ 140737488355328 := by rw [HLW.out]; omega
                have HWL := Lib.hid hwl
                clear hwl
                go_wp2_with (first | (at_builtin; refine app_list (Kd.int .u32) (W := w3) (.tmp 89) (.tmp 96) 48 35 (.int .u32 0) 4 rfl rfl Try.underlying48 info35 rfl (by decide) (by decide) (.slice P1 wk.length q1) wk (ans2 mark i) [.int .u32 (ans2 mark i)] okI (fun _ => False) rfl rfl rfl rfl (fun _ h => h.elim) (fun k hk => HWD.out k (Nat.le_trans hsz2 hk)) HL2.out.an HWL.out ?_; intro v3 w4 ho hg1; obtain ⟨P3, q3, rfl, _, _⟩ := Kd.R_reads ho; have HO := Lib.hid ho; have HG := Lib.hid hg1; obtain ⟨d0, d1, e0, e1⟩ := HL2.out.grown2 hlt hg1 (fun k hk => HL2.out.an.1 k hk); clear ho hg1 c0 c1 f0 f1))
                go_roundw
                case rel =>
                  have hL3 := HL2.out.addWord HOKI.out hlt HO.out HG.out
                  have hwl2 : (wk ++ [ans2 mark i]).length = wk.length + 1 := by simp
                  rw [hwl2, HPK.out, HWK.out, List.append_assoc, List.append_assoc, rep_snoc, rep_snoc, ← HPK.out, ← HWK.out] at hL3
                  have hs4 : wo.heap.size ≤ (w4.setCell ⟨g, i * 3 + 1, none⟩ (.slice P3 (wk.length + 1) q3)).heap.size := by
                    have := HG.out.size
                    have h2 : (w4.setCell ⟨g, i * 3 + 1, none⟩ (.slice P3 (wk.length + 1) q3)).heap.size = w4.heap.size := by simp [World.setCell]
                    omega
                  exact ⟨k + 1, by omega, by go_num, hs4, _, _, hL3⟩
                case measure => simp [intOf]; omega
              · obtain rfl : k = 40 := by omega
                go_wp2
                go_roundw
                case rel =>
                  refine ⟨i + 1, by omega, by go_num, ?_, HLE.out.frm⟩
                  rw [mapTo, ← HCUR.out, ← HX.out, scrB]
                  dsimp only
                  rw [← HPK.out, ← HWK.out]
                  exact HLE.out.back
                case measure => simp [intOf]; omega
          · obtain rfl : i = n := by omega
            go_wp2
            go_end0
            exact ⟨rfl, by rw [← HLA.out]; exact hS, hf⟩
  · obtain rfl : n = 0 := by omega
    have hl0 : l = [] := List.eq_nil_of_length_eq_zero HN.out.symm
    have HL0 := Lib.hid hl0
    clear hl0
    go_enter Try.func21, Try.ntmps21
    go_wp2
    go_loopw [4] (fun t wr => t = .int .i64 0 ∧ wr = w) (fun t _ => 0)
    case atStart => exact ⟨rfl, rfl⟩
    case round =>
      obtain ⟨rfl, rfl⟩ := hrel
      go_wp2
      go_loopw [7] (fun t wr' => t = .int .i64 0 ∧ wr' = wr) (fun t _ => 0)
      case atStart => exact ⟨rfl, rfl⟩
      case round =>
        obtain ⟨rfl, rfl⟩ := hrel
        go_wp2
        go_end0
        exact ⟨rfl, HS.out, Frm.refl _ _⟩
end Go.Proofs.Ytoebhddgpicegaa
namespace Go.Proofs.Ytoebhddgpicegaa
open Go.RowKit Go.Proofs.YtoebhddgpicegaaW.PrintWords Go.Proofs.YtoebhddgpicegaaW.PrintLast Go.Proofs.YtoebhddgpicegaaW.PrintMore
open PReplayApart
theorem rep2_at {α : Type} (a b z : α) (p q k : Nat) (hk : k < p + q) : (List.replicate p a ++ List.replicate q b).getD k z = if k < p then a else b := by
  rw [List.getD_eq_getElem?_getD]
  by_cases h : k < p
  · rw [List.getElem?_append_left (by simpa using h), if_pos h]
    simp [h]
  · rw [List.getElem?_append_right (by simp; omega), if_neg h]
    have : k - p < q := by omega
    simp [this]
/-- What scribbled leaves in each leg. -/
def Scrd (mark : Int) (L : List S50) : Prop := ∀ i, i < L.length → ∃ p r : Nat, p ≤ 65536 ∧ r ≤ 65536 ∧ (L.getD i z50).f0 = List.replicate p ⟨mark, i⟩ ++ List.replicate 40 ⟨mark - 10, i⟩ ∧ (L.getD i z50).f1 = List.replicate r (ans1 mark i) ++ List.replicate 40 (ans2 mark i)
theorem scrd_of (mark : Int) (l : List S50) (hl : ∀ x ∈ l, x.f0.length ≤ 65536 ∧ x.f1.length ≤ 65536) : Scrd mark (mapTo (scrB mark) l.length (mapTo (scrA mark) l.length l)) := by
  intro i hi
  rw [mapTo_len, mapTo_len] at hi
  have hx := hl _ (List.getElem_mem hi)
  refine ⟨l[i].f0.length, l[i].f1.length, hx.1, hx.2, ?_, ?_⟩
  · rw [mapTo_at _ _ _ _ (by rw [mapTo_len]; exact Nat.le_refl _), if_pos hi, mapTo_at _ _ _ _ (Nat.le_refl _), if_pos hi, getD_at hi]
    rfl
  · rw [mapTo_at _ _ _ _ (by rw [mapTo_len]; exact Nat.le_refl _), if_pos hi, mapTo_at _ _ _ _ (Nat.le_refl _), if_pos hi, getD_at hi]
    rfl
theorem ans1_eq {mark : Int} (hm : -4 ≤ mark ∧ mark ≤ -1) {i : Nat} (hi : i ≤ 100000) : wrap64 (wrap64 (100000 * wrap64 (9 + mark)) + (i : Int)) % 4294967296 = ans1 mark i := by
  have a : wrap64 (9 + mark) = 9 + mark := by unfold wrap64; omega
  have b : wrap64 (100000 * (9 + mark)) = 100000 * (9 + mark) := by unfold wrap64; omega
  have c : wrap64 (100000 * (9 + mark) + (i : Int)) = 100000 * (9 + mark) + (i : Int) := by unfold wrap64; omega
  rw [a, b, c]
  unfold ans1
  omega
theorem ans2_eq {mark : Int} (hm : -4 ≤ mark ∧ mark ≤ -1) {i : Nat} (hi : i ≤ 100000) : wrap64 (wrap64 (100000 * wrap64 (19 + mark)) + (i : Int)) % 4294967296 = ans2 mark i := by
  have a : wrap64 (19 + mark) = 19 + mark := by unfold wrap64; omega
  have b : wrap64 (100000 * (19 + mark)) = 100000 * (19 + mark) := by unfold wrap64; omega
  have c : wrap64 (100000 * (19 + mark) + (i : Int)) = 100000 * (19 + mark) + (i : Int) := by unfold wrap64; omega
  rw [a, b, c]
  unfold ans2
  omega
theorem ans_ne (mark : Int) (i : Nat) : ¬ ans2 mark i = ans1 mark i := by unfold ans1 ans2; omega
theorem bears_ev (L : List S50) (mark : Int) (hm : -4 ≤ mark ∧ mark ≤ -1) (hn : L.length ≤ 100000) (hx : Scrd mark L) : Ev (fun k => amberlaw21_bears.f k L mark) true := by
  have loop : ∀ d i : Nat, i + d = L.length → Ev (fun k => amberlaw21_bears.l0 k L mark (i : Int)) true := by
    intro d
    induction d with
    | zero =>
      intro i hi
      refine Ev.step (f := fun _ => some _) (fun k => ?_) (Ev.now _)
      simp only [amberlaw21_bears.l0]
      rw [if_neg (by omega)]
    | succ d ih =>
      intro i hi
      obtain ⟨p, r, hp, hr, h0, h1⟩ := hx i (by omega)
      have hrd : rd_T50 L (i : Int) = L.getD i z50 := by simp [rd_T50]
      have hl0 : ((L.getD i z50).f0.length : Int) = p + 40 := by rw [h0]; simp
      have hl1 : ((L.getD i z50).f1.length : Int) = r + 40 := by rw [h1]; simp
      have l2 : ∀ e j : Nat, j + e = r + 40 → Ev (fun k => amberlaw21_bears.l2 k L mark (i : Int) (r : Int) (j : Int)) true := by
        intro e
        induction e with
        | zero =>
          intro j hj
          refine Ev.step (f := fun k => amberlaw21_bears.l0 k L mark ((i + 1 : Nat) : Int)) (fun k => ?_) (ih (i + 1) (by omega))
          simp only [amberlaw21_bears.l2]
          rw [if_pos (by omega), if_pos (by omega), hrd, if_neg (by omega), show wrap64 ((i : Int) + 1) = ((i + 1 : Nat) : Int) by unfold wrap64; omega]
        | succ e ih2 =>
          intro j hj
          refine Ev.step (f := fun k => amberlaw21_bears.l2 k L mark (i : Int) (r : Int) ((j + 1 : Nat) : Int)) (fun k => ?_) (ih2 (j + 1) (by omega))
          have hv : rd (L.getD i z50).f1 (j : Int) = if j < r then ans1 mark i else ans2 mark i := by
            rw [h1]
            have := rep2_at (ans1 mark i) (ans2 mark i) 0 r 40 j (by omega)
            simpa [rd] using this
          have b0 : (0 : Int) ≤ i := by omega
          have b1 : (i : Int) < L.length := by omega
          have b2 : (j : Int) < (L.getD i z50).f1.length := by omega
          have b3 : (0 : Int) ≤ j := by omega
          have e3 : wrap64 ((j : Int) + 1) = ((j + 1 : Nat) : Int) := by unfold wrap64; omega
          simp only [amberlaw21_bears.l2]
          rw [if_pos b0, if_pos b1, hrd, if_pos b2, if_pos b3, hv, ans1_eq hm (by omega), ans2_eq hm (by omega), e3]
          by_cases hjr : j < r
          · rw [if_pos hjr, if_pos rfl]
          · have b4 : ¬ (j : Int) < r := by omega
            rw [if_neg hjr, if_neg (ans_ne mark i), if_neg b4, if_pos rfl]
      have l1 : ∀ e j : Nat, j + e = p + 40 → Ev (fun k => amberlaw21_bears.l1 k L mark (i : Int) (p : Int) (r : Int) (j : Int)) true := by
        intro e
        induction e with
        | zero =>
          intro j hj
          refine Ev.step (f := fun k => amberlaw21_bears.l2 k L mark (i : Int) (r : Int) ((0 : Nat) : Int)) (fun k => ?_) (l2 (r + 40) 0 (by omega))
          simp only [amberlaw21_bears.l1]
          rw [if_pos (by omega), if_pos (by omega), hrd, if_neg (by omega)]
          rfl
        | succ e ih2 =>
          intro j hj
          refine Ev.step (f := fun k => amberlaw21_bears.l1 k L mark (i : Int) (p : Int) (r : Int) ((j + 1 : Nat) : Int)) (fun k => ?_) (ih2 (j + 1) (by omega))
          have hv : rd_T80 (L.getD i z50).f0 (j : Int) = if j < p then ⟨mark, i⟩ else ⟨mark - 10, i⟩ := by
            rw [h0]
            have := rep2_at (⟨mark, i⟩ : S80) ⟨mark - 10, i⟩ z80 p 40 j (by omega)
            simpa [rd_T80] using this
          have b0 : (0 : Int) ≤ i := by omega
          have b1 : (i : Int) < L.length := by omega
          have b2 : (j : Int) < (L.getD i z50).f0.length := by omega
          have b3 : (0 : Int) ≤ j := by omega
          have e2 : wrap64 (mark - 10) = mark - 10 := by unfold wrap64; omega
          have e3 : wrap64 ((j : Int) + 1) = ((j + 1 : Nat) : Int) := by unfold wrap64; omega
          have b5 : ¬ mark - 10 = mark := by omega
          simp only [amberlaw21_bears.l1]
          rw [if_pos b0, if_pos b1, hrd, if_pos b2, if_pos b3, hv, e2, e3]
          by_cases hjr : j < p
          · rw [if_pos hjr, if_neg (by simp)]
          · have b4 : ¬ (j : Int) < p := by omega
            rw [if_neg hjr, if_pos (by simp [b5]), if_neg b4, if_neg (by simp)]
      refine Ev.step (f := fun k => amberlaw21_bears.j1 k L mark (i : Int) (p : Int) (r : Int) false) (fun k => ?_) (Ev.step (f := fun k => amberlaw21_bears.l1 k L mark (i : Int) (p : Int) (r : Int) ((0 : Nat) : Int)) (fun k => ?_) (l1 (p + 40) 0 (by omega)))
      · have w0 : wrap64 (((L.getD i z50).f0.length : Int) - 40) = (p : Int) := by unfold wrap64; omega
        have w1 : wrap64 (((L.getD i z50).f1.length : Int) - 40) = (r : Int) := by unfold wrap64; omega
        simp only [amberlaw21_bears.l0]
        rw [if_pos (by omega), if_pos (by omega), hrd, w0, w1, if_neg (by omega), decide_eq_false (by omega)]
      · simp only [amberlaw21_bears.j1]
        rw [if_neg (by decide)]
        rfl
  have := loop L.length 0 (by omega)
  exact this
theorem bears_calls (w : World) (A : Option Addr) (c : Nat) (L : List S50) (mark : Int) (hr : Kd.C k50 w A L.length L) (hc : L.length ≤ c) (hm : -4 ≤ mark ∧ mark ≤ -1) (hn : L.length ≤ 100000) (hx : Scrd mark L) :
    Calls Try.prog 22 #[.slice A L.length c, .int .i64 mark] w fun e w' => e = .returned (.bool true) ∧ Frm Nun w w' := by
  obtain ⟨k, hk⟩ := (bears_ev L mark hm hn hx).rounds
  refine (amberlaw21_bears.calls k A c L mark _ w hr hc hk).mono ?_
  rintro e w' ⟨rfl, h⟩
  exact ⟨rfl, (Frm.refl _ _).drawn h⟩
end Go.Proofs.Ytoebhddgpicegaa
namespace Go.Proofs.Ytoebhddgpicegaa
open Go.RowKit Go.Proofs.YtoebhddgpicegaaW.PrintWords Go.Proofs.YtoebhddgpicegaaW.PrintMore
open PReplayApart
theorem Frm.low {S S' : Nat → Prop} {w w1 : World} (h : Frm S w w1) (hs : ∀ k, k < w.heap.size → S k → S' k) : Frm S' w w1 := ⟨h.os, h.tape, h.output, h.size, fun k hk hn => h.block k hk (fun h2 => hn (hs k hk h2))⟩
/-- Row i takes another value. -/
def put {α : Type} (B : Nat → α) (i : Nat) (x : α) : Nat → α := fun j => if j = i then x else B j
def nilB : Value × List Int := (.slice none 0 0, [])
def nilL : Value × List S50 := (.slice none 0 0, [])
def b5 (a b o k t : Value × List Int) : Nat → Value × List Int := fun | 0 => a | 1 => b | 2 => o | 3 => k | 4 => t | _ => nilB
def l4 (i x y q : Value × List S50) : Nat → Value × List S50 := fun | 0 => i | 1 => x | 2 => y | 3 => q | _ => nilL
/-- Rows of bytes and of legs, apart: each block's label tells whose it is. -/
structure Rws (w : World) (f : Nat → Nat) (W : World) (B : Nat → Value × List Int) (L : Nat → Value × List S50) : Prop where
  b : ∀ i, i < 5 → Kd.R (Kd.int .u8) 5 W 0 (fun k => w.heap.size ≤ k ∧ f k = i) (B i).1 (B i).2
  l : ∀ i, i < 4 → Kd.S k50 50 W 0 (fun k => w.heap.size ≤ k ∧ f k = 5 + i) (L i).1 (L i).2
  frm : Frm Nun w W
section
variable {w W W1 : World} {f : Nat → Nat} {B : Nat → Value × List Int} {L : Nat → Value × List S50}
/-- What row i's label may take in: what is new. -/
def lab (w : World) (f : Nat → Nat) (W : World) (i : Nat) : Nat → Prop := fun k => w.heap.size ≤ k ∧ (f k = i ∨ W.heap.size ≤ k)
theorem lab_new (h : w.heap.size ≤ W.heap.size) (i : Nat) : ∀ k, W.heap.size ≤ k → lab w f W i k := fun _ hk => ⟨Nat.le_trans h hk, .inr hk⟩
theorem lab_nw (h : w.heap.size ≤ W.heap.size) (i : Nat) : ∀ k, Nw Nun W k → lab w f W i k := fun k hk => hk.elim (fun h => h.elim) (fun hk => lab_new h i k hk)
theorem Rws.quiet (h : Rws w f W B L) (hf : Frm Nun W W1) : Rws w f W1 B L :=
  ⟨fun i hi => R_frm (h.b i hi) hf (fun _ _ h => h), fun i hi => Kd.S_step (h.l i hi) (fun k _ hk => hf.block k hk (fun h => h)), h.frm.quiet hf⟩
theorem keepB {i j : Nat} {v : Value} {l : List Int} (h : Kd.R (Kd.int .u8) 5 W 0 (fun k => w.heap.size ≤ k ∧ f k = i) v l) (hf : Frm (lab w f W j) W W1) (hij : i ≠ j) :
    Kd.R (Kd.int .u8) 5 W1 0 (fun k => w.heap.size ≤ k ∧ (if W.heap.size ≤ k then j else f k) = i) v l :=
  Kd.R_mono (R_frm (Kd.R_bound h) hf (fun k hk h2 => h2.2.elim (fun h3 => hij (hk.1.2.symm.trans h3)) (fun h3 => by have := hk.2.2.1; omega))) (fun k hk => ⟨hk.1.1, by rw [if_neg (by have := hk.2.2.1; omega)]; exact hk.1.2⟩)
theorem keepL {i j : Nat} {v : Value} {l : List S50} (h : Kd.S k50 50 W 0 (fun k => w.heap.size ≤ k ∧ f k = i) v l) (hf : Frm (lab w f W j) W W1) (hij : i ≠ j) :
    Kd.S k50 50 W1 0 (fun k => w.heap.size ≤ k ∧ (if W.heap.size ≤ k then j else f k) = i) v l :=
  Kd.S_mono (Kd.S_step (Kd.S_bound h) (fun k hk hlt => hf.block k hlt (fun h2 => h2.2.elim (fun h3 => hij (hk.1.2.symm.trans h3)) (fun h3 => by omega)))) (fun k hk => ⟨hk.1.1, by rw [if_neg (by have := hk.2.2.1; omega)]; exact hk.1.2⟩)
theorem lab_in (j : Nat) : ∀ k, lab w f W j k → w.heap.size ≤ k ∧ (if W.heap.size ≤ k then j else f k) = j := fun k hk => ⟨hk.1, by split; rfl; exact hk.2.elim id (fun h => by omega)⟩
/-- An event on row i of the bytes. -/
theorem Rws.setB (h : Rws w f W B L) {i : Nat} (hi : i < 5) {v : Value} {l : List Int} (hr : Kd.R (Kd.int .u8) 5 W1 0 (lab w f W i) v l) (hf : Frm (lab w f W i) W W1) : ∃ f', Rws w f' W1 (put B i (v, l)) L := by
  refine ⟨fun k => if W.heap.size ≤ k then i else f k, fun j hj => ?_, fun j hj => keepL (h.l j hj) hf (by omega), h.frm.trans hf (fun k hk => .inr hk.1)⟩
  unfold put
  by_cases hji : j = i
  · subst hji
    rw [if_pos rfl]
    exact Kd.R_mono hr (lab_in j)
  · rw [if_neg hji]
    exact keepB (h.b j hj) hf hji
theorem Rws.setL (h : Rws w f W B L) {i : Nat} (hi : i < 4) {v : Value} {l : List S50} (hr : Kd.S k50 50 W1 0 (lab w f W (5 + i)) v l) (hf : Frm (lab w f W (5 + i)) W W1) : ∃ f', Rws w f' W1 B (put L i (v, l)) := by
  refine ⟨fun k => if W.heap.size ≤ k then 5 + i else f k, fun j hj => keepB (h.b j hj) hf (by omega), fun j hj => ?_, h.frm.trans hf (fun k hk => .inr hk.1)⟩
  unfold put
  by_cases hji : j = i
  · subst hji
    rw [if_pos rfl]
    exact Kd.S_mono hr (lab_in (5 + j))
  · rw [if_neg hji]
    exact keepL (h.l j hj) hf (by omega)
/-- A row that is new. -/
theorem Rws.newB (h : Rws w f W B L) {i : Nat} (hi : i < 5) {v : Value} {l : List Int} (hr : Kd.R (Kd.int .u8) 5 W1 0 (Nw Nun W) v l) (hf : Frm Nun W W1) : ∃ f', Rws w f' W1 (put B i (v, l)) L :=
  h.setB hi (Kd.R_mono hr (lab_nw h.frm.size i)) (hf.mono (fun _ h => h.elim))
theorem Rws.newL (h : Rws w f W B L) {i : Nat} (hi : i < 4) {v : Value} {l : List S50} (hr : Kd.S k50 50 W1 0 (Nw Nun W) v l) (hf : Frm Nun W W1) : ∃ f', Rws w f' W1 B (put L i (v, l)) :=
  h.setL hi (Kd.S_mono hr (lab_nw h.frm.size (5 + i))) (hf.mono (fun _ h => h.elim))
theorem Rws.inB (h : Rws w f W B L) {i : Nat} (hi : i < 5) : Kd.R (Kd.int .u8) 5 W 0 (lab w f W i) (B i).1 (B i).2 := Kd.R_mono (h.b i hi) (fun _ hk => ⟨hk.1, .inl hk.2⟩)
theorem Rws.inL (h : Rws w f W B L) {i : Nat} (hi : i < 4) : Kd.S k50 50 W 0 (lab w f W (5 + i)) (L i).1 (L i).2 := Kd.S_mono (h.l i hi) (fun _ hk => ⟨hk.1, .inl hk.2⟩)
/-- A byte is stored. -/
theorem Rws.store (h : Rws w f W B L) {i : Nat} (hi : i < 5) {g n c : Nat} {l : List Int} (hB : B i = (.slice (some ⟨g, 0, none⟩) n c, l)) (k : Nat) (v : Int) : ∃ f', Rws w f' (W.setCell ⟨g, k, none⟩ (.int .u8 v)) (put B i (.slice (some ⟨g, 0, none⟩) n c, l.set k v)) L := by
  have hb := h.inB hi
  rw [hB] at hb
  dsimp only at hb
  have hn := (Kd.R_reads' hb).1
  subst hn
  obtain ⟨h1, h2⟩ := Kd.R_put (enc := Value.int .u8) (h1 := fun _ => rfl) hb (k : Int) v
  rw [Int.toNat_natCast] at h1 h2
  exact h.setB hi h1 ((Frm.refl _ _).grown h2 (fun j hj => .inl (by injection hj with hj; rw [← hj]; exact hb.1 g rfl)))
theorem Rws.CB (h : Rws w f W B L) {i : Nat} (hi : i < 5) {A : Option Addr} {n c : Nat} {l : List Int} (hB : B i = (.slice A n c, l)) : n = l.length ∧ n ≤ c ∧ Kd.C (Kd.int .u8) W A l.length l := by
  have hb := h.b i hi
  rw [hB] at hb
  exact Kd.R_reads' hb
theorem Rws.CL (h : Rws w f W B L) {i : Nat} (hi : i < 4) {A : Option Addr} {n c : Nat} {l : List S50} (hL : L i = (.slice A n c, l)) : n = l.length ∧ n ≤ c ∧ Kd.C k50 W A l.length l := by
  have hb := h.l i hi
  rw [hL] at hb
  exact Kd.S_reads' hb
end
theorem Rws.start {w W : World} (h : Frm Nun w W) : Rws w (fun _ => 0) W (b5 nilB nilB nilB nilB nilB) (l4 nilL nilL nilL nilL) := by
  refine ⟨fun i hi => ?_, fun i hi => ?_, h⟩
  · match i, hi with
    | 0, _ => exact Kd.R_nil _ _ _ _ _
    | 1, _ => exact Kd.R_nil _ _ _ _ _
    | 2, _ => exact Kd.R_nil _ _ _ _ _
    | 3, _ => exact Kd.R_nil _ _ _ _ _
    | 4, _ => exact Kd.R_nil _ _ _ _ _
  · match i, hi with
    | 0, _ => exact Kd.S_nil _ _ _ _ _
    | 1, _ => exact Kd.S_nil _ _ _ _ _
    | 2, _ => exact Kd.S_nil _ _ _ _ _
    | 3, _ => exact Kd.S_nil _ _ _ _ _
section
variable {a b o k t x : Value × List Int} {p q r s y : Value × List S50}
theorem put_b0 : put (b5 a b o k t) 0 x = b5 x b o k t := by funext j; match j with | 0 => rfl | 1 => rfl | 2 => rfl | 3 => rfl | 4 => rfl | j + 5 => rfl
theorem put_b1 : put (b5 a b o k t) 1 x = b5 a x o k t := by funext j; match j with | 0 => rfl | 1 => rfl | 2 => rfl | 3 => rfl | 4 => rfl | j + 5 => rfl
theorem put_b2 : put (b5 a b o k t) 2 x = b5 a b x k t := by funext j; match j with | 0 => rfl | 1 => rfl | 2 => rfl | 3 => rfl | 4 => rfl | j + 5 => rfl
theorem put_b3 : put (b5 a b o k t) 3 x = b5 a b o x t := by funext j; match j with | 0 => rfl | 1 => rfl | 2 => rfl | 3 => rfl | 4 => rfl | j + 5 => rfl
theorem put_b4 : put (b5 a b o k t) 4 x = b5 a b o k x := by funext j; match j with | 0 => rfl | 1 => rfl | 2 => rfl | 3 => rfl | 4 => rfl | j + 5 => rfl
theorem put_l0 : put (l4 p q r s) 0 y = l4 y q r s := by funext j; match j with | 0 => rfl | 1 => rfl | 2 => rfl | 3 => rfl | j + 4 => rfl
theorem put_l1 : put (l4 p q r s) 1 y = l4 p y r s := by funext j; match j with | 0 => rfl | 1 => rfl | 2 => rfl | 3 => rfl | j + 4 => rfl
theorem put_l2 : put (l4 p q r s) 2 y = l4 p q y s := by funext j; match j with | 0 => rfl | 1 => rfl | 2 => rfl | 3 => rfl | j + 4 => rfl
theorem put_l3 : put (l4 p q r s) 3 y = l4 p q r y := by funext j; match j with | 0 => rfl | 1 => rfl | 2 => rfl | 3 => rfl | j + 4 => rfl
end
end Go.Proofs.Ytoebhddgpicegaa
namespace Go.Proofs.Ytoebhddgpicegaa
open Go.RowKit Go.Proofs.YtoebhddgpicegaaW.PrintWords
open PReplayApart
theorem lengthOf_ev (l : List S50) (hl : l.length ≤ 140737488355328) (hs : sumL l ≤ 1000000000000) : Ev (fun k => amberlaw21_lengthOf.f k l) (sumL l) := by
  have loop : ∀ d i : Nat, i + d = l.length → Ev (fun k => amberlaw21_lengthOf.l0 k l (sumL (l.take i)) (i : Int)) (sumL l) := by
    intro d
    induction d with
    | zero =>
      intro i hi
      refine Ev.step (f := fun _ => some _) (fun k => ?_) (Ev.now _)
      simp only [amberlaw21_lengthOf.l0]
      rw [if_neg (by omega), List.take_of_length_le (by omega)]
    | succ d ih =>
      intro i hi
      have hr : rd_T50 l (i : Int) = l.getD i z50 := by simp [rd_T50]
      refine Ev.step (f := fun k => amberlaw21_lengthOf.l0 k l (sumL (l.take (i + 1))) ((i + 1 : Nat) : Int)) (fun k => ?_) (ih (i + 1) (by omega))
      have h1 : sumL (l.take (i + 1)) = sumL (l.take i) + sizeL (l.getD i z50) := by rw [snocG (by omega) z50, sumL_snoc]
      have h2 := sumL_take l (i + 1)
      have h3 := sumL_nonneg (l.take i)
      have h4 := sizeL_pos (l.getD i z50)
      simp only [amberlaw21_lengthOf.l0]
      rw [if_pos (by omega), if_pos (by omega), wrap_nat (by omega), hr]
      congr 1
      rw [h1]
      unfold sizeL at h4 h1 ⊢
      unfold wrap64
      omega
  have := loop l.length 0 (by omega)
  rw [List.take_zero] at this
  exact this
theorem lengthOf_calls (w : World) (A : Option Addr) (c : Nat) (l : List S50) (hr : Kd.C k50 w A l.length l) (hc : l.length ≤ c) (hl : l.length ≤ 140737488355328) (hs : sumL l ≤ 1000000000000) :
    Calls Try.prog 20 #[.slice A l.length c] w fun e w' => e = .returned (.int .i64 (sumL l)) ∧ Frm Nun w w' := by
  obtain ⟨k, hk⟩ := (lengthOf_ev l hl hs).rounds
  refine (amberlaw21_lengthOf.calls k A c l _ w hr hc hk).mono ?_
  rintro e w' ⟨rfl, h⟩
  exact ⟨rfl, (Frm.refl _ _).drawn h⟩
/-- The legs' numbers are int's. -/
def PkOk (l : List S50) : Prop := ∀ x ∈ l, ∀ p ∈ x.f0, (-9223372036854775808 ≤ p.f0 ∧ p.f0 < 9223372036854775808) ∧ (-9223372036854775808 ≤ p.f1 ∧ p.f1 < 9223372036854775808)
theorem sum_each {l : List S50} {x : S50} (h : x ∈ l) : sizeL x ≤ sumL l := by
  obtain ⟨a, b, rfl⟩ := List.append_of_mem h
  rw [sumL_app]
  have h1 := sumL_nonneg a
  have h2 := sumL_nonneg b
  show _ ≤ sumL a + (sizeL x + sumL b)
  omega
theorem legs_rd {l : List S50} (h : LegsOk l) (hp : PkOk l) (hs : sumL l ≤ 65536) : ∀ x ∈ l, LegRd x := by
  intro x hx
  have h1 := sum_each hx
  have h2 := h.each x hx
  unfold sizeL at h1
  exact ⟨hp x hx, h2.sum, h2.ans, by omega, by omega⟩
theorem rd_ok {l : List S50} (h : ∀ x ∈ l, LegRd x) (hs : sumL l ≤ 65536) : LegsOk l := by
  refine ⟨?_, fun x hx => ⟨(h x hx).sum, (h x hx).ans, by have := (h x hx).n0; omega, by have := (h x hx).n1; omega⟩⟩
  have : ∀ l : List S50, 24 * (l.length : Int) ≤ sumL l := by
    intro l
    induction l with
    | nil => decide
    | cons x l ih => have := sizeL_pos x; simp only [sumL, List.map_cons, List.sum_cons, List.length_cons] at ih ⊢; omega
  have := this l
  omega
theorem enc_fit {l : List S50} (hs : sumL l ≤ 65536) : encT l = (legsB l, 0) := by rw [enc_eq, rencT, if_neg (by omega)]
theorem enc_big {l : List S50} (hs : 65536 < sumL l) : encT l = ([], 2) := by rw [enc_eq, rencT, if_pos hs]
set_option maxHeartbeats 4000000 in
set_option maxRecDepth 100000 in
theorem back_calls (w : World) (A B : Option Addr) (c d : Nat) (legs : List S50) (b : List Int) (hr : Kd.C k50 w A legs.length legs) (hc : legs.length ≤ c) (hb : Kd.C (Kd.int .u8) w B b.length b) (hd : b.length ≤ d)
    (hok : LegsOk legs) (hp : PkOk legs) (hs : sumL legs ≤ 1000000000000) (hby : Byt b) (hbl : b.length ≤ 140737488355328) :
    Calls Try.prog 5 #[.slice A legs.length c, .slice B b.length d] w fun e w' => e = .returned (.bool true) ∧ Frm Nun w w' := by
  have HR := Lib.hid hr
  have HB := Lib.hid hb
  have HOK := Lib.hid hok
  have HBY := Lib.hid hby
  have HP := Lib.hid hp
  clear hr hb hok hby hp
  go_enter Try.func5, Try.ntmps5
  go_wp2_with fail
  refine (fixed_calls w).mono ?_
  rintro e w1 ⟨rfl, k1⟩
  have K1 := Lib.hid k1
  clear k1
  go_wp2_with fail
  refine (lengthOf_calls w1 A c legs (Kd.C_below HR.out K1.out.below0) hc (by have := HOK.out.n; omega) hs).mono ?_
  rintro e w2 ⟨rfl, k2⟩
  have K2 := Lib.hid (K1.out.quiet k2)
  clear k2 K1
  obtain ⟨s, hse⟩ : ∃ s, s = sumL legs := ⟨_, rfl⟩
  rw [← hse] at hs ⊢
  have HSE := Lib.hid hse
  clear hse
  go_wp2_with fail
  refine (ownLegs_calls w2 A c legs (Kd.C_below HR.out K2.out.below0) hc HOK.out).mono ?_
  rintro e w3 ⟨v3, rfl, h3, k3⟩
  obtain ⟨A3, c3, rfl, hc3, hC3⟩ := Kd.S_reads h3
  have K3 := Lib.hid (K2.out.quiet k3)
  have HC3 := Lib.hid hC3
  clear k3 K2 h3 hC3
  go_wp2_with fail
  refine (encode_calls w3 A3 c3 legs HC3.out HOK.out.n HOK.out.each).mono ?_
  rintro e w4 ⟨v4, rfl, h4, k4⟩
  have K4 := Lib.hid (K3.out.quiet k4)
  clear k4 K3
  by_cases hbig : 65536 < s
  · have e1 : (encT legs).1 = [] := by rw [enc_big (by rw [← HSE.out]; exact hbig)]
    have e2 : (encT legs).2 = 2 := by rw [enc_big (by rw [← HSE.out]; exact hbig)]
    obtain ⟨A4, c4, rfl, _, _⟩ := Kd.R_reads h4
    rw [e1, e2, List.length_nil]
    clear e1 e2 h4
    go_wp2
    go_ret
    exact ⟨rfl, K4.out⟩
  · have hs2 : sumL legs ≤ 65536 := by rw [← HSE.out]; omega
    have hfit := enc_fit hs2
    have e1 : (encT legs).1 = legsB legs := by rw [hfit]
    have e2 : (encT legs).2 = 0 := by rw [hfit]
    have hlen : ((legsB legs).length : Int) = s := by rw [legsB_len, HSE.out]
    have hrd := legs_rd HOK.out HP.out hs2
    have hdec := dec_legs legs hrd (by omega)
    rw [e1] at h4
    rw [e2]
    obtain ⟨A4, c4, rfl, hc4, hC4⟩ := Kd.R_reads h4
    have HC4 := Lib.hid hC4
    have HDEC := Lib.hid hdec
    obtain ⟨n, hn⟩ : ∃ n, n = (legsB legs).length := ⟨_, rfl⟩
    have HLB := Lib.hid (legsB_byt legs)
    rw [← hn] at hc4 hlen HC4 ⊢
    have HN := Lib.hid hn
    clear e1 e2 h4 hC4 hdec hfit hn
    go_wp2_with fail
    have hob := ownBytes_calls w4 A4 c4 (legsB legs) (by rw [← HN.out]; exact HC4.out) (by rw [← HN.out]; exact hc4) (by rw [← HN.out]; omega)
    rw [← HN.out] at hob
    refine hob.mono ?_
    rintro e w5 ⟨v5, rfl, h5, k5⟩
    obtain ⟨A5, c5, rfl, hc5, hC5⟩ := Kd.R_reads h5
    rw [← HN.out] at hc5 hC5 ⊢
    have HC5 := Lib.hid hC5
    have K5 := Lib.hid (K4.out.quiet k5)
    clear k5 h5 hC5 K4 hob
    go_wp2_with fail
    have hdc := decode_calls A5 c5 (legsB legs) HLB.out (by rw [← HN.out]; omega) w5 (by rw [← HN.out]; exact HC5.out)
    rw [← HN.out, HDEC.out] at hdc
    refine hdc.mono ?_
    rintro e w6 ⟨v6, rfl, h6, k6⟩
    obtain ⟨A6, c6, rfl, hc6, hC6⟩ := Kd.S_reads h6
    have K6 := Lib.hid (K5.out.quiet k6)
    have HC6 := Lib.hid hC6
    have hsl := sameLegs_self w6 A6 A c6 c legs hC6 hc6 (Kd.C_below HR.out K6.out.below0) hc HOK.out
    have HSL := Lib.hid hsl
    clear k6 h6 hC6 K5 hdc hsl HDEC
    go_wp2_with (first
      | (go_at_call 14; refine HSL.out.mono ?_; rintro e w7 ⟨rfl, k7⟩; have K7 := Lib.hid (K6.out.quiet k7); clear k7)
      | (go_at_call 10; refine (ownBytes_calls w7 B d b (Kd.C_below HB.out K7.out.below0) hd (by omega)).mono ?_; rintro e w8 ⟨v8, rfl, h8, k8⟩; obtain ⟨A8, c8, rfl, hc8, hC8⟩ := Kd.R_reads h8; have HC8 := Lib.hid hC8; have K8 := Lib.hid (K7.out.quiet k8); clear k8 h8 hC8))
    refine (decode_calls A8 c8 b HBY.out (by omega) w8 HC8.out).mono ?_
    rintro e w9 ⟨v9, rfl, h9, k9⟩
    have K9 := Lib.hid (K8.out.quiet k9)
    clear k9
    by_cases hg : (decT b).2 = 0
    · obtain ⟨m, hm⟩ : ∃ m, m = (decT b).1 := ⟨_, rfl⟩
      obtain ⟨y1, y2, y3⟩ := dec_yes HBY.out hg hm.symm
      rw [← hm] at h9
      rw [hg]
      obtain ⟨A9, c9, rfl, hc9, hC9⟩ := Kd.S_reads h9
      have hsm : sumL m ≤ 65536 := by rw [← legsB_len, ← y2]; omega
      have hmok := rd_ok y3 hsm
      have e1 : (encT m).1 = b := by rw [enc_fit hsm, ← y2]
      have e2 : (encT m).2 = 0 := by rw [enc_fit hsm]
      have hen := encode_calls w9 A9 c9 m hC9 hmok.n hmok.each
      rw [e1, e2] at hen
      have HEN := Lib.hid hen
      clear hm y1 y2 y3 h9 hC9 hsm hmok e1 e2 hen hg
      go_wp2_with (first
        | (go_at_call 15; refine HEN.out.mono ?_; rintro e w10 ⟨v10, rfl, h10, k10⟩; obtain ⟨A10, c10, rfl, hc10, hC10⟩ := Kd.R_reads h10; have hs1 := Kd.C_string (P := Try.prog) (A := A10) (c := c10) Try.underlying22 Try.underlying5 Try.underlying9 hC10; have hs2 := Kd.C_string (P := Try.prog) (A := B) (c := d) Try.underlying22 Try.underlying5 Try.underlying9 (Kd.C_below HB.out (K9.out.quiet k10).below0); have K10 := Lib.hid (K9.out.quiet k10); clear k10 h10 hC10))
      go_ret
      exact ⟨rfl, K10.out⟩
    · have hno := dec_no hg
      have e1 : (decT b).1 = [] := by rw [hno]
      have e2 : (decT b).2 = 210 := by rw [hno]
      obtain ⟨A9, c9, rfl, hc9, hC9⟩ := Kd.S_reads h9
      rw [e1, e2, List.length_nil]
      clear h9 hc9 hC9 e1 e2 hno hg
      go_wp2
      go_ret
      exact ⟨rfl, K9.out⟩
end Go.Proofs.Ytoebhddgpicegaa
namespace Go.Proofs.Ytoebhddgpicegaa
open Go.RowKit Go.Proofs.YtoebhddgpicegaaW.PrintWords
open PReplayApart
/-- The legs' bytes are bounded by their bulk. -/
theorem sum_bulk (l : List S50) : sumL l ≤ 24 * ((l.map muL).sum : Nat) := by
  induction l with
  | nil => decide
  | cons x l ih =>
    have h3 : sizeL x ≤ 24 * (muL x : Nat) := by
      have s1 : ∀ l : List S80, (l.map (fun _ => 2)).sum = 2 * l.length := by
        intro l; induction l with | nil => rfl | cons y l ih => simp only [List.map_cons, List.sum_cons, List.length_cons, ih]; omega
      have s2 : ∀ l : List Int, (l.map (fun _ => 1)).sum = l.length := by
        intro l; induction l with | nil => rfl | cons y l ih => simp only [List.map_cons, List.sum_cons, List.length_cons, ih]; omega
      unfold sizeL muL
      rw [s1, s2]
      omega
    have e : sumL (x :: l) = sizeL x + sumL l := by simp [sumL]
    rw [e, List.map_cons, List.sum_cons]
    omega
end Go.Proofs.Ytoebhddgpicegaa
namespace Go.Proofs.Ytoebhddgpicegaa
open Go.RowKit Go.Proofs.YtoebhddgpicegaaW.PrintWords Go.Proofs.YtoebhddgpicegaaW.PrintMore
open PReplayApart
section
variable {w W : World} {f : Nat → Nat} {B : Nat → Value × List Int} {L : Nat → Value × List S50}
theorem Rws.str (h : Rws w f W B L) {i : Nat} (hi : i < 5) {A : Option Addr} {n c : Nat} {l : List Int} (hB : B i = (.slice A n c, l)) : (convert 22 9 (.slice A n c)).run Try.prog W = .ok (.string (strOfNums l)) W := by
  obtain ⟨hn, _, hC⟩ := h.CB hi hB
  rw [hn]
  exact Kd.C_string (P := Try.prog) (A := A) (c := c) Try.underlying22 Try.underlying5 Try.underlying9 hC
theorem Rws.own (h : Rws w f W B L) {i : Nat} (hi : i < 5) {A : Option Addr} {n c : Nat} {l : List Int} (hB : B i = (.slice A n c, l)) (hn : n ≤ 140737488355328) :
    Calls Try.prog 10 #[.slice A n c] W fun e w' => ∃ A' c', e = .returned (.slice A' n c') ∧ Kd.R (Kd.int .u8) 5 w' 0 (Nw Nun W) (.slice A' n c') l ∧ Frm Nun W w' := by
  obtain ⟨rfl, hc, hC⟩ := h.CB hi hB
  refine (ownBytes_calls W A c l hC hc hn).mono ?_
  rintro e w' ⟨v, rfl, hr, hf⟩
  obtain ⟨A', c', rfl⟩ := Kd.R_slice hr
  exact ⟨A', c', rfl, hr, hf⟩
theorem Rws.dec (h : Rws w f W B L) {i : Nat} (hi : i < 5) {A : Option Addr} {n c m : Nat} {l : List Int} (hB : B i = (.slice A n c, l)) (hn : n ≤ 140737488355328) (hb : Byt l) {ls : List S50} (hd : decT l = (ls, 0)) (hm : m = ls.length) :
    Calls Try.prog 12 #[.slice A n c] W fun e w' => ∃ A' c', e = .returned (.tuple #[.slice A' m c', .int .i64 0]) ∧ Kd.S k50 50 w' 0 (Nw Nun W) (.slice A' m c') ls ∧ Frm Nun W w' := by
  obtain ⟨rfl, hc, hC⟩ := h.CB hi hB
  subst hm
  refine (decode_calls A c l hb hn W hC).mono ?_
  rintro e w' ⟨v, rfl, hr, hf⟩
  rw [hd] at hr ⊢
  obtain ⟨A', c', rfl⟩ := Kd.S_slice hr
  exact ⟨A', c', rfl, hr, hf⟩
theorem dec_of {S : Nat → Prop} {W : World} {A : Option Addr} {n c m : Nat} {l : List Int} (h : Kd.R (Kd.int .u8) 5 W 0 S (.slice A n c) l) (hn : n ≤ 140737488355328) (hb : Byt l) {ls : List S50} (hd : decT l = (ls, 0)) (hm : m = ls.length) :
    Calls Try.prog 12 #[.slice A n c] W fun e w' => ∃ A' c', e = .returned (.tuple #[.slice A' m c', .int .i64 0]) ∧ Kd.S k50 50 w' 0 (Nw Nun W) (.slice A' m c') ls ∧ Frm Nun W w' := by
  obtain ⟨rfl, hc, hC⟩ := Kd.R_reads' h
  subst hm
  refine (decode_calls A c l hb hn W hC).mono ?_
  rintro e w' ⟨v, rfl, hr, hf⟩
  rw [hd] at hr ⊢
  obtain ⟨A', c', rfl⟩ := Kd.S_slice hr
  exact ⟨A', c', rfl, hr, hf⟩
/-- The legs of a row are those that came. -/
theorem Rws.same (h : Rws w f W B L) {i : Nat} (hi : i < 4) {A A0 : Option Addr} {n c c0 : Nat} {l : List S50} (hL : L i = (.slice A n c, l)) (hr : Kd.C k50 w A0 l.length l) (hc : n ≤ c0) (hok : LegsOk l) :
    Calls Try.prog 14 #[.slice A n c, .slice A0 n c0] W fun e w' => e = .returned (.bool true) ∧ Frm Nun W w' := by
  obtain ⟨rfl, hc1, hC⟩ := h.CL hi hL
  exact sameLegs_self W A A0 c c0 l hC hc1 (Kd.C_below hr h.frm.below0) hc hok
theorem Rws.headB (h : Rws w f W B L) {i : Nat} (hi : i < 5) {A : Option Addr} {n c : Nat} {l : List Int} (hB : B i = (.slice A n c, l)) (hn : 0 < n) : ∃ g, A = some ⟨g, 0, none⟩ := by
  have hb := h.b i hi
  rw [hB] at hb
  cases A with
  | none => have h3 := Kd.R_reads' hb; obtain ⟨ad, e, _⟩ := h3.2.2.2.2 (by have := h3.1; omega); cases e
  | some ad => exact (Kd.R_head hb).imp (fun g e => by rw [e])
theorem Rws.headL (h : Rws w f W B L) {i : Nat} (hi : i < 4) {A : Option Addr} {n c : Nat} {l : List S50} (hL : L i = (.slice A n c, l)) (hn : 0 < n) : ∃ g, A = some ⟨g, 0, none⟩ := by
  have hb := Kd.S_R (h.l i hi)
  rw [hL] at hb
  cases A with
  | none => have h3 := Kd.R_reads' hb; obtain ⟨ad, e, _⟩ := h3.2.2.2.2 (by have := h3.1; omega); cases e
  | some ad => exact (Kd.R_head hb).imp (fun g e => by rw [e])
theorem Rws.cellB (h : Rws w f W B L) {i : Nat} (hi : i < 5) {g n c : Nat} {l : List Int} (hB : B i = (.slice (some ⟨g, 0, none⟩) n c, l)) (k : Nat) (hk : k < n) : W.cell? ⟨g, k, none⟩ = some (.int .u8 (l.getD k 0)) ∧ W.frozen? ⟨g, k, none⟩ = false := by
  have hb := h.b i hi
  rw [hB] at hb
  dsimp only at hb
  have hn := (Kd.R_reads' hb).1
  subst hn
  have := Kd.R_cell (enc := Value.int .u8) (h1 := fun _ => rfl) 0 hb (k : Int) (by omega) (by omega)
  rw [Int.toNat_natCast] at this
  exact this
theorem Rws.cellL (h : Rws w f W B L) {i : Nat} (hi : i < 4) {g n c : Nat} {l : List S50} (hL : L i = (.slice (some ⟨g, 0, none⟩) n c, l)) (k : Nat) (hk : k < n) : W.cell? ⟨g, k * 3 + 2, none⟩ = some (.int .u32 (l.getD k z50).f2) := by
  have hb := Kd.S_R (h.l i hi)
  rw [hL] at hb
  obtain ⟨cc, hcl, hM, hcc, hfr⟩ := Kd.R_elem hb z50 (k : Int) (by omega) (by omega)
  obtain ⟨v0, v1, rfl, _, _⟩ := k50_openM hM
  exact hcc 2 _ rfl
theorem Rws.app (h : Rws w f W B L) {i : Nat} (hi : i < 5) {v v1 : Value} {W1 : World} {l : List Int} {x : Int} (hB : B i = (v, l)) (ho : Kd.R (Kd.int .u8) 5 W1 0 (lab w f W i) v1 (l ++ [x])) (hg : W.grownBy W1 v.ownBlock) : ∃ f' A c, v1 = .slice A (l.length + 1) c ∧ Rws w f' W1 (put B i (v1, l ++ [x])) L := by
  have hb := h.inB hi
  rw [hB] at hb
  obtain ⟨f', h'⟩ := h.setB hi ho ((Frm.refl _ _).grown hg (fun k hk => .inl (hb.1 k hk)))
  obtain ⟨A, c, e⟩ := Kd.R_slice ho
  exact ⟨f', A, c, by rw [e, List.length_append]; rfl, h'⟩
theorem Rws.appL (h : Rws w f W B L) {i : Nat} (hi : i < 4) {v v1 : Value} {W1 : World} {l : List S50} {x : S50} (hL : L i = (v, l)) (ho : Kd.S k50 50 W1 0 (lab w f W (5 + i)) v1 (l ++ [x])) (hg : W.grownBy W1 v.ownBlock) : ∃ f' A c, v1 = .slice A (l.length + 1) c ∧ Rws w f' W1 B (put L i (v1, l ++ [x])) := by
  have hb := Kd.S_R (h.inL hi)
  rw [hL] at hb
  obtain ⟨f', h'⟩ := h.setL hi ho ((Frm.refl _ _).grown hg (fun k hk => .inl (hb.1 k hk)))
  obtain ⟨A, c, e⟩ := Kd.S_slice ho
  exact ⟨f', A, c, by rw [e, List.length_append]; rfl, h'⟩
/-- What scribbled makes of legs. -/
def scrd (mark : Int) (l : List S50) : List S50 := mapTo (scrB mark) l.length (mapTo (scrA mark) l.length l)
theorem scrd_len (mark : Int) (l : List S50) : (scrd mark l).length = l.length := by unfold scrd; rw [mapTo_len, mapTo_len]
theorem Rws.scr (h : Rws w f W B L) {i : Nat} (hi : i < 4) {A : Option Addr} {n c : Nat} {l : List S50} (hL : L i = (.slice A n c, l)) (hn : n ≤ 100000) (hl : ∀ x ∈ l, x.f0.length ≤ 65536 ∧ x.f1.length ≤ 65536) (mark : Int) (hm : -4 ≤ mark ∧ mark ≤ -1) :
    Calls Try.prog 21 #[.slice A n c, .int .i64 mark] W fun e w' => e = .returned (.tuple #[]) ∧ ∃ f', Rws w f' w' B (put L i (.slice A n c, scrd mark l)) := by
  have hb := h.inL hi
  rw [hL] at hb
  dsimp only at hb
  have hn2 := (Kd.S_reads' hb).1
  subst hn2
  refine (scr_calls W (lab w f W (5 + i)) A c l mark hb (lab_new h.frm.size (5 + i)) hn hl hm).mono ?_
  rintro e w' ⟨rfl, hS, hf⟩
  exact ⟨rfl, h.setL hi hS hf⟩
theorem Rws.bears (h : Rws w f W B L) {i : Nat} (hi : i < 4) {A : Option Addr} {n m c : Nat} {l l2 : List S50} (mark : Int) (hL : L i = (.slice A n c, scrd mark l ++ l2)) (hm : m = l.length) (hn : m ≤ 100000) (hl : ∀ x ∈ l, x.f0.length ≤ 65536 ∧ x.f1.length ≤ 65536) (hk : -4 ≤ mark ∧ mark ≤ -1) :
    Calls Try.prog 22 #[.slice A m c, .int .i64 mark] W fun e w' => e = .returned (.bool true) ∧ Frm Nun W w' := by
  obtain ⟨hn1, hc1, hC⟩ := h.CL hi hL
  have hC2 : Kd.C k50 W A ((scrd mark l ++ l2).take m).length ((scrd mark l ++ l2).take m) := Kd.C_take hC (by rw [List.length_append, scrd_len]; omega)
  have e : (scrd mark l ++ l2).take m = scrd mark l := by rw [hm, ← scrd_len mark l, List.take_left]
  rw [e] at hC2
  have hlm : (scrd mark l).length = m := by rw [scrd_len, hm]
  rw [List.length_append, scrd_len] at hn1
  have := bears_calls W A c (scrd mark l) mark hC2 (by omega) hk (by omega) (scrd_of mark l hl)
  rwa [hlm] at this
end
section
variable {P : Program} {ops : Array Oper} {rest : List Oper} {o : Oper} {a : Act} {Q : Exit → Act → World → Prop} {α : Type}
/-- append of one element that leads to nothing, onto a row whose elements lie apart. -/
theorem app_list_S (d : Kd α) {W Wa : World} (s x : Operand) (t e : TypeId) (z : Value) (bytes : Nat) (hgd : o.guard = none)
    (ho : o.op = .call { callee := .builtin .append, args := #[s, x], argTypes := #[t, t] })
    (ht : P.underlying t = some (.slice e)) (hinfo : (P.info? e).map (fun i => (i.zero, i.size, i.bytes)) = some (some z, d.sz, bytes)) (hz : z.cells.size = d.sz) (hs0 : 0 < d.sz) (hb0 : 0 < bytes)
    (v : Value) (xs : List α) (p : α) (cs : List Value) (ok : Nat → Prop) (hs : a.eval s = v) (hx : a.eval x = .slice (some ⟨W.heap.size, 0, none⟩) 1 1) (hWa : Wa = W.alloc (.cells cs.toArray e)) (hp : d.M W 0 (fun _ => False) p cs) (hfresh : ∀ k, W.heap.size ≤ k → ok k)
    (HO : Kd.S d e W 0 ok v xs) (hl : (xs.length + 1) * bytes ≤ 140737488355328)
    (h : ∀ v1 w1, Kd.S d e w1 0 ok v1 (xs ++ [p]) → W.grownBy w1 v.ownBlock → wpList P ops Q rest (a.put o.dst v1) w1) :
    wpList P ops Q (o :: rest) a Wa := by
  subst hWa
  exact Kd.S_append d (w0 := W) 0 hgd s x t e z bytes ho ht hinfo hz hs0 hb0 v xs p cs ok (fun _ => False) hs hx hp (fun _ h => h.elim) hfresh (Kd.S_mono HO (fun _ hk => ⟨hk, fun h => h⟩)) (Below.refl _ _) (Nat.zero_le _) hl (fun v1 w1 h1 _ h3 _ => h v1 w1 h1 h3)
end
end Go.Proofs.Ytoebhddgpicegaa
