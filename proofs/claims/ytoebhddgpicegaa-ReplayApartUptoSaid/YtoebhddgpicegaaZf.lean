/- Lemmas for this claim: PureB, PureC, PureD. -/
import Derived.Test.YtoebhddgpicegaaZe
namespace Go.Proofs.Ytoebhddgpicegaa
open Go.RowKit Go.Proofs.YtoebhddgpicegaaW.PrintWords
open PReplayApart
def Wr.left (x : Wr) : Int := x.limit - x.out.length
/-- From x to y, b is written behind, if it fits; else an error stands. -/
def Adds (x y : Wr) (b : List Int) : Prop := ((b.length : Int) ≤ x.left ∧ y = x.add b) ∨ (x.left < b.length ∧ y.err ≠ 0)
theorem add_left (x : Wr) (b : List Int) : (x.add b).left = x.left - b.length := by simp only [Wr.left, Wr.add, List.length_append]; omega
theorem add_add (x : Wr) (a b : List Int) : (x.add a).add b = x.add (a ++ b) := by simp [Wr.add]
theorem Adds.then_ {x y z : Wr} {a b : List Int} (h : Adds x y a) (k : y = x.add a → Adds y z b) (hb : y.err ≠ 0 → z.err ≠ 0) : Adds x z (a ++ b) := by
  rcases h with ⟨h1, h2⟩ | ⟨h1, h2⟩
  · rcases k h2 with ⟨k1, k2⟩ | ⟨k1, k2⟩
    · rw [h2, add_left] at k1
      exact .inl ⟨by rw [List.length_append]; omega, by rw [k2, h2, add_add]⟩
    · rw [h2, add_left] at k1
      exact .inr ⟨by rw [List.length_append]; omega, k2⟩
  · exact .inr ⟨by rw [List.length_append]; omega, hb h2⟩
theorem adds_put {x : Wr} (h : x.err = 0) (v : Int) (n : Nat) : Adds x (x.put v n) (le n v) := by
  by_cases hn : (n : Int) ≤ x.limit - x.out.length
  · exact .inl ⟨by rw [le_len]; exact hn, Wr.put_ok h v hn⟩
  · exact .inr ⟨by rw [le_len]; unfold Wr.left; omega, by rw [Wr.put_no h v (by omega)]; exact (by decide : (2 : Int) ≠ 0)⟩
theorem put_bad {x : Wr} (h : x.err ≠ 0) (v : Int) (n : Nat) : (x.put v n).err ≠ 0 := by rw [Wr.put_err h]; exact h
theorem picks_bad {x : Wr} (h : x.err ≠ 0) (l : List S80) : (x.picks l).err ≠ 0 := by
  induction l generalizing x with
  | nil => exact h
  | cons p l ih => exact ih (put_bad (put_bad h _ _) _ _)
theorem words_bad {x : Wr} (h : x.err ≠ 0) (l : List Int) : (x.words l).err ≠ 0 := by
  induction l generalizing x with
  | nil => exact h
  | cons p l ih => exact ih (put_bad h _ _)
theorem adds_picks {x : Wr} (h : x.err = 0) (h0 : 0 ≤ x.left) (l : List S80) : Adds x (x.picks l) (picksB l) := by
  induction l generalizing x with
  | nil => exact .inl ⟨by simpa [picksB] using h0, by simp [Wr.picks, picksB, Wr.add]⟩
  | cons p l ih =>
    have h1 : Adds x (x.put (u64 p.f0) 8) (le 8 p.f0) := by have := adds_put h (u64 p.f0) 8; rwa [le8_u64] at this
    have h2 : Adds x ((x.put (u64 p.f0) 8).put (u64 p.f1) 8) (pickB p) := h1.then_ (fun e => by
      have := adds_put (x := x.put (u64 p.f0) 8) (by rw [e]; exact h) (u64 p.f1) 8
      rwa [le8_u64] at this) (fun e => put_bad e _ _)
    rw [show picksB (p :: l) = pickB p ++ picksB l from rfl]
    refine h2.then_ (z := x.picks (p :: l)) (fun e => ih (by rw [e]; exact h) ?_) (fun e => picks_bad e l)
    rcases h2 with ⟨k1, _⟩ | ⟨_, k2⟩
    · rw [e, add_left]
      omega
    · exact absurd (by rw [e]; exact h) k2
theorem adds_words {x : Wr} (h : x.err = 0) (h0 : 0 ≤ x.left) (l : List Int) : Adds x (x.words l) (wordsB l) := by
  induction l generalizing x with
  | nil => exact .inl ⟨by simpa [wordsB] using h0, by simp [Wr.words, wordsB, Wr.add]⟩
  | cons p l ih =>
    have h2 := adds_put h p 4
    rw [show wordsB (p :: l) = le 4 p ++ wordsB l from rfl]
    refine h2.then_ (z := x.words (p :: l)) (fun e => ih (by rw [e]; exact h) ?_) (fun e => words_bad e l)
    rcases h2 with ⟨k1, _⟩ | ⟨_, k2⟩
    · rw [e, add_left]
      omega
    · exact absurd (by rw [e]; exact h) k2
theorem seal_bad {x : Wr} (h : x.err ≠ 0) : x.seal.err ≠ 0 := by rw [Wr.seal_err h]; exact h
theorem open_bad {x : Wr} (h : x.err ≠ 0) : x.open_.err ≠ 0 := by rw [Wr.open_err h]; exact h
/-- What is written between open_ and seal gets its sum behind it. -/
theorem adds_sealed {x y : Wr} {b : List Int} (h : x.err = 0) (ho : x.opn = []) (hy : Adds x.open_ y b) : Adds x y.seal (withSum b) := by
  have e1 : x.open_ = { x with opn := [(x.out.length : Int)] } := by rw [Wr.open_ok h (by rw [ho]; decide), ho]; rfl
  rw [e1] at hy
  rcases hy with ⟨h1, h2⟩ | ⟨h1, h2⟩
  · have h1' : (b.length : Int) ≤ x.left := h1
    have z1 : y.err = 0 := by rw [h2]; exact h
    have z2 : y.opn = [(x.out.length : Int)] := by rw [h2]; rfl
    have z3 : y.out = x.out ++ b := by rw [h2]; rfl
    have z4 : y.limit = x.limit := by rw [h2]; rfl
    by_cases hr : 4 ≤ x.left - b.length
    · refine .inl ⟨by rw [withSum_len]; omega, ?_⟩
      have hroom : y.hasRoom 4 = true := by
        unfold Wr.left at hr
        simp only [Wr.hasRoom, z1, z3, z4, List.length_append]
        simp
        omega
      rw [Wr.seal, if_neg (by rw [z1]; decide), if_neg (by rw [z2]; simp), if_pos hroom, Wr.put_ok z1 _ (n := 4) (by rw [z3, z4, List.length_append]; unfold Wr.left at hr; omega), z2]
      have hd : y.out.drop ((([(x.out.length : Int)] : List Int).getD (([(x.out.length : Int)] : List Int).length - 1) 0).toNat) = b := by
        rw [z3]
        simp
      rw [hd]
      simp only [Wr.add, z3, z4, z1, withSum]
      cases x
      simp only at h ho
      subst h ho
      simp
    · refine .inr ⟨by rw [withSum_len]; omega, ?_⟩
      have hroom : ¬ y.hasRoom 4 = true := by
        unfold Wr.left at hr
        simp only [Wr.hasRoom, z1, z3, z4, List.length_append]
        simp
        omega
      rw [Wr.seal, if_neg (by rw [z1]; decide), if_neg (by rw [z2]; simp), if_neg hroom, Wr.room, if_pos ⟨z1, by rw [z3, z4, List.length_append]; unfold Wr.left at hr; omega⟩]
      exact (by decide : (2 : Int) ≠ 0)
  · have h1' : x.left < b.length := h1
    exact .inr ⟨by rw [withSum_len]; omega, seal_bad h2⟩
theorem adds_leg {x : Wr} (h : x.err = 0) (ho : x.opn = []) (l : S50) : Adds x (x.leg l) (legB l) := by
  have e1 : x.open_ = { x with opn := [(x.out.length : Int)] } := by rw [Wr.open_ok h (by rw [ho]; decide), ho]; rfl
  have o1 : x.open_.err = 0 := by rw [e1]; exact h
  have s1 : Adds x.open_ (((((x.open_).put 1279413569 4).put ((l.f0.length : Int) % 4294967296) 4).put ((l.f1.length : Int) % 4294967296) 4).put l.f2 4) (headB l) := by
    have a1 := adds_put o1 1279413569 4
    rw [show le 4 1279413569 = [65, 77, 66, 76] by decide] at a1
    have a2 := a1.then_ (fun e => adds_put (by rw [e]; exact o1) ((l.f0.length : Int) % 4294967296) 4) (fun e => put_bad e _ _)
    have a3 := a2.then_ (fun e => adds_put (by rw [e]; exact o1) ((l.f1.length : Int) % 4294967296) 4) (fun e => put_bad e _ _)
    have a4 := a3.then_ (fun e => adds_put (by rw [e]; exact o1) l.f2 4) (fun e => put_bad e _ _)
    rw [show le 4 ((l.f0.length : Int) % 4294967296) = le 4 l.f0.length from le_mod 4 _, show le 4 ((l.f1.length : Int) % 4294967296) = le 4 l.f1.length from le_mod 4 _] at a4
    exact a4
  have s2 : Adds x (x.head l) (withSum (headB l)) := adds_sealed h ho s1
  refine s2.then_ (z := x.leg l) (fun e => ?_) (fun e => seal_bad (words_bad (picks_bad (open_bad e) _) _))
  have y0 : (x.head l).err = 0 := by rw [e]; exact h
  have y1 : (x.head l).opn = [] := by rw [e]; exact ho
  have y2 : 0 ≤ (x.head l).left := by
    rcases s2 with ⟨k1, _⟩ | ⟨_, k2⟩
    · rw [e, add_left]; omega
    · exact absurd y0 k2
  have e2 : (x.head l).open_ = { (x.head l) with opn := [((x.head l).out.length : Int)] } := by rw [Wr.open_ok y0 (by rw [y1]; decide), y1]; rfl
  have o2 : (x.head l).open_.err = 0 := by rw [e2]; exact y0
  have o3 : 0 ≤ (x.head l).open_.left := by rw [e2]; exact y2
  have p1 := adds_picks o2 o3 l.f0
  have p2 : Adds (x.head l).open_ (((x.head l).open_.picks l.f0).words l.f1) (bodyB l) := p1.then_ (fun e => adds_words (by rw [e]; exact o2) (by
    rcases p1 with ⟨k1, _⟩ | ⟨_, k2⟩
    · rw [e, add_left]; omega
    · exact absurd (by rw [e]; exact o2) k2) l.f1) (fun e => words_bad e _)
  exact adds_sealed y0 y1 p2
theorem leg_bad {x : Wr} (h : x.err ≠ 0) (l : S50) : (x.leg l).err ≠ 0 :=
  seal_bad (words_bad (picks_bad (open_bad (seal_bad (put_bad (put_bad (put_bad (put_bad (open_bad h) _ _) _ _) _ _) _ _))) _) _)
theorem legs_bad {x : Wr} (h : x.err ≠ 0) (legs : List S50) : (legs.foldl Wr.leg x).err ≠ 0 := by
  induction legs generalizing x with
  | nil => exact h
  | cons l legs ih => exact ih (leg_bad h l)
theorem adds_legs {x : Wr} (h : x.err = 0) (ho : x.opn = []) (h0 : 0 ≤ x.left) (legs : List S50) : Adds x (legs.foldl Wr.leg x) (legsB legs) := by
  induction legs generalizing x with
  | nil => exact .inl ⟨by simpa [legsB] using h0, by simp [legsB, Wr.add]⟩
  | cons l legs ih =>
    have h2 := adds_leg h ho l
    rw [show legsB (l :: legs) = legB l ++ legsB legs from rfl]
    refine h2.then_ (z := (l :: legs).foldl Wr.leg x) (fun e => ih (by rw [e]; exact h) (by rw [e]; exact ho) ?_) (fun e => legs_bad e legs)
    rcases h2 with ⟨k1, _⟩ | ⟨_, k2⟩
    · rw [e, add_left]; omega
    · exact absurd (by rw [e]; exact h) k2
theorem enc_eq (legs : List S50) : encT legs = rencT legs := by
  have h := adds_legs (x := newW 65536) rfl rfl (by decide) legs
  have hl := legsB_len legs
  have e0 : (newW 65536).left = 65536 := by decide
  rw [Adds, e0] at h
  unfold encT rencT
  rcases h with ⟨h1, h2⟩ | ⟨h1, h2⟩
  · have ht : (encW legs).told = (legsB legs, 0) := by rw [encW, h2]; rfl
    rw [ht, if_neg (by simp), if_neg (by omega)]
  · have ht : (encW legs).told.2 ≠ 0 := by rw [Wr.told, encW, if_pos h2]; exact h2
    rw [if_pos ht, if_pos (by omega)]
end Go.Proofs.Ytoebhddgpicegaa
namespace Go.Proofs.Ytoebhddgpicegaa
open Go.RowKit Go.Proofs.YtoebhddgpicegaaW.PrintWords
open PReplayApart
theorem le_fle (x : List Int) (h : Byt x) : le x.length (fle x) = x := by
  induction x with
  | nil => rfl
  | cons b x ih =>
    have hb := h b (List.mem_cons_self ..)
    have e : fle (b :: x) = b + 256 * fle x := rfl
    rw [List.length_cons, le, e]
    have h1 : (b + 256 * fle x) % 256 = b := by omega
    have h2 : (b + 256 * fle x) / 256 = fle x := by omega
    rw [h1, h2, ih (fun y hy => h y (List.mem_cons_of_mem _ hy))]
theorem fle_le (n : Nat) : ∀ v : Int, fle (le n v) = v % 256 ^ n := by
  induction n with
  | zero => intro v; simp [le, fle, Int.emod_one]
  | succ n ih =>
    intro v
    have e : fle (le (n + 1) v) = v % 256 + 256 * fle (le n (v / 256)) := rfl
    rw [e, ih]
    have h := le_mod (n + 1) v
    have hp : (0 : Int) < 256 ^ n := Int.pow_pos (by omega)
    have h3 := Int.emod_add_mul_ediv v 256
    have h4 := Int.emod_add_mul_ediv (v / 256) (256 ^ n)
    have h5 : v = (v % 256 + 256 * ((v / 256) % 256 ^ n)) + 256 ^ (n + 1) * (v / 256 / 256 ^ n) := by
      rw [Int.pow_succ, Int.mul_comm (256 ^ n) 256, Int.mul_assoc, Int.add_assoc, ← Int.mul_add, h4, h3]
    have r0 : 0 ≤ (v / 256) % 256 ^ n := Int.emod_nonneg _ (by omega)
    have r1 : (v / 256) % 256 ^ n < 256 ^ n := Int.emod_lt_of_pos _ hp
    conv => rhs; rw [h5]
    rw [Int.add_mul_emod_self_left]
    refine (Int.emod_eq_of_lt (by omega) ?_).symm
    rw [Int.pow_succ]
    omega
theorem s64_le8 {v : Int} (h : -9223372036854775808 ≤ v ∧ v < 9223372036854775808) : s64 (fle (le 8 v)) = v := by
  rw [fle_le]
  unfold s64 wrap64
  omega
theorem le8_s64 (v : Int) : le 8 (s64 v) = le 8 v := by
  rw [← le_mod 8 (s64 v), ← le_mod 8 v]
  congr 1
  unfold s64 wrap64
  omega
theorem fle4 {v : Int} (h : 0 ≤ v ∧ v < 4294967296) : fle (le 4 v) = v := by rw [fle_le]; omega
theorem fle_take {b : List Int} (h : Byt b) {o n : Nat} (hl : o + n ≤ b.length) : le n (fle ((b.drop o).take n)) = (b.drop o).take n := by
  have := le_fle ((b.drop o).take n) ((h.drop o).take n)
  rwa [List.length_take, List.length_drop, show min n (b.length - o) = n by omega] at this
theorem wordAt_range {b : List Int} (h : Byt b) (o : Nat) : 0 ≤ wordAt b o ∧ wordAt b o < 4294967296 := by
  have h1 := fle_range ((h.drop o).take 4)
  have h2 := pow_mono (m := ((b.drop o).take 4).length) (n := 4) (by rw [List.length_take]; omega)
  unfold wordAt
  omega
/-- The leg whose bytes begin b. -/
def legAt (b : List Int) : Option S50 :=
  if 24 ≤ b.length ∧ wordAt b 16 = vn (crc (b.take 16)) ∧ b.take 4 = [65, 77, 66, 76] ∧ 24 + (16 * wordAt b 4 + 4 * wordAt b 8).toNat ≤ b.length ∧
      wordAt b (20 + (16 * wordAt b 4 + 4 * wordAt b 8).toNat) = vn (crc ((b.drop 20).take (16 * wordAt b 4 + 4 * wordAt b 8).toNat)) then
    some ⟨picksOf (b.drop 20) (wordAt b 4).toNat, wordsOf (b.drop 20) (wordAt b 4).toNat (wordAt b 8).toNat, wordAt b 12⟩
  else none
/-- What every leg that is read is. -/
structure LegRd (l : S50) : Prop where
  pk : ∀ p ∈ l.f0, (-9223372036854775808 ≤ p.f0 ∧ p.f0 < 9223372036854775808) ∧ (-9223372036854775808 ≤ p.f1 ∧ p.f1 < 9223372036854775808)
  sum : 0 ≤ l.f2 ∧ l.f2 < 4294967296
  ans : ∀ a ∈ l.f1, 0 ≤ a ∧ a < 4294967296
  n0 : l.f0.length < 4294967296
  n1 : l.f1.length < 4294967296
theorem picksOf_len (b : List Int) (p : Nat) : (picksOf b p).length = p := by simp [picksOf]
theorem wordsOf_len (b : List Int) (p a : Nat) : (wordsOf b p a).length = a := by simp [wordsOf]
theorem take_add' {α : Type} (l : List α) (m n : Nat) : l.take (m + n) = l.take m ++ (l.drop m).take n := List.take_add
theorem picksB_of {b : List Int} (h : Byt b) : ∀ p : Nat, 16 * p ≤ b.length → picksB (picksOf b p) = b.take (16 * p) := by
  intro p
  induction p with
  | zero => intro _; simp [picksOf, picksB]
  | succ p ih =>
    intro hl
    have e1 : pickB (pickAt b p) = (b.drop (16 * p)).take 16 := by
      simp only [pickB, pickAt, le8_s64]
      rw [fle_take h (by omega), fle_take h (by omega), show (16 : Nat) = 8 + 8 from rfl, take_add' (b.drop _) 8 8, List.drop_drop]
    rw [picks_snoc, picksB_snoc, ih (by omega), e1, ← take_add', Nat.mul_succ]
theorem wordsB_of {b : List Int} (h : Byt b) (p : Nat) : ∀ a : Nat, 16 * p + 4 * a ≤ b.length → wordsB (wordsOf b p a) = (b.drop (16 * p)).take (4 * a) := by
  intro a
  induction a with
  | zero => intro _; simp [wordsOf, wordsB]
  | succ a ih =>
    intro hl
    have e1 : le 4 (wordAt b (16 * p + 4 * a)) = ((b.drop (16 * p)).drop (4 * a)).take 4 := by
      unfold wordAt
      rw [fle_take h (by omega), List.drop_drop]
    rw [words_snoc, wordsB_snoc, ih (by omega), e1, ← take_add', Nat.mul_succ]
theorem bodyB_of {b : List Int} (h : Byt b) {p a : Nat} (hl : 16 * p + 4 * a ≤ b.length) (s : Int) : bodyB ⟨picksOf b p, wordsOf b p a, s⟩ = b.take (16 * p + 4 * a) := by
  show picksB (picksOf b p) ++ wordsB (wordsOf b p a) = _
  rw [picksB_of h p (by omega), wordsB_of h p a hl, ← take_add']
theorem word_le {b : List Int} (h : Byt b) {o : Nat} (hl : o + 4 ≤ b.length) : le 4 (wordAt b o) = (b.drop o).take 4 := fle_take h hl
/-- What is read is just what is written. -/
theorem legAt_back {b : List Int} (h : Byt b) {l : S50} (he : legAt b = some l) : LegRd l ∧ sizeL l ≤ b.length ∧ b.take (legB l).length = legB l := by
  unfold legAt at he
  split at he
  case isFalse => cases he
  case isTrue hc =>
    obtain ⟨c1, c2, c3, c4, c5⟩ := hc
    obtain rfl := Option.some.inj he
    have w4 := wordAt_range h 4
    have w8 := wordAt_range h 8
    have w12 := wordAt_range h 12
    obtain ⟨p, hp⟩ : ∃ p, p = (wordAt b 4).toNat := ⟨_, rfl⟩
    obtain ⟨a, ha⟩ : ∃ a, a = (wordAt b 8).toNat := ⟨_, rfl⟩
    have hn : (16 * wordAt b 4 + 4 * wordAt b 8).toNat = 16 * p + 4 * a := by omega
    have hp4 : wordAt b 4 = (p : Int) := by omega
    have ha8 : wordAt b 8 = (a : Int) := by omega
    rw [hn] at c4 c5
    rw [← hp, ← ha]
    have hd20 : Byt (b.drop 20) := h.drop 20
    have hbl : 16 * p + 4 * a ≤ (b.drop 20).length := by rw [List.length_drop]; omega
    have hhead : headB ⟨picksOf (b.drop 20) p, wordsOf (b.drop 20) p a, wordAt b 12⟩ = b.take 16 := by
      show [65, 77, 66, 76] ++ le 4 ((picksOf (b.drop 20) p).length : Int) ++ le 4 ((wordsOf (b.drop 20) p a).length : Int) ++ le 4 (wordAt b 12) = _
      rw [picksOf_len, wordsOf_len, ← hp4, ← ha8, word_le h (by omega), word_le h (by omega), word_le h (by omega), ← c3, ← take_add', ← take_add', ← take_add']
    have hbody := bodyB_of hd20 hbl (wordAt b 12)
    have hleg : legB ⟨picksOf (b.drop 20) p, wordsOf (b.drop 20) p a, wordAt b 12⟩ = b.take (24 + (16 * p + 4 * a)) := by
      rw [legB, withSum, withSum, hhead, hbody, ← c2, word_le h (by omega), ← c5, word_le h (by omega), ← take_add' b 16 4]
      rw [show 24 + (16 * p + 4 * a) = 20 + ((16 * p + 4 * a) + 4) by omega, take_add' b 20 _, take_add' (b.drop 20) (16 * p + 4 * a) 4, List.drop_drop]
    have hlen : ((legB ⟨picksOf (b.drop 20) p, wordsOf (b.drop 20) p a, wordAt b 12⟩).length : Int) = 24 + (16 * p + 4 * a : Nat) := by
      rw [hleg, List.length_take]; omega
    refine ⟨⟨?_, w12, ?_, by show (picksOf _ _).length < _; rw [picksOf_len]; omega, by show (wordsOf _ _ _).length < _; rw [wordsOf_len]; omega⟩, ?_, ?_⟩
    · intro q hq
      obtain ⟨i, _, rfl⟩ := List.mem_map.1 hq
      unfold pickAt s64 wrap64
      simp only
      omega
    · intro q hq
      obtain ⟨i, _, rfl⟩ := List.mem_map.1 hq
      exact wordAt_range hd20 _
    · rw [← legB_len, hlen]; omega
    · have : (legB ⟨picksOf (b.drop 20) p, wordsOf (b.drop 20) p a, wordAt b 12⟩).length = 24 + (16 * p + 4 * a) := by omega
      rw [this, hleg]
theorem wordAt_app {x y z : List Int} {o : Nat} (hx : x.length = o) {v : Int} (hy : y = le 4 v) (hv : 0 ≤ v ∧ v < 4294967296) : wordAt (x ++ (y ++ z)) o = v := by
  unfold wordAt
  rw [List.drop_append_of_le_length (by omega), List.drop_of_length_le (by omega), List.nil_append, List.take_append_of_le_length (by rw [hy, le_len]; omega), List.take_of_length_le (by rw [hy, le_len]; omega), hy, fle4 hv]
theorem le8_inj {v u : Int} (hv : -9223372036854775808 ≤ v ∧ v < 9223372036854775808) (hu : -9223372036854775808 ≤ u ∧ u < 9223372036854775808) (h : le 8 v = le 8 u) : v = u := by
  rw [← s64_le8 hv, ← s64_le8 hu, h]
theorem picksOf_B (ps : List S80) (h : ∀ p ∈ ps, (-9223372036854775808 ≤ p.f0 ∧ p.f0 < 9223372036854775808) ∧ (-9223372036854775808 ≤ p.f1 ∧ p.f1 < 9223372036854775808)) (y : List Int) : ∀ x : List Int, (∃ k : Nat, x.length = 16 * k ∧ (List.range ps.length).map (fun i => pickAt (x ++ (picksB ps ++ y)) (k + i)) = ps) ∨ ¬ ∃ k : Nat, x.length = 16 * k := by
  induction ps with
  | nil => intro x; by_cases hk : ∃ k : Nat, x.length = 16 * k
           · obtain ⟨k, hk⟩ := hk; exact .inl ⟨k, hk, rfl⟩
           · exact .inr hk
  | cons p ps ih =>
    intro x
    by_cases hk : ∃ k : Nat, x.length = 16 * k
    · obtain ⟨k, hk⟩ := hk
      have hp := h p (List.mem_cons_self ..)
      rcases ih (fun q hq => h q (List.mem_cons_of_mem _ hq)) (x ++ pickB p) with ⟨k', hk', h'⟩ | hno
      · refine .inl ⟨k, hk, ?_⟩
        have hlp : (pickB p).length = 16 := by simp [pickB, le_len]
        obtain rfl : k' = k + 1 := by rw [List.length_append, hlp, hk] at hk'; omega
        have hb : x ++ (picksB (p :: ps) ++ y) = (x ++ pickB p) ++ (picksB ps ++ y) := by simp [picksB]
        rw [hb, List.length_cons, List.range_succ_eq_map, List.map_cons, List.map_map]
        congr 1
        · rw [← hb]
          have e0 : (x ++ (picksB (p :: ps) ++ y)).drop (16 * (k + 0)) = le 8 p.f0 ++ (le 8 p.f1 ++ (picksB ps ++ y)) := by
            rw [List.drop_append_of_le_length (by omega), List.drop_of_length_le (by omega)]
            simp [picksB, pickB]
          have e1 : (x ++ (picksB (p :: ps) ++ y)).drop (16 * (k + 0) + 8) = le 8 p.f1 ++ (picksB ps ++ y) := by
            rw [← List.drop_drop, e0, List.drop_append_of_le_length (by rw [le_len]; omega), List.drop_of_length_le (by rw [le_len]; omega), List.nil_append]
          unfold pickAt
          rw [e0, e1, List.take_append_of_le_length (by rw [le_len]; omega), List.take_append_of_le_length (by rw [le_len]; omega), List.take_of_length_le (by rw [le_len]; omega), List.take_of_length_le (by rw [le_len]; omega), s64_le8 hp.1, s64_le8 hp.2]
        · refine Eq.trans (List.map_congr_left fun i _ => ?_) h'
          show pickAt _ (k + (i + 1)) = pickAt _ (k + 1 + i)
          congr 1
          omega
      · exact absurd ⟨k + 1, by rw [List.length_append, hk]; simp [pickB, le_len]; omega⟩ hno
    · exact .inr hk
theorem picksOf_body (ps : List S80) (h : ∀ p ∈ ps, (-9223372036854775808 ≤ p.f0 ∧ p.f0 < 9223372036854775808) ∧ (-9223372036854775808 ≤ p.f1 ∧ p.f1 < 9223372036854775808)) (y : List Int) : picksOf (picksB ps ++ y) ps.length = ps := by
  rcases picksOf_B ps h y [] with ⟨k, hk, he⟩ | hno
  · obtain rfl : k = 0 := by simp at hk; omega
    simpa [picksOf] using he
  · exact absurd ⟨0, rfl⟩ hno
theorem wordsOf_body (ws : List Int) (h : ∀ p ∈ ws, 0 ≤ p ∧ p < 4294967296) (y : List Int) : ∀ (x : List Int) (p : Nat), x.length = 16 * p → ∀ (u : List Int) (k : Nat), u.length = 4 * k → (List.range ws.length).map (fun j => wordAt (x ++ (u ++ (wordsB ws ++ y))) (16 * p + 4 * (k + j))) = ws := by
  intro x p hx
  induction ws with
  | nil => intro u k _; rfl
  | cons w ws ih =>
    intro u k hu
    have hw := h w (List.mem_cons_self ..)
    have hb : x ++ (u ++ (wordsB (w :: ws) ++ y)) = x ++ ((u ++ le 4 w) ++ (wordsB ws ++ y)) := by simp [wordsB]
    rw [List.length_cons, List.range_succ_eq_map, List.map_cons, List.map_map]
    congr 1
    · have : x ++ (u ++ (wordsB (w :: ws) ++ y)) = (x ++ u) ++ (le 4 w ++ (wordsB ws ++ y)) := by simp [wordsB]
      rw [this, wordAt_app (x := x ++ u) (y := le 4 w) (by rw [List.length_append, hx, hu]; omega) rfl hw]
    · refine Eq.trans ?_ (ih (fun q hq => h q (List.mem_cons_of_mem _ hq)) (u ++ le 4 w) (k + 1) (by rw [List.length_append, le_len, hu]; omega))
      rw [← hb]
      refine List.map_congr_left fun i _ => ?_
      show wordAt _ (16 * p + 4 * (k + (i + 1))) = wordAt _ (16 * p + 4 * (k + 1 + i))
      congr 1
      omega
end Go.Proofs.Ytoebhddgpicegaa
namespace Go.Proofs.Ytoebhddgpicegaa
open Go.RowKit Go.Proofs.YtoebhddgpicegaaW.PrintWords
open PReplayApart
theorem vn_rng (v : BitVec 32) : 0 ≤ vn v ∧ vn v < 4294967296 := vn_range v
theorem legB_split (l : S50) (y : List Int) : legB l ++ y = headB l ++ (le 4 (vn (crc (headB l))) ++ (bodyB l ++ (le 4 (vn (crc (bodyB l))) ++ y))) := by
  simp [legB, withSum]
theorem legAt_leg (l : S50) (h : LegRd l) (y : List Int) : legAt (legB l ++ y) = some l := by
  have hH := headB_len l
  have hB := bodyB_len l
  obtain ⟨b, hb⟩ : ∃ b, b = legB l ++ y := ⟨_, rfl⟩
  have e0 := legB_split l y
  rw [← hb] at e0 ⊢
  have d16 : b.take 16 = headB l := by rw [e0, List.take_append_of_le_length (by omega), List.take_of_length_le (by omega)]
  have w16 : wordAt b 16 = vn (crc (headB l)) := by rw [e0]; exact wordAt_app hH rfl (vn_rng _)
  have e1 : headB l = [65, 77, 66, 76] ++ (le 4 l.f0.length ++ (le 4 l.f1.length ++ le 4 l.f2)) := by simp [headB]
  have t4 : b.take 4 = [65, 77, 66, 76] := by rw [e0, e1]; simp
  have w4 : wordAt b 4 = (l.f0.length : Int) := by
    rw [e0, e1, List.append_assoc, List.append_assoc]
    exact wordAt_app rfl rfl (by have := h.n0; omega)
  have w8 : wordAt b 8 = (l.f1.length : Int) := by
    rw [e0, e1, List.append_assoc, List.append_assoc, List.append_assoc, ← List.append_assoc [65, 77, 66, 76]]
    exact wordAt_app (by simp [le_len]) rfl (by have := h.n1; omega)
  have w12 : wordAt b 12 = l.f2 := by
    rw [e0, e1, List.append_assoc, List.append_assoc, List.append_assoc, ← List.append_assoc [65, 77, 66, 76], ← List.append_assoc ([65, 77, 66, 76] ++ _)]
    exact wordAt_app (by simp [le_len]) rfl h.sum
  have d20 : b.drop 20 = bodyB l ++ (le 4 (vn (crc (bodyB l))) ++ y) := by
    rw [e0, ← List.append_assoc, List.drop_append_of_le_length (by rw [List.length_append, le_len]; omega), List.drop_of_length_le (by rw [List.length_append, le_len]; omega), List.nil_append]
  have hn : (16 * wordAt b 4 + 4 * wordAt b 8).toNat = 16 * l.f0.length + 4 * l.f1.length := by rw [w4, w8]; omega
  have w20 : wordAt b (20 + (16 * l.f0.length + 4 * l.f1.length)) = vn (crc (bodyB l)) := by
    rw [e0, ← List.append_assoc, ← List.append_assoc]
    exact wordAt_app (by rw [List.length_append, List.length_append, le_len, hH, hB]) rfl (vn_rng _)
  have tN : (b.drop 20).take (16 * l.f0.length + 4 * l.f1.length) = bodyB l := by rw [d20, List.take_append_of_le_length (by omega), List.take_of_length_le (by omega)]
  have hlen : 24 + (16 * l.f0.length + 4 * l.f1.length) ≤ b.length := by
    rw [hb, List.length_append]
    have := legB_len l
    unfold sizeL at this
    omega
  unfold legAt
  rw [hn, if_pos ⟨by omega, by rw [w16, d16], t4, hlen, by rw [w20, tN]⟩, w4, w8, w12]
  have p1 : picksOf (b.drop 20) ((l.f0.length : Int)).toNat = l.f0 := by
    rw [d20, Int.toNat_natCast]
    show picksOf (picksB l.f0 ++ wordsB l.f1 ++ _) _ = _
    rw [List.append_assoc]
    exact picksOf_body l.f0 h.pk _
  have p2 : wordsOf (b.drop 20) ((l.f0.length : Int)).toNat ((l.f1.length : Int)).toNat = l.f1 := by
    rw [d20, Int.toNat_natCast, Int.toNat_natCast]
    show wordsOf (picksB l.f0 ++ wordsB l.f1 ++ _) _ _ = _
    have := wordsOf_body l.f1 h.ans (le 4 (vn (crc (bodyB l))) ++ y) (picksB l.f0) l.f0.length (picksB_len _) [] 0 rfl
    rw [List.nil_append] at this
    rw [List.append_assoc]
    simpa [wordsOf] using this
  rw [p1, p2]
/-- All legs of b. -/
def pGo : Nat → List Int → Option (List S50)
  | 0, _ => none
  | n + 1, b => if b.length = 0 then some [] else match legAt b with
    | some l => (pGo n (b.drop (legB l).length)).map (l :: ·)
    | none => none
theorem pGo_back : ∀ (n : Nat) (b : List Int), Byt b → ∀ ls, pGo n b = some ls → b = legsB ls ∧ ∀ l ∈ ls, LegRd l := by
  intro n
  induction n with
  | zero => intro b _ ls h; cases h
  | succ n ih =>
    intro b hb ls h
    rw [pGo] at h
    split at h
    · rename_i h0
      obtain rfl := Option.some.inj h
      exact ⟨List.eq_nil_of_length_eq_zero h0, fun l hl => by cases hl⟩
    · split at h
      · rename_i l hl
        obtain ⟨ms, hm, rfl⟩ := Option.map_eq_some_iff.1 h
        obtain ⟨h1, h2, h3⟩ := legAt_back hb hl
        obtain ⟨h4, h5⟩ := ih _ (hb.drop _) ms hm
        refine ⟨?_, fun x hx => ?_⟩
        · show b = legB l ++ legsB ms
          rw [← h4]
          conv => rhs; rw [← h3]
          have := List.take_append_drop (legB l).length b
          rw [h3] at this ⊢
          exact this.symm
        · rcases List.mem_cons.1 hx with rfl | hx
          · exact h1
          · exact h5 x hx
      · cases h
theorem pGo_leg : ∀ (n : Nat) (ls : List S50), (∀ l ∈ ls, LegRd l) → (legsB ls).length < n → pGo n (legsB ls) = some ls := by
  intro n
  induction n with
  | zero => intro ls _ h; omega
  | succ n ih =>
    intro ls hr hn
    cases ls with
    | nil => rfl
    | cons l ls =>
      have e : legsB (l :: ls) = legB l ++ legsB ls := rfl
      have hl := legB_len l
      have h24 := sizeL_pos l
      rw [e] at hn ⊢
      rw [List.length_append] at hn
      rw [pGo, if_neg (by rw [List.length_append]; omega), legAt_leg l (hr l (List.mem_cons_self ..))]
      simp only
      rw [List.drop_append_of_le_length (Nat.le_refl _), List.drop_of_length_le (Nat.le_refl _), List.nil_append, ih ls (fun x hx => hr x (List.mem_cons_of_mem _ hx)) (by omega)]
      rfl
theorem hdw_at {h : List Int} (hl : h.length = 16) : ∀ i : Nat, i < 4 → (Rd.mk h 0 0).sk i = ⟨h, ((4 * i : Nat) : Int), 0⟩ ∧ hdw h i = wordAt h (4 * i) := by
  intro i
  induction i with
  | zero =>
    intro _
    exact ⟨rfl, (rd_at h 0 4 (by omega)).1⟩
  | succ i ih =>
    intro hi
    have h1 := (ih (by omega)).1
    have h2 : (Rd.mk h 0 0).sk (i + 1) = ⟨h, ((4 * (i + 1) : Nat) : Int), 0⟩ := by
      show ((Rd.mk h 0 0).sk i).skip 4 = _
      rw [h1]
      have := (rd_at h (4 * i) 4 (by omega)).2
      rw [Nat.mul_succ]
      exact this
    refine ⟨h2, ?_⟩
    show ((Rd.mk h 0 0).sk (i + 1)).num 4 = _
    rw [h2]
    exact (rd_at h (4 * (i + 1)) 4 (by omega)).1
theorem wordAt_take {b : List Int} {o n : Nat} (h : o + 4 ≤ n) : wordAt (b.take n) o = wordAt b o := by
  unfold wordAt
  rw [List.drop_take, List.take_take, Nat.min_eq_left (by omega)]
theorem picksOf_take {x : List Int} {p n : Nat} (h : 16 * p ≤ n) : picksOf (x.take n) p = picksOf x p := by
  refine List.map_congr_left fun i hi => ?_
  have : i < p := List.mem_range.1 hi
  unfold pickAt
  rw [List.drop_take, List.take_take, Nat.min_eq_left (by omega), List.drop_take, List.take_take, Nat.min_eq_left (by omega)]
theorem wordsOf_take {x : List Int} {p a n : Nat} (h : 16 * p + 4 * a ≤ n) : wordsOf (x.take n) p a = wordsOf x p a := by
  refine List.map_congr_left fun i hi => ?_
  have : i < a := List.mem_range.1 hi
  exact wordAt_take (by omega)
theorem magic_iff {b : List Int} (hb : Byt b) (hl : 4 ≤ b.length) : wordAt b 0 = 1279413569 ↔ b.take 4 = [65, 77, 66, 76] := by
  have h := word_le hb (o := 0) (by omega)
  rw [List.drop_zero] at h
  constructor
  · intro e
    rw [← h, e]
    decide
  · intro e
    unfold wordAt
    rw [List.drop_zero, e]
    decide
theorem num_at {r : Rd} {k n : Nat} (h0 : r.err = 0) (hl : (k : Int) + n ≤ r.left) (hp : 0 ≤ r.pos) : (r.at_ k).num n = fle (((r.inp.drop r.pos.toNat).drop k).take n) := by
  have hc : (r.at_ k).can n = true := by
    simp only [Rd.can, Bool.and_eq_true, beq_iff_eq, decide_eq_true_eq]
    exact ⟨h0, by omega, by unfold Rd.left at hl ⊢; show (n : Int) ≤ r.inp.length - (r.pos + k); omega⟩
  rw [Rd.num, if_pos hc, Rd.run, List.drop_drop]
  show fle ((r.inp.drop (r.pos + k).toNat).take n) = _
  rw [show (r.pos + (k : Int)).toNat = r.pos.toNat + k by omega]
/-- Whether sealed goes well. -/
theorem sealed_iff {r : Rd} (hr : r.Wf) (h0 : r.err = 0) (n : Nat) : (r.sealed n).err = 0 ↔ ((n : Int) + 4 ≤ r.left ∧ wordAt (r.inp.drop r.pos.toNat) n = vn (crc ((r.inp.drop r.pos.toNat).take n))) := by
  have hf : (n : Int) + 4 ≤ r.left → (r.fits n ↔ wordAt (r.inp.drop r.pos.toNat) n = vn (crc ((r.inp.drop r.pos.toNat).take n))) := by
    intro hl
    unfold Rd.fits
    rw [num_at h0 (by omega) hr.lo]
    rfl
  constructor
  · intro h
    obtain ⟨_, _, _, _, hc, h4, hfit⟩ := sealed_ok hr h0 h
    have hl : (n : Int) + 4 ≤ r.left := by omega
    exact ⟨hl, (hf hl).1 hfit⟩
  · rintro ⟨hl, hw⟩
    have hc : r.can n = true := by
      simp only [Rd.can, Bool.and_eq_true, beq_iff_eq, decide_eq_true_eq]
      exact ⟨h0, by omega, by omega⟩
    rw [Rd.sealed, if_pos hc, if_neg (by omega), if_pos ((hf hl).2 hw)]
    exact h0
theorem legRead_at {r : Rd} (hr : r.Wf) (h0 : r.err = 0) : match legAt (r.inp.drop r.pos.toNat) with
    | some l => (legRead r).1 = l ∧ (legRead r).2.1 = true ∧ (legRead r).2.2 = ⟨r.inp, r.pos + (legB l).length, 0⟩
    | none => (legRead r).2.1 = false := by
  obtain ⟨b, hb⟩ : ∃ b, b = r.inp.drop r.pos.toNat := ⟨_, rfl⟩
  have hby : Byt b := by rw [hb]; exact hr.byt.drop _
  have hleft : r.left = b.length := by rw [hb, List.length_drop]; unfold Rd.left; have := hr.lo; have := hr.hi; omega
  rw [← hb]
  have s1 := sealed_iff hr h0 16
  rw [← hb, hleft] at s1
  by_cases c1 : (r.sealed 16).err = 0
  · obtain ⟨a1, a2⟩ := s1.1 c1
    obtain ⟨_, _, e2, e3, _, _, _⟩ := sealed_ok hr h0 c1
    have e2' : r.body 16 = b.take 16 := by rw [e2, hb]; rfl
    have hl16 : (b.take 16).length = 16 := by rw [List.length_take]; omega
    have q0 : hdw (r.body 16) 0 = wordAt b 0 := by rw [e2', (hdw_at hl16 0 (by omega)).2]; exact wordAt_take (by omega)
    have q1 : hdw (r.body 16) 1 = wordAt b 4 := by rw [e2', (hdw_at hl16 1 (by omega)).2]; exact wordAt_take (by omega)
    have q2 : hdw (r.body 16) 2 = wordAt b 8 := by rw [e2', (hdw_at hl16 2 (by omega)).2]; exact wordAt_take (by omega)
    have q3 : hdw (r.body 16) 3 = wordAt b 12 := by rw [e2', (hdw_at hl16 3 (by omega)).2]; exact wordAt_take (by omega)
    have w4 := wordAt_range hby 4
    have w8 := wordAt_range hby 8
    obtain ⟨N, hN⟩ : ∃ N, N = (16 * wordAt b 4 + 4 * wordAt b 8).toNat := ⟨_, rfl⟩
    have hNi : 16 * wordAt b 4 + 4 * wordAt b 8 = (N : Int) := by omega
    obtain ⟨r2, hr2⟩ : ∃ r2, r2 = r.sealed 16 := ⟨_, rfl⟩
    have wf2 : r2.Wf := by rw [hr2]; exact sealed_wf hr 16
    have i2 : r2.inp = r.inp := by rw [hr2, e3]; rfl
    have p2 : r2.pos = r.pos + 20 := by rw [hr2, e3]; rfl
    have l2 : r2.left = b.length - 20 := by rw [← hleft]; unfold Rd.left; rw [i2, p2]; omega
    have b2 : r2.inp.drop r2.pos.toNat = b.drop 20 := by rw [i2, p2, hb, List.drop_drop]; congr 1; have := hr.lo; omega
    have s2 := sealed_iff wf2 (by rw [hr2]; exact c1) N
    rw [b2, l2] at s2
    have hmag := magic_iff hby (by omega)
    have hA0 : legAt b = if 24 ≤ b.length ∧ wordAt b 16 = vn (crc (b.take 16)) ∧ b.take 4 = [65, 77, 66, 76] ∧ 24 + N ≤ b.length ∧ wordAt (b.drop 20) N = vn (crc ((b.drop 20).take N)) then
        some ⟨picksOf (b.drop 20) (wordAt b 4).toNat, wordsOf (b.drop 20) (wordAt b 4).toNat (wordAt b 8).toNat, wordAt b 12⟩ else none := by
      unfold legAt
      rw [← hN, show wordAt b (20 + N) = wordAt (b.drop 20) N by unfold wordAt; rw [List.drop_drop]]
    have hL0 : legRead r = if r2.err ≠ 0 ∨ wordAt b 0 ≠ 1279413569 ∨ r2.left < (N : Int) then (⟨[], [], wordAt b 12⟩, false, r2)
        else if (r2.sealed N).err ≠ 0 then (⟨[], [], wordAt b 12⟩, false, r2.sealed N)
        else (⟨picksOf (r2.body N) (wordAt b 4).toNat, wordsOf (r2.body N) (wordAt b 4).toNat (wordAt b 8).toNat, wordAt b 12⟩, true, r2.sealed N) := by
      unfold legRead
      rw [q0, q1, q2, q3, hNi, ← hr2]
    have er : r2.err = 0 := by rw [hr2]; exact c1
    by_cases c2 : wordAt b 0 = 1279413569 ∧ (N : Int) ≤ b.length - 20
    · rw [if_neg (by rw [l2]; intro h; rcases h with h | h | h; exact h er; exact h c2.1; omega)] at hL0
      by_cases c3 : (r2.sealed N).err = 0
      · obtain ⟨a3, a4⟩ := s2.1 c3
        obtain ⟨_, _, f2, f3, _, _, _⟩ := sealed_ok wf2 er c3
        have f2' : r2.body N = (b.drop 20).take N := by rw [f2, ← b2]; rfl
        rw [if_neg (by rw [c3]; simp)] at hL0
        rw [if_pos ⟨by omega, a2, hmag.1 c2.1, by omega, a4⟩] at hA0
        have hp : 16 * (wordAt b 4).toNat + 4 * (wordAt b 8).toNat = N := by omega
        have hsz : ((legB ⟨picksOf (b.drop 20) (wordAt b 4).toNat, wordsOf (b.drop 20) (wordAt b 4).toNat (wordAt b 8).toNat, wordAt b 12⟩).length : Int) = 24 + N := by
          rw [legB_len, sizeL]
          show 24 + 16 * ((picksOf _ _).length : Int) + 4 * ((wordsOf _ _ _).length : Int) = _
          rw [picksOf_len, wordsOf_len]
          omega
        rw [hA0, hL0]
        refine ⟨?_, rfl, ?_⟩
        · show S50.mk _ _ _ = S50.mk _ _ _
          rw [f2', picksOf_take (by omega), wordsOf_take (by omega)]
        · show r2.sealed N = _
          rw [hsz, f3]
          show Rd.mk r2.inp (r2.pos + (N + 4)) r2.err = _
          rw [i2, p2, er]
          congr 1
          omega
      · rw [if_pos c3] at hL0
        rw [if_neg (fun h => c3 (s2.2 ⟨by omega, h.2.2.2.2⟩))] at hA0
        rw [hA0, hL0]
    · rw [if_pos (by
        by_cases h : wordAt b 0 = 1279413569
        · refine .inr (.inr ?_)
          rw [l2]
          by_cases h' : (N : Int) ≤ b.length - 20
          · exact absurd ⟨h, h'⟩ c2
          · omega
        · exact .inr (.inl h))] at hL0
      rw [if_neg (fun h => c2 ⟨hmag.2 h.2.2.1, by omega⟩)] at hA0
      rw [hA0, hL0]
  · have hn : ¬ (24 ≤ b.length ∧ wordAt b 16 = vn (crc (b.take 16))) := fun h => c1 (s1.2 ⟨by omega, h.2⟩)
    have e : legAt b = none := by
      unfold legAt
      rw [if_neg (fun h => hn ⟨h.1, h.2.1⟩)]
    have hL : (legRead r).2.1 = false := by
      unfold legRead
      rw [if_pos (.inl c1)]
    rw [e]
    exact hL
theorem legsGo_at : ∀ (n : Nat) (r : Rd), r.Wf → r.err = 0 → legsGo n r = pGo n (r.inp.drop r.pos.toNat) := by
  intro n
  induction n with
  | zero => intro r _ _; rfl
  | succ n ih =>
    intro r hr h0
    have hleft : r.left = (r.inp.drop r.pos.toNat).length := by rw [List.length_drop]; unfold Rd.left; have := hr.lo; have := hr.hi; omega
    have h := legRead_at hr h0
    rw [legsGo, pGo]
    by_cases hl : 0 < r.left
    · have hz : ¬ (r.inp.drop r.pos.toNat).length = 0 := by omega
      rw [if_pos hl]
      cases hb : legAt (r.inp.drop r.pos.toNat) with
      | none =>
        rw [hb] at h
        rw [if_neg (by rw [h]; decide), if_neg hz]
      | some l =>
        rw [hb] at h
        obtain ⟨h1, h2, h3⟩ := h
        have ho := legRead_ok hr h0 h2
        rw [if_pos h2, h1, ih _ ho.1 ho.2.1, h3, if_neg hz]
        simp only
        rw [List.drop_drop, show (r.pos + ((legB l).length : Int)).toNat = r.pos.toNat + (legB l).length by have := hr.lo; omega]
    · rw [if_neg hl, if_pos (by omega)]
/-- What Decode answers. -/
theorem dec_yes {b : List Int} (hb : Byt b) {ls : List S50} (h : (decT b).2 = 0) (he : (decT b).1 = ls) : b.length ≤ 65536 ∧ b = legsB ls ∧ ∀ l ∈ ls, LegRd l := by
  unfold decT at h he
  split at h
  · cases h
  · rename_i hl
    rw [if_neg hl] at he
    have hw : (Rd.mk b 0 0).Wf := Rd.new_wf hb (by omega)
    have e : legsAll b = pGo (b.length + 1) b := legsGo_at _ _ hw rfl
    rw [e] at h he
    cases hp : pGo (b.length + 1) b with
    | none => rw [hp] at h; cases h
    | some ms =>
      rw [hp] at he
      obtain rfl : ms = ls := he
      exact ⟨by omega, pGo_back _ b hb ms hp⟩
theorem dec_no {b : List Int} (h : (decT b).2 ≠ 0) : decT b = ([], 210) := by
  unfold decT at h ⊢
  split
  · rfl
  · rename_i hl
    rw [if_neg hl] at h
    split at h
    · exact absurd rfl h
    · rfl
theorem dec_legs (ls : List S50) (hr : ∀ l ∈ ls, LegRd l) (hl : (legsB ls).length ≤ 65536) : decT (legsB ls) = (ls, 0) := by
  unfold decT
  rw [if_neg (by omega)]
  have hw : (Rd.mk (legsB ls) 0 0).Wf := Rd.new_wf (legsB_byt ls) (by omega)
  have e : legsAll (legsB ls) = pGo ((legsB ls).length + 1) (legsB ls) := legsGo_at _ _ hw rfl
  rw [e, pGo_leg _ ls hr (by omega)]
end Go.Proofs.Ytoebhddgpicegaa
