/- Lemmas for this claim: Crc, Base, CrcC, Wire, WireO, WireB, WireS, Read, ReadT, ReadS, ReadU, WireP. -/
import Derived.Laws.BitsLemmas
import Derived.Test.YtoebhddgpicegaaProg
import Derived.Below
import Derived.Deep.Draws
import Derived.OwnWalk
import Derived.WalkKit
import Derived.KernelRfl
import Derived.RowKit3
import Derived.Deep.LoopGhost
import Derived.Deep.QuietTactic
import Derived.BigQuiet
import Derived.Lib.Hide
import Derived.Deep.RegionLaw
import Derived.Deep.AppendLies
import Derived.StillTailTactics
import Derived.Test.YtoebhddgpicegaaWMore
namespace Go.Proofs.Ytoebhddgpicegaa
def poly : BitVec 32 := 0xEDB88320#32
def lf (s : BitVec 32) : BitVec 32 := (s >>> 1) ^^^ (if s.getLsbD 0 then poly else 0#32)
def lfn : Nat → BitVec 32 → BitVec 32
  | 0, s => s
  | n + 1, s => lfn n (lf s)
theorem lf_xor (a b : BitVec 32) : lf (a ^^^ b) = lf a ^^^ lf b := by
  unfold lf
  rw [BitVec.ushiftRight_xor_distrib, BitVec.getLsbD_xor]
  cases a.getLsbD 0 <;> cases b.getLsbD 0 <;> simp
  · ac_rfl
  · ac_rfl
  · rw [show a >>> 1 ^^^ poly ^^^ (b >>> 1 ^^^ poly) = (a >>> 1 ^^^ b >>> 1) ^^^ (poly ^^^ poly) by ac_rfl]; simp
theorem lfn_xor (n : Nat) : ∀ a b : BitVec 32, lfn n (a ^^^ b) = lfn n a ^^^ lfn n b := by
  induction n with
  | zero => intro a b; rfl
  | succ n ih => intro a b; simp only [lfn]; rw [lf_xor, ih]
theorem lf_even {s : BitVec 32} (h : s.toNat % 2 = 0) : (lf s).toNat = s.toNat / 2 := by
  have h0 : s.getLsbD 0 = false := by simp only [BitVec.getLsbD, Nat.testBit_zero]; simp [h]
  unfold lf
  rw [h0]
  simp [Nat.shiftRight_eq_div_pow]
theorem lfn_even (n : Nat) : ∀ s : BitVec 32, s.toNat % 2 ^ n = 0 → (lfn n s).toNat = s.toNat / 2 ^ n := by
  induction n with
  | zero => intro s _; simp [lfn]
  | succ n ih =>
    intro s h
    have h2 : s.toNat % 2 = 0 := by
      have : (2:Nat) ∣ 2 ^ (n+1) := ⟨2^n, by rw [Nat.pow_succ]; omega⟩
      exact Nat.mod_eq_zero_of_dvd (Nat.dvd_trans this (Nat.dvd_of_mod_eq_zero h))
    have e := lf_even h2
    simp only [lfn]
    rw [ih, e, Nat.div_div_eq_div_mul, ← Nat.pow_succ']
    rw [e]
    obtain ⟨c, hc⟩ := Nat.dvd_of_mod_eq_zero h
    rw [hc, Nat.pow_succ, Nat.mul_comm (2^n) 2, Nat.mul_assoc, Nat.mul_div_cancel_left _ (by decide)]
    exact Nat.mul_mod_right _ _
def stepB (s b : BitVec 32) : BitVec 32 := lfn 8 (s ^^^ b)
theorem mask_bit : ∀ i, i < 32 → (255#32).getLsbD i = decide (i < 8) := by decide
theorem split_high (s : BitVec 32) : s ^^^ (s &&& 255#32) = (s >>> 8) <<< 8 := by
  apply BitVec.eq_of_getLsbD_eq
  intro i hi
  rw [BitVec.getLsbD_xor, BitVec.getLsbD_and, mask_bit i hi, BitVec.getLsbD_shiftLeft, BitVec.getLsbD_ushiftRight]
  by_cases h : i < 8
  · simp [h]
  · simp [h, hi, show 8 + (i - 8) = i by omega]
theorem stepB_split (s b : BitVec 32) : stepB s b = lfn 8 ((s &&& 255#32) ^^^ b) ^^^ (s >>> 8) := by
  have e : s ^^^ b = ((s &&& 255#32) ^^^ b) ^^^ ((s >>> 8) <<< 8) := by
    rw [← split_high]
    rw [show s &&& 255#32 ^^^ b ^^^ (s ^^^ s &&& 255#32) = (s ^^^ b) ^^^ ((s &&& 255#32) ^^^ (s &&& 255#32)) by ac_rfl]
    simp
  unfold stepB
  rw [e, lfn_xor]
  congr 1
  have hs := s.isLt
  have e2 : ((s >>> 8) <<< 8).toNat = s.toNat / 256 * 256 := by
    simp [Nat.shiftRight_eq_div_pow, Nat.shiftLeft_eq]
    omega
  apply BitVec.eq_of_toNat_eq
  rw [lfn_even 8 _ (by rw [e2]; omega), e2]
  simp [Nat.shiftRight_eq_div_pow]
end Go.Proofs.Ytoebhddgpicegaa
namespace Go.Proofs.Ytoebhddgpicegaa
open Go.RowKit Go.Proofs.YtoebhddgpicegaaW.PrintWords
/-- What a call leaves: all blocks but those of S (and what is new since) are as they were. -/
structure Frm (S : Nat → Prop) (w w' : World) : Prop where
  os : w'.os = w.os
  tape : w'.tape = w.tape
  output : w'.output = w.output
  size : w.heap.size ≤ w'.heap.size
  block : ∀ k, k < w.heap.size → ¬ S k → w'.heap[k]? = w.heap[k]?
/-- No block. -/
def Nun : Nat → Prop := fun _ => False
/-- What is in S or new since w. -/
def Nw (S : Nat → Prop) (w : World) : Nat → Prop := fun k => S k ∨ w.heap.size ≤ k
section
variable {S S' : Nat → Prop} {w w1 w2 : World}
theorem Frm.refl (S : Nat → Prop) (w : World) : Frm S w w := ⟨rfl, rfl, rfl, Nat.le_refl _, fun _ _ _ => rfl⟩
theorem Frm.trans (h : Frm S w w1) (k : Frm S' w1 w2) (hs : ∀ i, S' i → S i ∨ w.heap.size ≤ i) : Frm S w w2 :=
  ⟨k.os.trans h.os, k.tape.trans h.tape, k.output.trans h.output, Nat.le_trans h.size k.size, fun i hi hn =>
    (k.block i (Nat.lt_of_lt_of_le hi h.size) (fun h2 => (hs i h2).elim hn (fun h3 => by omega))).trans (h.block i hi hn)⟩
theorem Frm.mono (h : Frm S w w1) (hs : ∀ i, S i → S' i) : Frm S' w w1 := ⟨h.os, h.tape, h.output, h.size, fun i hi hn => h.block i hi (fun k => hn (hs i k))⟩
theorem Frm.then_ (h : Frm S w w1) (k : Frm (Nw S w) w1 w2) : Frm S w w2 := h.trans k (fun _ h => h)
theorem Frm.quiet (h : Frm S w w1) (k : Frm Nun w1 w2) : Frm S w w2 := h.trans k (fun _ h => h.elim)
theorem Frm.ofBelow (h : Below w.heap.size w w1) : Frm Nun w w1 := ⟨h.os, h.tape, h.output, h.size, fun i hi _ => h.block i hi⟩
theorem Frm.below (h : Frm S w w1) {B : Nat} (hs : ∀ i, S i → B ≤ i) (hB : B ≤ w.heap.size) : Below B w w1 :=
  ⟨h.os, h.tape, h.output, h.size, fun i hi => h.block i (Nat.lt_of_lt_of_le hi hB) (fun k => by have := hs i k; omega)⟩
theorem Frm.below0 (h : Frm Nun w w1) : Below w.heap.size w w1 := h.below (fun _ k => k.elim) (Nat.le_refl _)
theorem Frm.alloc (h : Frm S w w1) (o : Obj) : Frm S w (w1.alloc o) := h.quiet (.ofBelow (below_alloc (Below.refl _ _) o))
theorem Frm.drew (h : Frm S w w1) : Frm S w w1.drew := ⟨h.os, h.tape, h.output, h.size, h.block⟩
theorem Frm.drewN (h : Frm S w w1) (n : Nat) : Frm S w (w1.drewN n) := ⟨h.os, h.tape, h.output, h.size, h.block⟩
theorem Frm.drawn (h : Frm S w w1) (k : Drawn0 w1 w2) : Frm S w w2 := by obtain ⟨n, rfl⟩ := k.out; exact h.drewN n
theorem Frm.set (h : Frm S w w1) {p : Addr} (hg : S p.block ∨ w.heap.size ≤ p.block) (v : Value) : Frm S w (w1.setCell p v) :=
  h.trans (S' := fun k => k = p.block) ⟨rfl, rfl, rfl, by simp [World.setCell], fun i _ hn => Below.heap_setCell w1 p v i hn⟩ (fun i hi => by rw [hi]; exact hg)
theorem Frm.grown (h : Frm S w w1) {row : Option Nat} (hg : w1.grownBy w2 row) (hr : ∀ k, row = some k → S k ∨ w.heap.size ≤ k) : Frm S w w2 :=
  h.trans (S' := fun k => row = some k) ⟨hg.os, hg.tape, hg.output, hg.size, fun i hi hn => hg.block i hi (fun e => hn e.symm)⟩ hr
theorem Frm.blk (h : Frm S w w1) {g : Nat} {o : Obj} (hb : w.heap[g]? = some o) (hn : ¬ S g) : w1.heap[g]? = some o := (h.block g (blk_lt hb) hn).trans hb
theorem Frm.cell (h : Frm S w w1) {a : Addr} {v : Value} (hc : w.cell? a = some v) (hn : ¬ S a.block) : w1.cell? a = some v :=
  (World.cell?_of_block (h.block a.block (World.block_lt_of_cell? w a hc) hn)).trans hc
theorem Nw.mono {w : World} (hs : ∀ i, S i → S' i) (hw : w.heap.size ≤ w1.heap.size) : ∀ i, Nw S w1 i → Nw S' w i := fun i h => h.elim (fun h => .inl (hs i h)) (fun h => .inr (Nat.le_trans hw h))
theorem Frm.nw (h : Frm S w w1) : ∀ i, Nw (Nw S w) w1 i → Nw S w i := fun _ k => k.elim id (fun k => .inr (Nat.le_trans h.size k))
section
variable {α : Type} {d : Kd α} {e : Nat} {base : Nat} {ok : Nat → Prop} {v : Value} {xs : List α}
theorem R_frm (h : d.R e w base ok v xs) (hf : Frm S w w1) (hn : ∀ k, ok k → ¬ S k) : d.R e w1 base ok v xs := Kd.R_step h (fun k ho hlt => hf.block k hlt (hn k ho))
end
theorem C_frm {k : IntKind} {A : Option Addr} {n : Nat} {l : List Int} (h : Kd.C (Kd.int k) w A n l) (hf : Frm S w w1) (hn : ∀ a, A = some a → ¬ S a.block) : Kd.C (Kd.int k) w1 A n l := by
  refine ⟨h.1, h.2.1, fun hp => ?_⟩
  obtain ⟨ad, rfl, hc⟩ := h.2.2 hp
  refine ⟨ad, rfl, fun j p hj => ?_⟩
  obtain ⟨c, h1, h2, h3⟩ := hc j p hj
  exact ⟨c, h1, h2, fun i u hu => hf.cell (h3 i u hu) (by rw [add_block]; exact hn ad rfl)⟩
theorem at_int {w : World} {k : IntKind} {A : Option Addr} {xs : List Int} (h : Kd.C (Kd.int k) w A xs.length xs) (i : Nat) (h1 : i < xs.length) : ∃ ad b, A = some ad ∧ w.cell? (ad.add i) = some (.int k b) ∧ Hid (xs.getD i 0 = b) := by
  obtain ⟨ad, c, e, _, hK, hc⟩ := Kd.C_get h 0 (i : Int) (by omega) (by omega)
  obtain rfl : c = [.int k (xs.getD i 0)] := hK
  have := hc 0 _ rfl
  exact ⟨ad, _, e, by simpa [Kd.int, Kd.scalar] using this, Lib.hid rfl⟩
end
section
variable {P : Program} {ops : Array Oper} {rest : List Oper} {o : Oper} {a : Act} {Q : Exit → Act → World → Prop} {Kc : Act → World → Prop} {α : Type}
/-- append of one element that a literal has just laid: in a region that draws, and behind one another. -/
theorem app_step (d : Kd α) {W Wa : World} (s x : Operand) (t e : TypeId) (z : Value) (bytes : Nat) (hw : Region.wanted o (yielded ops a.tmps) = true)
    (ho : o.op = .call { callee := .builtin .append, args := #[s, x], argTypes := #[t, t] })
    (ht : P.underlying t = some (.slice e)) (hinfo : (P.info? e).map (fun i => (i.zero, i.size, i.bytes)) = some (some z, d.sz, bytes)) (hz : z.cells.size = d.sz) (hs0 : 0 < d.sz) (hb0 : 0 < bytes)
    (v : Value) (xs : List α) (p : α) (cs : List Value) (ok okp : Nat → Prop) (hs : a.eval s = v) (hx : a.eval x = .slice (some ⟨W.heap.size, 0, none⟩) 1 1) (hWa : Wa = W.alloc (.cells cs.toArray e)) (hp : d.M W 0 okp p cs) (hokp : ∀ k, okp k → ok k ∧ some k ≠ v.ownBlock) (hfresh : ∀ k, W.heap.size ≤ k → ok k)
    (HO : d.R e W 0 ok v xs) (hl : (xs.length + 1) * bytes ≤ 140737488355328)
    (h : ∀ v1 w1, d.R e w1 0 ok v1 (xs ++ [p]) → W.grownBy w1 v.ownBlock → Kc (a.put o.dst v1) w1) :
    if Region.wanted o (yielded ops a.tmps) = true then Oper.wp P o a Wa Kc Q else Kc (a.put o.dst undef) Wa := by
  subst hWa
  exact Kd.R_append_step d (w0 := W) 0 hw s x t e z bytes ho ht hinfo hz hs0 hb0 v xs p cs ok okp hs hx hp hokp hfresh HO (Below.refl _ _) (Nat.zero_le _) hl (fun v1 w1 h1 _ h3 _ => h v1 w1 h1 h3)
theorem app_list (d : Kd α) {W Wa : World} (s x : Operand) (t e : TypeId) (z : Value) (bytes : Nat) (hgd : o.guard = none)
    (ho : o.op = .call { callee := .builtin .append, args := #[s, x], argTypes := #[t, t] })
    (ht : P.underlying t = some (.slice e)) (hinfo : (P.info? e).map (fun i => (i.zero, i.size, i.bytes)) = some (some z, d.sz, bytes)) (hz : z.cells.size = d.sz) (hs0 : 0 < d.sz) (hb0 : 0 < bytes)
    (v : Value) (xs : List α) (p : α) (cs : List Value) (ok okp : Nat → Prop) (hs : a.eval s = v) (hx : a.eval x = .slice (some ⟨W.heap.size, 0, none⟩) 1 1) (hWa : Wa = W.alloc (.cells cs.toArray e)) (hp : d.M W 0 okp p cs) (hokp : ∀ k, okp k → ok k ∧ some k ≠ v.ownBlock) (hfresh : ∀ k, W.heap.size ≤ k → ok k)
    (HO : d.R e W 0 ok v xs) (hl : (xs.length + 1) * bytes ≤ 140737488355328)
    (h : ∀ v1 w1, d.R e w1 0 ok v1 (xs ++ [p]) → W.grownBy w1 v.ownBlock → wpList P ops Q rest (a.put o.dst v1) w1) :
    wpList P ops Q (o :: rest) a Wa := by
  subst hWa
  exact Kd.R_append d (w0 := W) 0 hgd s x t e z bytes ho ht hinfo hz hs0 hb0 v xs p cs ok okp hs hx hp hokp hfresh HO (Below.refl _ _) (Nat.zero_le _) hl (fun v1 w1 h1 _ h3 _ => h v1 w1 h1 h3)
/-- append of a whole row of numbers. -/
theorem app_ints (k : IntKind) {W : World} (s x : Operand) (t e : TypeId) (bytes : Nat) (hgd : o.guard = none)
    (ho : o.op = .call { callee := .builtin .append, args := #[s, x], argTypes := #[t, t] })
    (ht : P.underlying t = some (.slice e)) (hinfo : (P.info? e).map (fun i => (i.zero, i.size, i.bytes)) = some (some (.int k 0), 1, bytes)) (hb0 : 0 < bytes)
    (v : Value) (xs ys : List Int) (A : Option Addr) (m c : Nat) (ok : Nat → Prop) (hs : a.eval s = v) (hx : a.eval x = .slice A m c)
    (HO : (Kd.int k).R e W 0 ok v xs) (HR : (Kd.int k).C W A m ys) (hfresh : ∀ k, W.heap.size ≤ k → ok k) (hl : (xs.length + m) * bytes ≤ 140737488355328)
    (h : ∀ v1 w1, (Kd.int k).R e w1 0 ok v1 (xs ++ ys) → W.grownBy w1 v.ownBlock → wpList P ops Q rest (a.put o.dst v1) w1) :
    wpList P ops Q (o :: rest) a W :=
  Kd.R_append_rows (Kd.int k) (Rr := (Kd.int k).K W) (w0 := W) 0 hgd s x t e (.int k 0) bytes ho ht hinfo rfl Nat.one_pos hb0 v xs ys A m c ok (fun _ => False) hs hx HO HR (fun _ _ h => h) (fun _ h => h.elim) hfresh (Below.refl _ _) (Nat.zero_le _) hl (fun v1 w1 h1 _ h3 _ => h v1 w1 h1 h3)
/-- .. in a region that draws. -/
theorem app_step_ints (k : IntKind) {W : World} (s x : Operand) (t e : TypeId) (bytes : Nat) (hw : Region.wanted o (yielded ops a.tmps) = true)
    (ho : o.op = .call { callee := .builtin .append, args := #[s, x], argTypes := #[t, t] })
    (ht : P.underlying t = some (.slice e)) (hinfo : (P.info? e).map (fun i => (i.zero, i.size, i.bytes)) = some (some (.int k 0), 1, bytes)) (hb0 : 0 < bytes)
    (v : Value) (xs ys : List Int) (A : Option Addr) (m c : Nat) (ok : Nat → Prop) (hs : a.eval s = v) (hx : a.eval x = .slice A m c)
    (HO : (Kd.int k).R e W 0 ok v xs) (HR : (Kd.int k).C W A m ys) (hfresh : ∀ k, W.heap.size ≤ k → ok k) (hl : (xs.length + m) * bytes ≤ 140737488355328)
    (h : ∀ v1 w1, (Kd.int k).R e w1 0 ok v1 (xs ++ ys) → W.grownBy w1 v.ownBlock → Kc (a.put o.dst v1) w1) :
    if Region.wanted o (yielded ops a.tmps) = true then Oper.wp P o a W Kc Q else Kc (a.put o.dst undef) W :=
  Kd.R_append_rows_step (Kd.int k) (Rr := (Kd.int k).K W) (w0 := W) 0 hw s x t e (.int k 0) bytes ho ht hinfo rfl Nat.one_pos hb0 v xs ys A m c ok (fun _ => False) hs hx HO HR (fun _ _ h => h) (fun _ h => h.elim) hfresh (Below.refl _ _) (Nat.zero_le _) hl (fun v1 w1 h1 _ h3 _ => h v1 w1 h1 h3)
end
theorem ret_int {k : IntKind} {a b : Int} (h : a = b) : Ending.returned (.int k a) = .returned (.int k b) := by rw [h]
theorem ret2 {v : Value} {k : IntKind} {a b : Int} (h : a = b) : Ending.returned (.tuple #[v, .int k a]) = .returned (.tuple #[v, .int k b]) := by rw [h]
theorem _root_.Go.Proofs.YtoebhddgpicegaaW.PrintWords.Drawn0.trans {a b c : World} (h : Drawn0 a b) (k : Drawn0 b c) : Drawn0 a c := by
  obtain ⟨n, rfl⟩ := k.out; exact h.step n
theorem getD_at {α : Type} {l : List α} {i : Nat} (h : i < l.length) {d : α} : l.getD i d = l[i] := by simp [h]
theorem take_snoc {l : List Int} {k : Nat} (h : k < l.length) : l.take (k + 1) = l.take k ++ [l.getD k 0] := by
  rw [List.take_succ_eq_append_getElem h, getD_at h]
/-- Bytes. -/
def Byt (l : List Int) : Prop := ∀ x ∈ l, 0 ≤ x ∧ x < 256
theorem Byt.get {l : List Int} (h : Byt l) {i : Nat} (hi : i < l.length) : 0 ≤ l.getD i 0 ∧ l.getD i 0 < 256 := by
  rw [getD_at hi]; exact h _ (List.getElem_mem hi)
theorem Byt.app {l m : List Int} (h : Byt l) (k : Byt m) : Byt (l ++ m) := fun x hx => (List.mem_append.1 hx).elim (h x) (k x)
theorem Byt.take {l : List Int} (h : Byt l) (n : Nat) : Byt (l.take n) := fun x hx => h x (List.mem_of_mem_take hx)
theorem Byt.drop {l : List Int} (h : Byt l) (n : Nat) : Byt (l.drop n) := fun x hx => h x (List.mem_of_mem_drop hx)
/-- The n lowest bytes, lowest first. -/
def le : Nat → Int → List Int
  | 0, _ => []
  | n + 1, v => v % 256 :: le n (v / 256)
theorem le_len (n : Nat) : ∀ v, (le n v).length = n := by induction n with | zero => intro v; rfl | succ n ih => intro v; simp [le, ih]
theorem le_byt (n : Nat) : ∀ v, Byt (le n v) := by
  induction n with
  | zero => intro v x hx; cases hx
  | succ n ih =>
    intro v x hx
    rcases List.mem_cons.1 hx with rfl | hx
    · omega
    · exact ih _ x hx
end Go.Proofs.Ytoebhddgpicegaa
namespace Go.Proofs.Ytoebhddgpicegaa
open Go.RowKit Go.Proofs.YtoebhddgpicegaaW.PrintWords
theorem mod32 (n : Nat) (h : n < 2 ^ 32) : (n : Int) % 4294967296 = n := by omega
theorem bits_xor32 (a b : BitVec 32) : Go.bits .xor .u32 (a.toNat : Int) (b.toNat : Int) = ((a ^^^ b).toNat : Int) := by
  have h := (a ^^^ b).isLt
  simp only [Go.bits, IntKind.bits, BitVec.ofInt_natCast, BitVec.ofNat_toNat, BitVec.setWidth_eq]
  rw [IntKind.wrap_u32]
  exact mod32 _ h
theorem bits_and32 (a b : BitVec 32) : Go.bits .and .u32 (a.toNat : Int) (b.toNat : Int) = ((a &&& b).toNat : Int) := by
  have h := (a &&& b).isLt
  simp only [Go.bits, IntKind.bits, BitVec.ofInt_natCast, BitVec.ofNat_toNat, BitVec.setWidth_eq]
  rw [IntKind.wrap_u32]
  exact mod32 _ h
/-- A word's number. -/
def vn (v : BitVec 32) : Int := v.toNat
theorem vn_range (v : BitVec 32) : 0 ≤ vn v ∧ vn v < 4294967296 := by unfold vn; have := v.isLt; omega
theorem vn_inj {a b : BitVec 32} (h : vn a = vn b) : a = b := BitVec.eq_of_toNat_eq (by unfold vn at h; omega)
theorem vn_xor (a b : BitVec 32) : Go.bits .xor .u32 (vn a) (vn b) = vn (a ^^^ b) := bits_xor32 a b
theorem vn_not (s : BitVec 32) : Go.bits .xor .u32 IntKind.u32.max (vn s) = vn (~~~ s) := by
  rw [show IntKind.u32.max = vn (~~~ 0#32) from rfl, vn_xor, show (~~~ 0#32 : BitVec 32) = BitVec.allOnes 32 from rfl, BitVec.allOnes_xor]
theorem vn_and1 (s : BitVec 32) : Go.bits .and .u32 (vn s) 1 = if s.getLsbD 0 then 1 else 0 := by
  have e := bits_and32 s 1#32
  rw [show ((1#32 : BitVec 32).toNat : Int) = 1 from rfl] at e
  unfold vn
  rw [e, BitVec.toNat_and]
  simp only [BitVec.getLsbD, Nat.testBit_zero]
  rw [show (1#32 : BitVec 32).toNat = 1 from rfl, Nat.and_one_is_mod]
  have := Nat.mod_two_eq_zero_or_one s.toNat
  rcases this with h | h <;> simp [h]
theorem half (s : BitVec 32) : vn s / (2 : Int) = vn (s >>> 1) := by unfold vn; simp [Nat.shiftRight_eq_div_pow]
theorem oct (s : BitVec 32) : vn s / (256 : Int) = vn (s >>> 8) := by unfold vn; simp [Nat.shiftRight_eq_div_pow]
theorem lf_yes {s : BitVec 32} (h : s.getLsbD 0 = true) : Go.bits .xor .u32 (vn s / (2 : Int)) 3988292384 = vn (lf s) := by
  rw [half, show (3988292384 : Int) = vn poly from rfl, vn_xor]
  unfold lf; rw [h]; rfl
theorem lf_no {s : BitVec 32} (h : s.getLsbD 0 = false) : vn s / (2 : Int) = vn (lf s) := by
  rw [half]; unfold lf; rw [h]; simp
theorem lfn_succ (n : Nat) : ∀ s, lfn (n + 1) s = lf (lfn n s) := by
  induction n with
  | zero => intro s; rfl
  | succ n ih => intro s; rw [lfn, ih]; rfl
/-- A byte as a word. -/
def bw (b : Int) : BitVec 32 := BitVec.ofInt 32 b
theorem bw_nat {b : Int} (h : 0 ≤ b ∧ b < 256) : vn (bw b) = b := by
  unfold bw vn; rw [BitVec.toNat_ofInt]; omega
theorem bw_vn (v : BitVec 32) : bw (vn v) = v := by unfold bw vn; rw [BitVec.ofInt_natCast]; simp
def upd (s : BitVec 32) (l : List Int) : BitVec 32 := l.foldl (fun s b => stepB s (bw b)) s
def crc (l : List Int) : BitVec 32 := ~~~ upd (~~~ 0#32) l
theorem upd_snoc (s : BitVec 32) (l : List Int) (b : Int) : upd s (l ++ [b]) = stepB (upd s l) (bw b) := by unfold upd; rw [List.foldl_append]; rfl
theorem upd_app (s : BitVec 32) (l m : List Int) : upd s (l ++ m) = upd (upd s l) m := by unfold upd; rw [List.foldl_append]
theorem entry_calls (b : Int) (hb : 0 ≤ b ∧ b < 256) (w : World) :
    Calls Try.prog 64 #[.int .u8 b] w fun e w' => e = .returned (.int .u32 (vn (lfn 8 (bw b)))) ∧ w = w' := by
  go_enter Try.func64, Try.ntmps64
  go_wp2
  go_loop [3, 6] (fun v i => ∃ k : Nat, k ≤ 8 ∧ i = .int .i64 k ∧ v = .int .u32 (vn (lfn k (bw b)))) (fun _ i => 8 - (intOf i).toNat)
  case atStart => exact ⟨0, Nat.zero_le _, rfl, by rw [show lfn 0 (bw b) = bw b from rfl, bw_nat hb]⟩
  case round =>
    obtain ⟨k, hk, rfl, rfl⟩ := hrel
    by_cases hlt : k < 8
    · cases hc : (lfn k (bw b)).getLsbD 0
      · have ht : (Go.bits .and .u32 (vn (lfn k (bw b))) 1 == 1) = false := by rw [vn_and1, hc]; rfl
        have E := Lib.hid hc
        clear hc
        go_wp2
        go_round
        case rel => exact ⟨k + 1, by omega, by go_num, by rw [lf_no E.out, ← lfn_succ]⟩
        case measure => simp [intOf]; omega
      · have ht : (Go.bits .and .u32 (vn (lfn k (bw b))) 1 == 1) = true := by rw [vn_and1, hc]; rfl
        have E := Lib.hid hc
        clear hc
        go_wp2
        go_round
        case rel => exact ⟨k + 1, by omega, by go_num, by rw [lf_yes E.out, ← lfn_succ]⟩
        case measure => simp [intOf]; omega
    · obtain rfl : k = 8 := by omega
      go_wp2
      go_ret
      exact ⟨rfl, rfl⟩
theorem u8_xor {x y : Int} (hx : 0 ≤ x ∧ x < 256) (hy : 0 ≤ y ∧ y < 256) : Go.bits .xor .u8 x y = ((x.toNat ^^^ y.toNat : Nat) : Int) := by
  have hlt : x.toNat ^^^ y.toNat < 2 ^ 8 := Nat.xor_lt_two_pow (by omega) (by omega)
  obtain ⟨x, rfl⟩ := Int.eq_ofNat_of_zero_le hx.1
  obtain ⟨y, rfl⟩ := Int.eq_ofNat_of_zero_le hy.1
  simp only [Int.toNat_natCast] at *
  simp only [Go.bits, BitVec.ofInt_natCast]
  rw [IntKind.wrap_u8]
  have : ((BitVec.ofNat IntKind.u8.bits x) ^^^ (BitVec.ofNat IntKind.u8.bits y)).toNat = x ^^^ y := by
    rw [BitVec.toNat_xor, BitVec.toNat_ofNat, BitVec.toNat_ofNat, show IntKind.u8.bits = 8 from rfl, Nat.mod_eq_of_lt (by omega : x < 2 ^ 8), Nat.mod_eq_of_lt (by omega : y < 2 ^ 8)]
  rw [this]
  omega
theorem low_xor (s : BitVec 32) {b : Int} (h : 0 ≤ b ∧ b < 256) : Go.bits .xor .u8 (vn s % (256 : Int)) b = vn ((s &&& 255#32) ^^^ bw b) ∧ 0 ≤ vn ((s &&& 255#32) ^^^ bw b) ∧ vn ((s &&& 255#32) ^^^ bw b) < 256 := by
  have hs := vn_range s
  have hm : (s &&& 255#32).toNat = s.toNat % 256 := by rw [BitVec.toNat_and, show (255#32 : BitVec 32).toNat = 2 ^ 8 - 1 from rfl, Nat.and_two_pow_sub_one_eq_mod]
  have hx : vn ((s &&& 255#32) ^^^ bw b) = (((s.toNat % 256) ^^^ b.toNat : Nat) : Int) := by
    unfold vn
    rw [BitVec.toNat_xor, hm]
    have : (bw b).toNat = b.toNat := by have := bw_nat h; unfold vn at this; omega
    rw [this]
  have hlt : (s.toNat % 256) ^^^ b.toNat < 2 ^ 8 := Nat.xor_lt_two_pow (by omega) (by omega)
  rw [u8_xor (by omega) h, hx]
  refine ⟨?_, by omega, by omega⟩
  congr 2
theorem step_calls (s : BitVec 32) (b : Int) (h : 0 ≤ b ∧ b < 256) (w : World) :
    Calls Try.prog 58 #[.int .u32 (vn s), .int .u8 b] w fun e w' => e = .returned (.int .u32 (vn (stepB s (bw b)))) ∧ w = w' := by
  obtain ⟨h1, h2, h3⟩ := low_xor s h
  have he := entry_calls _ ⟨h2, h3⟩
  have H1 := Lib.hid h1
  have HE := Lib.hid he
  have H23 := Lib.hid (And.intro h2 h3)
  have H := Lib.hid h
  clear h h1 he h2 h3
  go_enter Try.func58, Try.ntmps58
  go_wp2_with fail
  rw [H1.out]
  refine (HE.out _).mono ?_
  rintro e w' ⟨rfl, rfl⟩
  go_wp2
  go_ret
  exact ⟨ret_int (by rw [oct, vn_xor, stepB_split, bw_vn]), rfl⟩
theorem update_calls (s : BitVec 32) (A : Option Addr) (c : Nat) (l : List Int) (hb : Byt l) (w : World) (hr : Kd.C (Kd.int .u8) w A l.length l) (hl : l.length ≤ 9223372036854775807) :
    Calls Try.prog 50 #[.int .u32 (vn s), .slice A l.length c] w fun e w' => e = .returned (.int .u32 (vn (~~~ upd (~~~ s) l))) ∧ w = w' := by
  go_enter Try.func50, Try.ntmps50
  go_wp2
  rw [vn_not]
  go_loop [5, 12] (fun v i => ∃ k : Nat, k ≤ l.length ∧ i = .int .i64 k ∧ v = .int .u32 (vn (upd (~~~ s) (l.take k)))) (fun _ i => l.length - (intOf i).toNat)
  case atStart => exact ⟨0, Nat.zero_le _, rfl, rfl⟩
  case round =>
    obtain ⟨k, hk, rfl, rfl⟩ := hrel
    by_cases hlt : k < l.length
    · obtain ⟨ad, b, rfl, hc, hx⟩ := at_int hr k hlt
      have hs := step_calls (upd (~~~ s) (l.take k)) b (by rw [← hx.out]; exact hb.get hlt) w
      have HS := Lib.hid hs
      clear hs
      go_wp2_with (go_at_call 58; refine (HS.out).mono ?_; rintro e w' ⟨rfl, rfl⟩)
      go_round
      case rel => exact ⟨k + 1, by omega, by go_num, by rw [take_snoc hlt, upd_snoc, hx.out]⟩
      case measure => simp [intOf]; omega
    · obtain rfl : k = l.length := by omega
      go_wp2
      go_ret
      exact ⟨ret_int (vn_not _), rfl⟩
theorem sum_calls (A : Option Addr) (c : Nat) (l : List Int) (hb : Byt l) (w : World) (hr : Kd.C (Kd.int .u8) w A l.length l) (hl : l.length ≤ 9223372036854775807) :
    Calls Try.prog 57 #[.slice A l.length c] w fun e w' => e = .returned (.int .u32 (vn (crc l))) ∧ w = w' := by
  go_enter Try.func57, Try.ntmps57
  go_wp2_with fail
  refine (update_calls 0#32 A c l hb w hr hl).mono ?_
  rintro e w' ⟨rfl, rfl⟩
  go_wp2
  go_ret
  exact ⟨rfl, rfl⟩
end Go.Proofs.Ytoebhddgpicegaa
namespace Go.Proofs.Ytoebhddgpicegaa
open Go.RowKit Go.Proofs.YtoebhddgpicegaaW.PrintWords
/-- A writer: what is written, the limit, where open runs begin, the first error. -/
structure Wr where
  out : List Int
  limit : Int
  opn : List Int
  err : Int
/-- What the calls keep true of it. -/
structure Wr.Wf (x : Wr) : Prop where
  byt : Byt x.out
  lim : 0 ≤ x.limit ∧ x.limit ≤ 1048576
  len : (x.out.length : Int) ≤ x.limit
  nest : x.opn.length ≤ 4
  opn : ∀ o ∈ x.opn, 0 ≤ o ∧ o ≤ x.out.length
theorem info_u8 : (Try.prog.info? 5).map (fun i => (i.zero, i.size, i.bytes)) = some (some (.int .u8 0), 1, 1) := by kernel_rfl
theorem info_int : (Try.prog.info? 3).map (fun i => (i.zero, i.size, i.bytes)) = some (some (.int .i64 0), 1, 8) := by kernel_rfl
def IsW (w : World) (g : Nat) (S : Nat → Prop) (x : Wr) : Prop :=
  ∃ A c B d, w.heap[g]? = some (.cells #[.slice A x.out.length c, .int .i64 x.limit, .slice B x.opn.length d, .int .i64 x.err] 89 (0, 0)) ∧ S g ∧
    Kd.R (Kd.int .u8) 5 w 0 (fun k => S k ∧ k ≠ g) (.slice A x.out.length c) x.out ∧ Kd.R (Kd.int .i64) 3 w 0 (fun k => S k ∧ k ≠ g) (.slice B x.opn.length d) x.opn
section
variable {w w1 : World} {g : Nat} {S S' : Nat → Prop} {x : Wr}
theorem IsW.frm (h : IsW w g S x) (hf : Frm S' w w1) (hn : ∀ k, S k → ¬ S' k) : IsW w1 g S x := by
  obtain ⟨A, c, B, d, h1, h2, h3, h4⟩ := h
  exact ⟨A, c, B, d, hf.blk h1 (hn g h2), h2, R_frm h3 hf (fun k hk => hn k hk.1), R_frm h4 hf (fun k hk => hn k hk.1)⟩
theorem IsW.mono (h : IsW w g S x) (hn : ∀ k, S k → S' k) : IsW w g S' x := by
  obtain ⟨A, c, B, d, h1, h2, h3, h4⟩ := h
  exact ⟨A, c, B, d, h1, hn _ h2, Kd.R_mono h3 (fun k hk => ⟨hn k hk.1, hk.2⟩), Kd.R_mono h4 (fun k hk => ⟨hn k hk.1, hk.2⟩)⟩
end
theorem ret_bool {a b : Bool} (h : a = b) : Ending.returned (.bool a) = .returned (.bool b) := by rw [h]
section
variable {w w1 : World} {g : Nat} {S S' : Nat → Prop} {x : Wr}
theorem IsW.drewN (h : IsW w g S x) (n : Nat) : IsW (w.drewN n) g S x := h
theorem R_setg {α : Type} {d : Kd α} {e : Nat} {v : Value} {xs : List α} (h : d.R e w 0 (fun k => S k ∧ k ≠ g) v xs) (i : Nat) (u : Value) : d.R e (w.setCell ⟨g, i, none⟩ u) 0 (fun k => S k ∧ k ≠ g) v xs :=
  Kd.R_far h (p := ⟨g, i, none⟩) (fun _ hk => hk.2) u
theorem IsW.setErr (h : IsW w g S x) (e : Int) : IsW (w.setCell ⟨g, 3, none⟩ (.int .i64 e)) g S { x with err := e } := by
  obtain ⟨A, c, B, d, h1, h2, h3, h4⟩ := h
  exact ⟨A, c, B, d, blk_set h1 3 _, h2, R_setg h3 _ _, R_setg h4 _ _⟩
end
theorem IsW.setOut {w : World} {g : Nat} {S : Nat → Prop} {x y : Wr} {b : Int} {A A1 B : Option Addr} {c c1 d : Nat} (hx : x = { y with out := y.out ++ [b] })
    (hg : w.heap[g]? = some (.cells #[.slice A y.out.length c, .int .i64 y.limit, .slice B y.opn.length d, .int .i64 y.err] 89 (0, 0))) (hS : S g)
    (hA : Kd.R (Kd.int .u8) 5 w 0 (fun k => S k ∧ k ≠ g) (.slice A1 (y.out ++ [b]).length c1) (y.out ++ [b])) (hB : Kd.R (Kd.int .i64) 3 w 0 (fun k => S k ∧ k ≠ g) (.slice B y.opn.length d) y.opn) :
    IsW (w.setCell ⟨g, 0, none⟩ (.slice A1 (y.out.length + 1) c1)) g S x := by
  subst hx
  rw [show (y.out ++ [b]).length = y.out.length + 1 by simp] at hA
  rw [show y.out.length + 1 = (y.out ++ [b]).length by simp] at *
  exact ⟨A1, c1, B, d, blk_set hg 0 _, hS, R_setg hA _ _, R_setg hB _ _⟩
/-- Is there room for n bytes; if not, the error stays. -/
def Wr.hasRoom (x : Wr) (n : Int) : Bool := x.err == 0 && decide (n ≤ x.limit - x.out.length)
def Wr.room (x : Wr) (n : Int) : Wr := if x.err = 0 ∧ x.limit - x.out.length < n then { x with err := 2 } else x
theorem room_calls (w : World) (g : Nat) (S : Nat → Prop) (x : Wr) (hx : x.Wf) (hw : IsW w g S x) (n : Int) :
    Calls Try.prog 56 #[.pointer (some ⟨g, 0, none⟩), .int .i64 n] w fun e w' => e = .returned (.bool (x.hasRoom n)) ∧ IsW w' g S (x.room n) ∧ Frm S w w' := by
  have HW := Lib.hid hw
  obtain ⟨A, c, B, d, hg, hS, hA, hB⟩ := hw
  have b1 := hx.lim
  have b2 := hx.len
  clear hx hA hB
  have c0 := (blk_cell hg 0).trans rfl
  have c1 := (blk_cell hg 1).trans rfl
  have c3 := (blk_cell hg 3).trans rfl
  have f3 := blk_frozen hg 3
  simp at c0 c1 c3
  clear hg
  by_cases h0 : x.err = 0
  · by_cases h1 : x.limit - x.out.length < n
    · go_enter Try.func56, Try.ntmps56
      go_wp2
      go_quiet (fail)
      go_wp2
      go_ret
      exact ⟨ret_bool (by simp [Wr.hasRoom, h0]; omega), by rw [Wr.room, if_pos ⟨h0, h1⟩]; exact (HW.out.drewN _).setErr 2, ((Frm.refl S w).drewN _).set (.inl hS) _⟩
    · go_enter Try.func56, Try.ntmps56
      go_wp2
      go_quiet (fail)
      go_wp2
      go_ret
      exact ⟨ret_bool (by simp [Wr.hasRoom, h0]; omega), by rw [Wr.room, if_neg (fun h => absurd h.2 (by omega))]; exact HW.out.drewN _, (Frm.refl S w).drewN _⟩
  · go_enter Try.func56, Try.ntmps56
    go_wp2
    go_ret
    exact ⟨ret_bool (by simp [Wr.hasRoom, h0]), by rw [Wr.room, if_neg (fun h => h0 h.1)]; exact HW.out, Frm.refl S w⟩
theorem le_snoc (k : Nat) : ∀ v, le (k + 1) v = le k v ++ [v / 256 ^ k % 256] := by
  induction k with
  | zero => intro v; simp [le]
  | succ k ih =>
    intro v
    rw [le, ih, le, List.cons_append, Int.ediv_ediv_of_nonneg (by decide), Int.pow_succ, Int.mul_comm]
def Wr.add (x : Wr) (l : List Int) : Wr := { x with out := x.out ++ l }
/-- n bytes of v, if there is room. -/
def Wr.put (x : Wr) (v : Int) (n : Nat) : Wr := if x.hasRoom n then x.add (le n v) else x.room n
theorem Wr.room_yes {x : Wr} {n : Int} (h : x.hasRoom n = true) : x.room n = x := by
  simp [Wr.hasRoom] at h
  rw [Wr.room, if_neg (by omega)]
theorem slice_own {A : Option Addr} {n c k : Nat} (h : (Value.slice A n c).ownBlock = some k) : ∃ a, A = some a ∧ a.block = k := by
  cases A with
  | none => cases h
  | some a => exact ⟨a, rfl, by simpa [Value.ownBlock] using h⟩
set_option maxHeartbeats 400000 in
theorem put_calls (w : World) (g : Nat) (S : Nat → Prop) (x : Wr) (hx : x.Wf) (hw : IsW w g S x) (v : Int) (hv : 0 ≤ v ∧ v < 18446744073709551616) (n : Nat) (hn : n ≤ 8) :
    Calls Try.prog 49 #[.pointer (some ⟨g, 0, none⟩), .int .u64 v, .int .i64 n] w fun e w' => e = .returned (.tuple #[]) ∧ IsW w' g (Nw S w) (x.put v n) ∧ Frm S w w' := by
  have hr := room_calls w g S x hx hw n
  have HX := Lib.hid hx
  clear hx hw
  cases hR : x.hasRoom n
  · have HR := Lib.hid hR
    rw [hR] at hr
    clear hR
    have HC := Lib.hid hr
    clear hr
    go_enter Try.func49, Try.ntmps49
    go_wp2_with fail
    refine HC.out.mono ?_
    rintro e w' ⟨rfl, h1, h2⟩
    go_wp2
    refine bodyPost_ret (results_none rfl _ _ _) rfl ?_
    exact ⟨rfl, by rw [Wr.put, if_neg (by rw [HR.out]; simp)]; exact h1.mono (fun _ h => .inl h), h2⟩
  · have HR := Lib.hid hR
    rw [hR, Wr.room_yes hR] at hr
    clear hR
    have HC := Lib.hid hr
    clear hr
    go_enter Try.func49, Try.ntmps49
    go_wp2_with fail
    refine HC.out.mono ?_
    rintro e w' ⟨rfl, h1, h2⟩
    have H1 := Lib.hid h1
    clear h1
    go_wp2
    go_loopw [1, 11] (fun t1 t11 wr => ∃ k : Nat, k ≤ n ∧ t1 = .int .u64 (v / 256 ^ k) ∧ t11 = .int .i64 k ∧ IsW wr g (Nw S w) (x.add (le k v)) ∧ Frm S w wr) (fun _ t11 _ => n - (intOf t11).toNat)
    case atStart => exact ⟨0, Nat.zero_le _, by simp, rfl, by simpa [Wr.add, le] using H1.out.mono (fun _ h => .inl h), h2⟩
    case round =>
      obtain ⟨k, hk, rfl, rfl, hW, hF⟩ := hrel
      by_cases hlt : k < n
      · have HW := Lib.hid hW
        obtain ⟨A, c, B, d, hg, hS, hA, hB⟩ := hW
        have HA := Lib.hid hA
        have HB := Lib.hid hB
        have HG := Lib.hid hg
        have HS := Lib.hid hS
        have c0 := (blk_cell hg 0).trans rfl
        have f0 := blk_frozen hg 0
        have hsz := blk_lt hg
        have hp : 0 ≤ v / 256 ^ k := Int.ediv_nonneg hv.1 (Int.le_of_lt (Int.pow_pos (by decide)))
        simp at c0
        clear hg hA hB hS
        have hlen : (x.add (le k v)).out.length ≤ 2000000 := by
          have h1 := HX.out.lim
          have h2 := HX.out.len
          simp only [Wr.add, List.length_append, le_len]; omega
        go_wp2_with (first | ((with_reducible refine gate_builtin (b := .append) (xs := #[.tmp 17, .tmp 20]) rfl ?_); at_builtin; refine Kd.R_append (Kd.int .u8) (w0 := wr) 0 rfl (.tmp 17) (.tmp 20) 22 5 (.int .u8 0) 1 rfl Try.underlying22 info_u8 rfl (by decide) (by decide) _ (x.add (le k v)).out (v / 256 ^ k % 256) [.int .u8 (v / 256 ^ k % 256)] (fun k_ => Nw S w k_ ∧ k_ ≠ g) (fun _ => False) rfl rfl rfl (fun _ hk => hk.elim) ?aF HA.out (Below.refl _ _) (Nat.zero_le _) ?aL ?_; (case aF => exact fun i hi => ⟨.inr (Nat.le_trans hF.size hi), by omega⟩); (case aL => omega); intro v1 w1 ho hb hg1 hat; obtain ⟨A1, c1, rfl, hl1, _⟩ := Kd.R_reads ho; have hG1 := blk_grown HG.out hg1 (fun e => (HA.out.1 g e.symm).2 rfl); have c01 := (blk_cell hG1 0).trans rfl; have f01 := blk_frozen hG1 0; simp at c01; have HO := Lib.hid ho; have HG1 := Lib.hid hg1; have HQ := Lib.hid hG1; clear ho hb hg1 hG1 hat))
        go_roundw
        case measure => simp [intOf]; omega
        case rel =>
          refine ⟨k + 1, by omega, ?_, by go_num, ?_, ?_⟩
          · rw [Int.pow_succ, Int.ediv_ediv_of_nonneg (Int.le_of_lt (Int.pow_pos (by decide)))]
          · refine IsW.setOut (y := x.add (le k v)) ?_ HQ.out HS.out HO.out (Kd.R_over HB.out HA.out (by decide) HG1.out)
            simp [Wr.add, le_snoc]
          · exact (hF.grown HG1.out (fun i hi => (HA.out.1 i hi).1)).set (p := ⟨g, 0, none⟩) HS.out _
      · obtain rfl : k = n := by omega
        go_wp2
        go_end0
        exact ⟨rfl, by rw [Wr.put, if_pos HR.out]; exact hW, hF⟩
theorem IsW.cells {w : World} {g : Nat} {S : Nat → Prop} {x : Wr} (h : IsW w g S x) : ∃ A c B d, w.cell? ⟨g, 0, none⟩ = some (.slice A x.out.length c) ∧ w.cell? ⟨g, 1, none⟩ = some (.int .i64 x.limit) ∧ w.cell? ⟨g, 2, none⟩ = some (.slice B x.opn.length d) ∧
    w.cell? ⟨g, 3, none⟩ = some (.int .i64 x.err) ∧ w.frozen? ⟨g, 0, none⟩ = false ∧ w.frozen? ⟨g, 2, none⟩ = false ∧ w.frozen? ⟨g, 3, none⟩ = false ∧ g < w.heap.size ∧ S g ∧
    Hid (w.heap[g]? = some (.cells #[.slice A x.out.length c, .int .i64 x.limit, .slice B x.opn.length d, .int .i64 x.err] 89 (0, 0))) ∧
    Hid (Kd.R (Kd.int .u8) 5 w 0 (fun k => S k ∧ k ≠ g) (.slice A x.out.length c) x.out) ∧ Hid (Kd.R (Kd.int .i64) 3 w 0 (fun k => S k ∧ k ≠ g) (.slice B x.opn.length d) x.opn) := by
  obtain ⟨A, c, B, d, hg, hS, hA, hB⟩ := h
  exact ⟨A, c, B, d, (blk_cell hg 0).trans rfl, (blk_cell hg 1).trans rfl, (blk_cell hg 2).trans rfl, (blk_cell hg 3).trans rfl, blk_frozen hg 0, blk_frozen hg 2, blk_frozen hg 3, blk_lt hg, hS, Lib.hid hg, Lib.hid hA, Lib.hid hB⟩
end Go.Proofs.Ytoebhddgpicegaa
namespace Go.Proofs.Ytoebhddgpicegaa
open Go.RowKit Go.Proofs.YtoebhddgpicegaaW.PrintWords
def Wr.open_ (x : Wr) : Wr := if x.err ≠ 0 then x else if x.opn.length = 4 then { x with err := 23 } else { x with opn := x.opn ++ [(x.out.length : Int)] }
theorem IsW.setOpn {w : World} {g : Nat} {S : Nat → Prop} {x y : Wr} {b : Int} {A B B1 : Option Addr} {c d d1 : Nat} (hx : x = { y with opn := y.opn ++ [b] })
    (hg : w.heap[g]? = some (.cells #[.slice A y.out.length c, .int .i64 y.limit, .slice B y.opn.length d, .int .i64 y.err] 89 (0, 0))) (hS : S g)
    (hA : Kd.R (Kd.int .u8) 5 w 0 (fun k => S k ∧ k ≠ g) (.slice A y.out.length c) y.out) (hB : Kd.R (Kd.int .i64) 3 w 0 (fun k => S k ∧ k ≠ g) (.slice B1 (y.opn ++ [b]).length d1) (y.opn ++ [b])) :
    IsW (w.setCell ⟨g, 2, none⟩ (.slice B1 (y.opn.length + 1) d1)) g S x := by
  subst hx
  rw [show y.opn.length + 1 = (y.opn ++ [b]).length by simp] at *
  exact ⟨A, c, B1, d1, blk_set hg 2 _, hS, R_setg hA _ _, R_setg hB _ _⟩
set_option maxHeartbeats 1000000 in
theorem open_calls (w : World) (g : Nat) (S : Nat → Prop) (x : Wr) (hx : x.Wf) (hw : IsW w g S x) :
    Calls Try.prog 47 #[.pointer (some ⟨g, 0, none⟩)] w fun e w' => e = .returned (.tuple #[]) ∧ IsW w' g (Nw S w) x.open_ ∧ Frm S w w' := by
  have HW := Lib.hid hw
  obtain ⟨A, c, B, d, c0, _, c2, c3, _, f2, f3, hsz, hS, HG, HA, HB⟩ := hw.cells
  have hn := hx.nest
  have hl := hx.len
  have hm := hx.lim
  clear hw hx
  by_cases h0 : x.err = 0
  · by_cases h4 : x.opn.length = 4
    · have h4' : ((x.opn.length : Int) == 4) = true := by simp [h4]
      have H4 := Lib.hid h4
      clear h4
      go_enter Try.func47, Try.ntmps47
      go_wp2
      go_end0
      exact ⟨rfl, by rw [Wr.open_, if_neg (by simp [h0]), if_pos H4.out]; exact (HW.out.setErr 23).mono (fun _ h => .inl h), (Frm.refl S w).set (p := ⟨g, 3, none⟩) (.inl hS) _⟩
    · have h4' : ((x.opn.length : Int) == 4) = false := by simp; omega
      have H4 := Lib.hid h4
      clear h4
      go_enter Try.func47, Try.ntmps47
      go_wp2
      go_region_law (first | (refine app_step (Kd.int .i64) (W := w.drew) (.tmp 6) (.tmp 12) 72 3 (.int .i64 0) 8 (by rfl) rfl Try.underlying72 info_int rfl (by decide) (by decide) (.slice B x.opn.length d) x.opn (x.out.length : Int) [.int .i64 (x.out.length : Int)] (fun k_ => Nw S w k_ ∧ k_ ≠ g) (fun _ => False) rfl rfl rfl rfl (fun _ hk => hk.elim) ?aF ?aO ?aL ?_; (case aF => exact fun i hi => ⟨.inr hi, fun e => by subst e; exact absurd hsz (Nat.not_lt.2 hi)⟩); (case aO => exact Kd.R_drew (Kd.R_mono HB.out (fun i hi => ⟨.inl hi.1, hi.2⟩))); (case aL => omega); intro v1 w1 ho hg1; obtain ⟨B1, d1, rfl, hl1, _⟩ := Kd.R_reads ho; have hG1 := blk_grown (w := w.drew) HG.out hg1 (fun e => (HB.out.1 g e.symm).2 rfl); have c21 := (blk_cell hG1 2).trans rfl; have f21 := blk_frozen hG1 2; simp at c21; have HO := Lib.hid ho; have HG1 := Lib.hid hg1; have HQ := Lib.hid hG1; clear ho hg1 hG1))
      all_goals
        go_wp2
        go_end0
        refine ⟨rfl, IsW.setOpn (y := x) ?_ HQ.out (.inl hS) (Kd.R_over (Kd.R_drew (Kd.R_mono HA.out (fun i hi => ⟨.inl hi.1, hi.2⟩))) (Kd.R_drew HB.out) (by decide) HG1.out) HO.out, (((Frm.refl S w).drew).grown HG1.out (fun i hi => .inl (HB.out.1 i hi).1)).set (p := ⟨g, 2, none⟩) (.inl hS) _⟩
        rw [Wr.open_, if_neg (by simp [h0]), if_neg H4.out]
  · have h0' : (x.err == 0) = false := by simp [h0]
    go_enter Try.func47, Try.ntmps47
    go_wp2
    go_end0
    exact ⟨rfl, by rw [Wr.open_, if_pos h0]; exact HW.out.mono (fun _ h => .inl h), Frm.refl S w⟩
end Go.Proofs.Ytoebhddgpicegaa
namespace Go.Proofs.Ytoebhddgpicegaa
open Go.RowKit Go.Proofs.YtoebhddgpicegaaW.PrintWords
/-- A cut from a place on. -/
theorem cutF {P : Program} {k : IntKind} (t e : TypeId) (ht : P.underlying t = some (.slice e)) (hi : ∃ i, P.info? e = some i ∧ i.size = 1) {A : Option Addr} {c : Nat} {l : List Int} (hl : l.length ≤ c) (j : Int) (h0 : 0 ≤ j) (hj : j ≤ l.length) :
    ∃ A' c' m, Hid (l.drop j.toNat = m) ∧ (∀ W : World, (Instr.slice t (.slice A l.length c) (some (.int .i64 j)) none none).run P W = .ok (.slice A' m.length c') W) ∧ (∀ w, Kd.C (Kd.int k) w A l.length l → Kd.C (Kd.int k) w A' m.length m) ∧
      m.length ≤ c' ∧ ∀ a, A' = some a → ∃ b, A = some b ∧ b.block = a.block := by
  obtain ⟨i, hi, hs⟩ := hi
  refine ⟨_, c - j.toNat, _, Lib.hid rfl, fun W => ?_, fun w h => Kd.C_drop h (by omega) hl, ?_, ?_⟩
  · have := cut_from (P := P) t e .i64 ht hi 1 hs A l.length c j h0 hj W
    simpa [Kd.int, Kd.scalar] using this
  · simp; omega
  · intro a ha
    split at ha
    · exact ⟨a, ha, rfl⟩
    · cases A with
      | none => cases ha
      | some b => obtain rfl := Option.some.inj ha; exact ⟨b, rfl, (add_block _ _).symm⟩
theorem info1_u8 : ∃ i, Try.prog.info? 5 = some i ∧ i.size = 1 := by
  obtain ⟨i, hi, _, hz, _⟩ := info_parts info_u8; exact ⟨i, hi, hz⟩
theorem info1_int : ∃ i, Try.prog.info? 3 = some i ∧ i.size = 1 := by
  obtain ⟨i, hi, _, hz, _⟩ := info_parts info_int; exact ⟨i, hi, hz⟩
theorem u32_calls (w : World) (g : Nat) (S : Nat → Prop) (x : Wr) (hx : x.Wf) (hw : IsW w g S x) (v : Int) (hv : 0 ≤ v ∧ v < 4294967296) :
    Calls Try.prog 37 #[.pointer (some ⟨g, 0, none⟩), .int .u32 v] w fun e w' => e = .returned (.tuple #[]) ∧ IsW w' g (Nw S w) (x.put v 4) ∧ Frm S w w' := by
  go_enter Try.func37, Try.ntmps37
  go_wp2_with fail
  refine (put_calls w g S x hx hw v (by omega) 4 (by omega)).mono ?_
  rintro e w' ⟨rfl, h1, h2⟩
  go_wp2
  go_end0
  exact ⟨rfl, h1, h2⟩
/-- A number of 64 bits, as it is written. -/
def u64 (v : Int) : Int := v % 18446744073709551616
theorem u64_calls (w : World) (g : Nat) (S : Nat → Prop) (x : Wr) (hx : x.Wf) (hw : IsW w g S x) (v : Int) :
    Calls Try.prog 36 #[.pointer (some ⟨g, 0, none⟩), .int .i64 v] w fun e w' => e = .returned (.tuple #[]) ∧ IsW w' g (Nw S w) (x.put (u64 v) 8) ∧ Frm S w w' := by
  have hu : 0 ≤ u64 v ∧ u64 v < 18446744073709551616 := by unfold u64; omega
  go_enter Try.func36, Try.ntmps36
  go_wp2_with fail
  refine (put_calls w g S x hx hw (u64 v) hu 8 (by omega)).mono ?_
  rintro e w' ⟨rfl, h1, h2⟩
  go_wp2
  go_end0
  exact ⟨rfl, h1, h2⟩
def newW (n : Int) : Wr := { out := [], limit := max 0 (min n 1048576), opn := [], err := 0 }
theorem newW_wf (n : Int) : (newW n).Wf := ⟨(fun _ h => by cases h), by unfold newW; dsimp only; omega, by unfold newW; dsimp only [List.length_nil]; omega, by unfold newW; simp, fun _ h => by cases h⟩
theorem new_calls (n : Int) (h0 : 0 ≤ n) (h1 : n ≤ 1048576) (w : World) :
    Calls Try.prog 30 #[.int .i64 n] w fun e w' => e = .returned (.pointer (some ⟨w.heap.size, 0, none⟩)) ∧ IsW w' w.heap.size (Nw Nun w) (newW n) ∧ Frm Nun w w' := by
  go_enter Try.func30, Try.ntmps30
  go_wp2
  all_goals
    go_ret
    refine ⟨rfl, ⟨none, 0, none, 0, ?_, .inr (Nat.le_refl _), Kd.R_nil _ _ _ _ _, Kd.R_nil _ _ _ _ _⟩, (Frm.refl _ _).alloc _⟩
    rw [heap_alloc_new]
    simp [newW]
    try omega
def Wr.told (x : Wr) : List Int × Int := if x.err ≠ 0 then ([], x.err) else if x.opn.length > 0 then ([], 23) else (x.out, 0)
set_option maxHeartbeats 400000 in
theorem out_calls (w : World) (g : Nat) (S : Nat → Prop) (x : Wr) (hx : x.Wf) (hw : IsW w g S x) :
    Calls Try.prog 32 #[.pointer (some ⟨g, 0, none⟩)] w fun e w' => ∃ v, e = .returned (.tuple #[v, .int .i64 x.told.2]) ∧ Kd.R (Kd.int .u8) 5 w' 0 (Nw Nun w) v x.told.1 ∧ Frm Nun w w' := by
  have HW := Lib.hid hw
  obtain ⟨A, c, B, d, c0, _, c2, c3, _, _, _, hsz, hS, HG, HA, HB⟩ := hw.cells
  have hl := hx.len
  have hm := hx.lim
  clear hw hx
  by_cases h0 : x.err = 0
  · by_cases h4 : x.opn.length = 0
    · have T := Lib.hid (show x.told = (x.out, 0) by rw [Wr.told, if_neg (by simp [h0]), if_neg (by omega)])
      have h4' : decide (0 < x.opn.length) = false := decide_eq_false (by omega)
      have HL : (([] : List Int).length + x.out.length) * 1 ≤ 140737488355328 := by rw [List.length_nil]; omega
      rw [T.out]
      go_enter Try.func32, Try.ntmps32
      go_wp2_with (first | ((with_reducible refine gate_builtin (b := .append) (xs := #[.const (.slice none 0 0), .tmp 22]) rfl ?_); at_builtin; refine app_ints .u8 (.const (.slice none 0 0)) (.tmp 22) 22 5 1 rfl rfl Try.underlying22 info_u8 (by decide) (.slice none 0 0) [] x.out A x.out.length c (Nw Nun w) rfl rfl (Kd.R_nil _ _ _ _ _) ?aR (fun i hi => .inr hi) ?aL ?_; (case aR => exact (Kd.R_reads' HA.out).2.2); (case aL => exact HL); intro v1 w1 ho hg1; have HO := Lib.hid ho; have HG1 := Lib.hid hg1; clear ho hg1))
      go_ret2
      exact ⟨_, rfl, HO.out, (Frm.refl _ _).grown HG1.out (fun i hi => by cases hi)⟩
    · have T := Lib.hid (show x.told = ([], 23) by rw [Wr.told, if_neg (by simp [h0]), if_pos (by omega)])
      have h4' : decide (0 < x.opn.length) = true := decide_eq_true (by omega)
      rw [T.out]
      go_enter Try.func32, Try.ntmps32
      go_wp2
      go_ret2
      exact ⟨_, rfl, Kd.R_nil _ _ _ _ _, Frm.refl _ _⟩
  · have T := Lib.hid (show x.told = ([], x.err) by rw [Wr.told, if_pos h0])
    have h0' : (x.err != 0) = true := by simp [h0]
    rw [T.out]
    go_enter Try.func32, Try.ntmps32
    go_wp2
    go_quiet (fail)
    go_wp2
    go_ret2
    exact ⟨_, rfl, Kd.R_nil _ _ _ _ _, (Frm.refl _ _).drewN _⟩
end Go.Proofs.Ytoebhddgpicegaa
namespace Go.Proofs.Ytoebhddgpicegaa
open Go.RowKit Go.Proofs.YtoebhddgpicegaaW.PrintWords
def Wr.seal (x : Wr) : Wr :=
  if x.err ≠ 0 then x else if x.opn.length = 0 then { x with err := 23 } else if x.hasRoom 4 = true then
    { x.put (vn (crc (x.out.drop (x.opn.getD (x.opn.length - 1) 0).toNat))) 4 with opn := x.opn.take (x.opn.length - 1) }
  else x.room 4
theorem IsW.cutOpn {w : World} {g : Nat} {S : Nat → Prop} {x y : Wr} {m : Nat} {A B : Option Addr} {c d : Nat} (hm : m ≤ y.opn.length) (hx : x = { y with opn := y.opn.take m })
    (hg : w.heap[g]? = some (.cells #[.slice A y.out.length c, .int .i64 y.limit, .slice B y.opn.length d, .int .i64 y.err] 89 (0, 0))) (hS : S g)
    (hA : Kd.R (Kd.int .u8) 5 w 0 (fun k => S k ∧ k ≠ g) (.slice A y.out.length c) y.out) (hB : Kd.R (Kd.int .i64) 3 w 0 (fun k => S k ∧ k ≠ g) (.slice B y.opn.length d) y.opn) :
    IsW (w.setCell ⟨g, 2, none⟩ (.slice B m d)) g S x := by
  subst hx
  have e : (y.opn.take m).length = m := by simp; omega
  refine ⟨A, c, B, d, ?_, hS, R_setg hA _ _, ?_⟩
  · dsimp only
    rw [e]; exact blk_set hg 2 _
  · dsimp only
    rw [e]; exact R_setg (Kd.R_take hB hm) _ _
set_option maxHeartbeats 1000000 in
set_option maxRecDepth 100000 in
theorem seal_calls (w : World) (g : Nat) (S : Nat → Prop) (x : Wr) (hx : x.Wf) (hw : IsW w g S x) :
    Calls Try.prog 48 #[.pointer (some ⟨g, 0, none⟩)] w fun e w' => e = .returned (.tuple #[]) ∧ IsW w' g (Nw S w) x.seal ∧ Frm S w w' := by
  have HW := Lib.hid hw
  have HX := Lib.hid hx
  have hr := room_calls w g S x hx hw 4
  obtain ⟨A, c, B, d, c0, _, c2, c3, _, f2, f3, hsz, hS, HG, HA, HB⟩ := hw.cells
  have hn := hx.nest
  have hl := hx.len
  have hm := hx.lim
  clear hw hx
  by_cases h0 : x.err = 0
  · by_cases h4 : x.opn.length = 0
    · have h4' : ((x.opn.length : Int) == 0) = true := by rw [beq_iff_eq]; omega
      have T := Lib.hid (show x.seal = { x with err := 23 } by rw [Wr.seal, if_neg (by simp [h0]), if_pos h4])
      clear h4 hr
      go_enter Try.func48, Try.ntmps48
      go_wp2
      go_end0
      exact ⟨rfl, by rw [T.out]; exact (HW.out.setErr 23).mono (fun _ h => .inl h), (Frm.refl S w).set (p := ⟨g, 3, none⟩) (.inl hS) _⟩
    · have h4' : ((x.opn.length : Int) == 0) = false := by rw [beq_eq_false_iff_ne]; omega
      cases hR : x.hasRoom 4
      · have T := Lib.hid (show x.seal = x.room 4 by rw [Wr.seal, if_neg (by simp [h0]), if_neg h4, if_neg (by rw [hR]; simp)])
        rw [hR] at hr
        have HC := Lib.hid hr
        clear hr hR
        go_enter Try.func48, Try.ntmps48
        go_wp2_with fail
        refine HC.out.mono ?_
        rintro e w' ⟨rfl, h1, h2⟩
        go_wp2
        go_end0
        exact ⟨rfl, by rw [T.out]; exact h1.mono (fun _ h => .inl h), h2⟩
      · have T := Lib.hid (show x.seal = { x.put (vn (crc (x.out.drop (x.opn.getD (x.opn.length - 1) 0).toNat))) 4 with opn := x.opn.take (x.opn.length - 1) } by rw [Wr.seal, if_neg (by simp [h0]), if_neg h4, if_pos hR])
        rw [hR, Wr.room_yes hR] at hr
        have HC := Lib.hid hr
        clear hr hR
        go_enter Try.func48, Try.ntmps48
        go_wp2_with fail
        refine HC.out.mono ?_
        rintro e w1 ⟨rfl, h1, h2⟩
        clear c0 c2 c3 f2 f3 HG HA HB hsz
        obtain ⟨A, c, B, d, c0, _, c2, c3, _, f2, f3, hsz, _, HG, HA, HB⟩ := h1.cells
        have H1 := Lib.hid h1
        clear h1
        obtain ⟨bd, o, rfl, co, ho⟩ := at_int (Kd.R_reads' HB.out).2.2 (x.opn.length - 1) (by omega)
        have ho2 := HX.out.opn o (by rw [← ho.out, getD_at (by omega)]; exact List.getElem_mem _)
        obtain ⟨A', c', m, hmm, hsl, hC, hl', _⟩ := cutF (P := Try.prog) (k := .u8) 22 5 Try.underlying22 info1_u8 (A := A) (c := c) (l := x.out) (Kd.R_reads' HA.out).2.1 o ho2.1 ho2.2
        have HL := Lib.hid hl'
        have hs := sum_calls A' c' m (by rw [← hmm.out]; exact HX.out.byt.drop o.toNat) w1.drew (hC _ (Kd.C_drew (Kd.R_reads' HA.out).2.2)) (by rw [← hmm.out, List.length_drop]; omega)
        have HS := Lib.hid hs
        have HCC := Lib.hid hC
        have hb1 : (1 : Int) ≤ (x.opn.length : Int) := by omega
        have hb2 : (x.opn.length : Int) - 1 < (x.opn.length : Int) := by omega
        clear hs hC hl'
        go_wp2
        refine wp_region_still_tail 14 (by kernel_rfl) (by kernel_rfl) ?_
        simp only [List.take_succ_cons, List.take_zero, List.drop_succ_cons, List.drop_zero]
        repeat still_step
        still_call (HS.out.mono (fun _ _ h => ⟨h.1, h.2.symm⟩))
        repeat still_step
        refine wpStill_nil ?_
        change wpList _ _ _ _ _ w1.drew
        have h3 : IsW w1.drew g S x := H1.out.drewN 1
        have h4 : Frm S w w1.drew := h2.drew
        clear hsl c0 c2 c3 f2 f3 HG HA HB hsz
        generalize w1.drew = w2 at h3 h4 ⊢
        go_wp2_with fail
        refine (u32_calls w2 g S x HX.out h3 _ (vn_range _)).mono ?_
        rintro e w3 ⟨rfl, h5, h6⟩
        have hop : (x.put (vn (crc m)) 4).opn = x.opn := by unfold Wr.put; split <;> first | rfl | (unfold Wr.room; split <;> rfl)
        obtain ⟨A, c, B, d, c0, _, c2, c3, _, f2, f3, hsz, hS3, HG, HA, HB⟩ := h5.cells
        rw [hop] at c2
        have HP := Lib.hid hop
        have hct := cut_to (P := Try.prog) 72 3 .i64 Try.underlying72 (info_parts info_int).choose_spec.1 B x.opn.length d ((x.opn.length : Int) - 1) (by omega) (by omega) (by rw [← hop]; exact (Kd.R_reads' HB.out).2.1)
        clear hop
        go_wp2
        go_end0
        refine ⟨rfl, ?_, ?_⟩
        · rw [T.out, ho.out, hmm.out]
          exact (IsW.cutOpn (y := x.put (vn (crc m)) 4) (by rw [HP.out]; omega) (by rw [HP.out]) HG.out hS3 HA.out HB.out).mono (Nw.mono (fun _ h => h) h4.size)
        · exact (h4.trans h6 (fun _ h => .inl h)).set (p := ⟨g, 2, none⟩) (.inl hS) _
  · have T := Lib.hid (show x.seal = x by rw [Wr.seal, if_pos h0])
    have h0' : (x.err != 0) = true := by simp [h0]
    clear hr
    go_enter Try.func48, Try.ntmps48
    go_wp2
    go_end0
    exact ⟨rfl, by rw [T.out]; exact HW.out.mono (fun _ h => .inl h), Frm.refl _ _⟩
end Go.Proofs.Ytoebhddgpicegaa
namespace Go.Proofs.Ytoebhddgpicegaa
open Go.RowKit Go.Proofs.YtoebhddgpicegaaW.PrintWords
/-- A reader: the bytes, the place, the first error. -/
structure Rd where
  inp : List Int
  pos : Int
  err : Int
structure Rd.Wf (r : Rd) : Prop where
  byt : Byt r.inp
  lo : 0 ≤ r.pos
  hi : r.pos ≤ r.inp.length
  len : r.inp.length ≤ 140737488355328
def Rd.left (r : Rd) : Int := r.inp.length - r.pos
def IsR (w : World) (g : Nat) (S : Nat → Prop) (r : Rd) : Prop :=
  ∃ A c, w.heap[g]? = some (.cells #[.slice A r.inp.length c, .int .i64 r.pos, .int .i64 r.err] 97 (0, 0)) ∧ S g ∧ Kd.R (Kd.int .u8) 5 w 0 (fun k => S k ∧ k ≠ g) (.slice A r.inp.length c) r.inp
section
variable {w w1 : World} {g : Nat} {S S' : Nat → Prop} {r : Rd}
theorem IsR.frm (h : IsR w g S r) (hf : Frm S' w w1) (hn : ∀ k, S k → ¬ S' k) : IsR w1 g S r := by
  obtain ⟨A, c, h1, h2, h3⟩ := h
  exact ⟨A, c, hf.blk h1 (hn g h2), h2, R_frm h3 hf (fun k hk => hn k hk.1)⟩
theorem IsR.mono (h : IsR w g S r) (hn : ∀ k, S k → S' k) : IsR w g S' r := by
  obtain ⟨A, c, h1, h2, h3⟩ := h
  exact ⟨A, c, h1, hn _ h2, Kd.R_mono h3 (fun k hk => ⟨hn k hk.1, hk.2⟩)⟩
theorem IsR.drewN (h : IsR w g S r) (n : Nat) : IsR (w.drewN n) g S r := h
theorem IsR.setErr (h : IsR w g S r) (e : Int) : IsR (w.setCell ⟨g, 2, none⟩ (.int .i64 e)) g S { r with err := e } := by
  obtain ⟨A, c, h1, h2, h3⟩ := h
  exact ⟨A, c, blk_set h1 2 _, h2, R_setg h3 _ _⟩
theorem IsR.setPos (h : IsR w g S r) (e : Int) : IsR (w.setCell ⟨g, 1, none⟩ (.int .i64 e)) g S { r with pos := e } := by
  obtain ⟨A, c, h1, h2, h3⟩ := h
  exact ⟨A, c, blk_set h1 1 _, h2, R_setg h3 _ _⟩
theorem IsR.cells (h : IsR w g S r) : ∃ A c, w.cell? ⟨g, 0, none⟩ = some (.slice A r.inp.length c) ∧ w.cell? ⟨g, 1, none⟩ = some (.int .i64 r.pos) ∧ w.cell? ⟨g, 2, none⟩ = some (.int .i64 r.err) ∧
    w.frozen? ⟨g, 1, none⟩ = false ∧ w.frozen? ⟨g, 2, none⟩ = false ∧ g < w.heap.size ∧ S g ∧ r.inp.length ≤ c ∧ Hid (Kd.C (Kd.int .u8) w A r.inp.length r.inp) ∧ Hid (∀ a, A = some a → S a.block ∧ a.block ≠ g) := by
  obtain ⟨A, c, hg, hS, hA⟩ := h
  refine ⟨A, c, (blk_cell hg 0).trans rfl, (blk_cell hg 1).trans rfl, (blk_cell hg 2).trans rfl, blk_frozen hg 1, blk_frozen hg 2, blk_lt hg, hS, (Kd.R_reads' hA).2.1, Lib.hid (Kd.R_reads' hA).2.2, Lib.hid ?_⟩
  rintro a rfl
  exact hA.1 _ rfl
end
theorem left_calls (w : World) (g : Nat) (S : Nat → Prop) (r : Rd) (hr : r.Wf) (hw : IsR w g S r) :
    Calls Try.prog 44 #[.pointer (some ⟨g, 0, none⟩)] w fun e w' => e = .returned (.int .i64 r.left) ∧ Drawn0 w w' := by
  obtain ⟨A, c, c0, c1, c2, f1, f2, hsz, hS, hc, HC, HB⟩ := hw.cells
  have h1 := hr.lo
  have h2 := hr.hi
  have h3 := hr.len
  clear hr
  go_enter Try.func44, Try.ntmps44
  go_wp2
  go_quiet (fail)
  go_wp2
  go_ret
  exact ⟨rfl, ⟨_, rfl⟩⟩
def Rd.can (r : Rd) (n : Int) : Bool := r.err == 0 && (decide (0 ≤ n) && decide (n ≤ r.left))
/-- Are n bytes left; if not, the error stays. -/
def Rd.has (r : Rd) (n : Int) : Rd := if r.err ≠ 0 then r else if n < 0 then { r with err := 1 } else if r.left < n then { r with err := 20 } else r
theorem Rd.has_yes {r : Rd} {n : Int} (h : r.can n = true) : r.has n = r := by
  simp [Rd.can] at h
  rw [Rd.has, if_neg (by simp [h.1]), if_neg (by omega), if_neg (by omega)]
theorem has_calls (w : World) (g : Nat) (S : Nat → Prop) (r : Rd) (hr : r.Wf) (hw : IsR w g S r) (n : Int) :
    Calls Try.prog 60 #[.pointer (some ⟨g, 0, none⟩), .int .i64 n] w fun e w' => e = .returned (.bool (r.can n)) ∧ IsR w' g S (r.has n) ∧ Frm S w w' := by
  have HW := Lib.hid hw
  have hl := left_calls w g S r hr hw
  have HL := Lib.hid hl
  obtain ⟨A, c, c0, c1, c2, f1, f2, hsz, hS, hc, HC, HB⟩ := hw.cells
  clear hr hl hw
  by_cases h0 : r.err = 0
  · have h0' : (r.err != 0) = false := by simp [h0]
    by_cases hn : n < 0
    · go_enter Try.func60, Try.ntmps60
      go_wp2
      go_ret
      exact ⟨ret_bool (by simp [Rd.can, h0]; omega), by rw [Rd.has, if_neg (by simp [h0]), if_pos (by omega)]; exact HW.out.setErr 1, (Frm.refl S w).set (p := ⟨g, 2, none⟩) (.inl hS) _⟩
    · by_cases hlt : r.left < n
      · have hlt' : decide (r.left < n) = true := decide_eq_true hlt
        go_enter Try.func60, Try.ntmps60
        go_wp2_with fail
        refine HL.out.mono ?_
        rintro e w1 ⟨rfl, ⟨m, rfl⟩⟩
        go_wp2
        go_ret
        exact ⟨ret_bool (by simp [Rd.can, h0]; omega), by rw [Rd.has, if_neg (by simp [h0]), if_neg (by omega), if_pos (by omega)]; exact (HW.out.drewN m).setErr 20, ((Frm.refl S w).drewN m).set (p := ⟨g, 2, none⟩) (.inl hS) _⟩
      · have hlt' : decide (r.left < n) = false := decide_eq_false hlt
        go_enter Try.func60, Try.ntmps60
        go_wp2_with fail
        refine HL.out.mono ?_
        rintro e w1 ⟨rfl, ⟨m, rfl⟩⟩
        go_wp2
        go_ret
        exact ⟨ret_bool (by simp [Rd.can, h0]; omega), by rw [Rd.has, if_neg (by simp [h0]), if_neg (by omega), if_neg (by omega)]; exact HW.out.drewN m, (Frm.refl S w).drewN m⟩
  · have h0' : (r.err != 0) = true := by simp [h0]
    go_enter Try.func60, Try.ntmps60
    go_wp2
    go_ret
    exact ⟨ret_bool (by simp [Rd.can, h0]), by rw [Rd.has, if_pos h0]; exact HW.out, Frm.refl _ _⟩
end Go.Proofs.Ytoebhddgpicegaa
namespace Go.Proofs.Ytoebhddgpicegaa
open Go.RowKit Go.Proofs.YtoebhddgpicegaaW.PrintWords
/-- The number of bytes, lowest first. -/
def fle (l : List Int) : Int := l.foldr (fun b v => b + 256 * v) 0
theorem pow_mono {m n : Nat} (h : m ≤ n) : (256 : Int) ^ m ≤ 256 ^ n := by
  have e : ∀ m : Nat, (256 : Int) ^ m = ((256 ^ m : Nat) : Int) := fun m => by rw [Int.natCast_pow]; rfl
  rw [e, e]
  exact Int.ofNat_le.2 (Nat.pow_le_pow_right (by decide) h)
theorem fle_range {l : List Int} (h : Byt l) : 0 ≤ fle l ∧ fle l < 256 ^ l.length := by
  induction l with
  | nil => exact ⟨Int.le_refl _, by decide⟩
  | cons b l ih =>
    have h1 := h b (List.mem_cons_self ..)
    have h2 := ih (fun x hx => h x (List.mem_cons_of_mem _ hx))
    have : fle (b :: l) = b + 256 * fle l := rfl
    rw [this, List.length_cons, Int.pow_succ]
    omega
theorem fle_drop {l : List Int} {j : Nat} (h : j < l.length) : fle (l.drop j) = l.getD j 0 + 256 * fle (l.drop (j + 1)) := by
  rw [List.drop_eq_getElem_cons h, getD_at h]; rfl
/-- What lies behind the place: n bytes. -/
def Rd.run (r : Rd) (n : Nat) : List Int := (r.inp.drop r.pos.toNat).take n
def Rd.skip (r : Rd) (n : Int) : Rd := if r.can n = true then { r with pos := r.pos + n } else r.has n
def Rd.num (r : Rd) (n : Nat) : Int := if r.can n = true then fle (r.run n) else 0
theorem or_byte {x y : Int} (hx0 : 0 ≤ x) (hx : x < 72057594037927936) (hy : 0 ≤ y ∧ y < 256) : Go.bits .or .u64 (x * 256) y = x * 256 + y :=
  bits_join .u64 64 (by decide) (fun n h0 h1 => by
    have : IntKind.u64.wrap n = n % 18446744073709551616 := by simp [IntKind.wrap, IntKind.bits, IntKind.signed]
    rw [this]; exact Int.emod_eq_of_lt h0 (by simpa using h1)) 8 _ _ (by omega) (by omega) (by omega) hy.1 (by omega) (by omega)
set_option maxHeartbeats 1000000 in
set_option maxRecDepth 100000 in
theorem take_calls (w : World) (g : Nat) (S : Nat → Prop) (r : Rd) (hr : r.Wf) (hw : IsR w g S r) (n : Nat) (hn : n ≤ 8) :
    Calls Try.prog 63 #[.pointer (some ⟨g, 0, none⟩), .int .i64 n] w fun e w' => e = .returned (.int .u64 (r.num n)) ∧ IsR w' g S (r.skip n) ∧ Frm S w w' := by
  have hh := has_calls w g S r hr hw n
  have HX := Lib.hid hr
  clear hw
  cases hR : r.can n
  · rw [hR] at hh
    have HH := Lib.hid hh
    have E := Lib.hid hR
    clear hR hh hr
    go_enter Try.func63, Try.ntmps63
    go_wp2_with fail
    refine HH.out.mono ?_
    rintro e w1 ⟨rfl, h1, h2⟩
    go_wp2
    go_ret
    exact ⟨ret_int (by rw [Rd.num, if_neg (by rw [E.out]; simp)]), by rw [Rd.skip, if_neg (by rw [E.out]; simp)]; exact h1, h2⟩
  · rw [hR, Rd.has_yes hR] at hh
    have HH := Lib.hid hh
    have E := Lib.hid hR
    have hc : r.err = 0 ∧ (n : Int) ≤ r.inp.length - r.pos := by
      simp only [Rd.can, Bool.and_eq_true, beq_iff_eq, decide_eq_true_eq] at hR; exact ⟨hR.1, hR.2.2⟩
    have hp := hr.lo
    have hl := hr.len
    have hc2 := hc.2
    have hlen : (r.run n).length = n := by unfold Rd.run; rw [List.length_take, List.length_drop]; omega
    have hbyt : Byt (r.run n) := (hr.byt.drop _).take _
    have HLen := Lib.hid hlen
    have HByt := Lib.hid hbyt
    clear hR hh hr hc hlen hbyt
    go_enter Try.func63, Try.ntmps63
    go_wp2_with fail
    refine HH.out.mono ?_
    rintro e w1 ⟨rfl, h1, h2⟩
    have H1 := Lib.hid h1
    obtain ⟨A, c, c0, c1, c2, f1, f2, hsz, hS, hc, HC, HB⟩ := h1.cells
    clear h1
    go_wp2
    go_loopw [5, 6] (fun v i wr => ∃ j : Nat, j ≤ n ∧ i = .int .i64 ((j : Int) - 1) ∧ v = .int .u64 (fle ((r.run n).drop j)) ∧ Drawn0 w1 wr) (fun _ i _ => (intOf i + 1).toNat)
    case atStart => exact ⟨n, Nat.le_refl _, rfl, by rw [List.drop_of_length_le (Nat.le_of_eq HLen.out)]; rfl, Drawn0.refl _⟩
    case round =>
      obtain ⟨j, hj, rfl, rfl, ⟨m, rfl⟩⟩ := hrel
      by_cases hlt : 0 < j
      · obtain ⟨q, rfl⟩ : ∃ q : Nat, j = q + 1 := ⟨j - 1, by omega⟩
        have hgj : (r.run n).getD q 0 = r.inp.getD (r.pos.toNat + q) 0 := by
          unfold Rd.run
          rw [List.getD_eq_getElem?_getD, List.getD_eq_getElem?_getD, List.getElem?_take_of_lt (by omega), List.getElem?_drop]
        obtain ⟨ad, b, rfl, cb, hb⟩ := at_int HC.out (r.pos.toNat + q) (by omega)
        have hbr : 0 ≤ b ∧ b < 256 := by rw [← hb.out]; exact HX.out.byt.get (by omega)
        have hfr := fle_range (HByt.out.drop (q + 1))
        have hfd := fle_drop (l := r.run n) (j := q) (by rw [HLen.out]; omega)
        rw [hgj, hb.out] at hfd
        have hpw : fle ((r.run n).drop (q + 1)) < 72057594037927936 := by
          refine Int.lt_of_lt_of_le hfr.2 ?_
          rw [List.length_drop, HLen.out]
          have : n - (q + 1) ≤ 7 := by omega
          have e : (72057594037927936 : Int) = 256 ^ 7 := by decide
          rw [e]; exact pow_mono this
        have hf0 := hfr.1
        have HFD := Lib.hid hfd
        have HOR := Lib.hid (or_byte hf0 hpw hbr)
        have hx : r.pos.toNat + q = (r.pos + (q : Int)).toNat := by omega
        rw [hx] at cb
        have i1 : 0 ≤ r.pos + (q : Int) := by omega
        have i2 : r.pos + (q : Int) < (r.inp.length : Int) := by omega
        clear hgj hfd hfr hx
        generalize hfv : fle ((r.run n).drop (q + 1)) = fv at *
        clear hfv
        have s1 : IntKind.i64.wrap (r.pos + (q : Int)) = r.pos + (q : Int) := IntWalk.i64_in _ (by omega)
        have s2 : IntKind.u64.wrap (fv * 256) = fv * 256 := IntWalk.u64_in _ (by omega)
        go_wp2
        go_quiet (fail)
        clear s1 s2
        go_wp2
        go_roundw
        case rel =>
          refine ⟨q, by omega, ?_, ?_, ⟨⟨_, rfl⟩⟩⟩
          · rfl
          · rw [HOR.out, HFD.out, Int.mul_comm fv 256, Int.add_comm]
        case measure => simp [intOf]
      · obtain rfl : j = 0 := by omega
        go_wp2
        go_ret
        refine ⟨ret_int (by rw [Rd.num, if_pos E.out]; rfl), ?_, (h2.drewN m).set (p := ⟨g, 1, none⟩) (.inl hS) _⟩
        rw [Rd.skip, if_pos E.out]
        exact (H1.out.drewN m).setPos _
/-- A word. -/
def Rd.word (r : Rd) : Int := r.num 4
theorem Rd.num_range {r : Rd} (hr : r.Wf) (n : Nat) : 0 ≤ r.num n ∧ r.num n < 256 ^ n := by
  unfold Rd.num
  split
  · have h := fle_range (l := r.run n) ((hr.byt.drop _).take _)
    refine ⟨h.1, Int.lt_of_lt_of_le h.2 ?_⟩
    have : (r.run n).length ≤ n := by unfold Rd.run; rw [List.length_take]; omega
    exact pow_mono this
  · exact ⟨Int.le_refl _, Int.pow_pos (by decide)⟩
theorem ru32_calls (w : World) (g : Nat) (S : Nat → Prop) (r : Rd) (hr : r.Wf) (hw : IsR w g S r) :
    Calls Try.prog 53 #[.pointer (some ⟨g, 0, none⟩)] w fun e w' => e = .returned (.int .u32 (r.num 4)) ∧ IsR w' g S (r.skip 4) ∧ Frm S w w' := by
  have hb := Rd.num_range hr 4
  have ht := take_calls w g S r hr hw 4 (by decide)
  have HT := Lib.hid ht
  clear ht
  go_enter Try.func53, Try.ntmps53
  go_wp2_with fail
  refine HT.out.mono ?_
  rintro e w1 ⟨rfl, h1, h2⟩
  go_wp2
  go_ret
  exact ⟨ret_int (by first | rfl | (rw [IntWalk.u32_in _ (by omega)])), h1, h2⟩
/-- A number of 64 bits, as it is read. -/
def s64 (v : Int) : Int := wrap64 v
theorem ru64_calls (w : World) (g : Nat) (S : Nat → Prop) (r : Rd) (hr : r.Wf) (hw : IsR w g S r) :
    Calls Try.prog 55 #[.pointer (some ⟨g, 0, none⟩)] w fun e w' => e = .returned (.int .i64 (s64 (r.num 8))) ∧ IsR w' g S (r.skip 8) ∧ Frm S w w' := by
  have ht := take_calls w g S r hr hw 8 (by decide)
  have HT := Lib.hid ht
  clear ht
  go_enter Try.func55, Try.ntmps55
  go_wp2_with fail
  refine HT.out.mono ?_
  rintro e w1 ⟨rfl, h1, h2⟩
  go_wp2
  go_ret
  exact ⟨rfl, h1, h2⟩
end Go.Proofs.Ytoebhddgpicegaa
namespace Go.Proofs.Ytoebhddgpicegaa
open Go.RowKit Go.Proofs.YtoebhddgpicegaaW.PrintWords
theorem nreader_calls (A : Option Addr) (c : Nat) (l : List Int) (w : World) (hl : l.length ≤ 140737488355328) (hr : Kd.C (Kd.int .u8) w A l.length l) :
    Calls Try.prog 43 #[.slice A l.length c] w fun e w' => ∃ g, e = .returned (.pointer (some ⟨g, 0, none⟩)) ∧ IsR w' g (Nw Nun w) ⟨l, 0, 0⟩ ∧ Frm Nun w w' := by
  have HL : (([] : List Int).length + l.length) * 1 ≤ 140737488355328 := by rw [List.length_nil]; omega
  have HR := Lib.hid hr
  clear hr
  go_enter Try.func43, Try.ntmps43
  go_wp2_with (first | ((with_reducible refine gate_builtin (b := .append) (xs := #[.const (.slice none 0 0), .tmp 3]) rfl ?_); at_builtin; refine app_ints .u8 (.const (.slice none 0 0)) (.tmp 3) 22 5 1 rfl rfl Try.underlying22 info_u8 (by decide) (.slice none 0 0) [] l A l.length c (Nw Nun w) rfl rfl (Kd.R_nil _ _ _ _ _) HR.out (fun i hi => .inr hi) HL ?_; intro v1 w1 ho hg1; rw [List.nil_append] at ho; obtain ⟨A1, c1, rfl, hl1, _⟩ := Kd.R_reads ho; have HO := Lib.hid ho; have HG1 := Lib.hid hg1; clear ho hg1))
  go_ret
  refine ⟨_, rfl, ⟨A1, c1, ?_, .inr HG1.out.size, ?_⟩, ((Frm.refl _ _).grown HG1.out (fun i hi => by cases hi)).alloc _⟩
  · rw [heap_alloc_new]
  · exact Kd.R_mono (Kd.R_alloc (Kd.R_bound HO.out) _) (fun k hk => ⟨hk.1, by have := hk.2.2.1; omega⟩)
theorem err_calls (w : World) (g : Nat) (S : Nat → Prop) (r : Rd) (hw : IsR w g S r) :
    Calls Try.prog 54 #[.pointer (some ⟨g, 0, none⟩)] w fun e w' => e = .returned (.int .i64 r.err) ∧ w = w' := by
  obtain ⟨A, c, c0, c1, c2, f1, f2, hsz, hS, hc, HC, HB⟩ := hw.cells
  clear hw
  go_enter Try.func54, Try.ntmps54
  go_wp2
  go_ret
  exact ⟨rfl, rfl⟩
/-- A cut between two places. -/
theorem cutM {P : Program} {k : IntKind} (t e : TypeId) (ht : P.underlying t = some (.slice e)) (hi : ∃ i, P.info? e = some i ∧ i.size = 1) {A : Option Addr} {c : Nat} {l : List Int} (hl : l.length ≤ c) (i j : Int) (h0 : 0 ≤ i) (h1 : i ≤ j) (hj : j ≤ l.length) :
    ∃ A' c' m, Hid ((l.drop i.toNat).take (j.toNat - i.toNat) = m) ∧ (∀ W : World, (Instr.slice t (.slice A l.length c) (some (.int .i64 i)) (some (.int .i64 j)) none).run P W = .ok (.slice A' m.length c') W) ∧ (∀ w, Kd.C (Kd.int k) w A l.length l → Kd.C (Kd.int k) w A' m.length m) ∧
      m.length ≤ c' ∧ ∀ a, A' = some a → ∃ b, A = some b ∧ b.block = a.block := by
  obtain ⟨q, hi, hs⟩ := hi
  have hd : (l.take j.toNat).drop i.toNat = (l.drop i.toNat).take (j.toNat - i.toNat) := by rw [List.drop_take]
  have hlen : ((l.drop i.toNat).take (j.toNat - i.toNat)).length = j.toNat - i.toNat := by rw [List.length_take, List.length_drop]; omega
  refine ⟨if c = i.toNat then A else A.map (·.add (i.toNat * 1)), c - i.toNat, _, Lib.hid rfl, fun W => ?_, fun w h => ?_, ?_, ?_⟩
  · have := cut_mid (P := P) t e .i64 .i64 ht hi 1 hs A l.length c i j h0 h1 hj hl W
    rw [this, hlen]
  · have := Kd.C_mid (k := Kd.int k) (lo := i.toNat) (hi := j.toNat) h (by omega) (by omega) hl
    rw [hd] at this
    exact this
  · rw [hlen]; omega
  · intro a ha
    split at ha
    · exact ⟨a, ha, rfl⟩
    · cases A with
      | none => cases ha
      | some b => obtain rfl := Option.some.inj ha; exact ⟨b, rfl, (add_block _ _).symm⟩
theorem cut_C {k : IntKind} {w : World} {A : Option Addr} {c : Nat} {l : List Int} {i j : Int} (h : Kd.C (Kd.int k) w A l.length l) (hl : l.length ≤ c) (h0 : 0 ≤ i) (h1 : i ≤ j) (hj : j ≤ l.length) :
    Kd.C (Kd.int k) w (if c = i.toNat then A else A.map (·.add i.toNat)) (j.toNat - i.toNat) ((l.drop i.toNat).take (j.toNat - i.toNat)) := by
  have := Kd.C_mid (k := Kd.int k) (lo := i.toNat) (hi := j.toNat) h (by omega) (by omega) hl
  rw [List.drop_take] at this
  have e : ((l.drop i.toNat).take (j.toNat - i.toNat)).length = j.toNat - i.toNat := by rw [List.length_take, List.length_drop]; omega
  rw [e] at this
  simpa [Kd.int, Kd.scalar] using this
def Rd.got (r : Rd) (n : Int) : List Int := if r.can n = true then r.run n.toNat else []
set_option maxHeartbeats 1000000 in
set_option maxRecDepth 100000 in
theorem block_calls (w : World) (g : Nat) (S : Nat → Prop) (r : Rd) (hr : r.Wf) (hw : IsR w g S r) (n : Int) :
    Calls Try.prog 61 #[.pointer (some ⟨g, 0, none⟩), .int .i64 n] w fun e w' => ∃ v, e = .returned v ∧ Kd.R (Kd.int .u8) 5 w' 0 (Nw Nun w) v (r.got n) ∧ IsR w' g S (r.skip n) ∧ Frm S w w' := by
  have hh := has_calls w g S r hr hw n
  have HX := Lib.hid hr
  have hg0 : g < w.heap.size := by obtain ⟨_, _, h, _⟩ := hw; exact blk_lt h
  clear hw
  cases hR : r.can n
  · rw [hR] at hh
    have HH := Lib.hid hh
    have E := Lib.hid hR
    clear hR hh hr
    go_enter Try.func61, Try.ntmps61
    go_wp2_with fail
    refine HH.out.mono ?_
    rintro e w1 ⟨rfl, h1, h2⟩
    go_wp2
    go_ret
    exact ⟨_, rfl, by rw [Rd.got, if_neg (by rw [E.out]; simp)]; exact Kd.R_nil _ _ _ _ _, by rw [Rd.skip, if_neg (by rw [E.out]; simp)]; exact h1, h2⟩
  · rw [hR, Rd.has_yes hR] at hh
    have HH := Lib.hid hh
    have E := Lib.hid hR
    have hc : r.err = 0 ∧ 0 ≤ n ∧ n ≤ r.left := by
      simp only [Rd.can, Bool.and_eq_true, beq_iff_eq, decide_eq_true_eq] at hR; exact ⟨hR.1, hR.2.1, hR.2.2⟩
    have hp := hr.lo
    have hl := hr.len
    have hn := hc.2.1
    have hc2 : n ≤ r.inp.length - r.pos := hc.2.2
    clear hR hh hr hc
    go_enter Try.func61, Try.ntmps61
    go_wp2_with fail
    refine HH.out.mono ?_
    rintro e w1 ⟨rfl, h1, h2⟩
    have H1 := Lib.hid h1
    obtain ⟨A, c, c0, c1, c2, f1, f2, hsz, hS, hc, HC, HB⟩ := h1.cells
    clear h1
    obtain ⟨m, hm⟩ : ∃ m, m = (r.pos + n).toNat - r.pos.toNat := ⟨_, rfl⟩
    have hC := cut_C (c := c) (i := r.pos) (j := r.pos + n) HC.out hc hp (by omega) (by omega)
    rw [show (r.inp.drop r.pos.toNat).take ((r.pos + n).toNat - r.pos.toNat) = r.run n.toNat by unfold Rd.run; congr 1; omega] at hC
    have HL : (([] : List Int).length + ((r.pos + n).toNat - r.pos.toNat)) * 1 ≤ 140737488355328 := by
      rw [List.length_nil]; omega
    have HCC := Lib.hid hC
    have s1 : IntKind.i64.wrap (r.pos + n) = r.pos + n := IntWalk.i64_in _ (by omega)
    have q1 : r.pos ≤ r.pos + n := by omega
    have q2 : r.pos + n ≤ (c : Int) := by omega
    clear hC hm m
    go_wp2
    go_still_tail 15, (by kernel_rfl)
    change wpList _ _ _ _ _ w1.drew
    have h3 : IsR w1.drew g S r := H1.out.drewN 1
    have h4 : Frm S w w1.drew := h2.drew
    have HC2 := Lib.hid (Kd.C_drew HCC.out)
    clear c0 c1 c2 f1 f2 hsz hS HB HC HCC s1
    generalize w1.drew = w2 at h3 h4 HC2 ⊢
    obtain ⟨_, _, c0, c1, _, f1, _, hsz, hS, _, _, HB⟩ := h3.cells
    have H3 := Lib.hid h3
    clear h3
    go_wp2_with (first | ((with_reducible refine gate_builtin (b := .append) (xs := #[.const (.slice none 0 0), .tmp 24]) rfl ?_); at_builtin; refine app_ints .u8 (.const (.slice none 0 0)) (.tmp 24) 22 5 1 rfl rfl Try.underlying22 info_u8 (by decide) (.slice none 0 0) [] (r.run n.toNat) (if c = r.pos.toNat then A else A.map (·.add r.pos.toNat)) ((r.pos + n).toNat - r.pos.toNat) (c - r.pos.toNat) (Nw Nun w) rfl rfl (Kd.R_nil _ _ _ _ _) HC2.out (fun i hi => .inr (Nat.le_trans h4.size hi)) HL ?_; intro v1 w3 ho hg1; rw [List.nil_append] at ho; obtain ⟨A1, c3, rfl, hl1, _⟩ := Kd.R_reads ho; have HO := Lib.hid ho; have HG1 := Lib.hid hg1; have h5 : IsR w3 g S r := H3.out.frm ((Frm.refl Nun _).grown hg1 (fun i hi => by cases hi)) (fun _ _ h => h); obtain ⟨_, _, c0', c1', _, f1', _, hsz', _, _, _, _⟩ := h5.cells; have H5 := Lib.hid h5; clear ho hg1 h5))
    all_goals
      go_ret
      refine ⟨_, rfl, ?_, ?_, ((h4.grown HG1.out (fun i hi => by cases hi)).set (p := ⟨g, 1, none⟩) (.inl hS) _)⟩
      · rw [Rd.got, if_pos E.out]
        exact Kd.R_far (p := ⟨g, 1, none⟩) HO.out (fun k hk e => hk.elim id (fun hk => absurd (Nat.lt_of_lt_of_le hg0 hk) (by rw [e]; exact Nat.lt_irrefl _))) _
      · rw [Rd.skip, if_pos E.out]; exact H5.out.setPos _
theorem of_bne {a b : Int} (h : (a != b) = false) : a = b := by simpa using h
def Rd.checked (r : Rd) (m : List Int) : Rd := if r.num 4 = vn (crc m) then { r with pos := r.pos + 4 } else { r with err := 21 }
/-- The sum behind a run: if it doesn't fit, the error stays. -/
theorem check_calls (w : World) (g : Nat) (S : Nat → Prop) (r : Rd) (hr : r.Wf) (hw : IsR w g S r) (h0 : r.err = 0) (n : Nat) (i : Int) (hi : 0 ≤ i) (hn : i + n = r.pos) (h4 : 4 ≤ r.left) :
    Calls Try.prog 62 #[.pointer (some ⟨g, 0, none⟩), .int .i64 i] w fun e w' => e = .returned (.tuple #[]) ∧
      IsR w' g S (r.checked ((r.inp.drop i.toNat).take n)) ∧ Frm S w w' := by
  have hp := hr.lo
  have hp2 := hr.hi
  have hl := hr.len
  have H1 := Lib.hid hw
  obtain ⟨A, c, c0, c1, c2, f1, f2, hsz, hS, hc, HC, HB⟩ := hw.cells
  have hcan : r.can 4 = true := by simp only [Rd.can, Bool.and_eq_true, beq_iff_eq, decide_eq_true_eq]; exact ⟨h0, by decide, h4⟩
  have hC := cut_C (c := c) (i := i) (j := r.pos) HC.out hc hi (by omega) hp2
  rw [show r.pos.toNat - i.toNat = n by omega] at hC
  obtain ⟨m, hm⟩ : ∃ m, m = (r.inp.drop i.toNat).take n := ⟨_, rfl⟩
  have hml : m.length = n := by rw [hm, List.length_take, List.length_drop]; omega
  rw [← hm] at hC ⊢
  have HM := Lib.hid hm
  have HML := Lib.hid hml
  have hbm : Byt m := by rw [hm]; exact (hr.byt.drop _).take _
  have q1 : i ≤ r.pos := by omega
  have q2 : r.pos ≤ (c : Int) := by omega
  have hs : ∀ k, Calls Try.prog 57 #[.slice (if c = i.toNat then A else A.map (·.add i.toNat)) (r.pos.toNat - i.toNat) (c - i.toNat)] (w.drewN k) fun e w' => e = .returned (.int .u32 (vn (crc m))) ∧ w.drewN k = w' := by
    intro k
    rw [show r.pos.toNat - i.toNat = m.length by omega]
    exact sum_calls _ _ m hbm (w.drewN k) (Kd.C_drewN (by rw [hml]; exact hC) k) (by omega)
  have HS := Lib.hid hs
  have HX := Lib.hid hr
  have HCan := Lib.hid hcan
  clear hs hbm hr hC hm hml hw hcan
  go_enter Try.func62, Try.ntmps62
  go_wp2
  go_quiet ((go_at_call 57; exact Calls.quiet_of_same ((HS.out _).mono fun _ _ h => ⟨h.1, h.2.symm⟩)))
  have hsk : r.skip 4 = { r with pos := r.pos + 4 } := by rw [Rd.skip, if_pos HCan.out]
  have HSK := Lib.hid hsk
  clear hsk
  go_wp2_with fail
  all_goals
    refine (ru32_calls (w.drewN nq) g S r HX.out (H1.out.drewN nq)).mono ?_
    rintro e w2 ⟨rfl, h1, h2⟩
    rw [HSK.out] at h1
    have HF := Lib.hid (((Frm.refl S w).drewN nq).trans h2 (fun _ h => .inl h))
    clear c0 c1 c2 f1 f2 hsz HB HC h2
    obtain ⟨_, _, c0, c1, c2, f1, f2, hsz, _, _, _, HB⟩ := h1.cells
    have H2 := Lib.hid h1
    clear h1
    dsimp only at c0 c1 c2
    cases he : (r.num 4 != vn (crc m))
    · have HE := Lib.hid (of_bne he)
      go_wp2
      go_end0
      exact ⟨rfl, by rw [Rd.checked, if_pos HE.out]; exact H2.out, HF.out⟩
    · have HE := Lib.hid (bne_iff_ne.1 he)
      go_wp2
      go_end0
      exact ⟨rfl, by rw [Rd.checked, if_neg HE.out]; exact (H2.out.setErr 21).setPos r.pos, (HF.out.set (p := ⟨g, 2, none⟩) (.inl hS) _).set (p := ⟨g, 1, none⟩) (.inl hS) _⟩
end Go.Proofs.Ytoebhddgpicegaa
namespace Go.Proofs.Ytoebhddgpicegaa
open Go.RowKit Go.Proofs.YtoebhddgpicegaaW.PrintWords
/-- The reader at a place n further on. -/
def Rd.at_ (r : Rd) (n : Int) : Rd := { r with pos := r.pos + n }
def Rd.fits (r : Rd) (n : Int) : Prop := (r.at_ n).num 4 = vn (crc (r.run n.toNat))
instance (r : Rd) (n : Int) : Decidable (r.fits n) := by unfold Rd.fits; infer_instance
def Rd.sealed (r : Rd) (n : Int) : Rd :=
  if r.can n = true then (if r.left - n < 4 then { r with err := 20 } else if r.fits n then r.at_ (n + 4) else { r with err := 21 }) else r.has n
def Rd.body (r : Rd) (n : Int) : List Int := if r.can n = true ∧ ¬ r.left - n < 4 ∧ r.fits n then r.run n.toNat else []
theorem Rd.at_wf {r : Rd} (h : r.Wf) {n : Int} (h0 : 0 ≤ n) (h1 : n ≤ r.left) : (r.at_ n).Wf :=
  ⟨h.byt, by have := h.lo; show 0 ≤ r.pos + n; omega, by unfold Rd.left at h1; show r.pos + n ≤ _; have : (r.at_ n).inp = r.inp := rfl; rw [this]; omega, h.len⟩
theorem IsR.lt {w : World} {g : Nat} {S : Nat → Prop} {r : Rd} (h : IsR w g S r) : g < w.heap.size := by obtain ⟨_, _, h, _⟩ := h; exact blk_lt h
theorem IsR.bnd {w : World} {g : Nat} {S : Nat → Prop} {r : Rd} (h : IsR w g S r) : IsR w g (fun k => S k ∧ k < w.heap.size) r := by
  obtain ⟨A, c, h1, h2, h3⟩ := h
  exact ⟨A, c, h1, ⟨h2, blk_lt h1⟩, Kd.R_mono (Kd.R_bound h3) (fun k hk => ⟨⟨hk.1.1, hk.2.2.1⟩, hk.1.2⟩)⟩
set_option maxHeartbeats 1000000 in
set_option maxRecDepth 100000 in
theorem sealed_calls (w : World) (g : Nat) (S : Nat → Prop) (hb : ∀ k, S k → k < w.heap.size) (r : Rd) (hr : r.Wf) (hw : IsR w g S r) (n : Int) :
    Calls Try.prog 52 #[.pointer (some ⟨g, 0, none⟩), .int .i64 n] w fun e w' => ∃ v, e = .returned v ∧ Kd.R (Kd.int .u8) 5 w' 0 (Nw Nun w) v (r.body n) ∧ IsR w' g S (r.sealed n) ∧ Frm S w w' := by
  have hh := has_calls w g S r hr hw n
  have HX := Lib.hid hr
  cases hR : r.can n
  · have T := Lib.hid (show r.sealed n = r.has n by rw [Rd.sealed, if_neg (by rw [hR]; simp)])
    have T2 := Lib.hid (show r.body n = [] by rw [Rd.body, if_neg (by rw [hR]; simp)])
    rw [hR] at hh
    have HH := Lib.hid hh
    clear hR hh hr hw
    go_enter Try.func52, Try.ntmps52
    go_wp2_with fail
    refine HH.out.mono ?_
    rintro e w1 ⟨rfl, h1, h2⟩
    go_wp2
    go_ret
    exact ⟨_, rfl, by rw [T2.out]; exact Kd.R_nil _ _ _ _ _, by rw [T.out]; exact h1, h2⟩
  · rw [hR, Rd.has_yes hR] at hh
    have HH := Lib.hid hh
    have E := Lib.hid hR
    have hc : r.err = 0 ∧ 0 ≤ n ∧ n ≤ r.left := by
      simp only [Rd.can, Bool.and_eq_true, beq_iff_eq, decide_eq_true_eq] at hR; exact ⟨hR.1, hR.2.1, hR.2.2⟩
    have hp := hr.lo
    have hl := hr.len
    have hn := hc.2.1
    have hll : r.left ≤ 140737488355328 := by unfold Rd.left; omega
    have hn2 := hc.2.2
    have H0 := Lib.hid hc.1
    have hg0 := hw.lt
    by_cases h4 : r.left - n < 4
    · have T := Lib.hid (show r.sealed n = { r with err := 20 } by rw [Rd.sealed, if_pos hR, if_pos h4])
      have T2 := Lib.hid (show r.body n = [] by rw [Rd.body, if_neg (by simp [h4])])
      clear hR hh hc hr hw
      go_enter Try.func52, Try.ntmps52
      go_wp2_with fail
      refine HH.out.mono ?_
      rintro e w1 ⟨rfl, h1, h2⟩
      have H1 := Lib.hid h1
      clear h1
      go_wp2_with fail
      refine (left_calls w1 g S r HX.out H1.out).mono ?_
      rintro e w2 ⟨rfl, ⟨m, rfl⟩⟩
      obtain ⟨_, _, c0, c1, c2, f1, f2, hsz, hS, _, _, HB⟩ := H1.out.cells
      go_wp2
      go_ret
      exact ⟨_, rfl, by rw [T2.out]; exact Kd.R_nil _ _ _ _ _, by rw [T.out]; exact (H1.out.drewN m).setErr 20, (h2.drewN m).set (p := ⟨g, 2, none⟩) (.inl hS) _⟩
    · have h4' : decide (r.left - n < 4) = false := decide_eq_false h4
      have e1 : (r.at_ n).pos = r.pos + n := rfl
      have hsk : r.skip n = r.at_ n := by rw [Rd.skip, if_pos hR]; rfl
      have hgt : r.got n = r.run n.toNat := by rw [Rd.got, if_pos hR]
      have hwf := Rd.at_wf hr hn hn2
      have hrun : (r.inp.drop r.pos.toNat).take n.toNat = r.run n.toNat := rfl
      have HSK := Lib.hid hsk
      have HGT := Lib.hid hgt
      have HWF := Lib.hid hwf
      have H4 := Lib.hid (show 4 ≤ (r.at_ n).left by unfold Rd.left at h4 ⊢; show 4 ≤ _ - (r.pos + n); have : (r.at_ n).inp = r.inp := rfl; rw [this]; omega)
      have HSc : Hid (∀ x : List Int, r.sealed n = (if r.fits n then r.at_ (n + 4) else { r with err := 21 }) ∧ r.body n = (if r.fits n then r.run n.toNat else [])) := Lib.hid (fun _ => ⟨by rw [Rd.sealed, if_pos hR, if_neg h4], by
        unfold Rd.body
        by_cases hf : r.fits n
        · rw [if_pos ⟨hR, h4, hf⟩, if_pos hf]
        · rw [if_neg (fun h => hf h.2.2), if_neg hf]⟩)
      clear hR hh hc hr hw hsk hgt hwf hrun e1 h4
      go_enter Try.func52, Try.ntmps52
      go_wp2_with fail
      refine HH.out.mono ?_
      rintro e w1 ⟨rfl, h1, h2⟩
      have H1 := Lib.hid h1
      clear h1
      go_wp2_with fail
      refine (left_calls w1 g S r HX.out H1.out).mono ?_
      rintro e w2 ⟨rfl, ⟨m, rfl⟩⟩
      obtain ⟨_, _, c0, c1, c2, f1, f2, hsz, hS, _, _, HB⟩ := H1.out.cells
      go_wp2_with fail
      refine (block_calls (w1.drewN m) g S r HX.out (H1.out.drewN m) n).mono ?_
      rintro e w3 ⟨v, rfl, hv, h3, h4⟩
      rw [HSK.out] at h3
      rw [HGT.out] at hv
      clear c0 c1 c2 f1 f2 hsz HB
      go_wp2_with fail
      refine (check_calls w3 g S (r.at_ n) HWF.out h3 H0.out n.toNat r.pos hp (by show _ = r.pos + n; omega) H4.out).mono ?_
      rintro e w4 ⟨rfl, h5, h6⟩
      have HV := Lib.hid hv
      have h64 : Frm S w w4 := ((h2.drewN m).trans h4 (fun _ h => .inl h)).trans h6 (fun _ h => .inl h)
      have H64 := Lib.hid h64
      have hvn := R_frm hv h6 (fun k hk hs => hk.elim id (fun hk => by have h := hb k hs; have h' : w1.heap.size ≤ k := hk; have := h2.size; omega))
      have HVN := Lib.hid (Kd.R_mono (ok' := Nw Nun w) hvn (fun k hk => hk.elim (fun h => h.elim) (fun hk => .inr (Nat.le_trans h2.size hk))))
      clear hv hvn h64 h6 h4 h3
      by_cases hf : r.fits n
      · have hk : (r.at_ n).checked (List.take n.toNat (List.drop r.pos.toNat (r.at_ n).inp)) = r.at_ (n + 4) := by
          have hf' : (r.at_ n).num 4 = vn (crc (List.take n.toNat (List.drop r.pos.toNat (r.at_ n).inp))) := hf
          rw [Rd.checked, if_pos hf']
          show Rd.mk _ (r.pos + n + 4) _ = Rd.mk _ (r.pos + (n + 4)) _
          rw [Int.add_assoc]; rfl
        rw [hk] at h5
        obtain ⟨h7, h8⟩ := HSc.out []
        rw [if_pos hf] at h7 h8
        have T := Lib.hid h7
        have T2 := Lib.hid h8
        have H5 := Lib.hid h5
        obtain ⟨_, _, c0, c1, c2, f1, f2, hsz, hS, _, _, HB⟩ := h5.cells
        rw [show (r.at_ (n + 4)).err = 0 from H0.out] at c2
        clear hk h7 h8 h5 hf
        go_wp2
        go_ret
        exact ⟨_, rfl, by rw [T2.out]; exact HVN.out, by rw [T.out]; exact H5.out, H64.out⟩
      · have hk : (r.at_ n).checked (List.take n.toNat (List.drop r.pos.toNat (r.at_ n).inp)) = { r.at_ n with err := 21 } := by
          have hf' : ¬ (r.at_ n).num 4 = vn (crc (List.take n.toNat (List.drop r.pos.toNat (r.at_ n).inp))) := hf
          rw [Rd.checked, if_neg hf']
        rw [hk] at h5
        obtain ⟨h7, h8⟩ := HSc.out []
        rw [if_neg hf] at h7 h8
        have T := Lib.hid h7
        have T2 := Lib.hid h8
        have H5 := Lib.hid h5
        obtain ⟨_, _, c0, c1, c2, f1, f2, hsz, hS, _, _, HB⟩ := h5.cells
        dsimp only at c2
        clear hk h7 h8 h5 hf
        go_wp2
        go_ret
        exact ⟨_, rfl, by rw [T2.out]; exact Kd.R_nil _ _ _ _ _, by rw [T.out]; exact H5.out.setPos r.pos, H64.out.set (p := ⟨g, 1, none⟩) (.inl hS) _⟩
end Go.Proofs.Ytoebhddgpicegaa
namespace Go.Proofs.Ytoebhddgpicegaa
open Go.RowKit Go.Proofs.YtoebhddgpicegaaW.PrintWords
section
variable {x : Wr}
theorem Wr.room_wf (h : x.Wf) (n : Int) : (x.room n).Wf := by
  unfold Wr.room
  split
  · exact ⟨h.byt, h.lim, h.len, h.nest, h.opn⟩
  · exact h
theorem Wr.room_yes' {n : Int} (h : x.hasRoom n = true) : x.err = 0 ∧ n ≤ x.limit - x.out.length := by
  simp only [Wr.hasRoom, Bool.and_eq_true, beq_iff_eq, decide_eq_true_eq] at h; exact h
theorem Wr.add_wf (h : x.Wf) {l : List Int} (hb : Byt l) (hl : (l.length : Int) ≤ x.limit - x.out.length) : (x.add l).Wf := by
  refine ⟨h.byt.app hb, h.lim, ?_, h.nest, ?_⟩
  · unfold Wr.add; dsimp only; rw [List.length_append]; omega
  · intro o ho
    have := h.opn o ho
    unfold Wr.add; dsimp only; rw [List.length_append]; omega
theorem Wr.put_wf (h : x.Wf) (v : Int) (n : Nat) : (x.put v n).Wf := by
  unfold Wr.put
  split
  · rename_i hr
    exact Wr.add_wf h (le_byt n v) (by rw [le_len]; exact (Wr.room_yes' hr).2)
  · exact Wr.room_wf h _
theorem Wr.open_wf (h : x.Wf) : x.open_.Wf := by
  unfold Wr.open_
  split
  · exact h
  · split
    · exact ⟨h.byt, h.lim, h.len, h.nest, h.opn⟩
    · rename_i h1
      refine ⟨h.byt, h.lim, h.len, ?_, ?_⟩
      · have := h.nest; dsimp only; rw [List.length_append, List.length_singleton]; omega
      · intro o ho
        rcases List.mem_append.1 ho with ho | ho
        · exact h.opn o ho
        · rw [List.mem_singleton.1 ho]; exact ⟨by omega, Int.le_refl _⟩
theorem Wr.put_opn (v : Int) (n : Nat) : (x.put v n).opn = x.opn := by
  unfold Wr.put; split
  · rfl
  · unfold Wr.room; split <;> rfl
theorem Wr.put_len (v : Int) (n : Nat) : x.out.length ≤ (x.put v n).out.length := by
  unfold Wr.put; split
  · unfold Wr.add; dsimp only; rw [List.length_append]; omega
  · unfold Wr.room; split <;> exact Nat.le_refl _
theorem Wr.seal_wf (h : x.Wf) : x.seal.Wf := by
  unfold Wr.seal
  split
  · exact h
  · split
    · exact ⟨h.byt, h.lim, h.len, h.nest, h.opn⟩
    · split
      · have hp := Wr.put_wf h (vn (crc (x.out.drop (x.opn.getD (x.opn.length - 1) 0).toNat))) 4
        refine ⟨hp.byt, hp.lim, hp.len, ?_, ?_⟩
        · have := h.nest; dsimp only; rw [List.length_take]; omega
        · intro o ho
          exact hp.opn o (by rw [Wr.put_opn]; exact List.mem_of_mem_take ho)
      · exact Wr.room_wf h _
/-! ### an error stays -/
theorem Wr.put_err (h : x.err ≠ 0) (v : Int) (n : Nat) : x.put v n = x := by
  have : x.hasRoom n = false := by simp [Wr.hasRoom, h]
  rw [Wr.put, if_neg (by rw [this]; simp), Wr.room, if_neg (fun k => h k.1)]
theorem Wr.open_err (h : x.err ≠ 0) : x.open_ = x := by rw [Wr.open_, if_pos h]
theorem Wr.seal_err (h : x.err ≠ 0) : x.seal = x := by rw [Wr.seal, if_pos h]
/-! ### no error -/
theorem Wr.put_ok (h : x.err = 0) (v : Int) {n : Nat} (hn : (n : Int) ≤ x.limit - x.out.length) : x.put v n = x.add (le n v) := by
  rw [Wr.put, if_pos (by simp only [Wr.hasRoom, Bool.and_eq_true, beq_iff_eq, decide_eq_true_eq]; exact ⟨h, hn⟩)]
theorem Wr.put_no (h : x.err = 0) (v : Int) {n : Nat} (hn : x.limit - x.out.length < (n : Int)) : x.put v n = { x with err := 2 } := by
  rw [Wr.put, if_neg, Wr.room, if_pos ⟨h, hn⟩]
  simp only [Wr.hasRoom, Bool.and_eq_true, beq_iff_eq, decide_eq_true_eq]
  omega
theorem Wr.open_ok (h : x.err = 0) (hn : x.opn.length < 4) : x.open_ = { x with opn := x.opn ++ [(x.out.length : Int)] } := by
  rw [Wr.open_, if_neg (by simp [h]), if_neg (by omega)]
end
end Go.Proofs.Ytoebhddgpicegaa
