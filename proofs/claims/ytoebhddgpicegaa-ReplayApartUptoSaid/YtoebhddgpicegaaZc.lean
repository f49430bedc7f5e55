/- Lemmas for this claim: Ev, Dig, DigC. -/
import Derived.Test.YtoebhddgpicegaaZb
namespace Go.Proofs.Ytoebhddgpicegaa
open Go.RowKit Go.Proofs.YtoebhddgpicegaaW.PrintWords
/-- An event. -/
structure Evt where
  kind : Int
  k : Int
  steps : Int
  call : Int
  a0 : Int
  a1 : Int
  a2 : Int
  a3 : Int
  a4 : Int
  code : Int
  v0 : Int
  v1 : Int
  v2 : Int
  serial : Int
def Evt.cells (x : Evt) : List Value := [.int .i64 x.kind, .int .i64 x.k, .int .i64 x.steps, .int .i64 x.call, .int .u32 x.a0, .int .u32 x.a1, .int .u32 x.a2, .int .u32 x.a3, .int .u32 x.a4, .int .i64 x.code, .int .u32 x.v0, .int .u32 x.v1, .int .u32 x.v2, .int .i64 x.serial]
theorem info_ev : (Try.prog.info? 39).map (fun i => (i.zero, i.size, i.bytes)) = some (some (.agg #[.int .i64 0, .int .i64 0, .int .i64 0, .int .i64 0, .int .u32 0, .int .u32 0, .int .u32 0, .int .u32 0, .int .u32 0, .int .i64 0, .int .u32 0, .int .u32 0, .int .u32 0, .int .i64 0]), 14, 88) := by kernel_rfl
def kev : Kd Evt where
  sz := 14
  E := []
  K := fun _ x cs => cs = x.cells
  M := fun _ _ _ x cs => cs = x.cells
  K_len := fun h => by rw [h]; rfl
  K_one := fun h u hu => by
    rw [h] at hu
    simp only [Evt.cells, List.mem_cons, List.not_mem_nil, or_false] at hu
    rcases hu with rfl | rfl | rfl | rfl | rfl | rfl | rfl | rfl | rfl | rfl | rfl | rfl | rfl | rfl <;> rfl
  K_below := fun _ h => h
  K_of_M := fun h => h
  M_mono := fun _ h => h
  M_bound := fun h => h
  M_move := fun _ h => h
  M_lower := fun _ h => h
/-- What every event's numbers are. -/
structure EvOk (x : Evt) : Prop where
  a0 : 0 ≤ x.a0 ∧ x.a0 < 4294967296
  a1 : 0 ≤ x.a1 ∧ x.a1 < 4294967296
  a2 : 0 ≤ x.a2 ∧ x.a2 < 4294967296
  a3 : 0 ≤ x.a3 ∧ x.a3 < 4294967296
  a4 : 0 ≤ x.a4 ∧ x.a4 < 4294967296
  v0 : 0 ≤ x.v0 ∧ x.v0 < 4294967296
  v1 : 0 ≤ x.v1 ∧ x.v1 < 4294967296
  v2 : 0 ≤ x.v2 ∧ x.v2 < 4294967296
/-- The 72 bytes of an event. -/
def Evt.bytes (x : Evt) : List Int := le 8 x.kind ++ le 8 x.k ++ le 8 x.steps ++ le 8 x.call ++ le 4 x.a0 ++ le 4 x.a1 ++ le 4 x.a2 ++ le 4 x.a3 ++ le 4 x.a4 ++ le 8 x.code ++ le 4 x.v0 ++ le 4 x.v1 ++ le 4 x.v2
theorem Evt.len (x : Evt) : x.bytes.length = 72 := by simp [Evt.bytes, le_len]
theorem Evt.byt (x : Evt) : Byt x.bytes := by
  unfold Evt.bytes
  exact (((((((((((((le_byt 8 _).app (le_byt 8 _)).app (le_byt 8 _)).app (le_byt 8 _)).app (le_byt 4 _)).app (le_byt 4 _)).app (le_byt 4 _)).app (le_byt 4 _)).app (le_byt 4 _)).app (le_byt 8 _)).app (le_byt 4 _)).app (le_byt 4 _)).app (le_byt 4 _))
def ebytes (evs : List Evt) : List Int := (evs.map Evt.bytes).flatten
theorem ebytes_byt (evs : List Evt) : Byt (ebytes evs) := by
  intro x hx
  obtain ⟨l, hl, hx⟩ := List.mem_flatten.1 hx
  obtain ⟨e, _, rfl⟩ := List.mem_map.1 hl
  exact e.byt x hx
theorem ebytes_snoc (evs : List Evt) (e : Evt) : ebytes (evs ++ [e]) = ebytes evs ++ e.bytes := by simp [ebytes]
theorem ebytes_len (evs : List Evt) : (ebytes evs).length = 72 * evs.length := by
  induction evs with
  | nil => rfl
  | cons e evs ih => simp only [ebytes, List.map_cons, List.flatten_cons, List.length_append, Evt.len, List.length_cons] at ih ⊢; omega
/-- A digest's block: the sum, the bytes written. -/
def IsD (w : World) (g : Nat) (s : BitVec 32) (n : Int) : Prop := w.heap[g]? = some (.cells #[.int .u32 (vn s), .int .i64 n] 91 (0, 0))
theorem cnew_calls (w : World) :
    Calls Try.prog 35 #[] w fun e w' => e = .returned (.pointer (some ⟨w.heap.size, 0, none⟩)) ∧ IsD w' w.heap.size 0 0 ∧ Frm Nun w w' := by
  go_enter Try.func35, Try.ntmps35
  go_wp2
  go_ret
  exact ⟨rfl, heap_alloc_new w _, (Frm.refl _ _).alloc _⟩
theorem cwrite_calls (w : World) (g : Nat) (s : BitVec 32) (n : Int) (hd : IsD w g s n) (A : Option Addr) (c : Nat) (l : List Int) (hb : Byt l) (hr : Kd.C (Kd.int .u8) w A l.length l) (hl : l.length ≤ 140737488355328) :
    Calls Try.prog 38 #[.pointer (some ⟨g, 0, none⟩), .slice A l.length c] w fun e w' => e = .returned (.tuple #[]) ∧ IsD w' g (~~~ upd (~~~ s) l) (wrap64 (n + l.length)) ∧ Frm (fun k => k = g) w w' := by
  have c0 : w.cell? ⟨g, 0, none⟩ = some (.int .u32 (vn s)) := (blk_cell hd 0).trans rfl
  have c1 : w.cell? ⟨g, 1, none⟩ = some (.int .i64 n) := (blk_cell hd 1).trans rfl
  have f0 := blk_frozen hd 0
  have f1 := blk_frozen hd 1
  have hlt := blk_lt hd
  have HD := Lib.hid hd
  have HR := Lib.hid hr
  clear hd hr
  go_enter Try.func38, Try.ntmps38
  go_wp2_with (first | (go_at_call 50; refine (update_calls s A c l hb _ HR.out (by omega)).mono ?_; rintro e w1 ⟨rfl, rfl⟩))
  go_end0
  refine ⟨rfl, ?_, ?_⟩
  · unfold IsD
    rw [blk_set (blk_set HD.out 0 _) 1 _]
    rfl
  · exact ((Frm.refl (fun k => k = g) w).set (p := ⟨g, 0, none⟩) (.inl rfl) _).set (p := ⟨g, 1, none⟩) (.inl rfl) _
theorem csum_calls (w : World) (g : Nat) (s : BitVec 32) (n : Int) (hd : IsD w g s n) :
    Calls Try.prog 39 #[.pointer (some ⟨g, 0, none⟩)] w fun e w' => e = .returned (.int .u32 (vn s)) ∧ w = w' := by
  have c0 : w.cell? ⟨g, 0, none⟩ = some (.int .u32 (vn s)) := (blk_cell hd 0).trans rfl
  go_enter Try.func39, Try.ntmps39
  go_wp2
  go_ret
  exact ⟨rfl, rfl⟩
end Go.Proofs.Ytoebhddgpicegaa
namespace Go.Proofs.Ytoebhddgpicegaa
open Go.RowKit Go.Proofs.YtoebhddgpicegaaW.PrintWords
theorem le_mod (n : Nat) : ∀ v : Int, le n (v % 256 ^ n) = le n v := by
  induction n with
  | zero => intro v; rfl
  | succ n ih =>
    intro v
    have h1 : v % 256 ^ (n + 1) % 256 = v % 256 := by
      rw [Int.pow_succ, Int.mul_comm]
      exact Int.emod_emod_of_dvd v ⟨256 ^ n, rfl⟩
    have h2 : v % 256 ^ (n + 1) / 256 = (v / 256) % 256 ^ n := by
      have hp : (0 : Int) < 256 ^ n := Int.pow_pos (by omega)
      have h3 := Int.emod_add_mul_ediv v 256
      have h4 := Int.emod_add_mul_ediv (v / 256) (256 ^ n)
      have h5 : v = (v % 256 + 256 * ((v / 256) % 256 ^ n)) + 256 ^ (n + 1) * (v / 256 / 256 ^ n) := by
        rw [Int.pow_succ, Int.mul_comm (256 ^ n) 256, Int.mul_assoc, Int.add_assoc, ← Int.mul_add, h4, h3]
      have r0 : 0 ≤ (v / 256) % 256 ^ n := Int.emod_nonneg _ (by omega)
      have r1 : (v / 256) % 256 ^ n < 256 ^ n := Int.emod_lt_of_pos _ hp
      have r2 : v % 256 ^ (n + 1) = v % 256 + 256 * ((v / 256) % 256 ^ n) := by
        conv => lhs; rw [h5]
        rw [Int.add_mul_emod_self_left]
        refine Int.emod_eq_of_lt (by omega) ?_
        rw [Int.pow_succ]
        omega
      rw [r2]
      omega
    rw [le, le, h1, h2, ih]
theorem le8_u64 (v : Int) : le 8 (u64 v) = le 8 v := le_mod 8 v
def Wr.p8 (x : Wr) (l : List Int) : Wr := l.foldl (fun x v => x.put (u64 v) 8) x
def Wr.p4 (x : Wr) (l : List Int) : Wr := l.foldl (fun x v => x.put v 4) x
theorem Wr.p8_wf {x : Wr} (h : x.Wf) (l : List Int) : (x.p8 l).Wf := by
  induction l generalizing x with
  | nil => exact h
  | cons v l ih => exact ih (Wr.put_wf h _ _)
theorem Wr.p4_wf {x : Wr} (h : x.Wf) (l : List Int) : (x.p4 l).Wf := by
  induction l generalizing x with
  | nil => exact h
  | cons v l ih => exact ih (Wr.put_wf h _ _)
theorem Wr.p8_snoc (x : Wr) (l : List Int) (v : Int) : x.p8 (l ++ [v]) = (x.p8 l).put (u64 v) 8 := by unfold Wr.p8; rw [List.foldl_append]; rfl
theorem Wr.p4_snoc (x : Wr) (l : List Int) (v : Int) : x.p4 (l ++ [v]) = (x.p4 l).put v 4 := by unfold Wr.p4; rw [List.foldl_append]; rfl
/-- How an event is written. -/
def Evt.n4 (x : Evt) : List Int := [x.kind, x.k, x.steps, x.call]
def Evt.as (x : Evt) : List Int := [x.a0, x.a1, x.a2, x.a3, x.a4]
def Evt.vs (x : Evt) : List Int := [x.v0, x.v1, x.v2]
def Evt.wr (x : Evt) : Wr := ((((newW 72).p8 x.n4).p4 x.as).put (u64 x.code) 8).p4 x.vs
theorem Wr.p8_ok {x : Wr} (h : x.err = 0) (l : List Int) (hl : (8 * l.length : Int) ≤ x.limit - x.out.length) : x.p8 l = x.add ((l.map (fun v => le 8 v)).flatten) := by
  induction l generalizing x with
  | nil => simp [Wr.p8, Wr.add]
  | cons v l ih =>
    have hl' : (8 * l.length : Int) + 8 ≤ x.limit - x.out.length := by rw [List.length_cons] at hl; omega
    have h1 : x.put (u64 v) 8 = x.add (le 8 v) := by rw [Wr.put_ok h (u64 v) (n := 8) (by omega), le8_u64]
    show (x.put (u64 v) 8).p8 l = _
    rw [h1, ih (x := x.add (le 8 v)) h (by simp only [Wr.add, List.length_append, le_len]; omega)]
    simp [Wr.add]
theorem Wr.p4_ok {x : Wr} (h : x.err = 0) (l : List Int) (hl : (4 * l.length : Int) ≤ x.limit - x.out.length) : x.p4 l = x.add ((l.map (fun v => le 4 v)).flatten) := by
  induction l generalizing x with
  | nil => simp [Wr.p4, Wr.add]
  | cons v l ih =>
    have hl' : (4 * l.length : Int) + 4 ≤ x.limit - x.out.length := by rw [List.length_cons] at hl; omega
    have h1 : x.put v 4 = x.add (le 4 v) := by rw [Wr.put_ok h v (n := 4) (by omega)]
    show (x.put v 4).p4 l = _
    rw [h1, ih (x := x.add (le 4 v)) h (by simp only [Wr.add, List.length_append, le_len]; omega)]
    simp [Wr.add]
theorem Evt.told (x : Evt) : x.wr.told = (x.bytes, 0) := by
  have e1 : (newW 72).p8 x.n4 = (newW 72).add ((x.n4.map (fun v => le 8 v)).flatten) := Wr.p8_ok rfl _ (by simp [Evt.n4, newW]; omega)
  have e2 : ((newW 72).add ((x.n4.map (fun v => le 8 v)).flatten)).p4 x.as = ((newW 72).add ((x.n4.map (fun v => le 8 v)).flatten)).add ((x.as.map (fun v => le 4 v)).flatten) := Wr.p4_ok rfl _ (by simp [Evt.n4, Evt.as, newW, Wr.add, le_len]; omega)
  have e3 : (((newW 72).add ((x.n4.map (fun v => le 8 v)).flatten)).add ((x.as.map (fun v => le 4 v)).flatten)).put (u64 x.code) 8 = (((newW 72).add ((x.n4.map (fun v => le 8 v)).flatten)).add ((x.as.map (fun v => le 4 v)).flatten)).add (le 8 x.code) := by
    rw [Wr.put_ok rfl (u64 x.code) (n := 8) (by simp [Evt.n4, Evt.as, newW, Wr.add, le_len]; omega), le8_u64]
  unfold Evt.wr
  rw [e1, e2, e3, Wr.p4_ok rfl x.vs (by simp [Evt.n4, Evt.as, Evt.vs, newW, Wr.add, le_len]; omega)]
  simp [Wr.told, Wr.add, newW, Evt.bytes, Evt.n4, Evt.as, Evt.vs]
def zev : Evt := ⟨0, 0, 0, 0, 0, 0, 0, 0, 0, 0, 0, 0, 0, 0⟩
theorem at_ev {w : World} {A : Option Addr} {xs : List Evt} (h : Kd.C kev w A xs.length xs) (i : Nat) (h1 : i < xs.length) : ∃ ad, ∃ x : Evt, A = some ad ∧ Hid (xs.getD i zev = x) ∧
    ∀ j u, x.cells[j]? = some u → w.cell? (ad.add (i * 14 + j)) = some u := by
  obtain ⟨ad, c, e, _, hK, hc⟩ := Kd.C_get h zev (i : Int) (by omega) (by omega)
  obtain rfl : c = _ := hK
  exact ⟨ad, _, e, Lib.hid rfl, fun j u hj => hc j u hj⟩
end Go.Proofs.Ytoebhddgpicegaa
namespace Go.Proofs.Ytoebhddgpicegaa
open Go.RowKit Go.Proofs.YtoebhddgpicegaaW.PrintWords
set_option linter.unusedSimpArgs false
/-- The cells of an event at a place. -/
structure EvAt (w : World) (a : Addr) (x : Evt) : Prop where
  c0 : w.cell? a = some (.int .i64 x.kind)
  c1 : w.cell? ⟨a.block, a.off + 1, none⟩ = some (.int .i64 x.k)
  c2 : w.cell? ⟨a.block, a.off + 2, none⟩ = some (.int .i64 x.steps)
  c3 : w.cell? ⟨a.block, a.off + 3, none⟩ = some (.int .i64 x.call)
  c4 : w.cell? ⟨a.block, a.off + 4, none⟩ = some (.int .u32 x.a0)
  c5 : w.cell? ⟨a.block, a.off + 5, none⟩ = some (.int .u32 x.a1)
  c6 : w.cell? ⟨a.block, a.off + 6, none⟩ = some (.int .u32 x.a2)
  c7 : w.cell? ⟨a.block, a.off + 7, none⟩ = some (.int .u32 x.a3)
  c8 : w.cell? ⟨a.block, a.off + 8, none⟩ = some (.int .u32 x.a4)
  c9 : w.cell? ⟨a.block, a.off + 9, none⟩ = some (.int .i64 x.code)
  c10 : w.cell? ⟨a.block, a.off + 10, none⟩ = some (.int .u32 x.v0)
  c11 : w.cell? ⟨a.block, a.off + 11, none⟩ = some (.int .u32 x.v1)
  c12 : w.cell? ⟨a.block, a.off + 12, none⟩ = some (.int .u32 x.v2)
  c13 : w.cell? ⟨a.block, a.off + 13, none⟩ = some (.int .i64 x.serial)
theorem at_ev' {w : World} {A : Option Addr} {xs : List Evt} (h : Kd.C kev w A xs.length xs) (i : Nat) (h1 : i < xs.length) : ∃ ad, ∃ x : Evt, A = some ad ∧ Hid (xs.getD i zev = x) ∧ EvAt w (ad.add (i * 14)) x := by
  obtain ⟨ad, x, e, hx, hc⟩ := at_ev h i h1
  refine ⟨ad, x, e, hx, hc 0 _ rfl, ?_, ?_, ?_, ?_, ?_, ?_, ?_, ?_, ?_, ?_, ?_, ?_, ?_⟩
  all_goals
    rw [← add_field _ _ _ (by omega)]
    exact hc _ _ rfl
theorem EvAt.frm {S : Nat → Prop} {w w1 : World} {a : Addr} {x : Evt} (h : EvAt w a x) (hf : Frm S w w1) (hn : ¬ S a.block) : EvAt w1 a x :=
  ⟨hf.cell h.c0 hn, hf.cell h.c1 hn, hf.cell h.c2 hn, hf.cell h.c3 hn, hf.cell h.c4 hn, hf.cell h.c5 hn, hf.cell h.c6 hn, hf.cell h.c7 hn, hf.cell h.c8 hn, hf.cell h.c9 hn, hf.cell h.c10 hn, hf.cell h.c11 hn, hf.cell h.c12 hn, hf.cell h.c13 hn⟩
/-- The block of an event's own variable. -/
def EvBox (w : World) (b : Nat) (x : Evt) : Prop := w.heap[b]? = some (.cells x.cells.toArray 39 (0, 0))
theorem EvBox.cells {w : World} {b : Nat} {x : Evt} (h : EvBox w b x) : w.cell? ⟨b, 0, none⟩ = some (.int .i64 x.kind) ∧ w.cell? ⟨b, 1, none⟩ = some (.int .i64 x.k) ∧ w.cell? ⟨b, 2, none⟩ = some (.int .i64 x.steps) ∧ w.cell? ⟨b, 3, none⟩ = some (.int .i64 x.call) ∧ w.cell? ⟨b, 4, none⟩ = some (.int .u32 x.a0) ∧ w.cell? ⟨b, 5, none⟩ = some (.int .u32 x.a1) ∧ w.cell? ⟨b, 6, none⟩ = some (.int .u32 x.a2) ∧ w.cell? ⟨b, 7, none⟩ = some (.int .u32 x.a3) ∧ w.cell? ⟨b, 8, none⟩ = some (.int .u32 x.a4) ∧ w.cell? ⟨b, 9, none⟩ = some (.int .i64 x.code) ∧ w.cell? ⟨b, 10, none⟩ = some (.int .u32 x.v0) ∧ w.cell? ⟨b, 11, none⟩ = some (.int .u32 x.v1) ∧ w.cell? ⟨b, 12, none⟩ = some (.int .u32 x.v2) ∧ w.cell? ⟨b, 13, none⟩ = some (.int .i64 x.serial) :=
  ⟨(blk_cell h 0).trans rfl, (blk_cell h 1).trans rfl, (blk_cell h 2).trans rfl, (blk_cell h 3).trans rfl, (blk_cell h 4).trans rfl, (blk_cell h 5).trans rfl, (blk_cell h 6).trans rfl, (blk_cell h 7).trans rfl, (blk_cell h 8).trans rfl, (blk_cell h 9).trans rfl, (blk_cell h 10).trans rfl, (blk_cell h 11).trans rfl, (blk_cell h 12).trans rfl, (blk_cell h 13).trans rfl⟩
theorem EvBox.frm {S : Nat → Prop} {w w1 : World} {b : Nat} {x : Evt} (h : EvBox w b x) (hf : Frm S w w1) (hn : ¬ S b) : EvBox w1 b x := hf.blk h hn
set_option maxRecDepth 20000 in
theorem idx_as (w : World) (x : Evt) (j : Nat) (hj : j < 5) : (Instr.index 36 (.agg #[.int .u32 x.a0, .int .u32 x.a1, .int .u32 x.a2, .int .u32 x.a3, .int .u32 x.a4]) (.int .i64 (j : Int))).run Try.prog w = .ok (.int .u32 (x.as.getD j 0)) w := by
  unfold Instr.index
  match j, hj with
  | 0, _ => simp [Evt.as]; rfl
  | 1, _ => simp [Evt.as]; rfl
  | 2, _ => simp [Evt.as]; rfl
  | 3, _ => simp [Evt.as]; rfl
  | 4, _ => simp [Evt.as]; rfl
set_option maxRecDepth 20000 in
theorem idx_vs (w : World) (x : Evt) (j : Nat) (hj : j < 3) : (Instr.index 37 (.agg #[.int .u32 x.v0, .int .u32 x.v1, .int .u32 x.v2]) (.int .i64 (j : Int))).run Try.prog w = .ok (.int .u32 (x.vs.getD j 0)) w := by
  unfold Instr.index
  match j, hj with
  | 0, _ => simp [Evt.vs]; rfl
  | 1, _ => simp [Evt.vs]; rfl
  | 2, _ => simp [Evt.vs]; rfl
theorem EvOk.as {x : Evt} (h : EvOk x) (j : Nat) (hj : j < 5) : 0 ≤ x.as.getD j 0 ∧ x.as.getD j 0 < 4294967296 := by
  match j, hj with
  | 0, _ => exact h.a0
  | 1, _ => exact h.a1
  | 2, _ => exact h.a2
  | 3, _ => exact h.a3
  | 4, _ => exact h.a4
theorem EvOk.vs {x : Evt} (h : EvOk x) (j : Nat) (hj : j < 3) : 0 ≤ x.vs.getD j 0 ∧ x.vs.getD j 0 < 4294967296 := by
  match j, hj with
  | 0, _ => exact h.v0
  | 1, _ => exact h.v1
  | 2, _ => exact h.v2
theorem crc_app (l m : List Int) : ~~~ upd (~~~ crc l) m = crc (l ++ m) := by
  unfold crc
  rw [BitVec.not_not, upd_app]
theorem Wr.p4_nil (x : Wr) : x.p4 [] = x := rfl
set_option maxHeartbeats 4000000 in
set_option maxRecDepth 100000 in
theorem digest_calls (w : World) (A : Option Addr) (c : Nat) (evs : List Evt) (hr : Kd.C kev w A evs.length evs) (hl : evs.length ≤ 1599289640401) (hok : ∀ x ∈ evs, EvOk x) :
    Calls Try.prog 17 #[.slice A evs.length c] w fun e w' => e = .returned (.int .u32 (vn (crc (ebytes evs)))) ∧ Frm Nun w w' := by
  have HR := Lib.hid hr
  clear hr
  go_enter Try.func17, Try.ntmps17
  go_wp2_with (first | (go_at_call 35; refine (cnew_calls w).mono ?_; rintro e w1 ⟨rfl, hd, hf⟩; have HD := Lib.hid hd; have HF := Lib.hid hf; clear hd hf))
  have hz1 : w.heap.size < w1.heap.size := blk_lt HD.out
  go_loopw [18] (fun i wr => ∃ k : Nat, k ≤ evs.length ∧ i = .int .i64 k ∧ (∃ n, IsD wr w.heap.size (crc (ebytes (evs.take k))) n) ∧ Frm Nun w wr ∧ w.heap.size < wr.heap.size) (fun i _ => evs.length - (intOf i).toNat)
  case atStart => exact ⟨0, Nat.zero_le _, rfl, ⟨0, by rw [List.take_zero]; exact HD.out⟩, HF.out, hz1⟩
  case round =>
    clear HD HF hz1
    obtain ⟨k, hk, rfl, ⟨n, hd⟩, hf, hlt1⟩ := hrel
    obtain ⟨wo, hwo⟩ : ∃ u, u = wr := ⟨_, rfl⟩
    subst hwo
    have HD := Lib.hid hd
    have HF1 := Lib.hid hf
    clear hd hf
    by_cases hlt : k < evs.length
    · obtain ⟨ad, x, rfl, hx, hc⟩ := at_ev' HR.out k hlt
      have hx' : EvOk x := hok x (by rw [← hx.out, getD_at hlt]; exact List.getElem_mem _)
      have HOK := Lib.hid hx'
      have HC := Lib.hid (hc.frm HF1.out (fun h => h))
      clear hx' hc hok
      obtain ⟨c0, c1, c2, c3, c4, c5, c6, c7, c8, c9, c10, c11, c12, c13⟩ := HC.out
      go_wp2_with fail
      clear c0 c1 c2 c3 c4 c5 c6 c7 c8 c9 c10 c11 c12 c13 HC
      obtain ⟨W2, hW2⟩ : ∃ W2, W2 = wo.alloc (.cells #[.int .i64 x.kind, .int .i64 x.k, .int .i64 x.steps, .int .i64 x.call, .int .u32 x.a0, .int .u32 x.a1, .int .u32 x.a2, .int .u32 x.a3, .int .u32 x.a4, .int .i64 x.code, .int .u32 x.v0, .int .u32 x.v1, .int .u32 x.v2, .int .i64 x.serial] 39) := ⟨_, rfl⟩
      have hb2 : EvBox W2 wo.heap.size x := by rw [hW2]; exact heap_alloc_new wo _
      have hf2 : Frm Nun wo W2 := by rw [hW2]; exact (Frm.refl _ _).alloc _
      have hz2 : W2.heap.size = wo.heap.size + 1 := by rw [hW2]; simp
      simp only [← hW2]
      clear hW2
      refine (new_calls 72 (by omega) (by omega) W2).mono ?_
      rintro e w3 ⟨rfl, hi3, hf3⟩
      have hb3 := hb2.frm hf3 (fun h => h)
      obtain ⟨d0, d1, d2, d3, _⟩ := hb3.cells
      have HB3 := Lib.hid hb3
      have HI3 := Lib.hid hi3
      have HF3 := Lib.hid (hf2.trans hf3 (fun _ h => h.elim))
      have hz3 := hi3.lt
      have hz3' := hf3.size
      clear hb2 hb3 hi3 hf2 hf3
      go_wp2_with fail
      obtain ⟨W4, hW4⟩ : ∃ W4, W4 = w3.alloc (.cells #[.int .i64 x.kind, .int .i64 x.k, .int .i64 x.steps, .int .i64 x.call] 3) := ⟨_, rfl⟩
      have hb4 : W4.heap[w3.heap.size]? = some (.cells #[.int .i64 x.kind, .int .i64 x.k, .int .i64 x.steps, .int .i64 x.call] 3 (0, 0)) := by rw [hW4]; exact heap_alloc_new w3 _
      have hf4 : Frm Nun w3 W4 := by rw [hW4]; exact (Frm.refl _ _).alloc _
      have hz4 : W4.heap.size = w3.heap.size + 1 := by rw [hW4]; simp
      rw [← hW4]
      clear hW4 d0 d1 d2 d3
      obtain ⟨S, hS⟩ : ∃ S : Nat → Prop, S = fun i => (wo.heap.size + 1 ≤ i ∧ i < w3.heap.size) ∨ w3.heap.size + 1 ≤ i := ⟨_, rfl⟩
      have hSn : ∀ i, S i ↔ (wo.heap.size + 1 ≤ i ∧ i < w3.heap.size) ∨ w3.heap.size + 1 ≤ i := fun i => by rw [hS]
      clear hS
      have hi4 : IsW W4 (wo.heap.size + 1) S (newW 72) := by
        have := (HI3.out.bnd.frm hf4 (fun _ _ h => h)).mono (S' := S) (fun i hi => (hSn i).2 (.inl ⟨by have := hi.1.elim (fun h => h.elim) id; omega, hi.2⟩))
        rw [← hz2]
        exact this
      have HI4 := Lib.hid hi4
      have HB4 := Lib.hid hb4
      have HF4 := Lib.hid (HF3.out.trans hf4 (fun _ h => h.elim))
      have HSN := Lib.hid hSn
      have HBX := Lib.hid (HB3.out.frm hf4 (fun h => h))
      clear hi4 hb4 hf4 hSn HI3 HB3 HF3
      go_loopw [33] (fun i wr => ∃ j : Nat, j ≤ 4 ∧ i = .int .i64 j ∧ IsW wr (wo.heap.size + 1) S ((newW 72).p8 (x.n4.take j)) ∧ Frm S W4 wr) (fun i _ => 4 - (intOf i).toNat)
      case atStart => exact ⟨0, by omega, rfl, HI4.out, Frm.refl _ _⟩
      case round =>
        obtain ⟨j, hj, rfl, hi, hf⟩ := hrel
        by_cases hlt4 : j < 4
        · have hb := hf.blk HB4.out (fun h => by have := (HSN.out _).1 h; omega)
          obtain ⟨y, hy⟩ : ∃ y, y = x.n4.getD j 0 := ⟨_, rfl⟩
          have hc : wr.cell? ⟨w3.heap.size, j, none⟩ = some (.int .i64 y) := by
            rw [hy]
            refine (blk_cell hb j).trans ?_
            match j, hlt4 with
            | 0, _ => rfl
            | 1, _ => rfl
            | 2, _ => rfl
            | 3, _ => rfl
          have HY := Lib.hid hy
          have HI := Lib.hid hi
          have HF := Lib.hid hf
          clear hy hi hf hb
          go_wp2_with fail
          refine (u64_calls wr _ S _ (Wr.p8_wf (newW_wf 72) _) HI.out y).mono ?_
          rintro e w5 ⟨rfl, hi5, hf5⟩
          have hle := HF.out.size
          have HI5 := Lib.hid (hi5.mono (S' := S) (fun i h => h.elim id (fun h => (HSN.out i).2 (.inr (by omega)))))
          have HF5 := Lib.hid (HF.out.trans hf5 (fun i h => .inl h))
          clear hi5 hf5 hc
          go_wp2
          go_roundw
          case rel =>
            refine ⟨j + 1, by omega, by go_num, ?_, HF5.out⟩
            rw [take_snoc (l := x.n4) (k := j) hlt4, ← HY.out, Wr.p8_snoc]
            exact HI5.out
          case measure => simp [intOf]; omega
        · obtain rfl : j = 4 := by omega
          obtain ⟨wp, hwp⟩ : ∃ u, u = wr := ⟨_, rfl⟩
          subst hwp
          have hb := HBX.out.frm hf (fun h => by have := (HSN.out _).1 h; omega)
          obtain ⟨_, _, _, _, d4, d5, d6, d7, d8, _⟩ := hb.cells
          have HI := Lib.hid hi
          have HF := Lib.hid hf
          clear hi hf hb HI4
          go_wp2_with fail
          clear d4 d5 d6 d7 d8
          go_loopw [43] (fun i wr => ∃ j : Nat, j ≤ 5 ∧ i = .int .i64 j ∧ IsW wr (wo.heap.size + 1) S (((newW 72).p8 x.n4).p4 (x.as.take j)) ∧ Frm S W4 wr) (fun i _ => 5 - (intOf i).toNat)
          case atStart => exact ⟨0, by omega, rfl, HI.out, HF.out⟩
          case round =>
            clear HI HF
            obtain ⟨j, hj, rfl, hi, hf⟩ := hrel
            by_cases hlt5 : j < 5
            · have hix := idx_as wr x j hlt5
              have hyr := HOK.out.as j hlt5
              obtain ⟨y, hy⟩ : ∃ y, y = x.as.getD j 0 := ⟨_, rfl⟩
              rw [← hy] at hix hyr
              have HYR := Lib.hid hyr
              have HY := Lib.hid hy
              have HI := Lib.hid hi
              have HF := Lib.hid hf
              clear hy hi hf hyr
              go_wp2_with fail
              refine (u32_calls wr _ S _ (Wr.p4_wf (Wr.p8_wf (newW_wf 72) _) _) HI.out y HYR.out).mono ?_
              rintro e w5 ⟨rfl, hi5, hf5⟩
              have hle := HF.out.size
              have HI5 := Lib.hid (hi5.mono (S' := S) (fun i h => h.elim id (fun h => (HSN.out i).2 (.inr (by omega)))))
              have HF5 := Lib.hid (HF.out.trans hf5 (fun i h => .inl h))
              clear hi5 hf5 hix
              go_wp2
              go_roundw
              case rel =>
                repeat apply Exists.intro
                refine ⟨?_, rfl⟩
                refine ⟨j + 1, by omega, by go_num, ?_, HF5.out⟩
                rw [take_snoc (l := x.as) (k := j) hlt5, ← HY.out, Wr.p4_snoc]
                exact HI5.out
              case measure => simp [intOf]; omega
            · obtain rfl : j = 5 := by omega
              obtain ⟨wq, hwq⟩ : ∃ u, u = wr := ⟨_, rfl⟩
              subst hwq
              have hb := HBX.out.frm hf (fun h => by have := (HSN.out _).1 h; omega)
              obtain ⟨_, _, _, _, _, _, _, _, _, d9, _⟩ := hb.cells
              have HI := Lib.hid hi
              have HF := Lib.hid hf
              clear hi hf hb
              go_wp2_with fail
              clear d9
              refine (u64_calls wq _ S _ (Wr.p4_wf (Wr.p8_wf (newW_wf 72) _) _) HI.out x.code).mono ?_
              rintro e w5 ⟨rfl, hi5, hf5⟩
              have hle := HF.out.size
              have hb := HBX.out.frm (HF.out.trans hf5 (fun i h => .inl h)) (fun h => by have := (HSN.out _).1 h; omega)
              obtain ⟨_, _, _, _, _, _, _, _, _, _, d10, d11, d12, _⟩ := hb.cells
              have HI5 := Lib.hid (hi5.mono (S' := S) (fun i h => h.elim id (fun h => (HSN.out i).2 (.inr (by omega)))))
              have HF5 := Lib.hid (HF.out.trans hf5 (fun i h => .inl h))
              clear hi5 hf5 HI HF hb
              go_wp2_with fail
              clear d10 d11 d12
              go_loopw [56] (fun i wr => ∃ j : Nat, j ≤ 3 ∧ i = .int .i64 j ∧ IsW wr (wo.heap.size + 1) S (((((newW 72).p8 x.n4).p4 x.as).put (Go.Proofs.Ytoebhddgpicegaa.u64 x.code) 8).p4 (x.vs.take j)) ∧ Frm S W4 wr) (fun i _ => 3 - (intOf i).toNat)
              case atStart => exact ⟨0, by omega, rfl, by rw [List.take_zero, Wr.p4_nil]; exact HI5.out, HF5.out⟩
              case round =>
                clear HI5 HF5
                obtain ⟨j, hj, rfl, hi, hf⟩ := hrel
                by_cases hlt3 : j < 3
                · have hix := idx_vs wr x j hlt3
                  have hyr := HOK.out.vs j hlt3
                  obtain ⟨y, hy⟩ : ∃ y, y = x.vs.getD j 0 := ⟨_, rfl⟩
                  rw [← hy] at hix hyr
                  have HYR := Lib.hid hyr
                  have HY := Lib.hid hy
                  have HI := Lib.hid hi
                  have HF := Lib.hid hf
                  clear hy hi hf hyr
                  go_wp2_with fail
                  refine (u32_calls wr _ S _ (Wr.p4_wf (Wr.put_wf (Wr.p4_wf (Wr.p8_wf (newW_wf 72) _) _) _ _) _) HI.out y HYR.out).mono ?_
                  rintro e w6 ⟨rfl, hi6, hf6⟩
                  have hle := HF.out.size
                  have HI6 := Lib.hid (hi6.mono (S' := S) (fun i h => h.elim id (fun h => (HSN.out i).2 (.inr (by omega)))))
                  have HF6 := Lib.hid (HF.out.trans hf6 (fun i h => .inl h))
                  clear hi6 hf6 hix
                  go_wp2
                  go_roundw
                  case rel =>
                    refine ⟨j + 1, by omega, by go_num, ?_, HF6.out⟩
                    rw [take_snoc (l := x.vs) (k := j) hlt3, ← HY.out, Wr.p4_snoc]
                    exact HI6.out
                  case measure => simp [intOf]; omega
                · obtain rfl : j = 3 := by omega
                  obtain ⟨wu, hwu⟩ : ∃ u, u = wr := ⟨_, rfl⟩
                  subst hwu
                  have HI := Lib.hid hi
                  have HF := Lib.hid hf
                  clear hi hf
                  go_wp2_with fail
                  refine (out_calls wu _ S _ (show x.wr.Wf from Wr.p4_wf (Wr.put_wf (Wr.p4_wf (Wr.p8_wf (newW_wf 72) _) _) _ _) _) HI.out).mono ?_
                  rintro e w7 ⟨v, rfl, hv, hf7⟩
                  have t1 : x.wr.told.1 = x.bytes := by rw [Evt.told]
                  have t2 : x.wr.told.2 = 0 := by rw [Evt.told]
                  obtain ⟨B, cb, rfl, hcb, hCb⟩ := Kd.R_reads hv
                  rw [t1] at hcb hCb ⊢
                  rw [t2]
                  have hfa := (HF4.out.trans HF.out (fun i h => .inr (by have := (HSN.out i).1 h; omega))).trans hf7 (fun _ h => h.elim)
                  have hd7 : IsD w7 w.heap.size (crc (ebytes (evs.take k))) n := (hfa.mono (S' := fun i => wo.heap.size ≤ i) (fun _ h => h.elim)).blk HD.out (fun h => by omega)
                  have HFA := Lib.hid (HF1.out.trans hfa (fun _ h => h.elim))
                  have HD7 := Lib.hid hd7
                  have HCb := Lib.hid hCb
                  have hx72 := x.len
                  clear hv hf7 t1 t2 hfa hd7 hCb
                  go_wp2_with (first | (go_at_call 38; refine (cwrite_calls w7 w.heap.size _ n HD7.out B cb x.bytes x.byt HCb.out (by omega)).mono ?_; rintro e w8 ⟨rfl, hd8, hf8⟩; have HD8 := Lib.hid hd8; have HF8 := Lib.hid hf8; clear hd8 hf8))
                  go_roundw
                  case rel =>
                    refine ⟨k + 1, by omega, by go_num, ⟨wrap64 (n + x.bytes.length), ?_⟩, HFA.out.trans HF8.out (fun i h => .inr (by omega)), by have := blk_lt HD8.out; omega⟩
                    have hxe := hx.out
                    rw [getD_at hlt] at hxe
                    rw [List.take_succ_eq_append_getElem hlt, ebytes_snoc, hxe, ← crc_app]
                    exact HD8.out
                  case measure => simp [intOf]; omega
    · obtain rfl : k = evs.length := by omega
      rw [List.take_length] at HD
      go_wp2_with (first | (go_at_call 39; refine (csum_calls wo w.heap.size _ n HD.out).mono ?_; rintro e w8 ⟨rfl, rfl⟩))
      go_ret
      exact ⟨rfl, HF1.out⟩
end Go.Proofs.Ytoebhddgpicegaa
