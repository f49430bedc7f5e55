/- Lemmas for this claim: Open, Arg. -/
import Derived.Test.YtoebhddgpicegaaZa
import Derived.Test.YtoebhddgpicegaaRows
import Derived.OpenShut
import Derived.SizedLaws
import Derived.ChangeSlices
import Derived.Test.YtoebhddgpicegaaZf
namespace Go.Proofs.Ytoebhddgpicegaa
open Go.RowKit Go.Proofs.YtoebhddgpicegaaW.PrintWords
/-- How an argument's reading is laid open: whatever reads at type t has d's cells, is ok, and of no more bulk than the reading. -/
def Opens {α : Type} (P : Program) (t : TypeId) (d : Kd α) (ok : α → Prop) (mu : α → Nat) : Prop :=
  ∀ {H : Type} {enc : TypeId × Value → H} {w : World} {base : Nat} {spare : Nat → Bool} {held : Bool} {fuel : Nat} {cs : List Value} {x : DataW H × List MemPlace},
    DataW.trod enc P w base spare held fuel t cs = some x → (∀ n ∈ x.1.weights P t, n ≤ reachBytes) → ∃ a, d.K w a cs ∧ ok a ∧ mu a ≤ Rows.uptoBulk x.1
theorem opens_int {P : Program} {t : TypeId} {k : IntKind} (hu : P.underlying t = some (.int k)) : Opens P t (Kd.int k) (fun n => (Lit.int k n).wf = true) (fun _ => 1) := by
  intro H enc w base spare held fuel cs x h _
  obtain ⟨n, rfl, rfl, hw⟩ := DataW.trod_int hu h
  exact ⟨n, rfl, hw, by simp only [Rows.uptoBulk]; omega⟩
theorem weightsAll_mem {H : Type} {P : Program} {e : TypeId} : ∀ {ds : List (DataW H)} {d : DataW H}, d ∈ ds → ∀ n ∈ d.weights P e, n ∈ DataW.weightsAll P e ds
  | d0 :: ds, d, h, n, hn => by
    rw [DataW.weightsAll, List.mem_append]
    rcases List.mem_cons.1 h with rfl | h
    · exact .inl hn
    · exact .inr (weightsAll_mem h n hn)
theorem pick_list {α : Type} {Q : Nat → α → Prop} : ∀ (n : Nat), (∀ i, i < n → ∃ a, Q i a) → ∃ l : List α, l.length = n ∧ ∀ i a, l[i]? = some a → Q i a := by
  intro n
  induction n with
  | zero => intro _; exact ⟨[], rfl, fun i a h => by simp at h⟩
  | succ n ih =>
    intro h
    obtain ⟨l, h1, h2⟩ := ih (fun i hi => h i (by omega))
    obtain ⟨a, ha⟩ := h n (by omega)
    refine ⟨l ++ [a], by rw [List.length_append, h1]; rfl, fun i b hb => ?_⟩
    by_cases hi : i < n
    · rw [List.getElem?_append_left (by omega)] at hb
      exact h2 i b hb
    · have hlt := (List.getElem?_eq_some_iff.1 hb).1
      rw [List.length_append, List.length_singleton] at hlt
      obtain rfl : i = n := by omega
      rw [List.getElem?_append_right (by omega), h1, Nat.sub_self] at hb
      obtain rfl : a = b := by simpa using hb
      exact ha
theorem sum_le {α H : Type} {mu : α → Nat} : ∀ (l : List α) (ds : List (DataW H)), l.length ≤ ds.length → (∀ (i : Nat) (a : α) (d : DataW H), l[i]? = some a → ds[i]? = some d → mu a ≤ Rows.uptoBulk d) → (l.map mu).sum ≤ Rows.uptoBulkAll ds
  | [], _, _, _ => by simp
  | a :: l, [], h, _ => by simp at h
  | a :: l, d :: ds, h, k => by
    rw [List.map_cons, List.sum_cons, Rows.uptoBulkAll]
    have h1 := k 0 a d rfl rfl
    have h2 := sum_le l ds (by simpa using h) (fun i b c hb hc => k (i + 1) b c (by simpa using hb) (by simpa using hc))
    omega
theorem opens_slice {α : Type} {P : Program} {t e : TypeId} {d : Kd α} {ok : α → Prop} {mu : α → Nat} {B : Nat} (hu : P.underlying t = some (.slice e)) (hc : P.cellsOf e = d.sz) (hB : P.bytesOf e = B) (he : Opens P e d ok mu) :
    Opens P t (Kd.slice e d) (fun l => l.length * B ≤ reachBytes ∧ ∀ x ∈ l, ok x) (fun l => (l.map mu).sum + 1) := by
  intro H enc w base spare held fuel cs x h hw
  rcases DataW.trod_slice hu h with ⟨rfl, rfl⟩ | ⟨a, len, cap, elems, rest, n, _, rfl, rfl, hb, hl, hm, hlen, hel, _, _⟩
  · exact ⟨[], ⟨none, 0, rfl, Nat.le_refl _, Kd.C_nil d w⟩, ⟨by simp, fun x hx => by cases hx⟩, by simp [Rows.uptoBulk]⟩
  · have hw1 : ∀ m ∈ (elems.length + rest.length) * P.bytesOf e :: (DataW.weightsAll P e (elems.map (·.1)) ++ DataW.weightsAll P e (rest.map (·.1))), m ≤ reachBytes := by
      intro m hm'
      refine hw m ?_
      simp only [DataW.weights, hu, List.length_map]
      exact hm'
    have hsz : (elems.length + rest.length) * B ≤ reachBytes := by rw [← hB]; exact hw1 _ List.mem_cons_self
    obtain ⟨l, h1, h2⟩ := pick_list (Q := fun i v => ∃ c, w.cells? base (a.add (i * P.cellsOf e)) (P.cellsOf e) = some c ∧ d.K w v c ∧ ok v ∧ ∀ y, elems[i]? = some y → mu v ≤ Rows.uptoBulk y.1) len (fun i hi => by
      have h3 := hel i hi
      obtain ⟨y, hy⟩ : ∃ y, elems[i]? = some y := ⟨_, List.getElem?_eq_getElem (by omega)⟩
      rw [hy, Option.bind_eq_some_iff] at h3
      obtain ⟨c, hc1, hc2⟩ := h3
      obtain ⟨v, hv, hk, hmu⟩ := he hc2 (fun m hm' => hw1 m (List.mem_cons_of_mem _ (List.mem_append.2 (.inl (weightsAll_mem (List.mem_map.2 ⟨y, List.mem_of_getElem? hy, rfl⟩) m hm')))))
      exact ⟨v, c, hc1, hv, hk, fun z hz => by rw [hy] at hz; obtain rfl := Option.some.inj hz; exact hmu⟩)
    refine ⟨l, ⟨some a, cap, by rw [h1], by omega, ?_⟩, ⟨?_, ?_⟩, ?_⟩
    · refine ⟨rfl, by have : maxLen = 9223372036854775807 := rfl; omega, fun _ => ⟨a, rfl, fun j p hj => ?_⟩⟩
      obtain ⟨c, hc1, hc2, _⟩ := h2 j p hj
      obtain ⟨_, hcl, hcc⟩ := World.cells?_some hc1
      refine ⟨c, by rw [hcl, hc], hc2, fun i u hu2 => ?_⟩
      have hi : i < P.cellsOf e := by rw [← hcl]; exact (List.getElem?_eq_some_iff.1 hu2).1
      have := hcc i hi
      rw [hu2, hc] at this
      rw [← this]
      congr 1
      unfold Addr.add
      split <;> split <;> split <;> simp_all
      all_goals omega
    · rw [h1, ← hlen]
      exact Nat.le_trans (Nat.mul_le_mul_right _ (by omega)) hsz
    · intro x hx
      obtain ⟨i, hi⟩ := List.getElem?_of_mem hx
      obtain ⟨_, _, _, hk, _⟩ := h2 i x hi
      exact hk
    · have h3 := sum_le (mu := mu) l (elems.map (·.1)) (by rw [List.length_map]; omega) (fun i b y hb hy => by
        rw [List.getElem?_map, Option.map_eq_some_iff] at hy
        obtain ⟨z, hz, rfl⟩ := hy
        obtain ⟨_, _, _, _, hm⟩ := h2 i b hb
        exact hm z hz)
      simp only [Rows.uptoBulk]
      omega
/-- Two neighbouring parts. -/
def Opens2 {α : Type} (P : Program) (ts : List TypeId) (d : Kd α) (ok : α → Prop) (mu : α → Nat) : Prop :=
  ∀ {H : Type} {enc : TypeId × Value → H} {w : World} {base : Nat} {spare : Nat → Bool} {held : Bool} {fuel : Nat} {css : List (List Value)} {xs : List (DataW H × List MemPlace)},
    css.length = ts.length → (∀ (i : Nat) t c, ts[i]? = some t → css[i]? = some c → DataW.trod enc P w base spare held fuel t c = xs[i]?) → xs.length = ts.length → (∀ n ∈ DataW.weightsEach P ts (xs.map (·.1)), n ≤ reachBytes) → ∃ a, d.K w a css.flatten ∧ ok a ∧ mu a ≤ Rows.uptoBulkAll (xs.map (·.1))
theorem opens_cons {α β : Type} {P : Program} {t : TypeId} {ts : List TypeId} {d : Kd α} {d' : Kd β} {ok : α → Prop} {ok' : β → Prop} {mu : α → Nat} {mu' : β → Nat} (h : Opens P t d ok mu) (k : Opens2 P ts d' ok' mu') : Opens2 P (t :: ts) (Kd.pair d d') (fun x => ok x.1 ∧ ok' x.2) (fun x => mu x.1 + mu' x.2) := by
  intro H enc w base spare held fuel css xs hl ht hx hw
  cases css with
  | nil => simp at hl
  | cons c css =>
    cases xs with
    | nil => simp at hx
    | cons x xs =>
      obtain ⟨a, ha, hok, hm⟩ := h (ht 0 t c rfl rfl) (fun n hn => hw n (by simp only [List.map_cons, DataW.weightsEach, List.mem_append]; exact .inl hn))
      obtain ⟨b, hb, hok', hm'⟩ := k (css := css) (xs := xs) (by simpa using hl) (fun i u e h1 h2 => ht (i + 1) u e h1 h2) (by simpa using hx) (fun n hn => hw n (by simp only [List.map_cons, DataW.weightsEach, List.mem_append]; exact .inr hn))
      exact ⟨(a, b), ⟨c, css.flatten, by simp, ha, hb⟩, ⟨hok, hok'⟩, by simp only [List.map_cons, Rows.uptoBulkAll]; omega⟩
theorem opens_last {α : Type} {P : Program} {t : TypeId} {d : Kd α} {ok : α → Prop} {mu : α → Nat} (h : Opens P t d ok mu) : Opens2 P [t] d ok mu := by
  intro H enc w base spare held fuel css xs hl ht hx hw
  match css, xs, hl, hx, ht, hw with
  | [c], [x], _, _, ht, hw =>
    obtain ⟨a, ha, hok, hm⟩ := h (ht 0 t c rfl rfl) (fun n hn => hw n (by simp only [List.map_cons, List.map_nil, DataW.weightsEach, List.mem_append]; exact .inl hn))
    exact ⟨a, by simpa using ha, hok, by simp only [List.map_cons, Rows.uptoBulkAll]; omega⟩
theorem opens_iso {α β : Type} {P : Program} {t : TypeId} {d : Kd α} {ok : α → Prop} {mu : α → Nat} (f : β → α) (g : α → β) (hg : ∀ a, f (g a) = a) (h : Opens P t d ok mu) : Opens P t (Kd.iso d f) (fun b => ok (f b)) (fun b => mu (f b)) := by
  intro H enc w base spare held fuel cs x hx hw
  obtain ⟨a, ha, hok, hm⟩ := h hx hw
  exact ⟨g a, by show d.K w (f (g a)) cs; rw [hg]; exact ha, by show ok (f (g a)); rw [hg]; exact hok, by show mu (f (g a)) ≤ _; rw [hg]; exact hm⟩
/-- The cuts of a struct's cells are its fields'. -/
def cuts (P : Program) : List Field → List Value → List (List Value)
  | [], _ => []
  | f :: fs, cs => (cs.drop f.offset).take (P.cellsOf f.type) :: cuts P fs cs
theorem opens_struct {α : Type} {P : Program} {t : TypeId} {fs : Array Field} {d : Kd α} {ok : α → Prop} {mu : α → Nat} (hu : P.underlying t = some (.struct fs)) (hcut : ∀ cs : List Value, cs.length = P.cellsOf t → (cuts P fs.toList cs).flatten = cs) (h : Opens2 P (fs.toList.map (·.type)) d ok mu) : Opens P t d ok mu := by
  intro H enc w base spare held fuel cs x hx hw
  obtain ⟨xs, n, _, rfl, hl, hxl, hf⟩ := DataW.trod_struct hu hx
  have hcl : ∀ (fs : List Field) (cs : List Value), (cuts P fs cs).length = fs.length := by
    intro fs cs
    induction fs with
    | nil => rfl
    | cons f fs ih => simp [cuts, ih]
  have hce : ∀ (fs : List Field) (cs : List Value) (i : Nat) (f : Field), fs[i]? = some f → (cuts P fs cs)[i]? = some ((cs.drop f.offset).take (P.cellsOf f.type)) := by
    intro fs cs
    induction fs with
    | nil => intro i f h; simp at h
    | cons g fs ih =>
      intro i f h
      cases i with
      | zero => simp only [List.getElem?_cons_zero, Option.some.injEq] at h; subst h; rfl
      | succ i => exact ih i f (by simpa using h)
  obtain ⟨a, ha, hok, hm⟩ := h (css := cuts P fs.toList cs) (xs := xs) (enc := enc) (base := base) (spare := spare) (held := held) (fuel := n) (w := w) (by rw [hcl, List.length_map]) (fun i u c h1 h2 => by
    rw [List.getElem?_map, Option.map_eq_some_iff] at h1
    obtain ⟨f, hf1, rfl⟩ := h1
    rw [hce fs.toList cs i f hf1] at h2
    obtain rfl := Option.some.inj h2
    exact hf i f (by simpa using hf1)) (by rw [List.length_map, hxl]; simp) (fun n hn => hw n (by simp only [DataW.weights, hu]; exact hn))
  rw [hcut cs hl] at ha
  exact ⟨a, ha, hok, by simp only [Rows.uptoBulk]; omega⟩
theorem opens_array {α : Type} {P : Program} {t e : TypeId} {n : Nat} {d : Kd α} {ok : α → Prop} {mu : α → Nat} (hu : P.underlying t = some (.array n e)) (hcut : ∀ cs : List Value, cs.length = P.cellsOf t → ((List.range n).map (fun i => (cs.drop (i * P.cellsOf e)).take (P.cellsOf e))).flatten = cs) (h : Opens2 P (List.replicate n e) d ok mu) : Opens P t d ok mu := by
  intro H enc w base spare held fuel cs x hx hw
  obtain ⟨xs, m, _, rfl, hl, hxl, hf⟩ := DataW.trod_array hu hx
  have hwe : ∀ (xs : List (DataW H)), DataW.weightsEach P (List.replicate xs.length e) xs = DataW.weightsAll P e xs := by
    intro xs
    induction xs with
    | nil => rfl
    | cons x xs ih => rw [List.length_cons, List.replicate_succ, DataW.weightsEach, DataW.weightsAll, ih]
  obtain ⟨a, ha, hok, hm⟩ := h (css := (List.range n).map (fun i => (cs.drop (i * P.cellsOf e)).take (P.cellsOf e))) (xs := xs) (enc := enc) (base := base) (spare := spare) (held := held) (fuel := m) (w := w) (by simp) (fun i u c h1 h2 => by
    have hi : i < n := by have := (List.getElem?_eq_some_iff.1 h1).1; simpa using this
    rw [List.getElem?_replicate, if_pos hi] at h1
    obtain rfl := Option.some.inj h1
    rw [List.getElem?_map, List.getElem?_range hi] at h2
    obtain rfl := Option.some.inj h2
    exact hf i hi) (by simp [hxl]) (fun q hq => hw q (by
      simp only [DataW.weights, hu]
      have := hwe (xs.map (·.1))
      rw [List.length_map, hxl] at this
      rw [← this]
      exact hq))
  rw [hcut cs hl] at ha
  exact ⟨a, ha, hok, by simp only [Rows.uptoBulk]; omega⟩
end Go.Proofs.Ytoebhddgpicegaa
namespace Go.Proofs.Ytoebhddgpicegaa
open Go.RowKit Go.Proofs.YtoebhddgpicegaaW.PrintWords
open PReplayApart
theorem opens_u8 : Opens Try.prog 5 (Kd.int .u8) (fun n => (Lit.int .u8 n).wf = true) (fun _ => 1) := opens_int Try.underlying5
theorem opens_u32 : Opens Try.prog 35 (Kd.int .u32) (fun n => (Lit.int .u32 n).wf = true) (fun _ => 1) := opens_int Try.underlying35
theorem opens_i64 : Opens Try.prog 3 (Kd.int .i64) (fun n => (Lit.int .i64 n).wf = true) (fun _ => 1) := opens_int Try.underlying3
theorem opens_bytes : Opens Try.prog 22 (Kd.slice 5 (Kd.int .u8)) (fun l => l.length * 1 ≤ reachBytes ∧ ∀ x ∈ l, (Lit.int .u8 x).wf = true) (fun l => (l.map (fun _ => 1)).sum + 1) :=
  opens_slice Try.underlying22 (by kernel_rfl) (by kernel_rfl) opens_u8
theorem opens_words : Opens Try.prog 48 (Kd.slice 35 (Kd.int .u32)) (fun l => l.length * 4 ≤ reachBytes ∧ ∀ x ∈ l, (Lit.int .u32 x).wf = true) (fun l => (l.map (fun _ => 1)).sum + 1) :=
  opens_slice Try.underlying48 (by kernel_rfl) (by kernel_rfl) opens_u32
def okP (x : S80) : Prop := (Lit.int .i64 x.f0).wf = true ∧ (Lit.int .i64 x.f1).wf = true
theorem opens_pick : Opens Try.prog 80 k80 okP (fun _ => 2) := by
  refine opens_iso (d := Kd.pair (Kd.int .i64) (Kd.int .i64)) (ok := fun x => (Lit.int .i64 x.1).wf = true ∧ (Lit.int .i64 x.2).wf = true) (mu := fun _ => 2) (fun x : S80 => (x.f0, x.f1)) (fun a => ⟨a.1, a.2⟩) (fun a => rfl) ?_
  refine opens_struct Try.underlying80 (fun cs hcs => ?_) (opens_cons opens_i64 (opens_last opens_i64))
  have hc : Try.prog.cellsOf 80 = 2 := by kernel_rfl
  have hi : Try.prog.cellsOf 3 = 1 := by kernel_rfl
  rw [hc] at hcs
  match cs, hcs with
  | [a, b], _ => simp [cuts, hi]
theorem opens_picks : Opens Try.prog 47 (Kd.slice 80 k80) (fun l => l.length * 16 ≤ reachBytes ∧ ∀ x ∈ l, okP x) (fun l => (l.map (fun _ => 2)).sum + 1) :=
  opens_slice Try.underlying47 (by kernel_rfl) (by kernel_rfl) opens_pick
def okL (x : S50) : Prop := (x.f0.length * 16 ≤ reachBytes ∧ ∀ p ∈ x.f0, okP p) ∧ (x.f1.length * 4 ≤ reachBytes ∧ ∀ a ∈ x.f1, (Lit.int .u32 a).wf = true) ∧ (Lit.int .u32 x.f2).wf = true
def muL (x : S50) : Nat := ((x.f0.map (fun _ => 2)).sum + 1) + (((x.f1.map (fun _ => 1)).sum + 1) + 1)
theorem opens_leg : Opens Try.prog 50 k50 okL muL := by
  refine opens_iso (d := Kd.pair (Kd.slice 80 k80) (Kd.pair (Kd.slice 35 (Kd.int .u32)) (Kd.int .u32))) (ok := fun x => (x.1.length * 16 ≤ reachBytes ∧ ∀ p ∈ x.1, okP p) ∧ (x.2.1.length * 4 ≤ reachBytes ∧ ∀ a ∈ x.2.1, (Lit.int .u32 a).wf = true) ∧ (Lit.int .u32 x.2.2).wf = true)
    (mu := fun x => ((x.1.map (fun _ => 2)).sum + 1) + (((x.2.1.map (fun _ => 1)).sum + 1) + 1)) (fun x : S50 => (x.f0, x.f1, x.f2)) (fun a => ⟨a.1, a.2.1, a.2.2⟩) (fun a => rfl) ?_
  refine opens_struct Try.underlying50 (fun cs hcs => ?_) (opens_cons opens_picks (opens_cons opens_words (opens_last opens_u32)))
  have hc : Try.prog.cellsOf 50 = 3 := by kernel_rfl
  have h0 : Try.prog.cellsOf 47 = 1 := by kernel_rfl
  have h1 : Try.prog.cellsOf 48 = 1 := by kernel_rfl
  have h2 : Try.prog.cellsOf 35 = 1 := by kernel_rfl
  rw [hc] at hcs
  match cs, hcs with
  | [a, b, c], _ => simp [cuts, h0, h1, h2]
theorem opens_legs : Opens Try.prog 23 (Kd.slice 50 k50) (fun l => l.length * 56 ≤ reachBytes ∧ ∀ x ∈ l, okL x) (fun l => (l.map muL).sum + 1) :=
  opens_slice Try.underlying23 (by kernel_rfl) (by kernel_rfl) opens_leg
theorem wf_u8 {n : Int} (h : (Lit.int .u8 n).wf = true) : 0 ≤ n ∧ n < 256 := by
  simp [Lit.wf, IntKind.min, IntKind.max, IntKind.signed, IntKind.bits] at h
  omega
theorem wf_u32 {n : Int} (h : (Lit.int .u32 n).wf = true) : 0 ≤ n ∧ n < 4294967296 := by
  simp [Lit.wf, IntKind.min, IntKind.max, IntKind.signed, IntKind.bits] at h
  omega
theorem wf_i64 {n : Int} (h : (Lit.int .i64 n).wf = true) : -9223372036854775808 ≤ n ∧ n < 9223372036854775808 := by
  simp [Lit.wf, IntKind.min, IntKind.max, IntKind.signed, IntKind.bits] at h
  omega
theorem bytes_ok {l : List Int} (h : l.length * 1 ≤ reachBytes ∧ ∀ x ∈ l, (Lit.int .u8 x).wf = true) : Byt l ∧ l.length ≤ 140737488351232 :=
  ⟨fun x hx => wf_u8 (h.2 x hx), by have := h.1; unfold reachBytes at this; omega⟩
theorem legs_ok {l : List S50} (h : l.length * 56 ≤ reachBytes ∧ ∀ x ∈ l, okL x) : LegsOk l ∧ ∀ x ∈ l, ∀ p ∈ x.f0, (-9223372036854775808 ≤ p.f0 ∧ p.f0 < 9223372036854775808) ∧ (-9223372036854775808 ≤ p.f1 ∧ p.f1 < 9223372036854775808) := by
  have hb : reachBytes = 140737488351232 := rfl
  refine ⟨⟨by have := h.1; omega, fun x hx => ?_⟩, fun x hx p hp => ?_⟩
  · obtain ⟨⟨h1, _⟩, ⟨h2, h3⟩, h4⟩ := h.2 x hx
    exact ⟨wf_u32 h4, fun a ha => wf_u32 (h3 a ha), by omega, by omega⟩
  · obtain ⟨⟨_, h2⟩, _⟩ := h.2 x hx
    exact ⟨wf_i64 (h2 p hp).1, wf_i64 (h2 p hp).2⟩
end Go.Proofs.Ytoebhddgpicegaa
