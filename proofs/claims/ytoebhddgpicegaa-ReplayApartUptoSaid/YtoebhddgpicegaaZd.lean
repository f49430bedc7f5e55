/- Lemmas for this claim: PureA, Own, Fix. -/
import Derived.Test.YtoebhddgpicegaaZc
import Derived.Test.YtoebhddgpicegaaPReplayApartx4
import Derived.Test.YtoebhddgpicegaaZb
namespace Go.Proofs.Ytoebhddgpicegaa
open Go.RowKit Go.Proofs.YtoebhddgpicegaaW.PrintWords
open PReplayApart
theorem wrap_nat {i : Nat} (h : i ≤ 140737488355328) : wrap64 ((i : Int) + 1) = ((i + 1 : Nat) : Int) := by
  unfold wrap64
  omega
theorem rd_nat (l : List Int) (i : Nat) : rd l (i : Int) = l.getD i 0 := by simp [rd]
theorem snocG {α : Type} {l : List α} {k : Nat} (h : k < l.length) (z : α) : l.take (k + 1) = l.take k ++ [l.getD k z] := by
  rw [List.take_succ_eq_append_getElem h, getD_at h]
theorem take_len {α : Type} {l : List α} {i : Nat} (h : i ≤ l.length) : (l.take i).length = i := by rw [List.length_take]; omega
theorem ownBytes_ev (l : List Int) (hl : l.length ≤ 140737488355328) : Ev (fun k => amberlaw21_ownBytes.f k l) l := by
  have loop : ∀ d i : Nat, i + d = l.length → Ev (fun k => amberlaw21_ownBytes.l0 k l (l.take i) (i : Int)) l := by
    intro d
    induction d with
    | zero =>
      intro i hi
      refine Ev.step (f := fun _ => some l) (fun k => ?_) (Ev.now l)
      simp only [amberlaw21_ownBytes.l0]
      rw [if_neg (by omega), List.take_of_length_le (by omega)]
    | succ d ih =>
      intro i hi
      refine Ev.step (f := fun k => amberlaw21_ownBytes.l0 k l (l.take (i + 1)) ((i + 1 : Nat) : Int)) (fun k => ?_) (ih (i + 1) (by omega))
      simp only [amberlaw21_ownBytes.l0]
      rw [if_pos (by omega), if_pos (by omega), if_pos (by rw [take_len (by omega)]; omega), wrap_nat (by omega), snocG (by omega) 0, rd_nat]
  exact loop l.length 0 (by omega)
theorem ownWords_ev (l : List Int) (hl : l.length ≤ 35184372088832) : Ev (fun k => amberlaw21_ownWords.f k l) l := by
  have loop : ∀ d i : Nat, i + d = l.length → Ev (fun k => amberlaw21_ownWords.l0 k l (l.take i) (i : Int)) l := by
    intro d
    induction d with
    | zero =>
      intro i hi
      refine Ev.step (f := fun _ => some l) (fun k => ?_) (Ev.now l)
      simp only [amberlaw21_ownWords.l0]
      rw [if_neg (by omega), List.take_of_length_le (by omega)]
    | succ d ih =>
      intro i hi
      refine Ev.step (f := fun k => amberlaw21_ownWords.l0 k l (l.take (i + 1)) ((i + 1 : Nat) : Int)) (fun k => ?_) (ih (i + 1) (by omega))
      simp only [amberlaw21_ownWords.l0]
      rw [if_pos (by omega), if_pos (by omega), if_pos (by rw [take_len (by omega)]; omega), wrap_nat (by omega), snocG (by omega) 0, rd_nat]
  exact loop l.length 0 (by omega)
theorem ownPicks_ev (l : List S80) (hl : l.length ≤ 8796093022208) : Ev (fun k => amberlaw21_ownPicks.f k l) l := by
  have loop : ∀ d i : Nat, i + d = l.length → Ev (fun k => amberlaw21_ownPicks.l0 k l (l.take i) (i : Int)) l := by
    intro d
    induction d with
    | zero =>
      intro i hi
      refine Ev.step (f := fun _ => some l) (fun k => ?_) (Ev.now l)
      simp only [amberlaw21_ownPicks.l0]
      rw [if_neg (by omega), List.take_of_length_le (by omega)]
    | succ d ih =>
      intro i hi
      refine Ev.step (f := fun k => amberlaw21_ownPicks.l0 k l (l.take (i + 1)) ((i + 1 : Nat) : Int)) (fun k => ?_) (ih (i + 1) (by omega))
      simp only [amberlaw21_ownPicks.l0]
      rw [if_pos (by omega), if_pos (by omega), if_pos (by rw [take_len (by omega)]; omega), wrap_nat (by omega), snocG (by omega) z80]
      simp [rd_T80]
  exact loop l.length 0 (by omega)
theorem ownLegs_ev (l : List S50) (hl : l.length ≤ 2513169434916) (hok : ∀ x ∈ l, x.f0.length ≤ 8796093022208 ∧ x.f1.length ≤ 35184372088832) : Ev (fun k => amberlaw21_ownLegs.f k l) l := by
  have loop : ∀ d i : Nat, i + d = l.length → Ev (fun k => amberlaw21_ownLegs.l0 k l (l.take i) (i : Int)) l := by
    intro d
    induction d with
    | zero =>
      intro i hi
      refine Ev.step (f := fun _ => some l) (fun k => ?_) (Ev.now l)
      simp only [amberlaw21_ownLegs.l0]
      rw [if_neg (by omega), List.take_of_length_le (by omega)]
    | succ d ih =>
      intro i hi
      have hx := hok (l.getD i z50) (by rw [getD_at (by omega)]; exact List.getElem_mem _)
      have hr : rd_T50 l (i : Int) = l.getD i z50 := by simp [rd_T50]
      refine Ev.step (f := fun k => (amberlaw21_ownPicks.f k (l.getD i z50).f0).bind fun t140 => (amberlaw21_ownWords.f k (l.getD i z50).f1).bind fun t144 => amberlaw21_ownLegs.l0 k l (l.take i ++ [(⟨t140, t144, (l.getD i z50).f2⟩ : S50)]) ((i + 1 : Nat) : Int)) (fun k => ?_) ?_
      · simp only [amberlaw21_ownLegs.l0]
        have hlt : (l.take i).length < 2513169434916 := by rw [take_len (by omega)]; omega
        rw [if_pos (by omega), if_pos (by omega), wrap_nat (by omega), hr]
        simp only [if_pos hlt]
      · refine Ev.bind (ownPicks_ev _ hx.1) (Ev.bind (ownWords_ev _ hx.2) ?_)
        have := ih (i + 1) (by omega)
        rw [snocG (by omega) z50] at this
        exact this
  exact loop l.length 0 (by omega)
theorem drop_at {α : Type} {l : List α} {i : Nat} (h : i < l.length) (z : α) : l.drop i = l.getD i z :: l.drop (i + 1) := by rw [List.drop_eq_getElem_cons h, getD_at h]
open Classical in
theorem sameWords_ev (l m : List Int) (hl : l.length ≤ 140737488355328) : Ev (fun k => amberlaw21_sameWords.f k l m) (decide (l = m)) := by
  by_cases he : l.length = m.length
  · have loop : ∀ d i : Nat, i + d = l.length → Ev (fun k => amberlaw21_sameWords.l0 k l m (i : Int)) (decide (l.drop i = m.drop i)) := by
      intro d
      induction d with
      | zero =>
        intro i hi
        refine Ev.step (f := fun _ => some _) (fun k => ?_) (Ev.now _)
        simp only [amberlaw21_sameWords.l0]
        rw [if_neg (by omega), List.drop_of_length_le (by omega), List.drop_of_length_le (by omega)]
        simp
      | succ d ih =>
        intro i hi
        by_cases hx : l.getD i 0 = m.getD i 0
        · refine Ev.step (f := fun k => amberlaw21_sameWords.l0 k l m ((i + 1 : Nat) : Int)) (fun k => ?_) ?_
          · simp only [amberlaw21_sameWords.l0]
            rw [if_pos (by omega), if_pos (by omega), if_pos (by omega), if_pos (by rw [rd_nat, rd_nat]; exact hx), wrap_nat (by omega)]
          · have := ih (i + 1) (by omega)
            rw [drop_at (l := l) (by omega) 0, drop_at (l := m) (by omega) 0, hx]
            simpa using this
        · refine Ev.step (f := fun _ => some false) (fun k => ?_) ?_
          · simp only [amberlaw21_sameWords.l0]
            rw [if_pos (by omega), if_pos (by omega), if_pos (by omega), if_neg (by rw [rd_nat, rd_nat]; exact hx)]
          · rw [drop_at (l := l) (by omega) 0, drop_at (l := m) (by omega) 0, decide_eq_false (fun h => hx (List.cons.inj h).1)]
            exact Ev.now _
    refine Ev.congr (f := fun k => amberlaw21_sameWords.l0 k l m ((0 : Nat) : Int)) (fun k => ?_) (by simpa using loop l.length 0 (by omega))
    unfold amberlaw21_sameWords.f
    rw [if_pos (by omega)]
    rfl
  · refine Ev.congr (f := fun _ => some false) (fun k => ?_) ?_
    · unfold amberlaw21_sameWords.f
      rw [if_neg (by omega)]
    · rw [decide_eq_false (fun h => he (by rw [h]))]
      exact Ev.now _
open Classical in
theorem samePicks_ev (l m : List S80) (hl : l.length ≤ 140737488355328) : Ev (fun k => amberlaw21_samePicks.f k l m) (decide (l = m)) := by
  by_cases he : l.length = m.length
  · have loop : ∀ d i : Nat, i + d = l.length → Ev (fun k => amberlaw21_samePicks.l0 k l m (i : Int)) (decide (l.drop i = m.drop i)) := by
      intro d
      induction d with
      | zero =>
        intro i hi
        refine Ev.step (f := fun _ => some _) (fun k => ?_) (Ev.now _)
        simp only [amberlaw21_samePicks.l0]
        rw [if_neg (by omega), List.drop_of_length_le (by omega), List.drop_of_length_le (by omega)]
        simp
      | succ d ih =>
        intro i hi
        have hr : ∀ l : List S80, rd_T80 l (i : Int) = l.getD i z80 := fun l => by simp [rd_T80]
        by_cases hx : l.getD i z80 = m.getD i z80
        · refine Ev.step (f := fun k => amberlaw21_samePicks.l0 k l m ((i + 1 : Nat) : Int)) (fun k => ?_) ?_
          · simp only [amberlaw21_samePicks.l0]
            rw [if_pos (by omega), if_pos (by omega), if_pos (by omega), if_neg (by rw [hr, hr, hx]; simp), wrap_nat (by omega)]
          · have := ih (i + 1) (by omega)
            rw [drop_at (l := l) (by omega) z80, drop_at (l := m) (by omega) z80, hx]
            simpa using this
        · refine Ev.step (f := fun _ => some false) (fun k => ?_) ?_
          · simp only [amberlaw21_samePicks.l0]
            rw [if_pos (by omega), if_pos (by omega), if_pos (by omega), if_pos ?_]
            rw [hr, hr]
            cases ha : l.getD i z80 with
            | mk a b =>
              cases hb : m.getD i z80 with
              | mk c d =>
                rw [ha, hb] at hx
                by_cases h1 : a = c
                · by_cases h2 : b = d
                  · exact absurd (by rw [h1, h2]) hx
                  · simp [h2]
                · simp [h1]
          · rw [drop_at (l := l) (by omega) z80, drop_at (l := m) (by omega) z80, decide_eq_false (fun h => hx (List.cons.inj h).1)]
            exact Ev.now _
    refine Ev.congr (f := fun k => amberlaw21_samePicks.l0 k l m ((0 : Nat) : Int)) (fun k => ?_) (by simpa using loop l.length 0 (by omega))
    unfold amberlaw21_samePicks.f
    rw [if_pos (by omega)]
    rfl
  · refine Ev.congr (f := fun _ => some false) (fun k => ?_) ?_
    · unfold amberlaw21_samePicks.f
      rw [if_neg (by omega)]
    · rw [decide_eq_false (fun h => he (by rw [h]))]
      exact Ev.now _
open Classical in
theorem sameLegs_ev (l m : List S50) (hl : l.length ≤ 140737488355328) (hok : ∀ x ∈ l, x.f0.length ≤ 140737488355328 ∧ x.f1.length ≤ 140737488355328) : Ev (fun k => amberlaw21_sameLegs.f k l m) (decide (l = m)) := by
  by_cases he : l.length = m.length
  · have loop : ∀ d i : Nat, i + d = l.length → Ev (fun k => amberlaw21_sameLegs.l0 k l m (i : Int)) (decide (l.drop i = m.drop i)) := by
      intro d
      induction d with
      | zero =>
        intro i hi
        refine Ev.step (f := fun _ => some _) (fun k => ?_) (Ev.now _)
        simp only [amberlaw21_sameLegs.l0]
        rw [if_neg (by omega), List.drop_of_length_le (by omega), List.drop_of_length_le (by omega)]
        simp
      | succ d ih =>
        intro i hi
        have hr : ∀ l : List S50, rd_T50 l (i : Int) = l.getD i z50 := fun l => by simp [rd_T50]
        have hx := hok (l.getD i z50) (by rw [getD_at (by omega)]; exact List.getElem_mem _)
        rw [drop_at (l := l) (by omega) z50, drop_at (l := m) (by omega) z50]
        by_cases h2 : (l.getD i z50).f2 = (m.getD i z50).f2
        · refine Ev.step (f := fun k => (amberlaw21_samePicks.f k (l.getD i z50).f0 (m.getD i z50).f0).bind fun t195 => (if t195 = true then ((amberlaw21_sameWords.f k (l.getD i z50).f1 (m.getD i z50).f1).bind fun t198 => (if t198 = true then (amberlaw21_sameLegs.l0 k l m ((i + 1 : Nat) : Int)) else (some false))) else (some false))) (fun k => ?_) ?_
          · simp only [amberlaw21_sameLegs.l0]
            rw [if_pos (by omega), if_pos (by omega), if_pos (by omega), hr, hr, if_pos h2, wrap_nat (by omega)]
          · refine Ev.bind (samePicks_ev _ _ hx.1) ?_
            by_cases h0 : (l.getD i z50).f0 = (m.getD i z50).f0
            · simp only [decide_eq_true h0, if_true]
              refine Ev.bind (sameWords_ev _ _ hx.2) ?_
              by_cases h1 : (l.getD i z50).f1 = (m.getD i z50).f1
              · simp only [decide_eq_true h1, if_true]
                have := ih (i + 1) (by omega)
                have e : l.getD i z50 = m.getD i z50 := by
                  cases ha : l.getD i z50; cases hb : m.getD i z50
                  rw [ha, hb] at h0 h1 h2
                  simp only at h0 h1 h2
                  rw [h0, h1, h2]
                rw [e]
                simpa using this
              · simp only [decide_eq_false h1]
                rw [decide_eq_false (fun h => h1 (by rw [(List.cons.inj h).1]))]
                exact Ev.now _
            · simp only [decide_eq_false h0]
              rw [decide_eq_false (fun h => h0 (by rw [(List.cons.inj h).1]))]
              exact Ev.now _
        · refine Ev.step (f := fun _ => some false) (fun k => ?_) ?_
          · simp only [amberlaw21_sameLegs.l0]
            rw [if_pos (by omega), if_pos (by omega), if_pos (by omega), hr, hr, if_neg h2]
          · rw [decide_eq_false (fun h => h2 (by rw [(List.cons.inj h).1]))]
            exact Ev.now _
    refine Ev.congr (f := fun k => amberlaw21_sameLegs.l0 k l m ((0 : Nat) : Int)) (fun k => ?_) (by simpa using loop l.length 0 (by omega))
    unfold amberlaw21_sameLegs.f
    rw [if_pos (by omega)]
    rfl
  · refine Ev.congr (f := fun _ => some false) (fun k => ?_) ?_
    · unfold amberlaw21_sameLegs.f
      rw [if_neg (by omega)]
    · rw [decide_eq_false (fun h => he (by rw [h]))]
      exact Ev.now _
end Go.Proofs.Ytoebhddgpicegaa
namespace Go.Proofs.Ytoebhddgpicegaa
open Go.RowKit Go.Proofs.YtoebhddgpicegaaW.PrintWords
open PReplayApart
theorem R_new {α : Type} {d : Kd α} {e : Nat} {w w1 : World} {v : Value} {xs : List α} (h : d.R e w1 w.heap.size (fun _ => True) v xs) : d.R e w1 0 (Nw Nun w) v xs :=
  Kd.R_lower (Kd.R_mono (Kd.R_bound h) (fun _ hk => .inr hk.2.1)) (Nat.zero_le _)
theorem S_new {α : Type} {d : Kd α} {e : Nat} {w w1 : World} {v : Value} {xs : List α} (h : d.S e w1 w.heap.size (fun _ => True) v xs) : d.S e w1 0 (Nw Nun w) v xs :=
  Kd.S_lower (Kd.S_mono (Kd.S_bound h) (fun _ hk => .inr hk.2.1)) (Nat.zero_le _)
theorem ownBytes_calls (w : World) (A : Option Addr) (c : Nat) (l : List Int) (hr : Kd.C (Kd.int .u8) w A l.length l) (hc : l.length ≤ c) (hl : l.length ≤ 140737488355328) :
    Calls Try.prog 10 #[.slice A l.length c] w fun e w' => ∃ v, e = .returned v ∧ Kd.R (Kd.int .u8) 5 w' 0 (Nw Nun w) v l ∧ Frm Nun w w' := by
  obtain ⟨k, hk⟩ := (ownBytes_ev l hl).rounds
  refine (amberlaw21_ownBytes.calls k A c l l w hr hc hk).mono ?_
  rintro e w' ⟨v, rfl, h1, h2⟩
  exact ⟨v, rfl, R_new h1, .ofBelow h2⟩
/-- What the lists of legs are bounded by. -/
structure LegsOk (l : List S50) : Prop where
  n : l.length ≤ 2513169434916
  each : ∀ x ∈ l, LegOk x
theorem LegsOk.lens {l : List S50} (h : LegsOk l) : ∀ x ∈ l, x.f0.length ≤ 8796093022208 ∧ x.f1.length ≤ 35184372088832 := fun x hx => ⟨(h.each x hx).n0, (h.each x hx).n1⟩
theorem ownLegs_calls (w : World) (A : Option Addr) (c : Nat) (l : List S50) (hr : Kd.C k50 w A l.length l) (hc : l.length ≤ c) (hok : LegsOk l) :
    Calls Try.prog 11 #[.slice A l.length c] w fun e w' => ∃ v, e = .returned v ∧ Kd.S k50 50 w' 0 (Nw Nun w) v l ∧ Frm Nun w w' := by
  obtain ⟨k, hk⟩ := (ownLegs_ev l hok.n hok.lens).rounds
  refine (amberlaw21_ownLegs.calls k A c l l w hr hc hk).mono ?_
  rintro e w' ⟨v, rfl, h1, h2⟩
  exact ⟨v, rfl, S_new h1, .ofBelow h2⟩
open Classical in
theorem sameWords_calls (w : World) (A B : Option Addr) (c d : Nat) (l m : List Int) (hr : Kd.C (Kd.int .u32) w A l.length l) (hc : l.length ≤ c) (hs : Kd.C (Kd.int .u32) w B m.length m) (hd : m.length ≤ d) (hl : l.length ≤ 140737488355328) :
    Calls Try.prog 24 #[.slice A l.length c, .slice B m.length d] w fun e w' => e = .returned (.bool (decide (l = m))) ∧ Frm Nun w w' := by
  obtain ⟨k, hk⟩ := (sameWords_ev l m hl).rounds
  refine (amberlaw21_sameWords.calls k A c l B d m _ w hr hc hs hd hk).mono ?_
  rintro e w' ⟨rfl, h⟩
  exact ⟨rfl, (Frm.refl _ _).drawn h⟩
open Classical in
theorem sameLegs_calls (w : World) (A B : Option Addr) (c d : Nat) (l m : List S50) (hr : Kd.C k50 w A l.length l) (hc : l.length ≤ c) (hs : Kd.C k50 w B m.length m) (hd : m.length ≤ d) (hok : LegsOk l) :
    Calls Try.prog 14 #[.slice A l.length c, .slice B m.length d] w fun e w' => e = .returned (.bool (decide (l = m))) ∧ Frm Nun w w' := by
  obtain ⟨k, hk⟩ := (sameLegs_ev l m (by have := hok.n; omega) (fun x hx => by have := hok.lens x hx; omega)).rounds
  refine (amberlaw21_sameLegs.calls k A c l B d m _ w hr hc hs hd hk).mono ?_
  rintro e w' ⟨rfl, h⟩
  exact ⟨rfl, .ofBelow h⟩
theorem sameLegs_self (w : World) (A B : Option Addr) (c d : Nat) (l : List S50) (hr : Kd.C k50 w A l.length l) (hc : l.length ≤ c) (hs : Kd.C k50 w B l.length l) (hd : l.length ≤ d) (hok : LegsOk l) :
    Calls Try.prog 14 #[.slice A l.length c, .slice B l.length d] w fun e w' => e = .returned (.bool true) ∧ Frm Nun w w' := by
  classical
  have := sameLegs_calls w A B c d l l hr hc hs hd hok
  rwa [decide_eq_true rfl] at this
end Go.Proofs.Ytoebhddgpicegaa
namespace Go.Proofs.Ytoebhddgpicegaa
open Go.RowKit Go.Proofs.YtoebhddgpicegaaW.PrintWords
open PReplayApart
def fleg : S50 := ⟨[], [9], 7⟩
def fbytes : List Int := (encT [fleg]).1
theorem fix_enc : ((encT [fleg]).2 == 0 && fbytes.length == 28 && fbytes.take 4 == [65, 77, 66, 76] && fbytes.getD 8 0 == 1 && fbytes.getD 12 0 == 7 && fbytes.getD 20 0 == 9 && fbytes.all (fun x => decide (0 ≤ x) && decide (x < 256))) = true := by decide +kernel
theorem fix_dec : decT fbytes = ([fleg], 0) := by kernel_rfl
theorem fix_one : decT [1] = ([], 210) := by kernel_rfl
theorem fbytes_facts : (encT [fleg]).2 = 0 ∧ fbytes.length = 28 ∧ fbytes.take 4 = [65, 77, 66, 76] ∧ fbytes.getD 8 0 = 1 ∧ fbytes.getD 12 0 = 7 ∧ fbytes.getD 20 0 = 9 ∧ Byt fbytes := by
  have h := fix_enc
  simp only [Bool.and_eq_true, beq_iff_eq, List.all_eq_true, decide_eq_true_eq] at h
  obtain ⟨⟨⟨⟨⟨⟨h1, h2⟩, h3⟩, h4⟩, h5⟩, h6⟩, h7⟩ := h
  exact ⟨h1, h2, h3, h4, h5, h6, h7⟩
theorem C_one {α : Type} (d : Kd α) {w : World} {g t : Nat} {cs : List Value} {x : α} (hg : w.heap[g]? = some (.cells cs.toArray t (0, 0))) (hK : d.K w x cs) : d.C w (some ⟨g, 0, none⟩) 1 [x] := by
  refine ⟨rfl, by decide, fun _ => ⟨_, rfl, fun j p hj => ?_⟩⟩
  cases j with
  | zero =>
    obtain rfl : x = p := by simpa using hj
    refine ⟨cs, d.K_len hK, hK, fun i u hu => ?_⟩
    rw [Nat.zero_mul, Nat.zero_add]
    have : (⟨g, 0, none⟩ : Addr).add i = ⟨g, i, none⟩ := by cases i <;> simp [Addr.add]
    rw [this]
    exact (blk_cell hg i).trans (by simpa using hu)
  | succ j => simp at hj
theorem fleg_ok : LegsOk [fleg] := ⟨by decide, fun x hx => by
  rw [List.mem_singleton] at hx
  subst hx
  exact ⟨by decide, by simp [fleg], by simp [fleg], by simp [fleg]⟩⟩
set_option maxHeartbeats 4000000 in
set_option maxRecDepth 100000 in
theorem fixed_calls (w : World) : Calls Try.prog 9 #[] w fun e w' => e = .returned (.bool true) ∧ Frm Nun w w' := by
  obtain ⟨f1, f2, f3, f4, f5, f6, f7⟩ := fbytes_facts
  go_enter Try.func9, Try.ntmps9
  go_wp2_with fail
  obtain ⟨W1, hW1⟩ : ∃ W1, W1 = (w.alloc (.cells #[.int .u32 9] 35)).alloc (.cells #[.slice none 0 0, .slice (some ⟨w.heap.size, 0, none⟩) 1 1, .int .u32 7] 50) := ⟨_, rfl⟩
  have hF1 : Frm Nun w W1 := by rw [hW1]; exact ((Frm.refl _ _).alloc _).alloc _
  have hz1 : W1.heap.size = w.heap.size + 2 := by rw [hW1]; simp
  have hb0 : W1.heap[w.heap.size]? = some (.cells #[.int .u32 9] 35 (0, 0)) := by rw [hW1, Below.heap_alloc _ _ _ (by simp)]; exact heap_alloc_new w _
  have hb1 : W1.heap[w.heap.size + 1]? = some (.cells #[.slice none 0 0, .slice (some ⟨w.heap.size, 0, none⟩) 1 1, .int .u32 7] 50 (0, 0)) := by
    rw [hW1]; have := heap_alloc_new (w.alloc (.cells #[.int .u32 9] 35)) (.cells #[.slice none 0 0, .slice (some ⟨w.heap.size, 0, none⟩) 1 1, .int .u32 7] 50); rwa [World.size_alloc] at this
  have hC1 : Kd.C k50 W1 (some ⟨w.heap.size + 1, 0, none⟩) 1 [fleg] := C_one k50 (cs := [.slice none 0 0, .slice (some ⟨w.heap.size, 0, none⟩) 1 1, .int .u32 7]) hb1
    (k50_mk W1 fleg (A0 := none) (c0 := 0) (by decide) (Kd.C_nil _ _) (A1 := some ⟨w.heap.size, 0, none⟩) (c1 := 1) (by decide) (C_one (Kd.int .u32) (cs := [.int .u32 9]) hb0 rfl))
  rw [← hW1]
  clear hW1 hb0 hb1
  refine (encode_calls W1 (some ⟨w.heap.size + 1, 0, none⟩) 1 [fleg] hC1 (by decide) fleg_ok.each).mono ?_
  rintro e w2 ⟨v, rfl, h2, k2⟩
  rw [f1]
  obtain ⟨B, d, rfl, hd, hB⟩ := Kd.R_reads h2
  obtain ⟨n, hn⟩ : ∃ n, n = (encT [fleg]).1.length := ⟨_, rfl⟩
  have hB' : Kd.C (Kd.int .u8) w2 B fbytes.length fbytes := hB
  have hn' : n = 28 := hn.trans f2
  have hd28 : 28 ≤ d := by rw [← hn, hn'] at hd; exact hd
  rw [← hn]
  subst hn'
  have hdc := decode_calls B d fbytes f7 (by rw [f2]; decide) w2 hB'
  rw [f2, fix_dec] at hdc
  have HDC := Lib.hid hdc
  have HB := Lib.hid hB'
  have HK2 := Lib.hid (hF1.trans k2 (fun _ h => h.elim))
  have HF3 := Lib.hid f3
  have HF4 := Lib.hid f4
  have HF5 := Lib.hid f5
  have HF6 := Lib.hid f6
  have HF2 := Lib.hid f2
  clear hdc hB hB' k2 hF1 hC1 hn f1 f2 f3 f4 f5 f6 f7 h2
  go_wp2_with fail
  refine HDC.out.mono ?_
  rintro e w3 ⟨v3, rfl, h3, k3⟩
  obtain ⟨C, c, rfl, hc, hC⟩ := Kd.S_reads h3
  have HC := Lib.hid hC
  have HS3 := Lib.hid h3
  have HK3 := Lib.hid k3
  clear hC h3 k3
  go_wp2_with fail
  obtain ⟨W4, hW4⟩ : ∃ W4, W4 = w3.alloc (.cells #[.int .u8 1] 5) := ⟨_, rfl⟩
  have hF4 : Frm Nun w3 W4 := by rw [hW4]; exact (Frm.refl _ _).alloc _
  have hb4 : W4.heap[w3.heap.size]? = some (.cells #[.int .u8 1] 5 (0, 0)) := by rw [hW4]; exact heap_alloc_new w3 _
  rw [← hW4]
  clear hW4
  refine (decode_calls (some ⟨w3.heap.size, 0, none⟩) 1 [1] (by intro x hx; rw [List.mem_singleton] at hx; omega) (by decide) W4 (C_one (Kd.int .u8) (cs := [.int .u8 1]) hb4 rfl)).mono ?_
  rintro e w5 ⟨v5, rfl, h5, k5⟩
  have e51 : (decT [1]).1 = [] := by rw [fix_one]
  have e52 : (decT [1]).2 = 210 := by rw [fix_one]
  obtain ⟨D, d5, rfl, _, _⟩ := Kd.S_reads h5
  rw [e51] at h5 ⊢
  rw [e52, List.length_nil]
  have hF5 : Frm Nun w2 w5 := (HK3.out.trans hF4 (fun _ h => h.elim)).trans k5 (fun _ h => h.elim)
  have hB5 := C_frm HB.out hF5 (fun _ _ h => h)
  have hC5 : Kd.C k50 w5 C [fleg].length [fleg] := Kd.C_below (Kd.C_below HC.out hF4.below0) k5.below0
  have HK5 := Lib.hid (HK2.out.trans hF5 (fun _ h => h.elim))
  clear hb4 hF4 h5 k5 HK2 HC HS3 HK3 HDC HB
  obtain ⟨i07, hi07, _, hsz7, _⟩ := info_parts info_u8
  have hcut := cut_to (P := Try.prog) 22 5 .i64 Try.underlying22 hi07 B 28 d 4 (by decide) (by decide) (by omega)
  have hB4 : Kd.C (Kd.int .u8) w5 B (fbytes.take 4).length (fbytes.take 4) := Kd.C_take hB5 (by rw [HF2.out]; decide)
  rw [HF3.out] at hB4
  have hconv : (convert 22 9 (.slice B 4 d)).run Try.prog w5 = .ok (.string ⟨#[65, 77, 66, 76]⟩) w5 := Kd.C_string (P := Try.prog) (A := B) (c := d) Try.underlying22 Try.underlying5 Try.underlying9 hB4
  obtain ⟨ad, b8, rfl, q8, e8⟩ := at_int hB5 8 (by rw [HF2.out]; decide)
  obtain ⟨ad1, b12, hq12, q12, e12⟩ := at_int hB5 12 (by rw [HF2.out]; decide)
  obtain rfl := Option.some.inj hq12
  obtain ⟨ad2, b20, hq20, q20, e20⟩ := at_int hB5 20 (by rw [HF2.out]; decide)
  obtain rfl := Option.some.inj hq20
  obtain rfl : (1 : Int) = b8 := HF4.out.symm.trans e8.out
  obtain rfl : (7 : Int) = b12 := HF5.out.symm.trans e12.out
  obtain rfl : (9 : Int) = b20 := HF6.out.symm.trans e20.out
  obtain ⟨ac, A0, c0, A1, c1, x, rfl, l0, l1, l2, hc0, hc1, HL0, HL1, hx⟩ := at_leg hC5 0 (by decide)
  obtain rfl : fleg = x := hx.out
  clear hq12 hq20 e8 e12 e20 hx HL0 hB4 hB5 HF2 HF3 HF4 HF5 HF6 hC5 hi07 hsz7 e51 e52
  simp [Addr.add] at q8 q12 q20
  simp [Addr.add, fleg] at l0 l1 l2
  have HL := Lib.hid hc1
  clear hc0 hc1 hF5 hc hd
  go_wp2_with fail
  have hs6 : ∀ W, Frm Nun w5 W → W.heap[w5.heap.size]? = some (.cells #[.int .u32 9] 35 (0, 0)) → Calls Try.prog 24 #[.slice A1 1 c1, .slice (some ⟨w5.heap.size, 0, none⟩) 1 1] W fun e w' => e = .returned (.bool true) ∧ Frm Nun W w' := by
    intro W hf hb
    have := sameWords_calls W A1 (some ⟨w5.heap.size, 0, none⟩) c1 1 [9] [9] (Kd.C_below HL1.out hf.below0) HL.out (C_one (Kd.int .u32) (cs := [.int .u32 9]) hb rfl) (by decide) (by decide)
    rw [decide_eq_true rfl] at this
    exact this
  have HS6 := Lib.hid hs6
  clear hs6
  go_wp2_with fail
  have hfa : Frm Nun w5 (w5.alloc (.cells #[.int .u32 9] 35)) := (Frm.refl _ _).alloc _
  have hba := heap_alloc_new w5 (.cells #[.int .u32 9] 35)
  refine (HS6.out _ hfa hba).mono ?_
  rintro e w7 ⟨rfl, k7⟩
  have hz : vn (crc (ebytes [])) = 0 := by decide +kernel
  have hdg : Calls Try.prog 17 #[.slice none 0 0] w7 fun e w' => e = .returned (.int .u32 0) ∧ Frm Nun w7 w' := by
    have := digest_calls w7 none 0 [] (Kd.C_nil _ _) (by decide) (fun _ h => by cases h)
    rw [hz] at this
    exact this
  have HDG := Lib.hid hdg
  have HK7 := Lib.hid ((HK5.out.trans hfa (fun _ h => h.elim)).trans k7 (fun _ h => h.elim))
  clear hdg k7 hfa hba hz
  go_wp2_with (first | (go_at_call 17; refine HDG.out.mono ?_; rintro e w8 ⟨rfl, k8⟩))
  go_ret
  exact ⟨rfl, HK7.out.trans k8 (fun _ h => h.elim)⟩
end Go.Proofs.Ytoebhddgpicegaa
