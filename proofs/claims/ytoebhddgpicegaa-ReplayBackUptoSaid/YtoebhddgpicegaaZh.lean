/- Proved here: the statement of the second form for amberlaw21.ReplayBack: for every list of legs and every list of bytes of bulk at most 1048576 the law returns true and changes nothing of what it was handed. -/
import Derived.Test.YtoebhddgpicegaaZg
import Derived.Test.YtoebhddgpicegaaPReplayApartx5
import Derived.Test.YtoebhddgpicegaaRows
import Derived.WalkKit
import Derived.ProofKit
import Derived.OpenShut
import Derived.ShutString
import Derived.ChangeOld
import Derived.Below
import Derived.SizedLaws
import Derived.JoinedCond
import Derived.Deep.CondSized
namespace Go.Proofs.Ytoebhddgpicegaa
open Go.RowKit Go.Proofs.YtoebhddgpicegaaW.PrintWords
open PReplayApart
theorem lengthOf_ev (l : List S50) (hl : l.length ≤ 140737488355328) (hs : sumL l ≤ 1000000000000) : Ev (fun k => amberlaw21_lengthOf.f k l) (sumL l) := by
  have loop : ∀ d i : Nat, i + d = l.length → Ev (fun k => amberlaw21_lengthOf.l0 k l (sumL (l.take i)) (i : Int)) (sumL l) := by
    intro d
    induction d with
    | zero =>
      intro i hi
      refine Ev.step (f := fun _ => some _) (fun k => ?_) (Ev.now _)
      simp only [amberlaw21_lengthOf.l0]
      rw [if_neg (by omega), List.take_of_length_le (by omega)]
    | succ d ih =>
      intro i hi
      have hr : rd_T50 l (i : Int) = l.getD i z50 := by simp [rd_T50]
      refine Ev.step (f := fun k => amberlaw21_lengthOf.l0 k l (sumL (l.take (i + 1))) ((i + 1 : Nat) : Int)) (fun k => ?_) (ih (i + 1) (by omega))
      have h1 : sumL (l.take (i + 1)) = sumL (l.take i) + sizeL (l.getD i z50) := by rw [snocG (by omega) z50, sumL_snoc]
      have h2 := sumL_take l (i + 1)
      have h3 := sumL_nonneg (l.take i)
      have h4 := sizeL_pos (l.getD i z50)
      simp only [amberlaw21_lengthOf.l0]
      rw [if_pos (by omega), if_pos (by omega), wrap_nat (by omega), hr]
      congr 1
      rw [h1]
      unfold sizeL at h4 h1 ⊢
      unfold wrap64
      omega
  have := loop l.length 0 (by omega)
  rw [List.take_zero] at this
  exact this
theorem lengthOf_calls (w : World) (A : Option Addr) (c : Nat) (l : List S50) (hr : Kd.C k50 w A l.length l) (hc : l.length ≤ c) (hl : l.length ≤ 140737488355328) (hs : sumL l ≤ 1000000000000) :
    Calls Try.prog 20 #[.slice A l.length c] w fun e w' => e = .returned (.int .i64 (sumL l)) ∧ Frm Nun w w' := by
  obtain ⟨k, hk⟩ := (lengthOf_ev l hl hs).rounds
  refine (amberlaw21_lengthOf.calls k A c l _ w hr hc hk).mono ?_
  rintro e w' ⟨rfl, h⟩
  exact ⟨rfl, (Frm.refl _ _).drawn h⟩
/-- The legs' numbers are int's. -/
def PkOk (l : List S50) : Prop := ∀ x ∈ l, ∀ p ∈ x.f0, (-9223372036854775808 ≤ p.f0 ∧ p.f0 < 9223372036854775808) ∧ (-9223372036854775808 ≤ p.f1 ∧ p.f1 < 9223372036854775808)
theorem sum_each {l : List S50} {x : S50} (h : x ∈ l) : sizeL x ≤ sumL l := by
  obtain ⟨a, b, rfl⟩ := List.append_of_mem h
  rw [sumL_app]
  have h1 := sumL_nonneg a
  have h2 := sumL_nonneg b
  show _ ≤ sumL a + (sizeL x + sumL b)
  omega
theorem legs_rd {l : List S50} (h : LegsOk l) (hp : PkOk l) (hs : sumL l ≤ 65536) : ∀ x ∈ l, LegRd x := by
  intro x hx
  have h1 := sum_each hx
  have h2 := h.each x hx
  unfold sizeL at h1
  exact ⟨hp x hx, h2.sum, h2.ans, by omega, by omega⟩
theorem rd_ok {l : List S50} (h : ∀ x ∈ l, LegRd x) (hs : sumL l ≤ 65536) : LegsOk l := by
  refine ⟨?_, fun x hx => ⟨(h x hx).sum, (h x hx).ans, by have := (h x hx).n0; omega, by have := (h x hx).n1; omega⟩⟩
  have : ∀ l : List S50, 24 * (l.length : Int) ≤ sumL l := by
    intro l
    induction l with
    | nil => decide
    | cons x l ih => have := sizeL_pos x; simp only [sumL, List.map_cons, List.sum_cons, List.length_cons] at ih ⊢; omega
  have := this l
  omega
theorem enc_fit {l : List S50} (hs : sumL l ≤ 65536) : encT l = (legsB l, 0) := by rw [enc_eq, rencT, if_neg (by omega)]
theorem enc_big {l : List S50} (hs : 65536 < sumL l) : encT l = ([], 2) := by rw [enc_eq, rencT, if_pos hs]
set_option maxHeartbeats 4000000 in
set_option maxRecDepth 100000 in
theorem back_calls (w : World) (A B : Option Addr) (c d : Nat) (legs : List S50) (b : List Int) (hr : Kd.C k50 w A legs.length legs) (hc : legs.length ≤ c) (hb : Kd.C (Kd.int .u8) w B b.length b) (hd : b.length ≤ d)
    (hok : LegsOk legs) (hp : PkOk legs) (hs : sumL legs ≤ 1000000000000) (hby : Byt b) (hbl : b.length ≤ 140737488355328) :
    Calls Try.prog 5 #[.slice A legs.length c, .slice B b.length d] w fun e w' => e = .returned (.bool true) ∧ Frm Nun w w' := by
  have HR := Lib.hid hr
  have HB := Lib.hid hb
  have HOK := Lib.hid hok
  have HBY := Lib.hid hby
  have HP := Lib.hid hp
  clear hr hb hok hby hp
  go_enter Try.func5, Try.ntmps5
  go_wp2_with fail
  refine (fixed_calls w).mono ?_
  rintro e w1 ⟨rfl, k1⟩
  have K1 := Lib.hid k1
  clear k1
  go_wp2_with fail
  refine (lengthOf_calls w1 A c legs (Kd.C_below HR.out K1.out.below0) hc (by have := HOK.out.n; omega) hs).mono ?_
  rintro e w2 ⟨rfl, k2⟩
  have K2 := Lib.hid (K1.out.quiet k2)
  clear k2 K1
  obtain ⟨s, hse⟩ : ∃ s, s = sumL legs := ⟨_, rfl⟩
  rw [← hse] at hs ⊢
  have HSE := Lib.hid hse
  clear hse
  go_wp2_with fail
  refine (ownLegs_calls w2 A c legs (Kd.C_below HR.out K2.out.below0) hc HOK.out).mono ?_
  rintro e w3 ⟨v3, rfl, h3, k3⟩
  obtain ⟨A3, c3, rfl, hc3, hC3⟩ := Kd.S_reads h3
  have K3 := Lib.hid (K2.out.quiet k3)
  have HC3 := Lib.hid hC3
  clear k3 K2 h3 hC3
  go_wp2_with fail
  refine (encode_calls w3 A3 c3 legs HC3.out HOK.out.n HOK.out.each).mono ?_
  rintro e w4 ⟨v4, rfl, h4, k4⟩
  have K4 := Lib.hid (K3.out.quiet k4)
  clear k4 K3
  by_cases hbig : 65536 < s
  · have e1 : (encT legs).1 = [] := by rw [enc_big (by rw [← HSE.out]; exact hbig)]
    have e2 : (encT legs).2 = 2 := by rw [enc_big (by rw [← HSE.out]; exact hbig)]
    obtain ⟨A4, c4, rfl, _, _⟩ := Kd.R_reads h4
    rw [e1, e2, List.length_nil]
    clear e1 e2 h4
    go_wp2
    go_ret
    exact ⟨rfl, K4.out⟩
  · have hs2 : sumL legs ≤ 65536 := by rw [← HSE.out]; omega
    have hfit := enc_fit hs2
    have e1 : (encT legs).1 = legsB legs := by rw [hfit]
    have e2 : (encT legs).2 = 0 := by rw [hfit]
    have hlen : ((legsB legs).length : Int) = s := by rw [legsB_len, HSE.out]
    have hrd := legs_rd HOK.out HP.out hs2
    have hdec := dec_legs legs hrd (by omega)
    rw [e1] at h4
    rw [e2]
    obtain ⟨A4, c4, rfl, hc4, hC4⟩ := Kd.R_reads h4
    have HC4 := Lib.hid hC4
    have HDEC := Lib.hid hdec
    obtain ⟨n, hn⟩ : ∃ n, n = (legsB legs).length := ⟨_, rfl⟩
    have HLB := Lib.hid (legsB_byt legs)
    rw [← hn] at hc4 hlen HC4 ⊢
    have HN := Lib.hid hn
    clear e1 e2 h4 hC4 hdec hfit hn
    go_wp2_with fail
    have hob := ownBytes_calls w4 A4 c4 (legsB legs) (by rw [← HN.out]; exact HC4.out) (by rw [← HN.out]; exact hc4) (by rw [← HN.out]; omega)
    rw [← HN.out] at hob
    refine hob.mono ?_
    rintro e w5 ⟨v5, rfl, h5, k5⟩
    obtain ⟨A5, c5, rfl, hc5, hC5⟩ := Kd.R_reads h5
    rw [← HN.out] at hc5 hC5 ⊢
    have HC5 := Lib.hid hC5
    have K5 := Lib.hid (K4.out.quiet k5)
    clear k5 h5 hC5 K4 hob
    go_wp2_with fail
    have hdc := decode_calls A5 c5 (legsB legs) HLB.out (by rw [← HN.out]; omega) w5 (by rw [← HN.out]; exact HC5.out)
    rw [← HN.out, HDEC.out] at hdc
    refine hdc.mono ?_
    rintro e w6 ⟨v6, rfl, h6, k6⟩
    obtain ⟨A6, c6, rfl, hc6, hC6⟩ := Kd.S_reads h6
    have K6 := Lib.hid (K5.out.quiet k6)
    have HC6 := Lib.hid hC6
    have hsl := sameLegs_self w6 A6 A c6 c legs hC6 hc6 (Kd.C_below HR.out K6.out.below0) hc HOK.out
    have HSL := Lib.hid hsl
    clear k6 h6 hC6 K5 hdc hsl HDEC
    go_wp2_with (first
      | (go_at_call 14; refine HSL.out.mono ?_; rintro e w7 ⟨rfl, k7⟩; have K7 := Lib.hid (K6.out.quiet k7); clear k7)
      | (go_at_call 10; refine (ownBytes_calls w7 B d b (Kd.C_below HB.out K7.out.below0) hd (by omega)).mono ?_; rintro e w8 ⟨v8, rfl, h8, k8⟩; obtain ⟨A8, c8, rfl, hc8, hC8⟩ := Kd.R_reads h8; have HC8 := Lib.hid hC8; have K8 := Lib.hid (K7.out.quiet k8); clear k8 h8 hC8))
    refine (decode_calls A8 c8 b HBY.out (by omega) w8 HC8.out).mono ?_
    rintro e w9 ⟨v9, rfl, h9, k9⟩
    have K9 := Lib.hid (K8.out.quiet k9)
    clear k9
    by_cases hg : (decT b).2 = 0
    · obtain ⟨m, hm⟩ : ∃ m, m = (decT b).1 := ⟨_, rfl⟩
      obtain ⟨y1, y2, y3⟩ := dec_yes HBY.out hg hm.symm
      rw [← hm] at h9
      rw [hg]
      obtain ⟨A9, c9, rfl, hc9, hC9⟩ := Kd.S_reads h9
      have hsm : sumL m ≤ 65536 := by rw [← legsB_len, ← y2]; omega
      have hmok := rd_ok y3 hsm
      have e1 : (encT m).1 = b := by rw [enc_fit hsm, ← y2]
      have e2 : (encT m).2 = 0 := by rw [enc_fit hsm]
      have hen := encode_calls w9 A9 c9 m hC9 hmok.n hmok.each
      rw [e1, e2] at hen
      have HEN := Lib.hid hen
      clear hm y1 y2 y3 h9 hC9 hsm hmok e1 e2 hen hg
      go_wp2_with (first
        | (go_at_call 15; refine HEN.out.mono ?_; rintro e w10 ⟨v10, rfl, h10, k10⟩; obtain ⟨A10, c10, rfl, hc10, hC10⟩ := Kd.R_reads h10; have hs1 := Kd.C_string (P := Try.prog) (A := A10) (c := c10) Try.underlying22 Try.underlying5 Try.underlying9 hC10; have hs2 := Kd.C_string (P := Try.prog) (A := B) (c := d) Try.underlying22 Try.underlying5 Try.underlying9 (Kd.C_below HB.out (K9.out.quiet k10).below0); have K10 := Lib.hid (K9.out.quiet k10); clear k10 h10 hC10))
      go_ret
      exact ⟨rfl, K10.out⟩
    · have hno := dec_no hg
      have e1 : (decT b).1 = [] := by rw [hno]
      have e2 : (decT b).2 = 210 := by rw [hno]
      obtain ⟨A9, c9, rfl, hc9, hC9⟩ := Kd.S_reads h9
      rw [e1, e2, List.length_nil]
      clear h9 hc9 hC9 e1 e2 hno hg
      go_wp2
      go_ret
      exact ⟨rfl, K9.out⟩
end Go.Proofs.Ytoebhddgpicegaa
namespace Go.Proofs.Ytoebhddgpicegaa.replayBack
open Go.ChangeShapes Go.WideShapes Go.ChangeAt Go.RowKit
open Go.Proofs.YtoebhddgpicegaaW.PrintWords PReplayApart
theorem own : ownKnob Try.prog.godebug = none := by kernel_rfl
theorem laidOut : laidOutB Try.prog = true := by kernel_rfl
theorem contract (H : Type) (enc : TypeId × Value → H) (W : World) (base : Nat) (args : Array Value) (ds gs : List (DataW H)) (before : List MemPlace)
    (hval : ∀ (j : Nat) t v, Try.f5.params[j]? = some t → args[j]? = some v → Value.okWide Try.prog W .any base t v)
    (hW : DataW.Whole enc Try.prog Try.f5.params.toList Rows.replayBackSpec.vars false W args.toList ds gs before) (hk : Rows.uptoSmall H (ds ++ gs) = true)
    (hsz : (DataW.weightsEach Try.prog (Try.f5.params.toList ++ Rows.replayBackSpec.plain.varTypes Try.prog) (ds ++ gs)).all (· ≤ reachBytes) = true) :
    Calls Try.prog 5 args W fun e W' => ∃ v, e = .returned v ∧ Rows.replayBackSpec.post enc Try.prog Try.f5 false true false false W args v W' := by
  have hW' := hW
  obtain ⟨p, q, hA0, hV, rfl, hfz, hnd⟩ := hW
  have hA : DataW.TrodAll enc Try.prog W 0 (fun _ => true) true Try.f5.params.toList args.toList ds p := hA0
  rw [Try.params5] at hA hval hsz
  obtain ⟨v0, vs0, d0, ds0, p0, q0, hargs, rfl, rfl, h0, r0⟩ := trodAll_cons hA
  obtain ⟨v1, vs1, d1, ds1, p1, q1, rfl, rfl, rfl, h1, r1⟩ := trodAll_cons r0
  obtain ⟨rfl, rfl, rfl⟩ := trodAll_nil r1
  obtain rfl : args = #[v0, v1] := by cases args; simp_all
  obtain ⟨rfl, rfl⟩ := trodVars_none hV
  obtain ⟨a0, len0, cap0, rfl⟩ := okWide_slice Try.underlying23 (hval 0 23 v0 rfl rfl)
  obtain ⟨a1, len1, cap1, rfl⟩ := okWide_slice Try.underlying22 (hval 1 22 v1 rfl rfl)
  have k0 := h0
  have k1 := h1
  have lt0 : ∀ x ∈ p0, x.block < W.heap.size := by obtain ⟨m, hm⟩ := k0; exact DataW.trod_lt m _ _ _ hm
  have lt1 : ∀ x ∈ p1, x.block < W.heap.size := by obtain ⟨m, hm⟩ := k1; exact DataW.trod_lt m _ _ _ hm
  have hw : ∀ (j : Nat) (t : TypeId) (d : DataW H), ([23, 22] : List TypeId)[j]? = some t → [d0, d1][j]? = some d → ∀ n ∈ d.weights Try.prog t, n ≤ reachBytes := by
    intro j t d ht hd n hn
    have := List.all_eq_true.1 hsz n (DataW.weights_mem_each (j := j) (by rw [List.getElem?_append_left (by have := (List.getElem?_eq_some_iff.1 ht).1; simpa using this)]; simpa using ht) (by rw [List.getElem?_append_left (by have := (List.getElem?_eq_some_iff.1 hd).1; simpa using this)]; exact hd) n hn)
    simpa using this
  have hbk : Rows.uptoBulkAll ([d0, d1] ++ []) ≤ 1048576 := of_decide_eq_true hk
  obtain ⟨m0, hm0⟩ := h0
  obtain ⟨legs, ⟨A, c, hcs, hc, hC⟩, hok, hmu⟩ := opens_legs hm0 (hw 0 _ d0 rfl rfl)
  obtain ⟨m1, hm1⟩ := h1
  obtain ⟨b, ⟨B, d, hcs1, hd, hB⟩, hok1, hmu1⟩ := opens_bytes hm1 (hw 1 _ d1 rfl rfl)
  obtain ⟨rfl, rfl, rfl⟩ : a0 = A ∧ len0 = legs.length ∧ cap0 = c := by simpa [Value.cells] using hcs
  obtain ⟨rfl, rfl, rfl⟩ : a1 = B ∧ len1 = b.length ∧ cap1 = d := by simpa [Value.cells] using hcs1
  obtain ⟨hby, hbl⟩ := bytes_ok hok1
  obtain ⟨hlo, hpk⟩ := legs_ok hok
  have hs : sumL legs ≤ 1000000000000 := by
    have h2 : ∀ l : List S50, sumL l ≤ 24 * ((l.map muL).sum : Nat) := by
      intro l
      induction l with
      | nil => decide
      | cons x l ih =>
        have h3 : sizeL x ≤ 24 * (muL x : Nat) := by
          have s1 : ∀ l : List S80, (l.map (fun _ => 2)).sum = 2 * l.length := by
            intro l; induction l with | nil => rfl | cons y l ih => simp only [List.map_cons, List.sum_cons, List.length_cons, ih]; omega
          have s2 : ∀ l : List Int, (l.map (fun _ => 1)).sum = l.length := by
            intro l; induction l with | nil => rfl | cons y l ih => simp only [List.map_cons, List.sum_cons, List.length_cons, ih]; omega
          unfold sizeL muL
          rw [s1, s2]
          omega
        have e : sumL (x :: l) = sizeL x + sumL l := by simp [sumL]
        rw [e, List.map_cons, List.sum_cons]
        omega
    have h4 := h2 legs
    have hmu' : (legs.map muL).sum + 1 ≤ Rows.uptoBulk d0 := hmu
    simp only [List.cons_append, List.nil_append, Rows.uptoBulkAll] at hbk
    omega
  clear hA0 hA hval hsz hk hbk
  refine (back_calls W a0 a1 cap0 cap1 legs b hC hc hB hd hlo hpk hs hby (by omega)).mono fun e W' ⟨he, fr⟩ => ?_
  subst he
  have bel := fr.below0
  exact ⟨_, rfl, _, _, _, [], _, [], hW', trodAll_mk1 (shut_bool Try.underlying4 _), (trodAll_cons_mk (Below.trod laidOut (by kernel_rfl) (of_decide_eq_true (by kernel_rfl)) k0 bel lt0) (trodAll_cons_mk (Below.trod laidOut (by kernel_rfl) (of_decide_eq_true (by kernel_rfl)) k1 bel lt1) trodAll_mk0)), rfl, bel.frame _, fun h => by cases h⟩
set_option maxRecDepth 100000 in
theorem lifted (os : Os) (started : os.Started) (H : Type) (enc : TypeId × Value → H) (F : Stop.Interp) :
    ReturnsInHanded {} Try.checked os 5 .any ((Rows.OpenSpec.upto Rows.replayBackSpec).pre6 enc Try.prog Try.f5 Rows.replayBackUptoRow.domain false) (((Rows.OpenSpec.upto Rows.replayBackSpec).at F).post enc Try.prog Try.f5 false true false false) := by
  refine returnsInHanded_of_cond_sized (C := Try.checked) (s := Rows.OpenSpec.upto Rows.replayBackSpec) (k := Rows.uptoSmall) rfl own started (by kernel_rfl) Try.func5
    (OpenSpec.witness (enc := enc) (C := Try.checked) (s := Rows.OpenSpec.upto Rows.replayBackSpec) (k := Rows.uptoSmall) rfl false ⟨#[], #[.slice none 0 0, .slice none 0 0], []⟩ 8 (by kernel_rfl) (by kernel_rfl) (by kernel_rfl)
      (x := ([.nil, .nil], [], [])) (by kernel_rfl) rfl (by kernel_rfl)) ?_
  intro W base args ds gs before hval hW _ hk hsz _
  exact contract H enc W base args ds gs before hval hW hk hsz
theorem over : Rows.replayBackUptoRow.holds Try.pinned (Rows.OpenSpec.upto Rows.replayBackSpec) :=
  OpenClaim.holds_of_cond 5 Try.f5 rfl rfl rfl rfl rfl rfl rfl ⟨rfl, rfl, rfl, rfl, rfl⟩ rfl rfl rfl rfl rfl (by kernel_rfl) Try.func5 (by kernel_rfl)
    (of_decide_eq_true (by kernel_rfl)) (by unfold Func.isWrapper; first | (rw [if_pos (by decide +kernel)]; kernel_rfl) | (rw [if_neg (by decide +kernel)]; exact ⟨rfl, rfl⟩))
    (fun os started H enc _ F => lifted os started H enc F)
end Go.Proofs.Ytoebhddgpicegaa.replayBack
namespace Go.Proofs.Ytoebhddgpicegaa
theorem replayBack_upto : Rows.ReplayBackUptoSaid := replayBack.over
#print axioms replayBack_upto
end Go.Proofs.Ytoebhddgpicegaa
