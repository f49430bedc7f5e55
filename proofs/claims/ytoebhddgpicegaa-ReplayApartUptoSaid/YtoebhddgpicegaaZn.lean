/- Proved here: the statement of the second form for amberlaw21.ReplayApart: for every list of legs of bulk at most 1048576 the law returns true and changes nothing of what it was handed. -/
import Derived.Test.YtoebhddgpicegaaZm
import Derived.Test.YtoebhddgpicegaaRows
import Derived.WalkKit
import Derived.ProofKit
import Derived.OpenShut
import Derived.ShutString
import Derived.ChangeOld
import Derived.Below
import Derived.SizedLaws
import Derived.JoinedCond
import Derived.Deep.CondSized
namespace Go.Proofs.Ytoebhddgpicegaa
open Go.RowKit Go.Proofs.YtoebhddgpicegaaW.PrintWords Go.Proofs.YtoebhddgpicegaaW.PrintMore
open PReplayApart
set_option maxHeartbeats 8000000 in
set_option maxRecDepth 100000 in
theorem apart_calls (w : World) (A : Option Addr) (c : Nat) (legs : List S50) (hr : Kd.C k50 w A legs.length legs) (hc : legs.length ≤ c) (hok : LegsOk legs) (hp : PkOk legs) (hs : sumL legs ≤ 1000000000000) :
    Calls Try.prog 7 #[.slice A legs.length c] w fun e w' => e = .returned (.bool true) ∧ Frm Nun w w' := by
  have HR := Lib.hid hr
  have HOK := Lib.hid hok
  have HP := Lib.hid hp
  obtain ⟨N, hN⟩ : ∃ n, n = legs.length := ⟨_, rfl⟩
  have hNb : N ≤ 2513169434916 := by rw [hN]; exact hok.n
  have HN := Lib.hid hN
  rw [← hN] at hc ⊢
  clear hr hok hp hN
  go_enter Try.func7, Try.ntmps7
  go_wp2_with fail
  refine (fixed_calls w).mono ?_
  rintro e w1 ⟨rfl, k1⟩
  have K1 := Lib.hid k1
  clear k1
  obtain ⟨s, hse⟩ : ∃ s, s = sumL legs := ⟨_, rfl⟩
  have HSE := Lib.hid hse
  have hlo : Calls Try.prog 20 #[.slice A N c] w1 fun e w' => e = .returned (.int .i64 s) ∧ Frm Nun w1 w' := by
    have := lengthOf_calls w1 A c legs (Kd.C_below HR.out K1.out.below0) (by rw [← HN.out]; exact hc) (by rw [← HN.out]; omega) hs
    rwa [← HN.out, ← hse] at this
  have HLO := Lib.hid hlo
  rw [← hse] at hs
  clear hse hlo
  by_cases hbig : 65536 < s
  · go_wp2_with fail
    refine HLO.out.mono ?_
    rintro e w2 ⟨rfl, k2⟩
    have K2 := Lib.hid (K1.out.quiet k2)
    clear k2
    go_wp2
    go_ret
    exact ⟨rfl, K2.out⟩
  · by_cases hz : N = 0
    · subst hz
      go_wp2_with fail
      refine HLO.out.mono ?_
      rintro e w2 ⟨rfl, k2⟩
      have K2 := Lib.hid (K1.out.quiet k2)
      clear k2
      go_wp2
      go_ret
      exact ⟨rfl, K2.out⟩
    · have hz2 : ((N : Int) == 0) = false := by simp; omega
      go_wp2_with fail
      refine HLO.out.mono ?_
      rintro e w2 ⟨rfl, k2⟩
      have K2 := Lib.hid (K1.out.quiet k2)
      clear k2
      go_wp2_with fail
      clear hz2 HLO K1
      have hs2 : sumL legs ≤ 65536 := by rw [← HSE.out]; omega
      have hfit := enc_fit hs2
      have hrd := legs_rd HOK.out HP.out hs2
      obtain ⟨M, hM⟩ : ∃ n, n = (legsB legs).length := ⟨_, rfl⟩
      have hMs : (M : Int) = s := by rw [hM, legsB_len, HSE.out]
      have hdec := dec_legs legs hrd (by rw [← hM]; omega)
      have HM := Lib.hid hM
      have HRD := Lib.hid hrd
      have HFIT := Lib.hid hfit
      have HDEC := Lib.hid hdec
      have hMb : M ≤ 65536 := by omega
      clear hs2 hfit hrd hM hdec hMs
      have hol := ownLegs_calls w2 A c legs (Kd.C_below HR.out K2.out.below0) (by rw [← HN.out]; exact hc) HOK.out
      rw [← HN.out] at hol
      refine hol.mono ?_
      rintro e w3 ⟨v3, rfl, h3, k3⟩
      obtain ⟨A3, c3, rfl⟩ := Kd.S_slice h3
      rw [← HN.out] at h3 ⊢
      obtain ⟨f3, r3⟩ := (Rws.start K2.out).newL (i := 0) (by decide) h3 k3
      rw [put_l0] at r3
      have R3 := Lib.hid r3
      clear hol k3 h3 r3 K2
      have hen : ∀ W f B X Y Q, Rws w f W B (l4 (.slice A3 N c3, legs) X Y Q) → Calls Try.prog 15 #[.slice A3 N c3] W fun e w' => ∃ v, e = .returned (.tuple #[v, .int .i64 0]) ∧ Kd.R (Kd.int .u8) 5 w' 0 (Nw Nun W) v (legsB legs) ∧ Frm Nun W w' := by
        intro W f B X Y Q h
        have := encode_calls W A3 c3 legs (h.CL (i := 0) (by decide) rfl).2.2 HOK.out.n HOK.out.each
        rw [HFIT.out, ← HN.out] at this
        exact this
      have HEN := Lib.hid hen
      clear hen
      go_wp2_with fail
      refine (HEN.out _ _ _ _ _ _ R3.out).mono ?_
      rintro e w4 ⟨v4, rfl, h4, k4⟩
      obtain ⟨A4, c4, rfl⟩ := Kd.R_slice h4
      rw [← HM.out] at h4 ⊢
      obtain ⟨f4, r4⟩ := R3.out.newB (i := 0) (by decide) h4 k4
      rw [put_b0] at r4
      have R4 := Lib.hid r4
      clear k4 h4 r4 R3
      go_wp2_with fail
      refine (HEN.out _ _ _ _ _ _ R4.out).mono ?_
      rintro e w5 ⟨v5, rfl, h5, k5⟩
      obtain ⟨A5, c5, rfl⟩ := Kd.R_slice h5
      rw [← HM.out] at h5 ⊢
      obtain ⟨f5, r5⟩ := R4.out.newB (i := 1) (by decide) h5 k5
      rw [put_b1] at r5
      have R5 := Lib.hid r5
      clear k5 h5 r5 R4 HEN
      have hs1 := R5.out.str (i := 0) (by decide) rfl
      have hs2 := R5.out.str (i := 1) (by decide) rfl
      go_wp2_with fail
      clear hs1 hs2
      refine (R5.out.own (i := 0) (by decide) rfl (by omega)).mono ?_
      rintro e w6 ⟨A6, c6, rfl, h6, k6⟩
      obtain ⟨f6, r6⟩ := R5.out.newB (i := 3) (by decide) h6 k6
      rw [put_b3] at r6
      have R6 := Lib.hid r6
      clear k6 h6 r6 R5
      -- the legs but the last
      obtain ⟨pre, hpre⟩ : ∃ p, p = legs.take (N - 1) := ⟨_, rfl⟩
      have hpl : pre.length = N - 1 := by rw [hpre]; exact take_len (by rw [← HN.out]; omega)
      have hpm : ∀ x ∈ pre, x ∈ legs := fun x hx => by rw [hpre] at hx; exact List.mem_of_mem_take hx
      have hpok : LegsOk pre := ⟨by rw [hpl]; omega, fun x hx => HOK.out.each x (hpm x hx)⟩
      have hps : sumL pre ≤ s := by rw [hpre, HSE.out]; exact sumL_take legs (N - 1)
      have hpfit := enc_fit (l := pre) (by omega)
      have hpdec := dec_legs pre (fun x hx => HRD.out x (hpm x hx)) (by have := legsB_len pre; omega)
      have hpC : Kd.C k50 w A (N - 1) pre := by
        have h : Kd.C k50 w A (legs.take (N - 1)).length (legs.take (N - 1)) := Kd.C_take HR.out (by rw [← HN.out]; omega)
        rwa [← hpre, hpl] at h
      obtain ⟨Q, hQ⟩ : ∃ n, n = (legsB pre).length := ⟨_, rfl⟩
      have hQs : (Q : Int) ≤ 65536 := by have := legsB_len pre; rw [hQ]; omega
      obtain ⟨P, hPe⟩ : ∃ n, n = N - 1 := ⟨_, rfl⟩
      obtain rfl : N = P + 1 := by omega
      rw [show P + 1 - 1 = P from rfl] at hpl hpC
      have HPL := Lib.hid hpl
      have HPOK := Lib.hid hpok
      have HPFIT := Lib.hid hpfit
      have HPDEC := Lib.hid hpdec
      have HPC := Lib.hid hpC
      have HQ := Lib.hid hQ
      have HPM := Lib.hid hpm
      clear hpre hpl hpm hpok hps hpfit hpdec hpC hQ hPe hz
      obtain ⟨i0, hi0, _, _, _⟩ := info_parts info50
      have hcut := cut_to (P := Try.prog) 23 50 .i64 Try.underlying23 hi0 A (P + 1) c (P : Int) (by omega) (by omega) (by omega)
      have hpc : P ≤ c := by omega
      go_wp2_with fail
      have hol := ownLegs_calls w6 A c pre (by rw [HPL.out]; exact Kd.C_below HPC.out R6.out.frm.below0) (by rw [HPL.out]; omega) HPOK.out
      rw [HPL.out] at hol
      refine hol.mono ?_
      rintro e w7 ⟨v7, rfl, h7, k7⟩
      obtain ⟨A7, c7, rfl, _, hC7⟩ := Kd.S_reads h7
      rw [HPL.out] at ⊢
      have r7 := R6.out.quiet k7
      have hen := encode_calls w7 A7 c7 pre hC7 HPOK.out.n HPOK.out.each
      rw [HPFIT.out, HPL.out] at hen
      have HEN := Lib.hid hen
      have R7 := Lib.hid r7
      clear hol k7 h7 hC7 r7 R6 hen hcut
      go_wp2_with fail
      refine HEN.out.mono ?_
      rintro e w8 ⟨v8, rfl, h8, k8⟩
      obtain ⟨A8, c8, rfl⟩ := Kd.R_slice h8
      dsimp only at h8 ⊢
      rw [← HQ.out] at h8 ⊢
      obtain ⟨f8, r8⟩ := R7.out.newB (i := 2) (by decide) h8 k8
      rw [put_b2] at r8
      have R8 := Lib.hid r8
      clear k8 h8 r8 R7 HEN
      go_wp2_with fail
      refine (R8.out.dec (i := 0) (by decide) rfl (by omega) (legsB_byt legs) HDEC.out HN.out).mono ?_
      rintro e w9 ⟨A9, c9, rfl, h9, k9⟩
      obtain ⟨f9, r9⟩ := R8.out.newL (i := 1) (by decide) h9 k9
      rw [put_l1] at r9
      have R9 := Lib.hid r9
      clear k9 h9 r9 R8
      go_wp2_with fail
      refine (R9.out.dec (i := 2) (by decide) rfl (by omega) (legsB_byt pre) HPDEC.out HPL.out.symm).mono ?_
      rintro e w10 ⟨A10, c10, rfl, h10, k10⟩
      obtain ⟨f10, r10⟩ := R9.out.newL (i := 3) (by decide) h10 k10
      rw [put_l3] at r10
      have R10 := Lib.hid r10
      clear k10 h10 r10 R9
      go_wp2_with fail
      refine (R10.out.dec (i := 0) (by decide) rfl (by omega) (legsB_byt legs) HDEC.out HN.out).mono ?_
      rintro e w11 ⟨A11, c11, rfl, h11, k11⟩
      obtain ⟨f11, r11⟩ := R10.out.newL (i := 2) (by decide) h11 k11
      rw [put_l2] at r11
      have R11 := Lib.hid r11
      clear k11 h11 r11 R10
      go_wp2_with fail
      refine (R11.out.own (i := 2) (by decide) rfl (by omega)).mono ?_
      rintro e w12 ⟨A12, c12, rfl, h12, k12⟩
      obtain ⟨f12, r12⟩ := R11.out.newB (i := 4) (by decide) h12 k12
      rw [put_b4] at r12
      have R12 := Lib.hid r12
      clear k12 h12 r12 R11
      have hs1 := R12.out.str (i := 0) (by decide) rfl
      have hs2 := R12.out.str (i := 3) (by decide) rfl
      have hcut := cut_to (P := Try.prog) 23 50 .i64 Try.underlying23 hi0 A (P + 1) c (P : Int) (by omega) (by omega) (by omega)
      have hsq := R12.out.same (i := 3) (by decide) rfl (by rw [HPL.out]; exact HPC.out) hpc HPOK.out
      have HSQ := Lib.hid hsq
      clear hsq
      go_wp2_with fail
      clear hs1 hs2 hcut
      refine HSQ.out.mono ?_
      rintro e w13 ⟨rfl, k13⟩
      have R13 := Lib.hid (R12.out.quiet k13)
      clear k13 R12 HSQ
      go_wp2_with fail
      refine (R13.out.same (i := 1) (by decide) rfl HR.out hc HOK.out).mono ?_
      rintro e w14 ⟨rfl, k14⟩
      have R14 := Lib.hid (R13.out.quiet k14)
      clear k14 R13
      go_wp2_with fail
      refine (R14.out.same (i := 2) (by decide) rfl HR.out hc HOK.out).mono ?_
      rintro e w15 ⟨rfl, k15⟩
      have R15 := Lib.hid (R14.out.quiet k15)
      clear k15 R14
      go_wp2_with fail
      refine (R15.out.same (i := 0) (by decide) rfl HR.out hc HOK.out).mono ?_
      rintro e w16 ⟨rfl, k16⟩
      have R16 := Lib.hid (R15.out.quiet k16)
      clear k16 R15
      go_wp2_with fail
      obtain ⟨bs, hbs⟩ : ∃ l, l = legsB legs := ⟨_, rfl⟩
      obtain ⟨cs, hcs⟩ : ∃ l, l = legsB pre := ⟨_, rfl⟩
      have r16 := R16.out
      rw [← hbs, ← hcs] at r16
      have hbl : bs.length = M := by rw [hbs]; exact HM.out.symm
      have hcl : cs.length = Q := by rw [hcs]; exact HQ.out.symm
      have HBS := Lib.hid hbs
      have HCS := Lib.hid hcs
      have HBL := Lib.hid hbl
      have HCL := Lib.hid hcl
      have R17 := Lib.hid r16
      have hNk : P + 1 ≤ 100000 := by
        have h1 : ∀ l : List S50, 24 * (l.length : Int) ≤ sumL l := by
          intro l
          induction l with
          | nil => decide
          | cons x l ih => have := sizeL_pos x; simp only [sumL, List.map_cons, List.sum_cons, List.length_cons] at ih ⊢; omega
        have h2 := h1 legs
        rw [← HN.out, ← HSE.out] at h2
        omega
      have hlz : ∀ x ∈ legs, x.f0.length ≤ 65536 ∧ x.f1.length ≤ 65536 := by
        intro x hx
        have h1 := sum_each hx
        rw [← HSE.out] at h1
        unfold sizeL at h1
        omega
      have HLZ := Lib.hid hlz
      clear R16 r16 hbs hcs hbl hcl hlz hi0
      go_loopw [17] (fun t wr => ∃ i : Nat, i ≤ M ∧ t = .int .i64 i ∧ ∃ f, Rws w f wr (b5 (.slice A4 M c4, List.replicate i 17 ++ bs.drop i) (.slice A5 M c5, List.replicate i 34 ++ bs.drop i) (.slice A8 Q c8, cs) (.slice A6 M c6, bs) (.slice A12 Q c12, cs)) (l4 (.slice A3 (P + 1) c3, legs) (.slice A9 (P + 1) c9, legs) (.slice A11 (P + 1) c11, legs) (.slice A10 P c10, pre))) (fun t _ => M - (intOf t).toNat)
      case atStart => exact ⟨0, Nat.zero_le _, rfl, f12, R17.out⟩
      case round =>
        clear R17
        obtain ⟨i, hi, rfl, f, hR⟩ := hrel
        by_cases hlt : i < M
        · obtain ⟨g4, rfl⟩ := hR.headB (i := 0) (by decide) rfl (by omega)
          obtain ⟨g5, rfl⟩ := hR.headB (i := 1) (by decide) rfl (by omega)
          obtain ⟨c0, t0⟩ := hR.cellB (i := 0) (by decide) rfl i hlt
          have R17 := Lib.hid hR
          clear hR
          generalize hv0 : (List.replicate i (17 : Int) ++ bs.drop i).getD i 0 = x0 at c0
          clear hv0
          go_upto_region 25 with (fail)
          obtain ⟨fa, ra⟩ := R17.out.store (i := 0) (by decide) rfl i 17
          rw [put_b0, rep_set _ _ _ (by rw [HBL.out]; exact hlt)] at ra
          obtain ⟨wa, hwa⟩ : ∃ u, u = wr.setCell ⟨g4, i, none⟩ (.int .u8 17) := ⟨_, rfl⟩
          rw [← hwa] at ra ⊢
          clear hwa c0 t0 R17
          obtain ⟨c0, t0⟩ := ra.cellB (i := 1) (by decide) rfl i hlt
          have RA := Lib.hid ra
          clear ra
          generalize hv0 : (List.replicate i (34 : Int) ++ bs.drop i).getD i 0 = x1 at c0
          clear hv0
          go_wp2_with fail
          go_roundw
          case rel =>
            obtain ⟨fb, rb⟩ := RA.out.store (i := 1) (by decide) rfl i 34
            rw [put_b1, rep_set _ _ _ (by rw [HBL.out]; exact hlt)] at rb
            exact ⟨i + 1, by omega, by go_num, fb, rb⟩
          case measure => simp [intOf]; omega
        · obtain rfl : M = i := by omega
          rw [List.drop_of_length_le (by rw [HBL.out]; exact Nat.le_refl _), List.append_nil, List.append_nil] at hR
          have R18 := Lib.hid hR
          obtain ⟨wo, hwo⟩ : ∃ u, u = wr := ⟨_, rfl⟩
          subst hwo
          clear hR hlt hi
          go_wp2_with fail
          refine (R18.out.scr (i := 0) (by decide) rfl hNk HLZ.out (-1) (by decide)).mono ?_
          rintro e w19 ⟨rfl, f19, r19⟩
          rw [put_l0] at r19
          have R19 := Lib.hid r19
          clear r19 R18
          go_wp2_with fail
          refine (R19.out.scr (i := 1) (by decide) rfl hNk HLZ.out (-2) (by decide)).mono ?_
          rintro e w20 ⟨rfl, f20, r20⟩
          rw [put_l1] at r20
          have R20 := Lib.hid r20
          clear r20 R19
          go_wp2_with fail
          refine (R20.out.scr (i := 2) (by decide) rfl hNk HLZ.out (-3) (by decide)).mono ?_
          rintro e w21 ⟨rfl, f21, r21⟩
          rw [put_l2] at r21
          have R21 := Lib.hid r21
          clear r21 R20
          go_wp2_with fail
          have hplz : ∀ x ∈ pre, x.f0.length ≤ 65536 ∧ x.f1.length ≤ 65536 := fun x hx => HLZ.out x (HPM.out x hx)
          have HPLZ := Lib.hid hplz
          clear hplz
          refine (R21.out.scr (i := 3) (by decide) rfl (by omega) HPLZ.out (-4) (by decide)).mono ?_
          rintro e w22 ⟨rfl, f22, r22⟩
          rw [put_l3] at r22
          have R22 := Lib.hid r22
          clear r22 R21
          have hs1 := R22.out.str (i := 2) (by decide) rfl
          have hs2 := R22.out.str (i := 4) (by decide) rfl
          go_wp2_with fail
          clear hs1 hs2
          go_loopw [18] (fun t wr => ∃ i : Nat, i ≤ Q ∧ t = .int .i64 i ∧ ∃ f, Rws w f wr (b5 (.slice A4 M c4, List.replicate M 17) (.slice A5 M c5, List.replicate M 34) (.slice A8 Q c8, List.replicate i 85 ++ cs.drop i) (.slice A6 M c6, bs) (.slice A12 Q c12, cs)) (l4 (.slice A3 (P + 1) c3, scrd (-1) legs) (.slice A9 (P + 1) c9, scrd (-2) legs) (.slice A11 (P + 1) c11, scrd (-3) legs) (.slice A10 P c10, scrd (-4) pre))) (fun t _ => Q - (intOf t).toNat)
          case atStart => exact ⟨0, Nat.zero_le _, rfl, f22, R22.out⟩
          case round =>
            clear R22
            obtain ⟨i, hi, rfl, f, hR⟩ := hrel
            by_cases hlt : i < Q
            · obtain ⟨g8, rfl⟩ := hR.headB (i := 2) (by decide) rfl (by omega)
              obtain ⟨c0, t0⟩ := hR.cellB (i := 2) (by decide) rfl i hlt
              have R17 := Lib.hid hR
              clear hR
              generalize hv0 : (List.replicate i (85 : Int) ++ cs.drop i).getD i 0 = x0 at c0
              clear hv0
              go_wp2_with fail
              go_roundw
              case rel =>
                obtain ⟨fb, rb⟩ := R17.out.store (i := 2) (by decide) rfl i 85
                rw [put_b2, rep_set _ _ _ (by rw [HCL.out]; exact hlt)] at rb
                exact ⟨i + 1, by omega, by go_num, fb, rb⟩
              case measure => simp [intOf]; omega
            · obtain rfl : Q = i := by omega
              rw [List.drop_of_length_le (by rw [HCL.out]; exact Nat.le_refl _), List.append_nil] at hR
              have R23 := Lib.hid hR
              obtain ⟨wo, hwo⟩ : ∃ u, u = wr := ⟨_, rfl⟩
              subst hwo
              clear hR hlt hi
              go_wp2_with fail
              go_loopw [5, 7, 10, 19] (fun va vb vo t wr => ∃ k : Nat, k ≤ 64 ∧ t = .int .i64 k ∧ ∃ f a ca b cb o co, va = .slice a (M + k) ca ∧ vb = .slice b (M + k) cb ∧ vo = .slice o (Q + k) co ∧ Rws w f wr (b5 (.slice a (M + k) ca, List.replicate M 17 ++ List.replicate k 51) (.slice b (M + k) cb, List.replicate M 34 ++ List.replicate k 68) (.slice o (Q + k) co, List.replicate Q 85 ++ List.replicate k 102) (.slice A6 M c6, bs) (.slice A12 Q c12, cs)) (l4 (.slice A3 (P + 1) c3, scrd (-1) legs) (.slice A9 (P + 1) c9, scrd (-2) legs) (.slice A11 (P + 1) c11, scrd (-3) legs) (.slice A10 P c10, scrd (-4) pre))) (fun _ _ _ t _ => 64 - (intOf t).toNat)
              case atStart => exact ⟨0, by omega, rfl, f, A4, c4, A5, c5, A8, c8, rfl, rfl, rfl, by rw [show List.replicate 0 (51 : Int) = [] from rfl, show List.replicate 0 (68 : Int) = [] from rfl, show List.replicate 0 (102 : Int) = [] from rfl, List.append_nil, List.append_nil, List.append_nil]; exact R23.out⟩
              case round =>
                clear R23
                obtain ⟨k, hk, rfl, f, a, ca, b, cb, o, co, rfl, rfl, rfl, hR⟩ := hrel
                by_cases hlt : k < 64
                · have R24 := Lib.hid hR
                  have hsz := hR.frm.size
                  clear hR
                  have hla : (List.replicate M (17 : Int) ++ List.replicate k 51).length = M + k := by simp
                  have hlb : (List.replicate M (34 : Int) ++ List.replicate k 68).length = M + k := by simp
                  have hlo : (List.replicate Q (85 : Int) ++ List.replicate k 102).length = Q + k := by simp
                  have HLA := Lib.hid hla
                  have HLB := Lib.hid hlb
                  have HLO := Lib.hid hlo
                  clear hla hlb hlo
                  go_upto_region 40 with (first | (at_builtin; refine app_list (Kd.int .u8) (W := wr) (.tmp 178) (.tmp 179) 22 5 (.int .u8 0) 1 rfl rfl Try.underlying22 info_u8 rfl (by decide) (by decide) (.slice a (M + k) ca) (List.replicate M 17 ++ List.replicate k 51) 51 [.int .u8 51] (lab w f wr 0) (fun _ => False) rfl rfl rfl rfl (fun _ h => h.elim) (lab_new hsz 0) (R24.out.inB (i := 0) (by decide)) (by rw [HLA.out]; omega) ?_; intro v1 w25 ho hg1; have HO := Lib.hid ho; have HG := Lib.hid hg1; clear ho hg1))
                  obtain ⟨f25, a2, ca2, rfl, r25⟩ := R24.out.app (i := 0) (by decide) rfl HO.out HG.out
                  rw [put_b0, HLA.out, List.append_assoc, rep_snoc] at r25
                  rw [HLA.out]
                  have R25 := Lib.hid r25
                  have hsz2 := r25.frm.size
                  clear r25 R24 HO HG hsz
                  go_upto_region 41 with (first | (at_builtin; refine app_list (Kd.int .u8) (W := w25) (.tmp 181) (.tmp 182) 22 5 (.int .u8 0) 1 rfl rfl Try.underlying22 info_u8 rfl (by decide) (by decide) (.slice b (M + k) cb) (List.replicate M 34 ++ List.replicate k 68) 68 [.int .u8 68] (lab w f25 w25 1) (fun _ => False) rfl rfl rfl rfl (fun _ h => h.elim) (lab_new hsz2 1) (R25.out.inB (i := 1) (by decide)) (by rw [HLB.out]; omega) ?_; intro v2 w26 ho hg1; have HO := Lib.hid ho; have HG := Lib.hid hg1; clear ho hg1))
                  obtain ⟨f26, b2, cb2, rfl, r26⟩ := R25.out.app (i := 1) (by decide) rfl HO.out HG.out
                  rw [put_b1, HLB.out, List.append_assoc, rep_snoc] at r26
                  rw [HLB.out]
                  have R26 := Lib.hid r26
                  have hsz3 := r26.frm.size
                  clear r26 R25 HO HG hsz2
                  go_wp2_with (first | (at_builtin; refine app_list (Kd.int .u8) (W := w26) (.tmp 184) (.tmp 185) 22 5 (.int .u8 0) 1 rfl rfl Try.underlying22 info_u8 rfl (by decide) (by decide) (.slice o (Q + k) co) (List.replicate Q 85 ++ List.replicate k 102) 102 [.int .u8 102] (lab w f26 w26 2) (fun _ => False) rfl rfl rfl rfl (fun _ h => h.elim) (lab_new hsz3 2) (R26.out.inB (i := 2) (by decide)) (by rw [HLO.out]; omega) ?_; intro v3 w27 ho hg1; obtain ⟨f27, o2, co2, rfl, r27⟩ := R26.out.app (i := 2) (by decide) rfl ho hg1; have R27 := Lib.hid r27; clear ho hg1 r27))
                  go_roundw
                  case rel =>
                    have r27 := R27.out
                    rw [put_b2, HLO.out, List.append_assoc, rep_snoc] at r27
                    exact ⟨k + 1, by omega, by go_num, f27, a2, ca2, b2, cb2, o2, co2, rfl, rfl, rfl, r27⟩
                  case measure => simp [intOf]; omega
                · obtain rfl : k = 64 := by omega
                  rw [show ((64 : Nat) : Int) = 64 from rfl]
                  have R24 := Lib.hid hR
                  obtain ⟨wo, hwo⟩ : ∃ u, u = wr := ⟨_, rfl⟩
                  subst hwo
                  clear hR hlt hk
                  go_wp2_with fail
                  go_loopw [12, 13, 15, 20] (fun vx vq vy t wr => ∃ k : Nat, k ≤ 40 ∧ t = .int .i64 k ∧ ∃ f x cx y cy q cq, vx = .slice x (P + 1 + k) cx ∧ vy = .slice y (P + 1 + k) cy ∧ vq = .slice q (P + k) cq ∧ Rws w f wr (b5 (.slice a (M + 64) ca, List.replicate M 17 ++ List.replicate 64 51) (.slice b (M + 64) cb, List.replicate M 34 ++ List.replicate 64 68) (.slice o (Q + 64) co, List.replicate Q 85 ++ List.replicate 64 102) (.slice A6 M c6, bs) (.slice A12 Q c12, cs)) (l4 (.slice A3 (P + 1) c3, scrd (-1) legs) (.slice x (P + 1 + k) cx, scrd (-2) legs ++ List.replicate k ⟨[], [], 5⟩) (.slice y (P + 1 + k) cy, scrd (-3) legs ++ List.replicate k ⟨[], [], 6⟩) (.slice q (P + k) cq, scrd (-4) pre ++ List.replicate k ⟨[], [], 7⟩))) (fun _ _ _ t _ => 40 - (intOf t).toNat)
                  case atStart => exact ⟨0, by omega, rfl, f, A9, c9, A11, c11, A10, c10, rfl, rfl, rfl, by rw [show List.replicate 0 (⟨[], [], 5⟩ : S50) = [] from rfl, show List.replicate 0 (⟨[], [], 6⟩ : S50) = [] from rfl, show List.replicate 0 (⟨[], [], 7⟩ : S50) = [] from rfl, List.append_nil, List.append_nil, List.append_nil]; exact R24.out⟩
                  case round =>
                    clear R24
                    obtain ⟨k, hk, rfl, f, x, cx, y, cy, q, cq, rfl, rfl, rfl, hR⟩ := hrel
                    by_cases hlt : k < 40
                    · have R24 := Lib.hid hR
                      have hsz := hR.frm.size
                      clear hR
                      have hla : (scrd (-2) legs ++ List.replicate k (⟨[], [], 5⟩ : S50)).length = P + 1 + k := by rw [List.length_append, scrd_len, List.length_replicate, ← HN.out]
                      have hlb : (scrd (-3) legs ++ List.replicate k (⟨[], [], 6⟩ : S50)).length = P + 1 + k := by rw [List.length_append, scrd_len, List.length_replicate, ← HN.out]
                      have hlo : (scrd (-4) pre ++ List.replicate k (⟨[], [], 7⟩ : S50)).length = P + k := by rw [List.length_append, scrd_len, List.length_replicate, HPL.out]
                      have HLA := Lib.hid hla
                      have HLB := Lib.hid hlb
                      have HLO := Lib.hid hlo
                      clear hla hlb hlo
                      go_upto_region 46 with (first | (at_builtin; refine app_list_S k50 (W := wr) (.tmp 191) (.tmp 193) 23 50 (.agg #[.slice none 0 0, .slice none 0 0, .int .u32 0]) 56 rfl rfl Try.underlying23 info50 rfl (by decide) (by decide) (.slice x (P + 1 + k) cx) (scrd (-2) legs ++ List.replicate k (⟨[], [], 5⟩ : S50)) ⟨[], [], 5⟩ [.slice none 0 0, .slice none 0 0, .int .u32 5] (lab w f wr (5 + 1)) rfl rfl rfl (k50_mkM _ _ _ (⟨[], [], 5⟩ : S50) (Kd.R_nil _ _ _ _ _) (Kd.R_nil _ _ _ _ _)) (lab_new hsz (5 + 1)) (R24.out.inL (i := 1) (by decide)) (by rw [HLA.out]; omega) ?_; intro v1 w25 ho hg1; have HO := Lib.hid ho; have HG := Lib.hid hg1; clear ho hg1))
                      obtain ⟨f25, x2, cx2, rfl, r25⟩ := R24.out.appL (i := 1) (by decide) rfl HO.out HG.out
                      rw [put_l1, HLA.out, List.append_assoc, rep_snoc] at r25
                      rw [HLA.out]
                      have R25 := Lib.hid r25
                      have hsz2 := r25.frm.size
                      clear r25 R24 HO HG hsz
                      go_upto_region 47 with (first | (at_builtin; refine app_list_S k50 (W := w25) (.tmp 195) (.tmp 197) 23 50 (.agg #[.slice none 0 0, .slice none 0 0, .int .u32 0]) 56 rfl rfl Try.underlying23 info50 rfl (by decide) (by decide) (.slice y (P + 1 + k) cy) (scrd (-3) legs ++ List.replicate k (⟨[], [], 6⟩ : S50)) ⟨[], [], 6⟩ [.slice none 0 0, .slice none 0 0, .int .u32 6] (lab w f25 w25 (5 + 2)) rfl rfl rfl (k50_mkM _ _ _ (⟨[], [], 6⟩ : S50) (Kd.R_nil _ _ _ _ _) (Kd.R_nil _ _ _ _ _)) (lab_new hsz2 (5 + 2)) (R25.out.inL (i := 2) (by decide)) (by rw [HLB.out]; omega) ?_; intro v2 w26 ho hg1; have HO := Lib.hid ho; have HG := Lib.hid hg1; clear ho hg1))
                      obtain ⟨f26, y2, cy2, rfl, r26⟩ := R25.out.appL (i := 2) (by decide) rfl HO.out HG.out
                      rw [put_l2, HLB.out, List.append_assoc, rep_snoc] at r26
                      rw [HLB.out]
                      have R26 := Lib.hid r26
                      have hsz3 := r26.frm.size
                      clear r26 R25 HO HG hsz2
                      go_wp2_with (first | (at_builtin; refine app_list_S k50 (W := w26) (.tmp 199) (.tmp 201) 23 50 (.agg #[.slice none 0 0, .slice none 0 0, .int .u32 0]) 56 rfl rfl Try.underlying23 info50 rfl (by decide) (by decide) (.slice q (P + k) cq) (scrd (-4) pre ++ List.replicate k (⟨[], [], 7⟩ : S50)) ⟨[], [], 7⟩ [.slice none 0 0, .slice none 0 0, .int .u32 7] (lab w f26 w26 (5 + 3)) rfl rfl rfl (k50_mkM _ _ _ (⟨[], [], 7⟩ : S50) (Kd.R_nil _ _ _ _ _) (Kd.R_nil _ _ _ _ _)) (lab_new hsz3 (5 + 3)) (R26.out.inL (i := 3) (by decide)) (by rw [HLO.out]; omega) ?_; intro v3 w27 ho hg1; obtain ⟨f27, q2, cq2, rfl, r27⟩ := R26.out.appL (i := 3) (by decide) rfl ho hg1; rw [HLO.out]; have R27 := Lib.hid r27; clear ho hg1 r27))
                      go_roundw
                      case rel =>
                        have r27 := R27.out
                        rw [put_l3, HLO.out, List.append_assoc, rep_snoc] at r27
                        exact ⟨k + 1, by omega, by go_num, f27, x2, cx2, y2, cy2, q2, cq2, rfl, rfl, rfl, r27⟩
                      case measure => simp [intOf]; omega
                    · obtain rfl : k = 40 := by omega
                      rw [show ((40 : Nat) : Int) = 40 from rfl]
                      have R24 := Lib.hid hR
                      obtain ⟨wo, hwo⟩ : ∃ u, u = wr := ⟨_, rfl⟩
                      subst hwo
                      clear hR hlt hk
                      go_wp2_with fail
                      obtain ⟨ga, rfl⟩ := R24.out.headB (i := 0) (by decide) rfl (by omega)
                      obtain ⟨gb, rfl⟩ := R24.out.headB (i := 1) (by decide) rfl (by omega)
                      obtain ⟨gz, rfl⟩ := R24.out.headB (i := 2) (by decide) rfl (by omega)
                      obtain ⟨gx, rfl⟩ := R24.out.headL (i := 1) (by decide) rfl (by omega)
                      obtain ⟨gy, rfl⟩ := R24.out.headL (i := 2) (by decide) rfl (by omega)
                      obtain ⟨gq, rfl⟩ := R24.out.headL (i := 3) (by decide) rfl (by omega)
                      go_loop [21] (fun t => ∃ i : Nat, i ≤ Q ∧ t = .int .i64 i) (fun t => Q - (intOf t).toNat)
                      case atStart => exact ⟨0, Nat.zero_le _, rfl⟩
                      case round =>
                        obtain ⟨i, hi, rfl⟩ := hrel
                        by_cases hlt : i < Q
                        · have c0 := (R24.out.cellB (i := 2) (by decide) rfl i (by omega)).1
                          rw [rep2_at _ _ _ _ _ _ (by omega), if_pos hlt] at c0
                          go_wp2_with fail
                          go_round
                          case rel => exact ⟨i + 1, by omega, by go_num⟩
                          case measure => simp [intOf]; omega
                        · obtain rfl : Q = i := by omega
                          go_wp2_with fail
                          go_loop [22] (fun t => ∃ i : Nat, i ≤ M ∧ t = .int .i64 i) (fun t => M - (intOf t).toNat)
                          case atStart => exact ⟨0, Nat.zero_le _, rfl⟩
                          case round =>
                            obtain ⟨i, hi, rfl⟩ := hrel
                            by_cases hlt : i < M
                            · have c0 := (R24.out.cellB (i := 0) (by decide) rfl i (by omega)).1
                              have c1 := (R24.out.cellB (i := 1) (by decide) rfl i (by omega)).1
                              rw [rep2_at _ _ _ _ _ _ (by omega), if_pos hlt] at c0 c1
                              go_wp2_with fail
                              go_round
                              case rel => exact ⟨i + 1, by omega, by go_num⟩
                              case measure => simp [intOf]; omega
                            · obtain rfl : M = i := by omega
                              go_wp2_with fail
                              refine (R24.out.own (i := 3) (by decide) rfl (by omega)).mono ?_
                              rintro e w30 ⟨A30, c30, rfl, h30, k30⟩
                              have R30 := Lib.hid (R24.out.quiet k30)
                              have hde := dec_of h30 (by omega) (by rw [HBS.out]; exact legsB_byt legs) (by rw [HBS.out]; exact HDEC.out) HN.out
                              have HDE := Lib.hid hde
                              clear k30 h30 R24 hde
                              go_wp2_with fail
                              refine HDE.out.mono ?_
                              rintro e w31 ⟨A31, c31, rfl, h31, k31⟩
                              have R31 := Lib.hid (R30.out.quiet k31)
                              obtain ⟨hn31, hc31, hC31⟩ := Kd.S_reads' h31
                              have HC31 := Lib.hid hC31
                              clear k31 h31 R30 HDE hn31 hC31
                              go_wp2_with fail
                              have hol := ownLegs_calls w31 A c legs (Kd.C_below HR.out R31.out.frm.below0) (by rw [← HN.out]; exact hc) HOK.out
                              rw [← HN.out] at hol
                              refine hol.mono ?_
                              rintro e w32 ⟨v32, rfl, h32, k32⟩
                              obtain ⟨A32, c32, rfl, _, hC32⟩ := Kd.S_reads h32
                              have hen := encode_calls w32 A32 c32 legs hC32 HOK.out.n HOK.out.each
                              rw [HFIT.out, ← HN.out] at hen
                              rw [← HN.out]
                              have HEN := Lib.hid hen
                              have R32 := Lib.hid (R31.out.quiet k32)
                              have HC32 := Lib.hid (Kd.C_below HC31.out k32.below0)
                              clear hol hen h32 hC32 k32 R31 HC31
                              go_wp2_with fail
                              refine HEN.out.mono ?_
                              rintro e w33 ⟨v33, rfl, h33, k33⟩
                              obtain ⟨A33, c33, rfl, _, hC33⟩ := Kd.R_reads h33
                              dsimp only at hC33 ⊢
                              rw [← HBS.out, HBL.out] at hC33 ⊢
                              have R33 := Lib.hid (R32.out.quiet k33)
                              have hsl := sameLegs_self w33 A31 A c31 c legs (Kd.C_below HC32.out k33.below0) (by rw [← HN.out]; exact hc31) (Kd.C_below HR.out R33.out.frm.below0) (by rw [← HN.out]; exact hc) HOK.out
                              rw [← HN.out] at hsl
                              have HSL := Lib.hid hsl
                              have HC33 := Lib.hid hC33
                              clear h33 hC33 k33 R32 HC32 hsl HEN
                              go_wp2_with fail
                              refine HSL.out.mono ?_
                              rintro e w34 ⟨rfl, k34⟩
                              have R34 := Lib.hid (R33.out.quiet k34)
                              have hs1 := Kd.C_string (P := Try.prog) (A := A33) (c := c33) Try.underlying22 Try.underlying5 Try.underlying9 (Kd.C_below HC33.out k34.below0)
                              have hs2 := R34.out.str (i := 3) (by decide) rfl
                              have hx5 := R34.out.cellL (i := 1) (by decide) rfl (P + 1) (by omega)
                              have hy6 := R34.out.cellL (i := 2) (by decide) rfl (P + 1) (by omega)
                              have hat : ∀ (mark : Int) (l : List S50) (n : Nat) (z : S50), n = l.length → (scrd mark l ++ List.replicate 40 z).getD n z50 = z := by
                                intro mark l n z h
                                rw [List.getD_eq_getElem?_getD, List.getElem?_append_right (by rw [scrd_len]; omega), scrd_len, h, Nat.sub_self]
                                rfl
                              rw [hat _ _ _ _ HN.out] at hx5 hy6
                              dsimp only at hx5 hy6
                              have HAT := Lib.hid hat
                              obtain ⟨i1, hi1, _, _, _⟩ := info_parts info50
                              have hcx := (R34.out.CL (i := 1) (by decide) rfl).2.1
                              have hcy := (R34.out.CL (i := 2) (by decide) rfl).2.1
                              have hcq := (R34.out.CL (i := 3) (by decide) rfl).2.1
                              clear hat k34 R33 HC33 HSL
                              go_wp2_with fail
                              clear hs1 hs2 hx5 hy6
                              refine (R34.out.bears (i := 0) (by decide) (l := legs) (l2 := []) (-1) (by rw [List.append_nil]; rfl) HN.out hNk HLZ.out (by decide)).mono ?_
                              rintro e w35 ⟨rfl, k35⟩
                              have R35 := Lib.hid (R34.out.quiet k35)
                              clear k35 R34
                              go_wp2_with fail
                              refine (R35.out.bears (i := 1) (by decide) (l := legs) (-2) rfl HN.out hNk HLZ.out (by decide)).mono ?_
                              rintro e w36 ⟨rfl, k36⟩
                              have R36 := Lib.hid (R35.out.quiet k36)
                              clear k36 R35
                              go_wp2_with fail
                              refine (R36.out.bears (i := 2) (by decide) (l := legs) (-3) rfl HN.out hNk HLZ.out (by decide)).mono ?_
                              rintro e w37 ⟨rfl, k37⟩
                              have R37 := Lib.hid (R36.out.quiet k37)
                              clear k37 R36
                              go_wp2_with fail
                              refine (R37.out.bears (i := 3) (by decide) (l := pre) (-4) rfl HPL.out.symm (by omega) HPLZ.out (by decide)).mono ?_
                              rintro e w38 ⟨rfl, k38⟩
                              have R38 := Lib.hid (R37.out.quiet k38)
                              have hq7 := R38.out.cellL (i := 3) (by decide) rfl P (by omega)
                              rw [HAT.out _ _ _ _ HPL.out.symm] at hq7
                              have ha := (R38.out.cellB (i := 0) (by decide) rfl M (by omega)).1
                              have hb := (R38.out.cellB (i := 1) (by decide) rfl M (by omega)).1
                              have hz := (R38.out.cellB (i := 2) (by decide) rfl Q (by omega)).1
                              rw [rep2_at _ _ _ _ _ _ (by omega), if_neg (Nat.lt_irrefl _)] at ha hb hz
                              dsimp only at hq7
                              clear k38 R37
                              go_wp2
                              go_ret
                              exact ⟨rfl, R38.out.frm⟩
end Go.Proofs.Ytoebhddgpicegaa
namespace Go.Proofs.Ytoebhddgpicegaa.replayApart
open Go.ChangeShapes Go.WideShapes Go.ChangeAt Go.RowKit
open Go.Proofs.YtoebhddgpicegaaW.PrintWords PReplayApart
theorem own : ownKnob Try.prog.godebug = none := by kernel_rfl
theorem laidOut : laidOutB Try.prog = true := by kernel_rfl
theorem contract (H : Type) (enc : TypeId × Value → H) (W : World) (base : Nat) (args : Array Value) (ds gs : List (DataW H)) (before : List MemPlace)
    (hval : ∀ (j : Nat) t v, Try.f7.params[j]? = some t → args[j]? = some v → Value.okWide Try.prog W .any base t v)
    (hW : DataW.Whole enc Try.prog Try.f7.params.toList Rows.replayApartSpec.vars false W args.toList ds gs before) (hk : Rows.uptoSmall H (ds ++ gs) = true)
    (hsz : (DataW.weightsEach Try.prog (Try.f7.params.toList ++ Rows.replayApartSpec.plain.varTypes Try.prog) (ds ++ gs)).all (· ≤ reachBytes) = true) :
    Calls Try.prog 7 args W fun e W' => ∃ v, e = .returned v ∧ Rows.replayApartSpec.post enc Try.prog Try.f7 false true false false W args v W' := by
  have hW' := hW
  obtain ⟨p, q, hA0, hV, rfl, hfz, hnd⟩ := hW
  have hA : DataW.TrodAll enc Try.prog W 0 (fun _ => true) true Try.f7.params.toList args.toList ds p := hA0
  rw [Try.params7] at hA hval hsz
  obtain ⟨v0, vs0, d0, ds0, p0, q0, hargs, rfl, rfl, h0, r0⟩ := trodAll_cons hA
  obtain ⟨rfl, rfl, rfl⟩ := trodAll_nil r0
  obtain rfl : args = #[v0] := by cases args; simp_all
  obtain ⟨rfl, rfl⟩ := trodVars_none hV
  obtain ⟨a0, len0, cap0, rfl⟩ := okWide_slice Try.underlying23 (hval 0 23 v0 rfl rfl)
  have k0 := h0
  have lt0 : ∀ x ∈ p0, x.block < W.heap.size := by obtain ⟨m, hm⟩ := k0; exact DataW.trod_lt m _ _ _ hm
  have hw : ∀ n ∈ d0.weights Try.prog 23, n ≤ reachBytes := by
    intro n hn
    have := List.all_eq_true.1 hsz n (DataW.weights_mem_each (j := 0) rfl rfl n hn)
    simpa using this
  have hbk : Rows.uptoBulkAll (d0 :: _) ≤ 1048576 := of_decide_eq_true hk
  obtain ⟨m0, hm0⟩ := h0
  obtain ⟨legs, ⟨A, c, hcs, hc, hC⟩, hok, hmu⟩ := opens_legs hm0 hw
  obtain ⟨rfl, rfl, rfl⟩ : a0 = A ∧ len0 = legs.length ∧ cap0 = c := by simpa [Value.cells] using hcs
  obtain ⟨hlo, hpk⟩ := legs_ok hok
  have hs : sumL legs ≤ 1000000000000 := by
    have h4 := sum_bulk legs
    have hmu' : (legs.map muL).sum + 1 ≤ Rows.uptoBulk d0 := hmu
    simp only [Rows.uptoBulkAll] at hbk
    omega
  clear hA0 hA hval hsz hk hbk
  refine (apart_calls W a0 cap0 legs hC hc hlo hpk hs).mono fun e W' ⟨he, fr⟩ => ?_
  subst he
  have bel := fr.below0
  exact ⟨_, rfl, _, _, _, [], _, [], hW', trodAll_mk1 (shut_bool Try.underlying4 _), (trodAll_cons_mk (Below.trod laidOut (by kernel_rfl) (of_decide_eq_true (by kernel_rfl)) k0 bel lt0) trodAll_mk0), rfl, bel.frame _, fun h => by cases h⟩
set_option maxRecDepth 100000 in
theorem lifted (os : Os) (started : os.Started) (H : Type) (enc : TypeId × Value → H) (F : Stop.Interp) :
    ReturnsInHanded {} Try.checked os 7 .any ((Rows.OpenSpec.upto Rows.replayApartSpec).pre6 enc Try.prog Try.f7 Rows.replayApartUptoRow.domain false) (((Rows.OpenSpec.upto Rows.replayApartSpec).at F).post enc Try.prog Try.f7 false true false false) := by
  refine returnsInHanded_of_cond_sized (C := Try.checked) (s := Rows.OpenSpec.upto Rows.replayApartSpec) (k := Rows.uptoSmall) rfl own started (by kernel_rfl) Try.func7
    (OpenSpec.witness (enc := enc) (C := Try.checked) (s := Rows.OpenSpec.upto Rows.replayApartSpec) (k := Rows.uptoSmall) rfl false ⟨#[], #[.slice none 0 0], []⟩ 8 (by kernel_rfl) (by kernel_rfl) (by kernel_rfl)
      (x := ([.nil], [], [])) (by kernel_rfl) rfl (by kernel_rfl)) ?_
  intro W base args ds gs before hval hW _ hk hsz _
  exact contract H enc W base args ds gs before hval hW hk hsz
theorem over : Rows.replayApartUptoRow.holds Try.pinned (Rows.OpenSpec.upto Rows.replayApartSpec) :=
  OpenClaim.holds_of_cond 7 Try.f7 rfl rfl rfl rfl rfl rfl rfl ⟨rfl, rfl, rfl, rfl, rfl⟩ rfl rfl rfl rfl rfl (by kernel_rfl) Try.func7 (by kernel_rfl)
    (of_decide_eq_true (by kernel_rfl)) (by unfold Func.isWrapper; first | (rw [if_pos (by decide +kernel)]; kernel_rfl) | (rw [if_neg (by decide +kernel)]; exact ⟨rfl, rfl⟩))
    (fun os started H enc _ F => lifted os started H enc F)
end Go.Proofs.Ytoebhddgpicegaa.replayApart
namespace Go.Proofs.Ytoebhddgpicegaa
theorem replayApart_upto : Rows.ReplayApartUptoSaid := replayApart.over
#print axioms replayApart_upto
end Go.Proofs.Ytoebhddgpicegaa
