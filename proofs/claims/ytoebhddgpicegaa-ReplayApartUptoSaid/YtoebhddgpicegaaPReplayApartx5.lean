-- PRINTED BY print.sh 35421559b90ae4d0a3588c463048766b98c2df88dd9212a6774a882060cdf62d: not written by this session
import Derived.Test.YtoebhddgpicegaaPReplayApartx0
namespace Go.Proofs.Ytoebhddgpicegaa.PReplayApart
open Go.RowKit Go.Proofs.YtoebhddgpicegaaW.PrintWords Go.Proofs.YtoebhddgpicegaaW.PrintLast Go.Proofs.YtoebhddgpicegaaW.PrintMore
attribute [local go_sem] max2_int min2_int max_two min_two max_three min_three max_four min_four   -- for this text's walks alone
set_option linter.unusedVariables false
set_option linter.unusedSimpArgs false

/-! ### amberlaw21_lengthOf: function 20 -/
def amberlaw21_lengthOf.l0 : Nat → List (S50) → Int → Int → Option (Int)
  | 0, _, _, _ => none
  | k + 1, x0, x3, x4 => if x4 < (x0.length : Int) then (if 0 ≤ x4 then (amberlaw21_lengthOf.l0 k x0 (wrap64 ((wrap64 ((wrap64 (x3 + 24)) + (wrap64 (16 * (((rd_T50 x0 x4).f0).length : Int))))) + (wrap64 (4 * (((rd_T50 x0 x4).f1).length : Int))))) (wrap64 (x4 + 1))) else (none)) else (some x3)
def amberlaw21_lengthOf.f (k : Nat) (l0 : List (S50)) : Option (Int) := amberlaw21_lengthOf.l0 k l0 0 0
theorem amberlaw21_lengthOf.mono_l : ∀ k, (∀ y0 y1 y2, LeO (amberlaw21_lengthOf.l0 k y0 y1 y2) (amberlaw21_lengthOf.l0 (k + 1) y0 y1 y2))
  | 0 => fun _ _ _ r h => by simp [amberlaw21_lengthOf.l0] at h
  | k + 1 => by
    have ih0 := amberlaw21_lengthOf.mono_l k
    · intro y0 y1 y2
      unfold amberlaw21_lengthOf.l0
      repeat' first
      | (with_reducible exact ih0 _ _ _)
      | (with_reducible exact LeO.refl _)
      | (with_reducible exact LeO.none _)
      | (with_reducible refine LeO.ite ?_ ?_)
      | (with_reducible refine LeO.bind ?_ (fun _ => ?_))
      | exact ih0 _ _ _
      | exact LeO.none _
      | refine LeO.ite ?_ ?_
      | refine LeO.bind ?_ (fun _ => ?_)
theorem amberlaw21_lengthOf.mono : ∀ a0 k, LeO (amberlaw21_lengthOf.f k a0) (amberlaw21_lengthOf.f (k + 1) a0) := by
  intro a0 k
  have ih0 := amberlaw21_lengthOf.mono_l k
  unfold amberlaw21_lengthOf.f
  repeat' first
      | (with_reducible exact ih0 _ _ _)
      | (with_reducible exact LeO.refl _)
      | (with_reducible exact LeO.none _)
      | (with_reducible refine LeO.ite ?_ ?_)
      | (with_reducible refine LeO.bind ?_ (fun _ => ?_))
      | exact ih0 _ _ _
      | exact LeO.none _
      | refine LeO.ite ?_ ?_
      | refine LeO.bind ?_ (fun _ => ?_)
set_option maxHeartbeats 8000000 in
set_option maxRecDepth 100000 in
theorem amberlaw21_lengthOf.calls (k : Nat) (A0 : Option Addr) (c0 : Nat) (l0 : List (S50)) (r : Int) (w : World) (hr0 : Kd.C k50 w A0 l0.length l0) (hc0 : l0.length ≤ c0) (h : amberlaw21_lengthOf.f k l0 = some r) :
    Calls Try.prog 20 #[.slice A0 l0.length c0] w fun e w' => e = .returned (.int .i64 r) ∧ Drawn0 w w' := by
  have HR0 := Aside0.mk hr0
  have HC0 := Aside0.mk hc0
  clear hr0 hc0
  have H : (amberlaw21_lengthOf.l0 k l0 0 0) = some r := h
  clear h
  have H' := Aside0.mk H
  clear H
  go_enter Try.func20, Try.ntmps20
  go_wp2
  repeat (go_quiet (fail); try go_wp2)
  go_loopg [3, 4] k (fun kq v3 v4 w' => ∃ (x3_1 : Int) (x4_1 : Int), v3 = .int .i64 x3_1 ∧ v4 = .int .i64 x4_1 ∧ Aside0 (amberlaw21_lengthOf.l0 kq l0 x3_1 x4_1 = some r) ∧ Aside0 (kq ≤ k) ∧ Drawn0 w w')
  case atStart => exact ⟨(0), (0), (by first | rfl | (simp; done) | (simp [*]; done)), (by first | rfl | (simp; done) | (simp [*]; done)), H', ⟨Nat.le_refl _⟩, by repeat (first | exact Drawn0.refl _ | apply Drawn0.step)⟩
  case round =>
    clear H'
    obtain ⟨x3_1, x4_1, rfl, rfl, HA, HK1, ⟨m1, rfl⟩⟩ := hrel
    cases gk with
    | zero => exact absurd HA.out (by simp [amberlaw21_lengthOf.l0])
    | succ k1 =>
      have H := HA.out
      clear HA
      simp only [amberlaw21_lengthOf.l0] at H
      by_cases c2 : x4_1 < (l0.length : Int)
      · rw [if_pos c2] at H
        have c2b0 : decide (x4_1 < (l0.length : Int)) = true := decide_eq_true c2
        clear c2
        by_cases c3 : 0 ≤ x4_1
        · rw [if_pos c3] at H
          have c3b0 : decide (0 ≤ x4_1) = true := decide_eq_true c3
          clear c3
          have H' := Aside0.mk H
          clear H
          have p161 : 0 ≤ (x4_1 : Int) := of_decide_eq_true (by first | (with_reducible assumption) | assumption)
          have q161 : x4_1 < (l0.length : Int) := of_decide_eq_true (by first | (with_reducible assumption) | assumption)
          obtain ⟨ad161, A161_0, c161_0, A161_1, c161_1, e161, hx161_0, hx161_1, hx161_2, hl161_0, hi161_0, hl161_1, hi161_1⟩ := at_T50 HR0.out x4_1 p161 q161
          cases e161
          have HR161_0 := Aside0.mk hi161_0
          have HC161_0 := Aside0.mk hl161_0
          clear hi161_0 hl161_0
          have HR161_1 := Aside0.mk hi161_1
          have HC161_1 := Aside0.mk hl161_1
          clear hi161_1 hl161_1
          replace p161 := eq_true p161
          replace q161 := eq_true q161
          have p162 : 0 ≤ (x4_1 : Int) := of_decide_eq_true (by first | (with_reducible assumption) | assumption)
          have q162 : x4_1 < (l0.length : Int) := of_decide_eq_true (by first | (with_reducible assumption) | assumption)
          obtain ⟨ad162, A162_0, c162_0, A162_1, c162_1, e162, hx162_0, hx162_1, hx162_2, hl162_0, hi162_0, hl162_1, hi162_1⟩ := at_T50 HR0.out x4_1 p162 q162
          obtain rfl : ad161 = ad162 := (by injection e162)
          have HR162_0 := Aside0.mk hi162_0
          have HC162_0 := Aside0.mk hl162_0
          clear hi162_0 hl162_0
          have HR162_1 := Aside0.mk hi162_1
          have HC162_1 := Aside0.mk hl162_1
          clear hi162_1 hl162_1
          replace p162 := eq_true p162
          replace q162 := eq_true q162
          have ea_ := Option.some.inj (hx161_0.symm.trans hx162_0)
          injection ea_ with ea_ en_ ec_
          subst ea_
          subst ec_
          clear en_
          have ea_ := Option.some.inj (hx161_1.symm.trans hx162_1)
          injection ea_ with ea_ en_ ec_
          subst ea_
          subst ec_
          clear en_
          go_wp2
          repeat (go_quiet (fail); try go_wp2)
          go_roundg k1
          case measure => have := HK1.out; omega
          case rel => exact ⟨(wrap64 ((wrap64 ((wrap64 (x3_1 + 24)) + (wrap64 (16 * (((rd_T50 l0 x4_1).f0).length : Int))))) + (wrap64 (4 * (((rd_T50 l0 x4_1).f1).length : Int))))), (wrap64 (x4_1 + 1)), (by first | rfl | (simp; done) | (simp [*]; done)), (by first | rfl | (simp; done) | (simp [*]; done)), H', ⟨by have := HK1.out; omega⟩, by repeat (first | exact Drawn0.refl _ | apply Drawn0.step)⟩
        · rw [if_neg c3] at H
          exact absurd H (by simp)
      · rw [if_neg c2] at H
        have c2b0 : decide (x4_1 < (l0.length : Int)) = false := decide_eq_false c2
        clear c2
        obtain rfl := Option.some.inj H
        go_wp2
        repeat (go_quiet (fail); try go_wp2)
        go_ret
        exact ⟨by first | rfl | (simp; done) | (simp [*]; done), by repeat (first | exact Drawn0.refl _ | apply Drawn0.step)⟩

-- NOT PRINTED: function 21 (amberlaw21_scribbled)

end Go.Proofs.Ytoebhddgpicegaa.PReplayApart
