-- PRINTED BY print.sh 35421559b90ae4d0a3588c463048766b98c2df88dd9212a6774a882060cdf62d: not written by this session
import Derived.Test.YtoebhddgpicegaaPReplayApartx0
import Derived.Test.YtoebhddgpicegaaPReplayApartx1
namespace Go.Proofs.Ytoebhddgpicegaa.PReplayApart
open Go.RowKit Go.Proofs.YtoebhddgpicegaaW.PrintWords Go.Proofs.YtoebhddgpicegaaW.PrintLast Go.Proofs.YtoebhddgpicegaaW.PrintMore
attribute [local go_sem] max2_int min2_int max_two min_two max_three min_three max_four min_four   -- for this text's walks alone
set_option linter.unusedVariables false
set_option linter.unusedSimpArgs false

attribute [local go_sem high] eqA80
/-! ### amberlaw21_bears: function 22 -/
mutual
def amberlaw21_bears.l0 : Nat → List (S50) → Int → Int → Option (Bool)
  | 0, _, _, _ => none
  | k + 1, x0, x1, x5 => if x5 < (x0.length : Int) then (if 0 ≤ x5 then (if (wrap64 ((((rd_T50 x0 x5).f0).length : Int) - 40)) < 0 then (amberlaw21_bears.j1 k x0 x1 x5 (wrap64 ((((rd_T50 x0 x5).f0).length : Int) - 40)) (wrap64 ((((rd_T50 x0 x5).f1).length : Int) - 40)) true) else (amberlaw21_bears.j1 k x0 x1 x5 (wrap64 ((((rd_T50 x0 x5).f0).length : Int) - 40)) (wrap64 ((((rd_T50 x0 x5).f1).length : Int) - 40)) (decide ((wrap64 ((((rd_T50 x0 x5).f1).length : Int) - 40)) < 0)))) else (none)) else (some true)
def amberlaw21_bears.j1 : Nat → List (S50) → Int → Int → Int → Int → Bool → Option (Bool)
  | 0, _, _, _, _, _, _ => none
  | k + 1, x0, x1, x5, x6, x7, x35 => if x35 = true then (some false) else (amberlaw21_bears.l1 k x0 x1 x5 x6 x7 0)
def amberlaw21_bears.l1 : Nat → List (S50) → Int → Int → Int → Int → Int → Option (Bool)
  | 0, _, _, _, _, _, _ => none
  | k + 1, x0, x1, x5, x6, x7, x8 => if 0 ≤ x5 then (if x5 < (x0.length : Int) then (if x8 < (((rd_T50 x0 x5).f0).length : Int) then (if 0 ≤ x8 then (if (!(((rd_T80 ((rd_T50 x0 x5).f0) x8).f0) == x1) || (!(((rd_T80 ((rd_T50 x0 x5).f0) x8).f1) == x5))) = true then (if x8 < x6 then (some false) else (if (!(((rd_T80 ((rd_T50 x0 x5).f0) x8).f0) == (wrap64 (x1 - 10))) || (!(((rd_T80 ((rd_T50 x0 x5).f0) x8).f1) == x5))) = true then (some false) else (amberlaw21_bears.l1 k x0 x1 x5 x6 x7 (wrap64 (x8 + 1))))) else (amberlaw21_bears.l1 k x0 x1 x5 x6 x7 (wrap64 (x8 + 1)))) else (none)) else (amberlaw21_bears.l2 k x0 x1 x5 x7 0)) else (none)) else (none)
def amberlaw21_bears.l2 : Nat → List (S50) → Int → Int → Int → Int → Option (Bool)
  | 0, _, _, _, _, _ => none
  | k + 1, x0, x1, x5, x7, x9 => if 0 ≤ x5 then (if x5 < (x0.length : Int) then (if x9 < (((rd_T50 x0 x5).f1).length : Int) then (if 0 ≤ x9 then (if (rd ((rd_T50 x0 x5).f1) x9) = ((wrap64 ((wrap64 (100000 * (wrap64 (9 + x1)))) + x5)) % 4294967296) then (amberlaw21_bears.l2 k x0 x1 x5 x7 (wrap64 (x9 + 1))) else (if x9 < x7 then (some false) else (if (rd ((rd_T50 x0 x5).f1) x9) = ((wrap64 ((wrap64 (100000 * (wrap64 (19 + x1)))) + x5)) % 4294967296) then (amberlaw21_bears.l2 k x0 x1 x5 x7 (wrap64 (x9 + 1))) else (some false)))) else (none)) else (amberlaw21_bears.l0 k x0 x1 (wrap64 (x5 + 1)))) else (none)) else (none)
end
def amberlaw21_bears.f (k : Nat) (l0 : List (S50)) (a1 : Int) : Option (Bool) := amberlaw21_bears.l0 k l0 a1 0
theorem amberlaw21_bears.mono_l : ∀ k, (∀ y0 y1 y2, LeO (amberlaw21_bears.l0 k y0 y1 y2) (amberlaw21_bears.l0 (k + 1) y0 y1 y2)) ∧ (∀ y0 y1 y2 y3 y4 y5, LeO (amberlaw21_bears.j1 k y0 y1 y2 y3 y4 y5) (amberlaw21_bears.j1 (k + 1) y0 y1 y2 y3 y4 y5)) ∧ (∀ y0 y1 y2 y3 y4 y5, LeO (amberlaw21_bears.l1 k y0 y1 y2 y3 y4 y5) (amberlaw21_bears.l1 (k + 1) y0 y1 y2 y3 y4 y5)) ∧ (∀ y0 y1 y2 y3 y4, LeO (amberlaw21_bears.l2 k y0 y1 y2 y3 y4) (amberlaw21_bears.l2 (k + 1) y0 y1 y2 y3 y4))
  | 0 => ⟨fun _ _ _ r h => by simp [amberlaw21_bears.l0] at h, fun _ _ _ _ _ _ r h => by simp [amberlaw21_bears.j1] at h, fun _ _ _ _ _ _ r h => by simp [amberlaw21_bears.l1] at h, fun _ _ _ _ _ r h => by simp [amberlaw21_bears.l2] at h⟩
  | k + 1 => by
    obtain ⟨ih0, ih1, ih2, ih3⟩ := amberlaw21_bears.mono_l k
    refine ⟨?_, ?_, ?_, ?_⟩
    · intro y0 y1 y2
      unfold amberlaw21_bears.l0
      repeat' first
      | (with_reducible exact ih0 _ _ _)
      | (with_reducible exact ih1 _ _ _ _ _ _)
      | (with_reducible exact ih2 _ _ _ _ _ _)
      | (with_reducible exact ih3 _ _ _ _ _)
      | (with_reducible exact LeO.refl _)
      | (with_reducible exact LeO.none _)
      | (with_reducible refine LeO.ite ?_ ?_)
      | (with_reducible refine LeO.bind ?_ (fun _ => ?_))
      | exact ih0 _ _ _
      | exact ih1 _ _ _ _ _ _
      | exact ih2 _ _ _ _ _ _
      | exact ih3 _ _ _ _ _
      | exact LeO.none _
      | refine LeO.ite ?_ ?_
      | refine LeO.bind ?_ (fun _ => ?_)
    · intro y0 y1 y2 y3 y4 y5
      unfold amberlaw21_bears.j1
      repeat' first
      | (with_reducible exact ih0 _ _ _)
      | (with_reducible exact ih1 _ _ _ _ _ _)
      | (with_reducible exact ih2 _ _ _ _ _ _)
      | (with_reducible exact ih3 _ _ _ _ _)
      | (with_reducible exact LeO.refl _)
      | (with_reducible exact LeO.none _)
      | (with_reducible refine LeO.ite ?_ ?_)
      | (with_reducible refine LeO.bind ?_ (fun _ => ?_))
      | exact ih0 _ _ _
      | exact ih1 _ _ _ _ _ _
      | exact ih2 _ _ _ _ _ _
      | exact ih3 _ _ _ _ _
      | exact LeO.none _
      | refine LeO.ite ?_ ?_
      | refine LeO.bind ?_ (fun _ => ?_)
    · intro y0 y1 y2 y3 y4 y5
      unfold amberlaw21_bears.l1
      repeat' first
      | (with_reducible exact ih0 _ _ _)
      | (with_reducible exact ih1 _ _ _ _ _ _)
      | (with_reducible exact ih2 _ _ _ _ _ _)
      | (with_reducible exact ih3 _ _ _ _ _)
      | (with_reducible exact LeO.refl _)
      | (with_reducible exact LeO.none _)
      | (with_reducible refine LeO.ite ?_ ?_)
      | (with_reducible refine LeO.bind ?_ (fun _ => ?_))
      | exact ih0 _ _ _
      | exact ih1 _ _ _ _ _ _
      | exact ih2 _ _ _ _ _ _
      | exact ih3 _ _ _ _ _
      | exact LeO.none _
      | refine LeO.ite ?_ ?_
      | refine LeO.bind ?_ (fun _ => ?_)
    · intro y0 y1 y2 y3 y4
      unfold amberlaw21_bears.l2
      repeat' first
      | (with_reducible exact ih0 _ _ _)
      | (with_reducible exact ih1 _ _ _ _ _ _)
      | (with_reducible exact ih2 _ _ _ _ _ _)
      | (with_reducible exact ih3 _ _ _ _ _)
      | (with_reducible exact LeO.refl _)
      | (with_reducible exact LeO.none _)
      | (with_reducible refine LeO.ite ?_ ?_)
      | (with_reducible refine LeO.bind ?_ (fun _ => ?_))
      | exact ih0 _ _ _
      | exact ih1 _ _ _ _ _ _
      | exact ih2 _ _ _ _ _ _
      | exact ih3 _ _ _ _ _
      | exact LeO.none _
      | refine LeO.ite ?_ ?_
      | refine LeO.bind ?_ (fun _ => ?_)
theorem amberlaw21_bears.mono : ∀ a0 a1 k, LeO (amberlaw21_bears.f k a0 a1) (amberlaw21_bears.f (k + 1) a0 a1) := by
  intro a0 a1 k
  obtain ⟨ih0, ih1, ih2, ih3⟩ := amberlaw21_bears.mono_l k
  unfold amberlaw21_bears.f
  repeat' first
      | (with_reducible exact ih0 _ _ _)
      | (with_reducible exact ih1 _ _ _ _ _ _)
      | (with_reducible exact ih2 _ _ _ _ _ _)
      | (with_reducible exact ih3 _ _ _ _ _)
      | (with_reducible exact LeO.refl _)
      | (with_reducible exact LeO.none _)
      | (with_reducible refine LeO.ite ?_ ?_)
      | (with_reducible refine LeO.bind ?_ (fun _ => ?_))
      | exact ih0 _ _ _
      | exact ih1 _ _ _ _ _ _
      | exact ih2 _ _ _ _ _ _
      | exact ih3 _ _ _ _ _
      | exact LeO.none _
      | refine LeO.ite ?_ ?_
      | refine LeO.bind ?_ (fun _ => ?_)
set_option maxHeartbeats 8000000 in
set_option maxRecDepth 100000 in
theorem amberlaw21_bears.calls (k : Nat) (A0 : Option Addr) (c0 : Nat) (l0 : List (S50)) (a1 : Int) (r : Bool) (w : World) (hr0 : Kd.C k50 w A0 l0.length l0) (hc0 : l0.length ≤ c0) (h : amberlaw21_bears.f k l0 a1 = some r) :
    Calls Try.prog 22 #[.slice A0 l0.length c0, .int .i64 a1] w fun e w' => e = .returned (.bool r) ∧ Drawn0 w w' := by
  have hu80 := Try.underlying80
  have HR0 := Aside0.mk hr0
  have HC0 := Aside0.mk hc0
  clear hr0 hc0
  have H : (amberlaw21_bears.l0 k l0 a1 0) = some r := h
  clear h
  have H' := Aside0.mk H
  clear H
  go_enter Try.func22, Try.ntmps22
  go_wp2
  go_loopg [5] k (fun kq v5 w' => ∃ (x5_1 : Int), v5 = .int .i64 x5_1 ∧ Aside0 (amberlaw21_bears.l0 kq l0 a1 x5_1 = some r) ∧ Aside0 (kq ≤ k) ∧ Drawn0 w w')
  case atStart => exact ⟨(0), (by first | rfl | (simp; done) | (simp [*]; done)), H', ⟨Nat.le_refl _⟩, by repeat (first | exact Drawn0.refl _ | apply Drawn0.step)⟩
  case round =>
    clear H'
    try clear c2
    try clear p2
    obtain ⟨x5_1, rfl, HA, HK1, ⟨m1, rfl⟩⟩ := hrel
    cases gk with
    | zero => exact absurd HA.out (by simp [amberlaw21_bears.l0])
    | succ k1 =>
      have H := HA.out
      clear HA
      simp only [amberlaw21_bears.l0] at H
      by_cases c3 : x5_1 < (l0.length : Int)
      · rw [if_pos c3] at H
        have c3b0 : decide (x5_1 < (l0.length : Int)) = true := decide_eq_true c3
        clear c3
        by_cases c4 : 0 ≤ x5_1
        · rw [if_pos c4] at H
          have c4b0 : decide (0 ≤ x5_1) = true := decide_eq_true c4
          clear c4
          have HC5 := Aside0.mk H
          clear H
          have p165 : 0 ≤ (x5_1 : Int) := of_decide_eq_true (by first | (with_reducible assumption) | assumption)
          have q165 : x5_1 < (l0.length : Int) := of_decide_eq_true (by first | (with_reducible assumption) | assumption)
          obtain ⟨ad165, A165_0, c165_0, A165_1, c165_1, e165, hx165_0, hx165_1, hx165_2, hl165_0, hi165_0, hl165_1, hi165_1⟩ := at_T50 HR0.out x5_1 p165 q165
          cases e165
          have HR165_0 := Aside0.mk hi165_0
          have HC165_0 := Aside0.mk hl165_0
          clear hi165_0 hl165_0
          have HR165_1 := Aside0.mk hi165_1
          have HC165_1 := Aside0.mk hl165_1
          clear hi165_1 hl165_1
          replace p165 := eq_true p165
          replace q165 := eq_true q165
          have p166 : 0 ≤ (x5_1 : Int) := of_decide_eq_true (by first | (with_reducible assumption) | assumption)
          have q166 : x5_1 < (l0.length : Int) := of_decide_eq_true (by first | (with_reducible assumption) | assumption)
          obtain ⟨ad166, A166_0, c166_0, A166_1, c166_1, e166, hx166_0, hx166_1, hx166_2, hl166_0, hi166_0, hl166_1, hi166_1⟩ := at_T50 HR0.out x5_1 p166 q166
          obtain rfl : ad165 = ad166 := (by injection e166)
          have HR166_0 := Aside0.mk hi166_0
          have HC166_0 := Aside0.mk hl166_0
          clear hi166_0 hl166_0
          have HR166_1 := Aside0.mk hi166_1
          have HC166_1 := Aside0.mk hl166_1
          clear hi166_1 hl166_1
          replace p166 := eq_true p166
          replace q166 := eq_true q166
          have ea_ := Option.some.inj (hx165_0.symm.trans hx166_0)
          injection ea_ with ea_ en_ ec_
          subst ea_
          subst ec_
          clear en_
          have ea_ := Option.some.inj (hx165_1.symm.trans hx166_1)
          injection ea_ with ea_ en_ ec_
          subst ea_
          subst ec_
          clear en_
          go_upto_region 6 with (fail)
          go_cut [35] (fun v35 wc => ∃ (kq : Nat) (x35_4 : Bool), v35 = .bool x35_4 ∧ Aside0 (amberlaw21_bears.j1 kq l0 a1 x5_1 (wrap64 ((((rd_T50 l0 x5_1).f0).length : Int) - 40)) (wrap64 ((((rd_T50 l0 x5_1).f1).length : Int) - 40)) x35_4 = some r) ∧ Aside0 (kq ≤ k1) ∧ Drawn0 w wc)
          case first =>
            have H := HC5.out
            clear HC5
            by_cases c6 : (wrap64 ((((rd_T50 l0 x5_1).f0).length : Int) - 40)) < 0
            · rw [if_pos c6] at H
              have c6b0 : decide ((wrap64 ((((rd_T50 l0 x5_1).f0).length : Int) - 40)) < 0) = true := decide_eq_true c6
              clear c6
              (first | rw [c6b0] | (simp only [i64_w, i32_w]; rw [c6b0]) | skip)
              have H' := Aside0.mk H
              clear H
              go_wp2
              go_meet
              case rel => exact ⟨_, (true), (by first | rfl | (simp; done) | (simp [*]; done)), H', ⟨by have := HK1.out; first | omega | exact Nat.le_refl _⟩, by repeat (first | exact Drawn0.refl _ | apply Drawn0.step)⟩
            · rw [if_neg c6] at H
              have c6b0 : decide ((wrap64 ((((rd_T50 l0 x5_1).f0).length : Int) - 40)) < 0) = false := decide_eq_false c6
              clear c6
              (first | rw [c6b0] | (simp only [i64_w, i32_w]; rw [c6b0]) | skip)
              have H' := Aside0.mk H
              clear H
              go_wp2
              go_meet
              case rel => exact ⟨_, (decide ((wrap64 ((((rd_T50 l0 x5_1).f1).length : Int) - 40)) < 0)), (by first | rfl | (simp; done) | (simp [*]; done)), H', ⟨by have := HK1.out; first | omega | exact Nat.le_refl _⟩, by repeat (first | exact Drawn0.refl _ | apply Drawn0.step)⟩
          case rest =>
            clear HC5
            try clear c1
            try clear p1
            try clear q1
            try clear hx1
            try clear c2
            try clear p2
            try clear c3
            try clear c3b0
            try clear c4
            try clear c4b0
            try clear c6
            try clear c6b0
            try clear p6
            try clear hx165_0
            try clear hx165_1
            try clear hx165_2
            try clear hx166_0
            try clear hx166_1
            try clear hx166_2
            try clear p165
            try clear p166
            try clear p2
            try clear q165
            try clear q166
            obtain ⟨kq, x35_4, rfl, HA, HJ4, ⟨mc4, rfl⟩⟩ := hcut
            cases kq with
            | zero => exact absurd HA.out (by simp [amberlaw21_bears.j1])
            | succ kj4 =>
              have H := HA.out
              clear HA
              simp only [amberlaw21_bears.j1] at H
              by_cases c7 : x35_4 = true
              · subst c7
                have H1 : (some false) = some r := by rw [if_pos rfl] at H; exact H
                clear H
                have H := H1
                clear H1
                obtain rfl := Option.some.inj H
                go_wp2
                go_ret
                exact ⟨by first | rfl | (simp; done) | (simp [*]; done), by repeat (first | exact Drawn0.refl _ | apply Drawn0.step)⟩
              · replace c7 := Bool.eq_false_iff.mpr c7
                subst c7
                have H1 : (amberlaw21_bears.l1 kj4 l0 a1 x5_1 (wrap64 ((((rd_T50 l0 x5_1).f0).length : Int) - 40)) (wrap64 ((((rd_T50 l0 x5_1).f1).length : Int) - 40)) 0) = some r := by rw [if_neg (show ¬ (false = true) by decide)] at H; exact H
                clear H
                have H := H1
                clear H1
                have H' := Aside0.mk H
                clear H
                go_wp2
                go_loopg [8] kj4 (fun kq v8 w' => ∃ (x8_3 : Int), v8 = .int .i64 x8_3 ∧ Aside0 (amberlaw21_bears.l1 kq l0 a1 x5_1 (wrap64 ((((rd_T50 l0 x5_1).f0).length : Int) - 40)) (wrap64 ((((rd_T50 l0 x5_1).f1).length : Int) - 40)) x8_3 = some r) ∧ Aside0 (kq ≤ kj4) ∧ Drawn0 w w')
                case atStart => exact ⟨(0), (by first | rfl | (simp; done) | (simp [*]; done)), H', ⟨Nat.le_refl _⟩, by repeat (first | exact Drawn0.refl _ | apply Drawn0.step)⟩
                case round =>
                  clear H'
                  try clear c1
                  try clear p1
                  try clear q1
                  try clear hx1
                  try clear c2
                  try clear p2
                  try clear c3
                  try clear c3b0
                  try clear c4
                  try clear c4b0
                  try clear c6
                  try clear c6b0
                  try clear p6
                  try clear c7
                  try clear hx165_0
                  try clear hx165_1
                  try clear hx165_2
                  try clear hx166_0
                  try clear hx166_1
                  try clear hx166_2
                  try clear p1
                  try clear p165
                  try clear p166
                  try clear p2
                  try clear p6
                  try clear q1
                  try clear q165
                  try clear q166
                  obtain ⟨x8_3, rfl, HA, HK3, ⟨m3, rfl⟩⟩ := hrel
                  cases gk with
                  | zero => exact absurd HA.out (by simp [amberlaw21_bears.l1])
                  | succ k3 =>
                    have H := HA.out
                    clear HA
                    simp only [amberlaw21_bears.l1] at H
                    by_cases c8 : 0 ≤ x5_1
                    · rw [if_pos c8] at H
                      have c8b0 : decide (0 ≤ x5_1) = true := decide_eq_true c8
                      clear c8
                      by_cases c9 : x5_1 < (l0.length : Int)
                      · rw [if_pos c9] at H
                        have c9b0 : decide (x5_1 < (l0.length : Int)) = true := decide_eq_true c9
                        clear c9
                        by_cases c10 : x8_3 < (((rd_T50 l0 x5_1).f0).length : Int)
                        · rw [if_pos c10] at H
                          have c10b0 : decide (x8_3 < (((rd_T50 l0 x5_1).f0).length : Int)) = true := decide_eq_true c10
                          clear c10
                          by_cases c11 : 0 ≤ x8_3
                          · rw [if_pos c11] at H
                            have c11b0 : decide (0 ≤ x8_3) = true := decide_eq_true c11
                            clear c11
                            by_cases c12 : (!(((rd_T80 ((rd_T50 l0 x5_1).f0) x8_3).f0) == a1) || (!(((rd_T80 ((rd_T50 l0 x5_1).f0) x8_3).f1) == x5_1))) = true
                            · rw [if_pos c12] at H
                              have c12b0 : (!(((rd_T80 ((rd_T50 l0 x5_1).f0) x8_3).f0) == a1) || (!(((rd_T80 ((rd_T50 l0 x5_1).f0) x8_3).f1) == x5_1))) = true := c12
                              clear c12
                              by_cases c13 : x8_3 < (wrap64 ((((rd_T50 l0 x5_1).f0).length : Int) - 40))
                              · rw [if_pos c13] at H
                                have c13b0 : decide (x8_3 < (wrap64 ((((rd_T50 l0 x5_1).f0).length : Int) - 40))) = true := decide_eq_true c13
                                clear c13
                                obtain rfl := Option.some.inj H
                                have p167 : 0 ≤ (x5_1 : Int) := of_decide_eq_true (by first | (with_reducible assumption) | assumption)
                                have q167 : x5_1 < (l0.length : Int) := of_decide_eq_true (by first | (with_reducible assumption) | assumption)
                                obtain ⟨ad167, A167_0, c167_0, A167_1, c167_1, e167, hx167_0, hx167_1, hx167_2, hl167_0, hi167_0, hl167_1, hi167_1⟩ := at_T50 HR0.out x5_1 p167 q167
                                obtain rfl : ad165 = ad167 := (by injection e167)
                                have HR167_0 := Aside0.mk hi167_0
                                have HC167_0 := Aside0.mk hl167_0
                                clear hi167_0 hl167_0
                                have HR167_1 := Aside0.mk hi167_1
                                have HC167_1 := Aside0.mk hl167_1
                                clear hi167_1 hl167_1
                                replace p167 := eq_true p167
                                replace q167 := eq_true q167
                                have p168 : 0 ≤ (x5_1 : Int) := of_decide_eq_true (by first | (with_reducible assumption) | assumption)
                                have q168 : x5_1 < (l0.length : Int) := of_decide_eq_true (by first | (with_reducible assumption) | assumption)
                                obtain ⟨ad168, A168_0, c168_0, A168_1, c168_1, e168, hx168_0, hx168_1, hx168_2, hl168_0, hi168_0, hl168_1, hi168_1⟩ := at_T50 HR0.out x5_1 p168 q168
                                obtain rfl : ad165 = ad168 := (by injection e168)
                                have HR168_0 := Aside0.mk hi168_0
                                have HC168_0 := Aside0.mk hl168_0
                                clear hi168_0 hl168_0
                                have HR168_1 := Aside0.mk hi168_1
                                have HC168_1 := Aside0.mk hl168_1
                                clear hi168_1 hl168_1
                                replace p168 := eq_true p168
                                replace q168 := eq_true q168
                                have ea_ := Option.some.inj (hx167_0.symm.trans hx168_0)
                                injection ea_ with ea_ en_ ec_
                                subst ea_
                                subst ec_
                                clear en_
                                have ea_ := Option.some.inj (hx167_1.symm.trans hx168_1)
                                injection ea_ with ea_ en_ ec_
                                subst ea_
                                subst ec_
                                clear en_
                                have p169 : 0 ≤ (x8_3 : Int) := of_decide_eq_true (by first | (with_reducible assumption) | assumption)
                                have q169 : x8_3 < (((rd_T50 l0 x5_1).f0).length : Int) := of_decide_eq_true (by first | (with_reducible assumption) | assumption)
                                obtain ⟨ad169, e169, hx169_0, hx169_1⟩ := at_T80 HR168_0.out x8_3 p169 q169
                                cases e169
                                replace p169 := eq_true p169
                                replace q169 := eq_true q169
                                go_wp2
                                go_ret
                                exact ⟨by first | rfl | (simp; done) | (simp [*]; done), by repeat (first | exact Drawn0.refl _ | apply Drawn0.step)⟩
                              · rw [if_neg c13] at H
                                have c13b0 : decide (x8_3 < (wrap64 ((((rd_T50 l0 x5_1).f0).length : Int) - 40))) = false := decide_eq_false c13
                                clear c13
                                by_cases c14 : (!(((rd_T80 ((rd_T50 l0 x5_1).f0) x8_3).f0) == (wrap64 (a1 - 10))) || (!(((rd_T80 ((rd_T50 l0 x5_1).f0) x8_3).f1) == x5_1))) = true
                                · rw [if_pos c14] at H
                                  have c14b0 : (!(((rd_T80 ((rd_T50 l0 x5_1).f0) x8_3).f0) == (wrap64 (a1 - 10))) || (!(((rd_T80 ((rd_T50 l0 x5_1).f0) x8_3).f1) == x5_1))) = true := c14
                                  clear c14
                                  obtain rfl := Option.some.inj H
                                  have p167 : 0 ≤ (x5_1 : Int) := of_decide_eq_true (by first | (with_reducible assumption) | assumption)
                                  have q167 : x5_1 < (l0.length : Int) := of_decide_eq_true (by first | (with_reducible assumption) | assumption)
                                  obtain ⟨ad167, A167_0, c167_0, A167_1, c167_1, e167, hx167_0, hx167_1, hx167_2, hl167_0, hi167_0, hl167_1, hi167_1⟩ := at_T50 HR0.out x5_1 p167 q167
                                  obtain rfl : ad165 = ad167 := (by injection e167)
                                  have HR167_0 := Aside0.mk hi167_0
                                  have HC167_0 := Aside0.mk hl167_0
                                  clear hi167_0 hl167_0
                                  have HR167_1 := Aside0.mk hi167_1
                                  have HC167_1 := Aside0.mk hl167_1
                                  clear hi167_1 hl167_1
                                  replace p167 := eq_true p167
                                  replace q167 := eq_true q167
                                  have p168 : 0 ≤ (x5_1 : Int) := of_decide_eq_true (by first | (with_reducible assumption) | assumption)
                                  have q168 : x5_1 < (l0.length : Int) := of_decide_eq_true (by first | (with_reducible assumption) | assumption)
                                  obtain ⟨ad168, A168_0, c168_0, A168_1, c168_1, e168, hx168_0, hx168_1, hx168_2, hl168_0, hi168_0, hl168_1, hi168_1⟩ := at_T50 HR0.out x5_1 p168 q168
                                  obtain rfl : ad165 = ad168 := (by injection e168)
                                  have HR168_0 := Aside0.mk hi168_0
                                  have HC168_0 := Aside0.mk hl168_0
                                  clear hi168_0 hl168_0
                                  have HR168_1 := Aside0.mk hi168_1
                                  have HC168_1 := Aside0.mk hl168_1
                                  clear hi168_1 hl168_1
                                  replace p168 := eq_true p168
                                  replace q168 := eq_true q168
                                  have ea_ := Option.some.inj (hx167_0.symm.trans hx168_0)
                                  injection ea_ with ea_ en_ ec_
                                  subst ea_
                                  subst ec_
                                  clear en_
                                  have ea_ := Option.some.inj (hx167_1.symm.trans hx168_1)
                                  injection ea_ with ea_ en_ ec_
                                  subst ea_
                                  subst ec_
                                  clear en_
                                  have p169 : 0 ≤ (x8_3 : Int) := of_decide_eq_true (by first | (with_reducible assumption) | assumption)
                                  have q169 : x8_3 < (((rd_T50 l0 x5_1).f0).length : Int) := of_decide_eq_true (by first | (with_reducible assumption) | assumption)
                                  obtain ⟨ad169, e169, hx169_0, hx169_1⟩ := at_T80 HR168_0.out x8_3 p169 q169
                                  cases e169
                                  replace p169 := eq_true p169
                                  replace q169 := eq_true q169
                                  have p170 : 0 ≤ (x5_1 : Int) := of_decide_eq_true (by first | (with_reducible assumption) | assumption)
                                  have q170 : x5_1 < (l0.length : Int) := of_decide_eq_true (by first | (with_reducible assumption) | assumption)
                                  obtain ⟨ad170, A170_0, c170_0, A170_1, c170_1, e170, hx170_0, hx170_1, hx170_2, hl170_0, hi170_0, hl170_1, hi170_1⟩ := at_T50 HR0.out x5_1 p170 q170
                                  obtain rfl : ad165 = ad170 := (by injection e170)
                                  have HR170_0 := Aside0.mk hi170_0
                                  have HC170_0 := Aside0.mk hl170_0
                                  clear hi170_0 hl170_0
                                  have HR170_1 := Aside0.mk hi170_1
                                  have HC170_1 := Aside0.mk hl170_1
                                  clear hi170_1 hl170_1
                                  replace p170 := eq_true p170
                                  replace q170 := eq_true q170
                                  have ea_ := Option.some.inj (hx167_0.symm.trans hx170_0)
                                  injection ea_ with ea_ en_ ec_
                                  subst ea_
                                  subst ec_
                                  clear en_
                                  have ea_ := Option.some.inj (hx167_1.symm.trans hx170_1)
                                  injection ea_ with ea_ en_ ec_
                                  subst ea_
                                  subst ec_
                                  clear en_
                                  have p171 : 0 ≤ (x8_3 : Int) := of_decide_eq_true (by first | (with_reducible assumption) | assumption)
                                  have q171 : x8_3 < (((rd_T50 l0 x5_1).f0).length : Int) := of_decide_eq_true (by first | (with_reducible assumption) | assumption)
                                  obtain ⟨ad171, e171, hx171_0, hx171_1⟩ := at_T80 HR170_0.out x8_3 p171 q171
                                  cases e171
                                  replace p171 := eq_true p171
                                  replace q171 := eq_true q171
                                  go_wp2
                                  go_ret
                                  exact ⟨by first | rfl | (simp; done) | (simp [*]; done), by repeat (first | exact Drawn0.refl _ | apply Drawn0.step)⟩
                                · rw [if_neg c14] at H
                                  have c14b0 : (!(((rd_T80 ((rd_T50 l0 x5_1).f0) x8_3).f0) == (wrap64 (a1 - 10))) || (!(((rd_T80 ((rd_T50 l0 x5_1).f0) x8_3).f1) == x5_1))) = false := by simpa using c14
                                  clear c14
                                  have H' := Aside0.mk H
                                  clear H
                                  have p167 : 0 ≤ (x5_1 : Int) := of_decide_eq_true (by first | (with_reducible assumption) | assumption)
                                  have q167 : x5_1 < (l0.length : Int) := of_decide_eq_true (by first | (with_reducible assumption) | assumption)
                                  obtain ⟨ad167, A167_0, c167_0, A167_1, c167_1, e167, hx167_0, hx167_1, hx167_2, hl167_0, hi167_0, hl167_1, hi167_1⟩ := at_T50 HR0.out x5_1 p167 q167
                                  obtain rfl : ad165 = ad167 := (by injection e167)
                                  have HR167_0 := Aside0.mk hi167_0
                                  have HC167_0 := Aside0.mk hl167_0
                                  clear hi167_0 hl167_0
                                  have HR167_1 := Aside0.mk hi167_1
                                  have HC167_1 := Aside0.mk hl167_1
                                  clear hi167_1 hl167_1
                                  replace p167 := eq_true p167
                                  replace q167 := eq_true q167
                                  have p168 : 0 ≤ (x5_1 : Int) := of_decide_eq_true (by first | (with_reducible assumption) | assumption)
                                  have q168 : x5_1 < (l0.length : Int) := of_decide_eq_true (by first | (with_reducible assumption) | assumption)
                                  obtain ⟨ad168, A168_0, c168_0, A168_1, c168_1, e168, hx168_0, hx168_1, hx168_2, hl168_0, hi168_0, hl168_1, hi168_1⟩ := at_T50 HR0.out x5_1 p168 q168
                                  obtain rfl : ad165 = ad168 := (by injection e168)
                                  have HR168_0 := Aside0.mk hi168_0
                                  have HC168_0 := Aside0.mk hl168_0
                                  clear hi168_0 hl168_0
                                  have HR168_1 := Aside0.mk hi168_1
                                  have HC168_1 := Aside0.mk hl168_1
                                  clear hi168_1 hl168_1
                                  replace p168 := eq_true p168
                                  replace q168 := eq_true q168
                                  have ea_ := Option.some.inj (hx167_0.symm.trans hx168_0)
                                  injection ea_ with ea_ en_ ec_
                                  subst ea_
                                  subst ec_
                                  clear en_
                                  have ea_ := Option.some.inj (hx167_1.symm.trans hx168_1)
                                  injection ea_ with ea_ en_ ec_
                                  subst ea_
                                  subst ec_
                                  clear en_
                                  have p169 : 0 ≤ (x8_3 : Int) := of_decide_eq_true (by first | (with_reducible assumption) | assumption)
                                  have q169 : x8_3 < (((rd_T50 l0 x5_1).f0).length : Int) := of_decide_eq_true (by first | (with_reducible assumption) | assumption)
                                  obtain ⟨ad169, e169, hx169_0, hx169_1⟩ := at_T80 HR168_0.out x8_3 p169 q169
                                  cases e169
                                  replace p169 := eq_true p169
                                  replace q169 := eq_true q169
                                  have p170 : 0 ≤ (x5_1 : Int) := of_decide_eq_true (by first | (with_reducible assumption) | assumption)
                                  have q170 : x5_1 < (l0.length : Int) := of_decide_eq_true (by first | (with_reducible assumption) | assumption)
                                  obtain ⟨ad170, A170_0, c170_0, A170_1, c170_1, e170, hx170_0, hx170_1, hx170_2, hl170_0, hi170_0, hl170_1, hi170_1⟩ := at_T50 HR0.out x5_1 p170 q170
                                  obtain rfl : ad165 = ad170 := (by injection e170)
                                  have HR170_0 := Aside0.mk hi170_0
                                  have HC170_0 := Aside0.mk hl170_0
                                  clear hi170_0 hl170_0
                                  have HR170_1 := Aside0.mk hi170_1
                                  have HC170_1 := Aside0.mk hl170_1
                                  clear hi170_1 hl170_1
                                  replace p170 := eq_true p170
                                  replace q170 := eq_true q170
                                  have ea_ := Option.some.inj (hx167_0.symm.trans hx170_0)
                                  injection ea_ with ea_ en_ ec_
                                  subst ea_
                                  subst ec_
                                  clear en_
                                  have ea_ := Option.some.inj (hx167_1.symm.trans hx170_1)
                                  injection ea_ with ea_ en_ ec_
                                  subst ea_
                                  subst ec_
                                  clear en_
                                  have p171 : 0 ≤ (x8_3 : Int) := of_decide_eq_true (by first | (with_reducible assumption) | assumption)
                                  have q171 : x8_3 < (((rd_T50 l0 x5_1).f0).length : Int) := of_decide_eq_true (by first | (with_reducible assumption) | assumption)
                                  obtain ⟨ad171, e171, hx171_0, hx171_1⟩ := at_T80 HR170_0.out x8_3 p171 q171
                                  cases e171
                                  replace p171 := eq_true p171
                                  replace q171 := eq_true q171
                                  go_wp2
                                  go_roundg k3
                                  case measure => have := HK1.out; have := HJ4.out; have := HK3.out; omega
                                  case rel => exact ⟨(wrap64 (x8_3 + 1)), (by first | rfl | (simp; done) | (simp [*]; done)), H', ⟨by have := HK1.out; have := HJ4.out; have := HK3.out; omega⟩, by repeat (first | exact Drawn0.refl _ | apply Drawn0.step)⟩
                            · rw [if_neg c12] at H
                              have c12b0 : (!(((rd_T80 ((rd_T50 l0 x5_1).f0) x8_3).f0) == a1) || (!(((rd_T80 ((rd_T50 l0 x5_1).f0) x8_3).f1) == x5_1))) = false := by simpa using c12
                              clear c12
                              have H' := Aside0.mk H
                              clear H
                              have p167 : 0 ≤ (x5_1 : Int) := of_decide_eq_true (by first | (with_reducible assumption) | assumption)
                              have q167 : x5_1 < (l0.length : Int) := of_decide_eq_true (by first | (with_reducible assumption) | assumption)
                              obtain ⟨ad167, A167_0, c167_0, A167_1, c167_1, e167, hx167_0, hx167_1, hx167_2, hl167_0, hi167_0, hl167_1, hi167_1⟩ := at_T50 HR0.out x5_1 p167 q167
                              obtain rfl : ad165 = ad167 := (by injection e167)
                              have HR167_0 := Aside0.mk hi167_0
                              have HC167_0 := Aside0.mk hl167_0
                              clear hi167_0 hl167_0
                              have HR167_1 := Aside0.mk hi167_1
                              have HC167_1 := Aside0.mk hl167_1
                              clear hi167_1 hl167_1
                              replace p167 := eq_true p167
                              replace q167 := eq_true q167
                              have p168 : 0 ≤ (x5_1 : Int) := of_decide_eq_true (by first | (with_reducible assumption) | assumption)
                              have q168 : x5_1 < (l0.length : Int) := of_decide_eq_true (by first | (with_reducible assumption) | assumption)
                              obtain ⟨ad168, A168_0, c168_0, A168_1, c168_1, e168, hx168_0, hx168_1, hx168_2, hl168_0, hi168_0, hl168_1, hi168_1⟩ := at_T50 HR0.out x5_1 p168 q168
                              obtain rfl : ad165 = ad168 := (by injection e168)
                              have HR168_0 := Aside0.mk hi168_0
                              have HC168_0 := Aside0.mk hl168_0
                              clear hi168_0 hl168_0
                              have HR168_1 := Aside0.mk hi168_1
                              have HC168_1 := Aside0.mk hl168_1
                              clear hi168_1 hl168_1
                              replace p168 := eq_true p168
                              replace q168 := eq_true q168
                              have ea_ := Option.some.inj (hx167_0.symm.trans hx168_0)
                              injection ea_ with ea_ en_ ec_
                              subst ea_
                              subst ec_
                              clear en_
                              have ea_ := Option.some.inj (hx167_1.symm.trans hx168_1)
                              injection ea_ with ea_ en_ ec_
                              subst ea_
                              subst ec_
                              clear en_
                              have p169 : 0 ≤ (x8_3 : Int) := of_decide_eq_true (by first | (with_reducible assumption) | assumption)
                              have q169 : x8_3 < (((rd_T50 l0 x5_1).f0).length : Int) := of_decide_eq_true (by first | (with_reducible assumption) | assumption)
                              obtain ⟨ad169, e169, hx169_0, hx169_1⟩ := at_T80 HR168_0.out x8_3 p169 q169
                              cases e169
                              replace p169 := eq_true p169
                              replace q169 := eq_true q169
                              go_wp2
                              go_roundg k3
                              case measure => have := HK1.out; have := HJ4.out; have := HK3.out; omega
                              case rel => exact ⟨(wrap64 (x8_3 + 1)), (by first | rfl | (simp; done) | (simp [*]; done)), H', ⟨by have := HK1.out; have := HJ4.out; have := HK3.out; omega⟩, by repeat (first | exact Drawn0.refl _ | apply Drawn0.step)⟩
                          · rw [if_neg c11] at H
                            exact absurd H (by simp)
                        · rw [if_neg c10] at H
                          have c10b0 : decide (x8_3 < (((rd_T50 l0 x5_1).f0).length : Int)) = false := decide_eq_false c10
                          clear c10
                          have H' := Aside0.mk H
                          clear H
                          have p167 : 0 ≤ (x5_1 : Int) := of_decide_eq_true (by first | (with_reducible assumption) | assumption)
                          have q167 : x5_1 < (l0.length : Int) := of_decide_eq_true (by first | (with_reducible assumption) | assumption)
                          obtain ⟨ad167, A167_0, c167_0, A167_1, c167_1, e167, hx167_0, hx167_1, hx167_2, hl167_0, hi167_0, hl167_1, hi167_1⟩ := at_T50 HR0.out x5_1 p167 q167
                          obtain rfl : ad165 = ad167 := (by injection e167)
                          have HR167_0 := Aside0.mk hi167_0
                          have HC167_0 := Aside0.mk hl167_0
                          clear hi167_0 hl167_0
                          have HR167_1 := Aside0.mk hi167_1
                          have HC167_1 := Aside0.mk hl167_1
                          clear hi167_1 hl167_1
                          replace p167 := eq_true p167
                          replace q167 := eq_true q167
                          go_wp2
                          go_loopg [9] k3 (fun kq v9 w' => ∃ (x9_4 : Int), v9 = .int .i64 x9_4 ∧ Aside0 (amberlaw21_bears.l2 kq l0 a1 x5_1 (wrap64 ((((rd_T50 l0 x5_1).f1).length : Int) - 40)) x9_4 = some r) ∧ Aside0 (kq ≤ k3) ∧ Drawn0 w w')
                          case atStart => exact ⟨(0), (by first | rfl | (simp; done) | (simp [*]; done)), H', ⟨Nat.le_refl _⟩, by repeat (first | exact Drawn0.refl _ | apply Drawn0.step)⟩
                          case round =>
                            clear H'
                            try clear c1
                            try clear p1
                            try clear q1
                            try clear hx1
                            try clear c2
                            try clear p2
                            try clear c3
                            try clear c3b0
                            try clear c4
                            try clear c4b0
                            try clear c6
                            try clear c6b0
                            try clear p6
                            try clear c7
                            try clear c8
                            try clear c8b0
                            try clear c9
                            try clear c9b0
                            try clear c10
                            try clear c10b0
                            try clear c11
                            try clear c11b0
                            try clear c12
                            try clear c12b0
                            try clear c13
                            try clear c13b0
                            try clear c14
                            try clear c14b0
                            try clear hx165_0
                            try clear hx165_1
                            try clear hx165_2
                            try clear hx166_0
                            try clear hx166_1
                            try clear hx166_2
                            try clear hx167_0
                            try clear hx167_1
                            try clear hx167_2
                            try clear hx168_0
                            try clear hx168_1
                            try clear hx168_2
                            try clear hx169_0
                            try clear hx169_1
                            try clear hx170_0
                            try clear hx170_1
                            try clear hx170_2
                            try clear hx171_0
                            try clear hx171_1
                            try clear p1
                            try clear p165
                            try clear p166
                            try clear p167
                            try clear p168
                            try clear p169
                            try clear p170
                            try clear p171
                            try clear p2
                            try clear p6
                            try clear q1
                            try clear q165
                            try clear q166
                            try clear q167
                            try clear q168
                            try clear q169
                            try clear q170
                            try clear q171
                            obtain ⟨x9_4, rfl, HA, HK4, ⟨m4, rfl⟩⟩ := hrel
                            cases gk with
                            | zero => exact absurd HA.out (by simp [amberlaw21_bears.l2])
                            | succ k4 =>
                              have H := HA.out
                              clear HA
                              simp only [amberlaw21_bears.l2] at H
                              by_cases c15 : 0 ≤ x5_1
                              · rw [if_pos c15] at H
                                have c15b0 : decide (0 ≤ x5_1) = true := decide_eq_true c15
                                clear c15
                                by_cases c16 : x5_1 < (l0.length : Int)
                                · rw [if_pos c16] at H
                                  have c16b0 : decide (x5_1 < (l0.length : Int)) = true := decide_eq_true c16
                                  clear c16
                                  by_cases c17 : x9_4 < (((rd_T50 l0 x5_1).f1).length : Int)
                                  · rw [if_pos c17] at H
                                    have c17b0 : decide (x9_4 < (((rd_T50 l0 x5_1).f1).length : Int)) = true := decide_eq_true c17
                                    clear c17
                                    by_cases c18 : 0 ≤ x9_4
                                    · rw [if_pos c18] at H
                                      have c18b0 : decide (0 ≤ x9_4) = true := decide_eq_true c18
                                      clear c18
                                      by_cases c19 : (rd ((rd_T50 l0 x5_1).f1) x9_4) = ((wrap64 ((wrap64 (100000 * (wrap64 (9 + a1)))) + x5_1)) % 4294967296)
                                      · rw [if_pos c19] at H
                                        have c19b0 : ((rd ((rd_T50 l0 x5_1).f1) x9_4) == ((wrap64 ((wrap64 (100000 * (wrap64 (9 + a1)))) + x5_1)) % 4294967296)) = true := beq_iff_eq.mpr c19
                                        have c19b1 : ((rd ((rd_T50 l0 x5_1).f1) x9_4) != ((wrap64 ((wrap64 (100000 * (wrap64 (9 + a1)))) + x5_1)) % 4294967296)) = false := bne_eq_false_iff_eq.mpr c19
                                        clear c19
                                        have H' := Aside0.mk H
                                        clear H
                                        have p172 : 0 ≤ (x5_1 : Int) := of_decide_eq_true (by first | (with_reducible assumption) | assumption)
                                        have q172 : x5_1 < (l0.length : Int) := of_decide_eq_true (by first | (with_reducible assumption) | assumption)
                                        obtain ⟨ad172, A172_0, c172_0, A172_1, c172_1, e172, hx172_0, hx172_1, hx172_2, hl172_0, hi172_0, hl172_1, hi172_1⟩ := at_T50 HR0.out x5_1 p172 q172
                                        obtain rfl : ad165 = ad172 := (by injection e172)
                                        have HR172_0 := Aside0.mk hi172_0
                                        have HC172_0 := Aside0.mk hl172_0
                                        clear hi172_0 hl172_0
                                        have HR172_1 := Aside0.mk hi172_1
                                        have HC172_1 := Aside0.mk hl172_1
                                        clear hi172_1 hl172_1
                                        replace p172 := eq_true p172
                                        replace q172 := eq_true q172
                                        have p173 : 0 ≤ (x5_1 : Int) := of_decide_eq_true (by first | (with_reducible assumption) | assumption)
                                        have q173 : x5_1 < (l0.length : Int) := of_decide_eq_true (by first | (with_reducible assumption) | assumption)
                                        obtain ⟨ad173, A173_0, c173_0, A173_1, c173_1, e173, hx173_0, hx173_1, hx173_2, hl173_0, hi173_0, hl173_1, hi173_1⟩ := at_T50 HR0.out x5_1 p173 q173
                                        obtain rfl : ad165 = ad173 := (by injection e173)
                                        have HR173_0 := Aside0.mk hi173_0
                                        have HC173_0 := Aside0.mk hl173_0
                                        clear hi173_0 hl173_0
                                        have HR173_1 := Aside0.mk hi173_1
                                        have HC173_1 := Aside0.mk hl173_1
                                        clear hi173_1 hl173_1
                                        replace p173 := eq_true p173
                                        replace q173 := eq_true q173
                                        have ea_ := Option.some.inj (hx172_0.symm.trans hx173_0)
                                        injection ea_ with ea_ en_ ec_
                                        subst ea_
                                        subst ec_
                                        clear en_
                                        have ea_ := Option.some.inj (hx172_1.symm.trans hx173_1)
                                        injection ea_ with ea_ en_ ec_
                                        subst ea_
                                        subst ec_
                                        clear en_
                                        have p174 : 0 ≤ (x9_4 : Int) := of_decide_eq_true (by first | (with_reducible assumption) | assumption)
                                        have q174 : x9_4 < (((rd_T50 l0 x5_1).f1).length : Int) := of_decide_eq_true (by first | (with_reducible assumption) | assumption)
                                        obtain ⟨ad174, e174, hx174_0⟩ := Kd.at_int HR173_1.out x9_4 p174 q174
                                        cases e174
                                        replace p174 := eq_true p174
                                        replace q174 := eq_true q174
                                        go_wp2
                                        go_roundg k4
                                        case measure => have := HK1.out; have := HJ4.out; have := HK3.out; have := HK4.out; omega
                                        case rel => exact ⟨(wrap64 (x9_4 + 1)), (by first | rfl | (simp; done) | (simp [*]; done)), H', ⟨by have := HK1.out; have := HJ4.out; have := HK3.out; have := HK4.out; omega⟩, by repeat (first | exact Drawn0.refl _ | apply Drawn0.step)⟩
                                      · rw [if_neg c19] at H
                                        have c19b0 : ((rd ((rd_T50 l0 x5_1).f1) x9_4) == ((wrap64 ((wrap64 (100000 * (wrap64 (9 + a1)))) + x5_1)) % 4294967296)) = false := beq_eq_false_iff_ne.mpr c19
                                        have c19b1 : ((rd ((rd_T50 l0 x5_1).f1) x9_4) != ((wrap64 ((wrap64 (100000 * (wrap64 (9 + a1)))) + x5_1)) % 4294967296)) = true := bne_iff_ne.mpr c19
                                        by_cases c20 : x9_4 < (wrap64 ((((rd_T50 l0 x5_1).f1).length : Int) - 40))
                                        · rw [if_pos c20] at H
                                          have c20b0 : decide (x9_4 < (wrap64 ((((rd_T50 l0 x5_1).f1).length : Int) - 40))) = true := decide_eq_true c20
                                          clear c20
                                          obtain rfl := Option.some.inj H
                                          have p172 : 0 ≤ (x5_1 : Int) := of_decide_eq_true (by first | (with_reducible assumption) | assumption)
                                          have q172 : x5_1 < (l0.length : Int) := of_decide_eq_true (by first | (with_reducible assumption) | assumption)
                                          obtain ⟨ad172, A172_0, c172_0, A172_1, c172_1, e172, hx172_0, hx172_1, hx172_2, hl172_0, hi172_0, hl172_1, hi172_1⟩ := at_T50 HR0.out x5_1 p172 q172
                                          obtain rfl : ad165 = ad172 := (by injection e172)
                                          have HR172_0 := Aside0.mk hi172_0
                                          have HC172_0 := Aside0.mk hl172_0
                                          clear hi172_0 hl172_0
                                          have HR172_1 := Aside0.mk hi172_1
                                          have HC172_1 := Aside0.mk hl172_1
                                          clear hi172_1 hl172_1
                                          replace p172 := eq_true p172
                                          replace q172 := eq_true q172
                                          have p173 : 0 ≤ (x5_1 : Int) := of_decide_eq_true (by first | (with_reducible assumption) | assumption)
                                          have q173 : x5_1 < (l0.length : Int) := of_decide_eq_true (by first | (with_reducible assumption) | assumption)
                                          obtain ⟨ad173, A173_0, c173_0, A173_1, c173_1, e173, hx173_0, hx173_1, hx173_2, hl173_0, hi173_0, hl173_1, hi173_1⟩ := at_T50 HR0.out x5_1 p173 q173
                                          obtain rfl : ad165 = ad173 := (by injection e173)
                                          have HR173_0 := Aside0.mk hi173_0
                                          have HC173_0 := Aside0.mk hl173_0
                                          clear hi173_0 hl173_0
                                          have HR173_1 := Aside0.mk hi173_1
                                          have HC173_1 := Aside0.mk hl173_1
                                          clear hi173_1 hl173_1
                                          replace p173 := eq_true p173
                                          replace q173 := eq_true q173
                                          have ea_ := Option.some.inj (hx172_0.symm.trans hx173_0)
                                          injection ea_ with ea_ en_ ec_
                                          subst ea_
                                          subst ec_
                                          clear en_
                                          have ea_ := Option.some.inj (hx172_1.symm.trans hx173_1)
                                          injection ea_ with ea_ en_ ec_
                                          subst ea_
                                          subst ec_
                                          clear en_
                                          have p174 : 0 ≤ (x9_4 : Int) := of_decide_eq_true (by first | (with_reducible assumption) | assumption)
                                          have q174 : x9_4 < (((rd_T50 l0 x5_1).f1).length : Int) := of_decide_eq_true (by first | (with_reducible assumption) | assumption)
                                          obtain ⟨ad174, e174, hx174_0⟩ := Kd.at_int HR173_1.out x9_4 p174 q174
                                          cases e174
                                          replace p174 := eq_true p174
                                          replace q174 := eq_true q174
                                          go_wp2
                                          go_ret
                                          exact ⟨by first | rfl | (simp; done) | (simp [*]; done), by repeat (first | exact Drawn0.refl _ | apply Drawn0.step)⟩
                                        · rw [if_neg c20] at H
                                          have c20b0 : decide (x9_4 < (wrap64 ((((rd_T50 l0 x5_1).f1).length : Int) - 40))) = false := decide_eq_false c20
                                          clear c20
                                          by_cases c21 : (rd ((rd_T50 l0 x5_1).f1) x9_4) = ((wrap64 ((wrap64 (100000 * (wrap64 (19 + a1)))) + x5_1)) % 4294967296)
                                          · rw [if_pos c21] at H
                                            have c21b0 : ((rd ((rd_T50 l0 x5_1).f1) x9_4) == ((wrap64 ((wrap64 (100000 * (wrap64 (19 + a1)))) + x5_1)) % 4294967296)) = true := beq_iff_eq.mpr c21
                                            have c21b1 : ((rd ((rd_T50 l0 x5_1).f1) x9_4) != ((wrap64 ((wrap64 (100000 * (wrap64 (19 + a1)))) + x5_1)) % 4294967296)) = false := bne_eq_false_iff_eq.mpr c21
                                            clear c21
                                            have H' := Aside0.mk H
                                            clear H
                                            have p172 : 0 ≤ (x5_1 : Int) := of_decide_eq_true (by first | (with_reducible assumption) | assumption)
                                            have q172 : x5_1 < (l0.length : Int) := of_decide_eq_true (by first | (with_reducible assumption) | assumption)
                                            obtain ⟨ad172, A172_0, c172_0, A172_1, c172_1, e172, hx172_0, hx172_1, hx172_2, hl172_0, hi172_0, hl172_1, hi172_1⟩ := at_T50 HR0.out x5_1 p172 q172
                                            obtain rfl : ad165 = ad172 := (by injection e172)
                                            have HR172_0 := Aside0.mk hi172_0
                                            have HC172_0 := Aside0.mk hl172_0
                                            clear hi172_0 hl172_0
                                            have HR172_1 := Aside0.mk hi172_1
                                            have HC172_1 := Aside0.mk hl172_1
                                            clear hi172_1 hl172_1
                                            replace p172 := eq_true p172
                                            replace q172 := eq_true q172
                                            have p173 : 0 ≤ (x5_1 : Int) := of_decide_eq_true (by first | (with_reducible assumption) | assumption)
                                            have q173 : x5_1 < (l0.length : Int) := of_decide_eq_true (by first | (with_reducible assumption) | assumption)
                                            obtain ⟨ad173, A173_0, c173_0, A173_1, c173_1, e173, hx173_0, hx173_1, hx173_2, hl173_0, hi173_0, hl173_1, hi173_1⟩ := at_T50 HR0.out x5_1 p173 q173
                                            obtain rfl : ad165 = ad173 := (by injection e173)
                                            have HR173_0 := Aside0.mk hi173_0
                                            have HC173_0 := Aside0.mk hl173_0
                                            clear hi173_0 hl173_0
                                            have HR173_1 := Aside0.mk hi173_1
                                            have HC173_1 := Aside0.mk hl173_1
                                            clear hi173_1 hl173_1
                                            replace p173 := eq_true p173
                                            replace q173 := eq_true q173
                                            have ea_ := Option.some.inj (hx172_0.symm.trans hx173_0)
                                            injection ea_ with ea_ en_ ec_
                                            subst ea_
                                            subst ec_
                                            clear en_
                                            have ea_ := Option.some.inj (hx172_1.symm.trans hx173_1)
                                            injection ea_ with ea_ en_ ec_
                                            subst ea_
                                            subst ec_
                                            clear en_
                                            have p174 : 0 ≤ (x9_4 : Int) := of_decide_eq_true (by first | (with_reducible assumption) | assumption)
                                            have q174 : x9_4 < (((rd_T50 l0 x5_1).f1).length : Int) := of_decide_eq_true (by first | (with_reducible assumption) | assumption)
                                            obtain ⟨ad174, e174, hx174_0⟩ := Kd.at_int HR173_1.out x9_4 p174 q174
                                            cases e174
                                            replace p174 := eq_true p174
                                            replace q174 := eq_true q174
                                            have p175 : 0 ≤ (x5_1 : Int) := of_decide_eq_true (by first | (with_reducible assumption) | assumption)
                                            have q175 : x5_1 < (l0.length : Int) := of_decide_eq_true (by first | (with_reducible assumption) | assumption)
                                            obtain ⟨ad175, A175_0, c175_0, A175_1, c175_1, e175, hx175_0, hx175_1, hx175_2, hl175_0, hi175_0, hl175_1, hi175_1⟩ := at_T50 HR0.out x5_1 p175 q175
                                            obtain rfl : ad165 = ad175 := (by injection e175)
                                            have HR175_0 := Aside0.mk hi175_0
                                            have HC175_0 := Aside0.mk hl175_0
                                            clear hi175_0 hl175_0
                                            have HR175_1 := Aside0.mk hi175_1
                                            have HC175_1 := Aside0.mk hl175_1
                                            clear hi175_1 hl175_1
                                            replace p175 := eq_true p175
                                            replace q175 := eq_true q175
                                            have ea_ := Option.some.inj (hx172_0.symm.trans hx175_0)
                                            injection ea_ with ea_ en_ ec_
                                            subst ea_
                                            subst ec_
                                            clear en_
                                            have ea_ := Option.some.inj (hx172_1.symm.trans hx175_1)
                                            injection ea_ with ea_ en_ ec_
                                            subst ea_
                                            subst ec_
                                            clear en_
                                            have p176 : 0 ≤ (x9_4 : Int) := of_decide_eq_true (by first | (with_reducible assumption) | assumption)
                                            have q176 : x9_4 < (((rd_T50 l0 x5_1).f1).length : Int) := of_decide_eq_true (by first | (with_reducible assumption) | assumption)
                                            obtain ⟨ad176, e176, hx176_0⟩ := Kd.at_int HR175_1.out x9_4 p176 q176
                                            cases e176
                                            replace p176 := eq_true p176
                                            replace q176 := eq_true q176
                                            go_wp2
                                            go_roundg k4
                                            case measure => have := HK1.out; have := HJ4.out; have := HK3.out; have := HK4.out; omega
                                            case rel => exact ⟨(wrap64 (x9_4 + 1)), (by first | rfl | (simp; done) | (simp [*]; done)), H', ⟨by have := HK1.out; have := HJ4.out; have := HK3.out; have := HK4.out; omega⟩, by repeat (first | exact Drawn0.refl _ | apply Drawn0.step)⟩
                                          · rw [if_neg c21] at H
                                            have c21b0 : ((rd ((rd_T50 l0 x5_1).f1) x9_4) == ((wrap64 ((wrap64 (100000 * (wrap64 (19 + a1)))) + x5_1)) % 4294967296)) = false := beq_eq_false_iff_ne.mpr c21
                                            have c21b1 : ((rd ((rd_T50 l0 x5_1).f1) x9_4) != ((wrap64 ((wrap64 (100000 * (wrap64 (19 + a1)))) + x5_1)) % 4294967296)) = true := bne_iff_ne.mpr c21
                                            obtain rfl := Option.some.inj H
                                            have p172 : 0 ≤ (x5_1 : Int) := of_decide_eq_true (by first | (with_reducible assumption) | assumption)
                                            have q172 : x5_1 < (l0.length : Int) := of_decide_eq_true (by first | (with_reducible assumption) | assumption)
                                            obtain ⟨ad172, A172_0, c172_0, A172_1, c172_1, e172, hx172_0, hx172_1, hx172_2, hl172_0, hi172_0, hl172_1, hi172_1⟩ := at_T50 HR0.out x5_1 p172 q172
                                            obtain rfl : ad165 = ad172 := (by injection e172)
                                            have HR172_0 := Aside0.mk hi172_0
                                            have HC172_0 := Aside0.mk hl172_0
                                            clear hi172_0 hl172_0
                                            have HR172_1 := Aside0.mk hi172_1
                                            have HC172_1 := Aside0.mk hl172_1
                                            clear hi172_1 hl172_1
                                            replace p172 := eq_true p172
                                            replace q172 := eq_true q172
                                            have p173 : 0 ≤ (x5_1 : Int) := of_decide_eq_true (by first | (with_reducible assumption) | assumption)
                                            have q173 : x5_1 < (l0.length : Int) := of_decide_eq_true (by first | (with_reducible assumption) | assumption)
                                            obtain ⟨ad173, A173_0, c173_0, A173_1, c173_1, e173, hx173_0, hx173_1, hx173_2, hl173_0, hi173_0, hl173_1, hi173_1⟩ := at_T50 HR0.out x5_1 p173 q173
                                            obtain rfl : ad165 = ad173 := (by injection e173)
                                            have HR173_0 := Aside0.mk hi173_0
                                            have HC173_0 := Aside0.mk hl173_0
                                            clear hi173_0 hl173_0
                                            have HR173_1 := Aside0.mk hi173_1
                                            have HC173_1 := Aside0.mk hl173_1
                                            clear hi173_1 hl173_1
                                            replace p173 := eq_true p173
                                            replace q173 := eq_true q173
                                            have ea_ := Option.some.inj (hx172_0.symm.trans hx173_0)
                                            injection ea_ with ea_ en_ ec_
                                            subst ea_
                                            subst ec_
                                            clear en_
                                            have ea_ := Option.some.inj (hx172_1.symm.trans hx173_1)
                                            injection ea_ with ea_ en_ ec_
                                            subst ea_
                                            subst ec_
                                            clear en_
                                            have p174 : 0 ≤ (x9_4 : Int) := of_decide_eq_true (by first | (with_reducible assumption) | assumption)
                                            have q174 : x9_4 < (((rd_T50 l0 x5_1).f1).length : Int) := of_decide_eq_true (by first | (with_reducible assumption) | assumption)
                                            obtain ⟨ad174, e174, hx174_0⟩ := Kd.at_int HR173_1.out x9_4 p174 q174
                                            cases e174
                                            replace p174 := eq_true p174
                                            replace q174 := eq_true q174
                                            have p175 : 0 ≤ (x5_1 : Int) := of_decide_eq_true (by first | (with_reducible assumption) | assumption)
                                            have q175 : x5_1 < (l0.length : Int) := of_decide_eq_true (by first | (with_reducible assumption) | assumption)
                                            obtain ⟨ad175, A175_0, c175_0, A175_1, c175_1, e175, hx175_0, hx175_1, hx175_2, hl175_0, hi175_0, hl175_1, hi175_1⟩ := at_T50 HR0.out x5_1 p175 q175
                                            obtain rfl : ad165 = ad175 := (by injection e175)
                                            have HR175_0 := Aside0.mk hi175_0
                                            have HC175_0 := Aside0.mk hl175_0
                                            clear hi175_0 hl175_0
                                            have HR175_1 := Aside0.mk hi175_1
                                            have HC175_1 := Aside0.mk hl175_1
                                            clear hi175_1 hl175_1
                                            replace p175 := eq_true p175
                                            replace q175 := eq_true q175
                                            have ea_ := Option.some.inj (hx172_0.symm.trans hx175_0)
                                            injection ea_ with ea_ en_ ec_
                                            subst ea_
                                            subst ec_
                                            clear en_
                                            have ea_ := Option.some.inj (hx172_1.symm.trans hx175_1)
                                            injection ea_ with ea_ en_ ec_
                                            subst ea_
                                            subst ec_
                                            clear en_
                                            have p176 : 0 ≤ (x9_4 : Int) := of_decide_eq_true (by first | (with_reducible assumption) | assumption)
                                            have q176 : x9_4 < (((rd_T50 l0 x5_1).f1).length : Int) := of_decide_eq_true (by first | (with_reducible assumption) | assumption)
                                            obtain ⟨ad176, e176, hx176_0⟩ := Kd.at_int HR175_1.out x9_4 p176 q176
                                            cases e176
                                            replace p176 := eq_true p176
                                            replace q176 := eq_true q176
                                            go_wp2
                                            go_ret
                                            exact ⟨by first | rfl | (simp; done) | (simp [*]; done), by repeat (first | exact Drawn0.refl _ | apply Drawn0.step)⟩
                                    · rw [if_neg c18] at H
                                      exact absurd H (by simp)
                                  · rw [if_neg c17] at H
                                    have c17b0 : decide (x9_4 < (((rd_T50 l0 x5_1).f1).length : Int)) = false := decide_eq_false c17
                                    clear c17
                                    have H' := Aside0.mk H
                                    clear H
                                    have p172 : 0 ≤ (x5_1 : Int) := of_decide_eq_true (by first | (with_reducible assumption) | assumption)
                                    have q172 : x5_1 < (l0.length : Int) := of_decide_eq_true (by first | (with_reducible assumption) | assumption)
                                    obtain ⟨ad172, A172_0, c172_0, A172_1, c172_1, e172, hx172_0, hx172_1, hx172_2, hl172_0, hi172_0, hl172_1, hi172_1⟩ := at_T50 HR0.out x5_1 p172 q172
                                    obtain rfl : ad165 = ad172 := (by injection e172)
                                    have HR172_0 := Aside0.mk hi172_0
                                    have HC172_0 := Aside0.mk hl172_0
                                    clear hi172_0 hl172_0
                                    have HR172_1 := Aside0.mk hi172_1
                                    have HC172_1 := Aside0.mk hl172_1
                                    clear hi172_1 hl172_1
                                    replace p172 := eq_true p172
                                    replace q172 := eq_true q172
                                    go_wp2
                                    go_roundg k4
                                    case measure => have := HK1.out; have := HJ4.out; have := HK3.out; have := HK4.out; omega
                                    case rel => exact ⟨(wrap64 (x5_1 + 1)), (by first | rfl | (simp; done) | (simp [*]; done)), H', ⟨by have := HK1.out; have := HJ4.out; have := HK3.out; have := HK4.out; omega⟩, by repeat (first | exact Drawn0.refl _ | apply Drawn0.step)⟩
                                · rw [if_neg c16] at H
                                  exact absurd H (by simp)
                              · rw [if_neg c15] at H
                                exact absurd H (by simp)
                      · rw [if_neg c9] at H
                        exact absurd H (by simp)
                    · rw [if_neg c8] at H
                      exact absurd H (by simp)
        · rw [if_neg c4] at H
          exact absurd H (by simp)
      · rw [if_neg c3] at H
        have c3b0 : decide (x5_1 < (l0.length : Int)) = false := decide_eq_false c3
        clear c3
        obtain rfl := Option.some.inj H
        go_wp2
        go_ret
        exact ⟨by first | rfl | (simp; done) | (simp [*]; done), by repeat (first | exact Drawn0.refl _ | apply Drawn0.step)⟩

end Go.Proofs.Ytoebhddgpicegaa.PReplayApart
