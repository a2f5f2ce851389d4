-- PRINTED BY print.sh 35421559b90ae4d0a3588c463048766b98c2df88dd9212a6774a882060cdf62d: not written by this session
import Derived.Test.YtoaebpjjfglnnaaPInflateAnswersx0
namespace Go.Proofs.Ytoaebpjjfglnnaa.PInflateAnswers
open Go.RowKit Go.Proofs.YtoaebpjjfglnnaaW.PrintWords Go.Proofs.YtoaebpjjfglnnaaW.PrintLast Go.Proofs.YtoaebpjjfglnnaaW.PrintMore
attribute [local go_sem] max2_int min2_int max_two min_two max_three min_three max_four min_four   -- for this text's walks alone
set_option linter.unusedVariables false
set_option linter.unusedSimpArgs false

/-! ### etuiref00_SameBytes: function 13 -/
def etuiref00_SameBytes.l0 : Nat → List Int → List Int → Int → Option (Bool)
  | 0, _, _, _ => none
  | k + 1, x0, x1, x5 => if x5 < (x0.length : Int) then (if 0 ≤ x5 then (if x5 < (x1.length : Int) then (if (rd x0 x5) = (rd x1 x5) then (etuiref00_SameBytes.l0 k x0 x1 (wrap64 (x5 + 1))) else (some false)) else (none)) else (none)) else (some true)
def etuiref00_SameBytes.f (k : Nat) (l0 : List Int) (l1 : List Int) : Option (Bool) := if (l0.length : Int) = (l1.length : Int) then (etuiref00_SameBytes.l0 k l0 l1 0) else (some false)
theorem etuiref00_SameBytes.mono_l : ∀ k, (∀ y0 y1 y2, LeO (etuiref00_SameBytes.l0 k y0 y1 y2) (etuiref00_SameBytes.l0 (k + 1) y0 y1 y2))
  | 0 => fun _ _ _ r h => by simp [etuiref00_SameBytes.l0] at h
  | k + 1 => by
    have ih0 := etuiref00_SameBytes.mono_l k
    · intro y0 y1 y2
      unfold etuiref00_SameBytes.l0
      repeat' first
      | (with_reducible exact ih0 _ _ _)
      | (with_reducible exact LeO.refl _)
      | (with_reducible exact LeO.none _)
      | (with_reducible refine LeO.ite ?_ ?_)
      | (with_reducible refine LeO.bind ?_ (fun _ => ?_))
      | exact ih0 _ _ _
      | exact LeO.none _
      | refine LeO.ite ?_ ?_
      | refine LeO.bind ?_ (fun _ => ?_)
theorem etuiref00_SameBytes.mono : ∀ a0 a1 k, LeO (etuiref00_SameBytes.f k a0 a1) (etuiref00_SameBytes.f (k + 1) a0 a1) := by
  intro a0 a1 k
  have ih0 := etuiref00_SameBytes.mono_l k
  unfold etuiref00_SameBytes.f
  repeat' first
      | (with_reducible exact ih0 _ _ _)
      | (with_reducible exact LeO.refl _)
      | (with_reducible exact LeO.none _)
      | (with_reducible refine LeO.ite ?_ ?_)
      | (with_reducible refine LeO.bind ?_ (fun _ => ?_))
      | exact ih0 _ _ _
      | exact LeO.none _
      | refine LeO.ite ?_ ?_
      | refine LeO.bind ?_ (fun _ => ?_)
set_option maxHeartbeats 8000000 in
set_option maxRecDepth 100000 in
theorem etuiref00_SameBytes.calls (k : Nat) (A0 : Option Addr) (c0 : Nat) (l0 : List Int) (A1 : Option Addr) (c1 : Nat) (l1 : List Int) (r : Bool) (w : World) (hr0 : Kd.C (Kd.int .u8) w A0 l0.length l0) (hc0 : l0.length ≤ c0) (hr1 : Kd.C (Kd.int .u8) w A1 l1.length l1) (hc1 : l1.length ≤ c1) (h : etuiref00_SameBytes.f k l0 l1 = some r) :
    Calls Try.prog 13 #[.slice A0 l0.length c0, .slice A1 l1.length c1] w fun e w' => e = .returned (.bool r) ∧ Drawn0 w w' := by
  have HR0 := Aside0.mk hr0
  have HC0 := Aside0.mk hc0
  clear hr0 hc0
  have HR1 := Aside0.mk hr1
  have HC1 := Aside0.mk hc1
  clear hr1 hc1
  have H : (if (l0.length : Int) = (l1.length : Int) then (etuiref00_SameBytes.l0 k l0 l1 0) else (some false)) = some r := h
  clear h
  by_cases c3 : (l0.length : Int) = (l1.length : Int)
  · rw [if_pos c3] at H
    have c3b0 : ((l0.length : Int) == (l1.length : Int)) = true := beq_iff_eq.mpr c3
    have c3b1 : ((l0.length : Int) != (l1.length : Int)) = false := bne_eq_false_iff_eq.mpr c3
    have c3b2 : (l0.length == l1.length) = true := by first | simpa using c3 | (simp at c3 ⊢; omega)
    clear c3
    have H' := Aside0.mk H
    clear H
    go_enter Try.func13, Try.ntmps13
    go_wp2
    repeat (go_quiet (fail); try go_wp2)
    go_loopg [5] k (fun kq v5 w' => ∃ (x5_1 : Int), v5 = .int .i64 x5_1 ∧ Aside0 (etuiref00_SameBytes.l0 kq l0 l1 x5_1 = some r) ∧ Aside0 (kq ≤ k) ∧ Drawn0 w w')
    case atStart => exact ⟨(0), (by first | rfl | (simp; done) | (simp [*]; done)), H', ⟨Nat.le_refl _⟩, by repeat (first | exact Drawn0.refl _ | apply Drawn0.step)⟩
    case round =>
      clear H'
      try clear c1
      try clear p2
      try clear c3
      try clear c3b0
      try clear c3b1
      try clear c3b2
      obtain ⟨x5_1, rfl, HA, HK1, ⟨m1, rfl⟩⟩ := hrel
      cases gk with
      | zero => exact absurd HA.out (by simp [etuiref00_SameBytes.l0])
      | succ k1 =>
        have H := HA.out
        clear HA
        simp only [etuiref00_SameBytes.l0] at H
        by_cases c4 : x5_1 < (l0.length : Int)
        · rw [if_pos c4] at H
          have c4b0 : decide (x5_1 < (l0.length : Int)) = true := decide_eq_true c4
          clear c4
          by_cases c5 : 0 ≤ x5_1
          · rw [if_pos c5] at H
            have c5b0 : decide (0 ≤ x5_1) = true := decide_eq_true c5
            clear c5
            by_cases c6 : x5_1 < (l1.length : Int)
            · rw [if_pos c6] at H
              have c6b0 : decide (x5_1 < (l1.length : Int)) = true := decide_eq_true c6
              clear c6
              by_cases c7 : (rd l0 x5_1) = (rd l1 x5_1)
              · rw [if_pos c7] at H
                have c7b0 : ((rd l0 x5_1) == (rd l1 x5_1)) = true := beq_iff_eq.mpr c7
                have c7b1 : ((rd l0 x5_1) != (rd l1 x5_1)) = false := bne_eq_false_iff_eq.mpr c7
                clear c7
                have H' := Aside0.mk H
                clear H
                have p101 : 0 ≤ (x5_1 : Int) := of_decide_eq_true (by first | (with_reducible assumption) | assumption)
                have q101 : x5_1 < (l0.length : Int) := of_decide_eq_true (by first | (with_reducible assumption) | assumption)
                obtain ⟨ad101, e101, hx101_0⟩ := Kd.at_int HR0.out x5_1 p101 q101
                cases e101
                replace p101 := eq_true p101
                replace q101 := eq_true q101
                have p102 : 0 ≤ (x5_1 : Int) := of_decide_eq_true (by first | (with_reducible assumption) | assumption)
                have q102 : x5_1 < (l1.length : Int) := of_decide_eq_true (by first | (with_reducible assumption) | assumption)
                obtain ⟨ad102, e102, hx102_0⟩ := Kd.at_int HR1.out x5_1 p102 q102
                cases e102
                replace p102 := eq_true p102
                replace q102 := eq_true q102
                go_wp2
                repeat (go_quiet (fail); try go_wp2)
                go_roundg k1
                case measure => have := HK1.out; omega
                case rel => exact ⟨(wrap64 (x5_1 + 1)), (by first | rfl | (simp; done) | (simp [*]; done)), H', ⟨by have := HK1.out; omega⟩, by repeat (first | exact Drawn0.refl _ | apply Drawn0.step)⟩
              · rw [if_neg c7] at H
                have c7b0 : ((rd l0 x5_1) == (rd l1 x5_1)) = false := beq_eq_false_iff_ne.mpr c7
                have c7b1 : ((rd l0 x5_1) != (rd l1 x5_1)) = true := bne_iff_ne.mpr c7
                obtain rfl := Option.some.inj H
                have p101 : 0 ≤ (x5_1 : Int) := of_decide_eq_true (by first | (with_reducible assumption) | assumption)
                have q101 : x5_1 < (l0.length : Int) := of_decide_eq_true (by first | (with_reducible assumption) | assumption)
                obtain ⟨ad101, e101, hx101_0⟩ := Kd.at_int HR0.out x5_1 p101 q101
                cases e101
                replace p101 := eq_true p101
                replace q101 := eq_true q101
                have p102 : 0 ≤ (x5_1 : Int) := of_decide_eq_true (by first | (with_reducible assumption) | assumption)
                have q102 : x5_1 < (l1.length : Int) := of_decide_eq_true (by first | (with_reducible assumption) | assumption)
                obtain ⟨ad102, e102, hx102_0⟩ := Kd.at_int HR1.out x5_1 p102 q102
                cases e102
                replace p102 := eq_true p102
                replace q102 := eq_true q102
                go_wp2
                repeat (go_quiet (fail); try go_wp2)
                go_ret
                exact ⟨by first | rfl | (simp; done) | (simp [*]; done), by repeat (first | exact Drawn0.refl _ | apply Drawn0.step)⟩
            · rw [if_neg c6] at H
              exact absurd H (by simp)
          · rw [if_neg c5] at H
            exact absurd H (by simp)
        · rw [if_neg c4] at H
          have c4b0 : decide (x5_1 < (l0.length : Int)) = false := decide_eq_false c4
          clear c4
          obtain rfl := Option.some.inj H
          go_wp2
          repeat (go_quiet (fail); try go_wp2)
          go_ret
          exact ⟨by first | rfl | (simp; done) | (simp [*]; done), by repeat (first | exact Drawn0.refl _ | apply Drawn0.step)⟩
  · rw [if_neg c3] at H
    have c3b0 : ((l0.length : Int) == (l1.length : Int)) = false := beq_eq_false_iff_ne.mpr c3
    have c3b1 : ((l0.length : Int) != (l1.length : Int)) = true := bne_iff_ne.mpr c3
    have c3b2 : (l0.length == l1.length) = false := by first | simpa using c3 | (simp at c3 ⊢; omega)
    obtain rfl := Option.some.inj H
    go_enter Try.func13, Try.ntmps13
    go_wp2
    repeat (go_quiet (fail); try go_wp2)
    go_ret
    exact ⟨by first | rfl | (simp; done) | (simp [*]; done), by repeat (first | exact Drawn0.refl _ | apply Drawn0.step)⟩

/-! ### inflate_Length: function 14 -/
def inflate_Length.j0 : Nat → Int → Bool → Option (Int × Int × Bool)
  | 0, _, _ => none
  | k + 1, x0, x6 => if x6 = true then (some (0, 0, false)) else (if x0 = 285 then (some (258, 0, true)) else (if x0 < 265 then (some (wrap64 ((wrap64 (x0 - 257)) + 3), 0, true)) else (if 0 ≤ (wrap64 ((wrap64 (Int.tdiv (wrap64 (x0 - 257)) 4)) - 1)) then (some (wrap64 (3 + (shl .i64 (wrap64 (4 + (Int.tmod (wrap64 (x0 - 257)) 4))) (wrap64 ((wrap64 (Int.tdiv (wrap64 (x0 - 257)) 4)) - 1)))), wrap64 ((wrap64 (Int.tdiv (wrap64 (x0 - 257)) 4)) - 1), true)) else (none))))
def inflate_Length.f (k : Nat) (a0 : Int) : Option (Int × Int × Bool) := if a0 < 257 then (inflate_Length.j0 k a0 true) else (inflate_Length.j0 k a0 (decide (a0 > 285)))
theorem inflate_Length.mono_l : ∀ k, (∀ y0 y1, LeO (inflate_Length.j0 k y0 y1) (inflate_Length.j0 (k + 1) y0 y1))
  | 0 => fun _ _ r h => by simp [inflate_Length.j0] at h
  | k + 1 => by
    have ih0 := inflate_Length.mono_l k
    · intro y0 y1
      unfold inflate_Length.j0
      repeat' first
      | (with_reducible exact ih0 _ _)
      | (with_reducible exact LeO.refl _)
      | (with_reducible exact LeO.none _)
      | (with_reducible refine LeO.ite ?_ ?_)
      | (with_reducible refine LeO.bind ?_ (fun _ => ?_))
      | exact ih0 _ _
      | exact LeO.none _
      | refine LeO.ite ?_ ?_
      | refine LeO.bind ?_ (fun _ => ?_)
theorem inflate_Length.mono : ∀ a0 k, LeO (inflate_Length.f k a0) (inflate_Length.f (k + 1) a0) := by
  intro a0 k
  have ih0 := inflate_Length.mono_l k
  unfold inflate_Length.f
  repeat' first
      | (with_reducible exact ih0 _ _)
      | (with_reducible exact LeO.refl _)
      | (with_reducible exact LeO.none _)
      | (with_reducible refine LeO.ite ?_ ?_)
      | (with_reducible refine LeO.bind ?_ (fun _ => ?_))
      | exact ih0 _ _
      | exact LeO.none _
      | refine LeO.ite ?_ ?_
      | refine LeO.bind ?_ (fun _ => ?_)
set_option maxHeartbeats 8000000 in
set_option maxRecDepth 100000 in
theorem inflate_Length.calls (k : Nat) (a0 : Int) (r1 : Int) (r2 : Int) (r3 : Bool) (w : World) (h : inflate_Length.f k a0 = some (r1, r2, r3)) :
    Calls Try.prog 14 #[.int .i64 a0] w fun e w' => e = .returned (.tuple #[.int .i64 r1, .int .i64 r2, .bool r3]) ∧ Drawn0 w w' := by
  have H : (if a0 < 257 then (inflate_Length.j0 k a0 true) else (inflate_Length.j0 k a0 (decide (a0 > 285)))) = some (r1, r2, r3) := h
  clear h
  have HC2 := Aside0.mk H
  clear H
  go_enter Try.func14, Try.ntmps14
  go_upto_region 1 with (fail)
  go_cut [6] (fun v6 wc => ∃ (kq : Nat) (x6_1 : Bool), v6 = .bool x6_1 ∧ Aside0 (inflate_Length.j0 kq a0 x6_1 = some (r1, r2, r3)) ∧ Aside0 (kq ≤ k) ∧ Drawn0 w wc)
  case first =>
    have H := HC2.out
    clear HC2
    by_cases c3 : a0 < 257
    · rw [if_pos c3] at H
      have c3b0 : decide (a0 < 257) = true := decide_eq_true c3
      clear c3
      (first | rw [c3b0] | (simp only [i64_w, i32_w]; rw [c3b0]) | skip)
      have H' := Aside0.mk H
      clear H
      go_wp2
      go_meet
      case rel => exact ⟨_, (true), (by first | rfl | (simp; done) | (simp [*]; done)), H', ⟨by first | omega | exact Nat.le_refl _⟩, by repeat (first | exact Drawn0.refl _ | apply Drawn0.step)⟩
    · rw [if_neg c3] at H
      have c3b0 : decide (a0 < 257) = false := decide_eq_false c3
      clear c3
      (first | rw [c3b0] | (simp only [i64_w, i32_w]; rw [c3b0]) | skip)
      have H' := Aside0.mk H
      clear H
      go_wp2
      go_meet
      case rel => exact ⟨_, (decide (a0 > 285)), (by first | rfl | (simp; done) | (simp [*]; done)), H', ⟨by first | omega | exact Nat.le_refl _⟩, by repeat (first | exact Drawn0.refl _ | apply Drawn0.step)⟩
  case rest =>
    clear HC2
    try clear c1
    try clear p2
    try clear c3
    try clear c3b0
    obtain ⟨kq, x6_1, rfl, HA, HJ1, ⟨mc1, rfl⟩⟩ := hcut
    cases kq with
    | zero => exact absurd HA.out (by simp [inflate_Length.j0])
    | succ kj1 =>
      have H := HA.out
      clear HA
      simp only [inflate_Length.j0] at H
      by_cases c4 : x6_1 = true
      · subst c4
        have H1 : (some (0, 0, false)) = some (r1, r2, r3) := by rw [if_pos rfl] at H; exact H
        clear H
        have H := H1
        clear H1
        simp only [Option.some.injEq, Prod.mk.injEq] at H
        obtain ⟨rfl, rfl, rfl⟩ := H
        go_wp2
        go_ret3
        exact ⟨by first | rfl | (simp; done) | (simp [*]; done), by repeat (first | exact Drawn0.refl _ | apply Drawn0.step)⟩
      · replace c4 := Bool.eq_false_iff.mpr c4
        subst c4
        have H1 : (if a0 = 285 then (some (258, 0, true)) else (if a0 < 265 then (some (wrap64 ((wrap64 (a0 - 257)) + 3), 0, true)) else (if 0 ≤ (wrap64 ((wrap64 (Int.tdiv (wrap64 (a0 - 257)) 4)) - 1)) then (some (wrap64 (3 + (shl .i64 (wrap64 (4 + (Int.tmod (wrap64 (a0 - 257)) 4))) (wrap64 ((wrap64 (Int.tdiv (wrap64 (a0 - 257)) 4)) - 1)))), wrap64 ((wrap64 (Int.tdiv (wrap64 (a0 - 257)) 4)) - 1), true)) else (none)))) = some (r1, r2, r3) := by rw [if_neg (show ¬ (false = true) by decide)] at H; exact H
        clear H
        have H := H1
        clear H1
        by_cases c5 : a0 = 285
        · rw [if_pos c5] at H
          have c5b0 : (a0 == 285) = true := beq_iff_eq.mpr c5
          have c5b1 : (a0 != 285) = false := bne_eq_false_iff_eq.mpr c5
          clear c5
          simp only [Option.some.injEq, Prod.mk.injEq] at H
          obtain ⟨rfl, rfl, rfl⟩ := H
          go_wp2
          go_ret3
          exact ⟨by first | rfl | (simp; done) | (simp [*]; done), by repeat (first | exact Drawn0.refl _ | apply Drawn0.step)⟩
        · rw [if_neg c5] at H
          have c5b0 : (a0 == 285) = false := beq_eq_false_iff_ne.mpr c5
          have c5b1 : (a0 != 285) = true := bne_iff_ne.mpr c5
          by_cases c6 : a0 < 265
          · rw [if_pos c6] at H
            have c6b0 : decide (a0 < 265) = true := decide_eq_true c6
            clear c6
            simp only [Option.some.injEq, Prod.mk.injEq] at H
            obtain ⟨rfl, rfl, rfl⟩ := H
            go_wp2
            go_ret3
            exact ⟨by first | rfl | (simp; done) | (simp [*]; done), by repeat (first | exact Drawn0.refl _ | apply Drawn0.step)⟩
          · rw [if_neg c6] at H
            have c6b0 : decide (a0 < 265) = false := decide_eq_false c6
            clear c6
            obtain ⟨ji7, hji7⟩ : ∃ j_ : Int, (wrap64 ((wrap64 (Int.tdiv (wrap64 (a0 - 257)) 4)) - 1)) = j_ := ⟨_, rfl⟩
            replace H : (if 0 ≤ (ji7) then (some (wrap64 (3 + (shl .i64 (wrap64 (4 + (Int.tmod (wrap64 (a0 - 257)) 4))) (ji7))), ji7, true)) else (none)) = some (r1, r2, r3) := by first | (rw [hji7] at H; exact H) | (simp only [hji7] at H ⊢; exact H)
            have hji7w : (IntKind.i64.wrap ((wrap64 (Int.tdiv (wrap64 (a0 - 257)) 4)) - 1)) = ji7 := (i64_w _).trans hji7
            by_cases c8 : 0 ≤ (ji7)
            · rw [if_pos c8] at H
              have c8b0 := eq_true c8
              have c8b1 : decide (0 ≤ (ji7)) = true := decide_eq_true c8
              clear c8
              obtain ⟨ji9, hji9⟩ : ∃ j_ : Int, (shl .i64 (wrap64 (4 + (Int.tmod (wrap64 (a0 - 257)) 4))) (ji7)) = j_ := ⟨_, rfl⟩
              replace H : (some (wrap64 (3 + (ji9)), ji7, true)) = some (r1, r2, r3) := by first | (rw [hji9] at H; exact H) | (simp only [hji9] at H ⊢; exact H)
              have hji9_ : (IntKind.i64.wrap ((wrap64 (4 + (Int.tmod (wrap64 (a0 - 257)) 4))) * 2 ^ min (ji7).toNat 64)) = ji9 := hji9
              have hji9z : (ji7) ≤ 64 → (IntKind.i64.wrap ((wrap64 (4 + (Int.tmod (wrap64 (a0 - 257)) 4))) * 2 ^ (ji7).toNat)) = ji9 := shl_small hji9
              have hji9y : (wrap64 ((wrap64 (4 + (Int.tmod (wrap64 (a0 - 257)) 4))) * 2 ^ min (ji7).toNat 64)) = ji9 := (i64_w _).symm.trans hji9_
              have hji9x : (ji7) ≤ 64 → (wrap64 ((wrap64 (4 + (Int.tmod (wrap64 (a0 - 257)) 4))) * 2 ^ (ji7).toNat)) = ji9 := fun h_ => (i64_w _).symm.trans (hji9z h_)
              simp only [Option.some.injEq, Prod.mk.injEq] at H
              obtain ⟨rfl, rfl, rfl⟩ := H
              go_wp2
              go_ret3
              exact ⟨by first | rfl | (simp; done) | (simp only [← hji7, ← hji9] <;> (first | rfl | simp)) | (simp [*]; done), by repeat (first | exact Drawn0.refl _ | apply Drawn0.step)⟩
            · rw [if_neg c8] at H
              exact absurd H (by simp)

/-! ### inflate_Distance: function 16 -/
def inflate_Distance.j0 : Nat → Int → Bool → Option (Int × Int × Bool)
  | 0, _, _ => none
  | k + 1, x0, x5 => if x5 = true then (some (0, 0, false)) else (if x0 < 4 then (some (wrap64 (x0 + 1), 0, true)) else (if 0 ≤ (wrap64 ((wrap64 (Int.tdiv x0 2)) - 1)) then (some (wrap64 (1 + (shl .i64 (wrap64 (2 + (Int.tmod x0 2))) (wrap64 ((wrap64 (Int.tdiv x0 2)) - 1)))), wrap64 ((wrap64 (Int.tdiv x0 2)) - 1), true)) else (none)))
def inflate_Distance.f (k : Nat) (a0 : Int) : Option (Int × Int × Bool) := if a0 < 0 then (inflate_Distance.j0 k a0 true) else (inflate_Distance.j0 k a0 (decide (a0 > 29)))
theorem inflate_Distance.mono_l : ∀ k, (∀ y0 y1, LeO (inflate_Distance.j0 k y0 y1) (inflate_Distance.j0 (k + 1) y0 y1))
  | 0 => fun _ _ r h => by simp [inflate_Distance.j0] at h
  | k + 1 => by
    have ih0 := inflate_Distance.mono_l k
    · intro y0 y1
      unfold inflate_Distance.j0
      repeat' first
      | (with_reducible exact ih0 _ _)
      | (with_reducible exact LeO.refl _)
      | (with_reducible exact LeO.none _)
      | (with_reducible refine LeO.ite ?_ ?_)
      | (with_reducible refine LeO.bind ?_ (fun _ => ?_))
      | exact ih0 _ _
      | exact LeO.none _
      | refine LeO.ite ?_ ?_
      | refine LeO.bind ?_ (fun _ => ?_)
theorem inflate_Distance.mono : ∀ a0 k, LeO (inflate_Distance.f k a0) (inflate_Distance.f (k + 1) a0) := by
  intro a0 k
  have ih0 := inflate_Distance.mono_l k
  unfold inflate_Distance.f
  repeat' first
      | (with_reducible exact ih0 _ _)
      | (with_reducible exact LeO.refl _)
      | (with_reducible exact LeO.none _)
      | (with_reducible refine LeO.ite ?_ ?_)
      | (with_reducible refine LeO.bind ?_ (fun _ => ?_))
      | exact ih0 _ _
      | exact LeO.none _
      | refine LeO.ite ?_ ?_
      | refine LeO.bind ?_ (fun _ => ?_)
set_option maxHeartbeats 8000000 in
set_option maxRecDepth 100000 in
theorem inflate_Distance.calls (k : Nat) (a0 : Int) (r1 : Int) (r2 : Int) (r3 : Bool) (w : World) (h : inflate_Distance.f k a0 = some (r1, r2, r3)) :
    Calls Try.prog 16 #[.int .i64 a0] w fun e w' => e = .returned (.tuple #[.int .i64 r1, .int .i64 r2, .bool r3]) ∧ Drawn0 w w' := by
  have H : (if a0 < 0 then (inflate_Distance.j0 k a0 true) else (inflate_Distance.j0 k a0 (decide (a0 > 29)))) = some (r1, r2, r3) := h
  clear h
  have HC2 := Aside0.mk H
  clear H
  go_enter Try.func16, Try.ntmps16
  go_upto_region 1 with (fail)
  go_cut [5] (fun v5 wc => ∃ (kq : Nat) (x5_1 : Bool), v5 = .bool x5_1 ∧ Aside0 (inflate_Distance.j0 kq a0 x5_1 = some (r1, r2, r3)) ∧ Aside0 (kq ≤ k) ∧ Drawn0 w wc)
  case first =>
    have H := HC2.out
    clear HC2
    by_cases c3 : a0 < 0
    · rw [if_pos c3] at H
      have c3b0 : decide (a0 < 0) = true := decide_eq_true c3
      clear c3
      (first | rw [c3b0] | (simp only [i64_w, i32_w]; rw [c3b0]) | skip)
      have H' := Aside0.mk H
      clear H
      go_wp2
      go_meet
      case rel => exact ⟨_, (true), (by first | rfl | (simp; done) | (simp [*]; done)), H', ⟨by first | omega | exact Nat.le_refl _⟩, by repeat (first | exact Drawn0.refl _ | apply Drawn0.step)⟩
    · rw [if_neg c3] at H
      have c3b0 : decide (a0 < 0) = false := decide_eq_false c3
      clear c3
      (first | rw [c3b0] | (simp only [i64_w, i32_w]; rw [c3b0]) | skip)
      have H' := Aside0.mk H
      clear H
      go_wp2
      go_meet
      case rel => exact ⟨_, (decide (a0 > 29)), (by first | rfl | (simp; done) | (simp [*]; done)), H', ⟨by first | omega | exact Nat.le_refl _⟩, by repeat (first | exact Drawn0.refl _ | apply Drawn0.step)⟩
  case rest =>
    clear HC2
    try clear c1
    try clear p2
    try clear c3
    try clear c3b0
    obtain ⟨kq, x5_1, rfl, HA, HJ1, ⟨mc1, rfl⟩⟩ := hcut
    cases kq with
    | zero => exact absurd HA.out (by simp [inflate_Distance.j0])
    | succ kj1 =>
      have H := HA.out
      clear HA
      simp only [inflate_Distance.j0] at H
      by_cases c4 : x5_1 = true
      · subst c4
        have H1 : (some (0, 0, false)) = some (r1, r2, r3) := by rw [if_pos rfl] at H; exact H
        clear H
        have H := H1
        clear H1
        simp only [Option.some.injEq, Prod.mk.injEq] at H
        obtain ⟨rfl, rfl, rfl⟩ := H
        go_wp2
        go_ret3
        exact ⟨by first | rfl | (simp; done) | (simp [*]; done), by repeat (first | exact Drawn0.refl _ | apply Drawn0.step)⟩
      · replace c4 := Bool.eq_false_iff.mpr c4
        subst c4
        have H1 : (if a0 < 4 then (some (wrap64 (a0 + 1), 0, true)) else (if 0 ≤ (wrap64 ((wrap64 (Int.tdiv a0 2)) - 1)) then (some (wrap64 (1 + (shl .i64 (wrap64 (2 + (Int.tmod a0 2))) (wrap64 ((wrap64 (Int.tdiv a0 2)) - 1)))), wrap64 ((wrap64 (Int.tdiv a0 2)) - 1), true)) else (none))) = some (r1, r2, r3) := by rw [if_neg (show ¬ (false = true) by decide)] at H; exact H
        clear H
        have H := H1
        clear H1
        by_cases c5 : a0 < 4
        · rw [if_pos c5] at H
          have c5b0 : decide (a0 < 4) = true := decide_eq_true c5
          clear c5
          simp only [Option.some.injEq, Prod.mk.injEq] at H
          obtain ⟨rfl, rfl, rfl⟩ := H
          go_wp2
          go_ret3
          exact ⟨by first | rfl | (simp; done) | (simp [*]; done), by repeat (first | exact Drawn0.refl _ | apply Drawn0.step)⟩
        · rw [if_neg c5] at H
          have c5b0 : decide (a0 < 4) = false := decide_eq_false c5
          clear c5
          obtain ⟨ji6, hji6⟩ : ∃ j_ : Int, (wrap64 ((wrap64 (Int.tdiv a0 2)) - 1)) = j_ := ⟨_, rfl⟩
          replace H : (if 0 ≤ (ji6) then (some (wrap64 (1 + (shl .i64 (wrap64 (2 + (Int.tmod a0 2))) (ji6))), ji6, true)) else (none)) = some (r1, r2, r3) := by first | (rw [hji6] at H; exact H) | (simp only [hji6] at H ⊢; exact H)
          have hji6w : (IntKind.i64.wrap ((wrap64 (Int.tdiv a0 2)) - 1)) = ji6 := (i64_w _).trans hji6
          by_cases c7 : 0 ≤ (ji6)
          · rw [if_pos c7] at H
            have c7b0 := eq_true c7
            have c7b1 : decide (0 ≤ (ji6)) = true := decide_eq_true c7
            clear c7
            obtain ⟨ji8, hji8⟩ : ∃ j_ : Int, (shl .i64 (wrap64 (2 + (Int.tmod a0 2))) (ji6)) = j_ := ⟨_, rfl⟩
            replace H : (some (wrap64 (1 + (ji8)), ji6, true)) = some (r1, r2, r3) := by first | (rw [hji8] at H; exact H) | (simp only [hji8] at H ⊢; exact H)
            have hji8_ : (IntKind.i64.wrap ((wrap64 (2 + (Int.tmod a0 2))) * 2 ^ min (ji6).toNat 64)) = ji8 := hji8
            have hji8z : (ji6) ≤ 64 → (IntKind.i64.wrap ((wrap64 (2 + (Int.tmod a0 2))) * 2 ^ (ji6).toNat)) = ji8 := shl_small hji8
            have hji8y : (wrap64 ((wrap64 (2 + (Int.tmod a0 2))) * 2 ^ min (ji6).toNat 64)) = ji8 := (i64_w _).symm.trans hji8_
            have hji8x : (ji6) ≤ 64 → (wrap64 ((wrap64 (2 + (Int.tmod a0 2))) * 2 ^ (ji6).toNat)) = ji8 := fun h_ => (i64_w _).symm.trans (hji8z h_)
            simp only [Option.some.injEq, Prod.mk.injEq] at H
            obtain ⟨rfl, rfl, rfl⟩ := H
            go_wp2
            go_ret3
            exact ⟨by first | rfl | (simp; done) | (simp only [← hji6, ← hji8] <;> (first | rfl | simp)) | (simp [*]; done), by repeat (first | exact Drawn0.refl _ | apply Drawn0.step)⟩
          · rw [if_neg c7] at H
            exact absurd H (by simp)

-- NOT PRINTED: function 37 (slices_Clone_byte_byte)

-- NOT PRINTED: function 30 (bits_NewReader)

-- NOT PRINTED: function 44 (slices_Grow_int_int)

-- NOT PRINTED: function 28 (slices_Concat_int_int)

/-! ### bits_Mul32: function 58 -/
def bits_Mul32.f (a0 : Int) (a1 : Int) : Option (Int × Int) := some (((IntKind.u64.wrap ((IntKind.u64.wrap (a0)) * (IntKind.u64.wrap (a1)))) / 4294967296) % 4294967296, (IntKind.u64.wrap ((IntKind.u64.wrap (a0)) * (IntKind.u64.wrap (a1)))) % 4294967296)
set_option maxHeartbeats 8000000 in
set_option maxRecDepth 100000 in
theorem bits_Mul32.calls (a0 : Int) (a1 : Int) (r1 : Int) (r2 : Int) (w : World) (h : bits_Mul32.f a0 a1 = some (r1, r2)) :
    Calls Try.prog 58 #[.int .u32 a0, .int .u32 a1] w fun e w' => e = .returned (.tuple #[.int .u32 r1, .int .u32 r2]) ∧ Drawn0 w w' := by
  have H : (some (((IntKind.u64.wrap ((IntKind.u64.wrap (a0)) * (IntKind.u64.wrap (a1)))) / 4294967296) % 4294967296, (IntKind.u64.wrap ((IntKind.u64.wrap (a0)) * (IntKind.u64.wrap (a1)))) % 4294967296)) = some (r1, r2) := h
  clear h
  simp only [Option.some.injEq, Prod.mk.injEq] at H
  obtain ⟨rfl, rfl⟩ := H
  go_enter Try.func58, Try.ntmps58
  go_wp2
  go_ret2
  exact ⟨by first | rfl | (simp; done) | (simp [*]; done), by repeat (first | exact Drawn0.refl _ | apply Drawn0.step)⟩

/-! ### bits_Mul64: function 59 -/
def bits_Mul64.f (a0 : Int) (a1 : Int) : Option (Int × Int) := some (IntKind.u64.wrap ((IntKind.u64.wrap ((IntKind.u64.wrap ((a0 / 4294967296) * (a1 / 4294967296))) + ((IntKind.u64.wrap ((IntKind.u64.wrap ((a0 / 4294967296) * (Go.bits .and .u64 a1 4294967295))) + ((IntKind.u64.wrap ((Go.bits .and .u64 a0 4294967295) * (Go.bits .and .u64 a1 4294967295))) / 4294967296))) / 4294967296))) + ((IntKind.u64.wrap ((Go.bits .and .u64 (IntKind.u64.wrap ((IntKind.u64.wrap ((a0 / 4294967296) * (Go.bits .and .u64 a1 4294967295))) + ((IntKind.u64.wrap ((Go.bits .and .u64 a0 4294967295) * (Go.bits .and .u64 a1 4294967295))) / 4294967296))) 4294967295) + (IntKind.u64.wrap ((Go.bits .and .u64 a0 4294967295) * (a1 / 4294967296))))) / 4294967296)), IntKind.u64.wrap (a0 * a1))
set_option maxHeartbeats 8000000 in
set_option maxRecDepth 100000 in
theorem bits_Mul64.calls (a0 : Int) (a1 : Int) (r1 : Int) (r2 : Int) (w : World) (h : bits_Mul64.f a0 a1 = some (r1, r2)) :
    Calls Try.prog 59 #[.int .u64 a0, .int .u64 a1] w fun e w' => e = .returned (.tuple #[.int .u64 r1, .int .u64 r2]) ∧ Drawn0 w w' := by
  have H : (some (IntKind.u64.wrap ((IntKind.u64.wrap ((IntKind.u64.wrap ((a0 / 4294967296) * (a1 / 4294967296))) + ((IntKind.u64.wrap ((IntKind.u64.wrap ((a0 / 4294967296) * (Go.bits .and .u64 a1 4294967295))) + ((IntKind.u64.wrap ((Go.bits .and .u64 a0 4294967295) * (Go.bits .and .u64 a1 4294967295))) / 4294967296))) / 4294967296))) + ((IntKind.u64.wrap ((Go.bits .and .u64 (IntKind.u64.wrap ((IntKind.u64.wrap ((a0 / 4294967296) * (Go.bits .and .u64 a1 4294967295))) + ((IntKind.u64.wrap ((Go.bits .and .u64 a0 4294967295) * (Go.bits .and .u64 a1 4294967295))) / 4294967296))) 4294967295) + (IntKind.u64.wrap ((Go.bits .and .u64 a0 4294967295) * (a1 / 4294967296))))) / 4294967296)), IntKind.u64.wrap (a0 * a1))) = some (r1, r2) := h
  clear h
  simp only [Option.some.injEq, Prod.mk.injEq] at H
  obtain ⟨rfl, rfl⟩ := H
  go_enter Try.func59, Try.ntmps59
  go_wp2
  go_ret2
  exact ⟨by first | rfl | (simp; done) | (simp [*]; done), by repeat (first | exact Drawn0.refl _ | apply Drawn0.step)⟩

/-! ### bits_Mul: function 45 -/
def bits_Mul.f (a0 : Int) (a1 : Int) : Option (Int × Int) := (bits_Mul64.f a0 a1).bind fun bt104 => (some (bt104.1, bt104.2))
set_option maxHeartbeats 8000000 in
set_option maxRecDepth 100000 in
theorem bits_Mul.calls (a0 : Int) (a1 : Int) (r1 : Int) (r2 : Int) (w : World) (h : bits_Mul.f a0 a1 = some (r1, r2)) :
    Calls Try.prog 45 #[.int .u64 a0, .int .u64 a1] w fun e w' => e = .returned (.tuple #[.int .u64 r1, .int .u64 r2]) ∧ Drawn0 w w' := by
  have H : ((bits_Mul64.f a0 a1).bind fun bt104 => (some (bt104.1, bt104.2))) = some (r1, r2) := h
  clear h
  replace H := Option.bind_eq_some_iff.mp H
  obtain ⟨⟨t104, t105⟩, A30, H⟩ := H
  replace H : (some (t104, t105)) = some (r1, r2) := H
  have A3 := Aside0.mk A30
  clear A30
  simp only [Option.some.injEq, Prod.mk.injEq] at H
  obtain ⟨rfl, rfl⟩ := H
  go_enter Try.func45, Try.ntmps45
  go_wp2_with (first | ((with_reducible refine gate_callee (f := 59) rfl ?_); refine goesL_ (some 25) rfl rfl Try.func59 (by kernel_rfl) rfl #[.int .u64 a0, .int .u64 a1] rfl (by (try simp only [List.map_toArray, List.map_cons, List.map_nil]); first | done | rfl | (simp only [List.length_drop, List.length_take]; rfl)) ?_; (with_reducible refine (bits_Mul64.calls a0 a1 t104 t105 _ A3.out).mono ?_); rintro e w' ⟨rfl, ⟨nd, rfl⟩⟩; refine ⟨_, rfl, ?_⟩))
  go_ret2
  exact ⟨by first | rfl | (simp; done) | (simp [*]; done), by repeat (first | exact Drawn0.refl _ | apply Drawn0.step)⟩

-- NOT PRINTED: function 29 (slices_Repeat_int_int)

-- NOT PRINTED: function 18 (inflate_Fixed)

/-! ### huff_Room: function 34 -/
mutual
def huff_Room.l0 : Nat → Int → List Int → Int → Int → Option (Int × Bool)
  | 0, _, _, _, _ => none
  | k + 1, x4, x10, x11, x12 => if x12 < x11 then (if 0 ≤ x12 then (if x12 < (x10.length : Int) then (if (rd x10 x12) < 0 then (huff_Room.j1 k x4 (rd x10 x12) x10 x11 x12 true) else (huff_Room.j1 k x4 (rd x10 x12) x10 x11 x12 (decide ((rd x10 x12) > 15)))) else (none)) else (none)) else (some (x4, true))
def huff_Room.j1 : Nat → Int → Int → List Int → Int → Int → Bool → Option (Int × Bool)
  | 0, _, _, _, _, _, _ => none
  | k + 1, x4, x6, x10, x11, x12, x16 => if x16 = true then (some (0, false)) else (if x6 > 0 then (if 0 ≤ x6 then (huff_Room.l0 k (wrap64 (x4 + (shr .i64 32768 x6))) x10 x11 (wrap64 (x12 + 1))) else (none)) else (huff_Room.l0 k x4 x10 x11 (wrap64 (x12 + 1))))
end
def huff_Room.f (k : Nat) (l0 : List Int) : Option (Int × Bool) := if (l0.length : Int) > 320 then (some (0, false)) else (huff_Room.l0 k 0 l0 (l0.length : Int) 0)
theorem huff_Room.mono_l : ∀ k, (∀ y0 y1 y2 y3, LeO (huff_Room.l0 k y0 y1 y2 y3) (huff_Room.l0 (k + 1) y0 y1 y2 y3)) ∧ (∀ y0 y1 y2 y3 y4 y5, LeO (huff_Room.j1 k y0 y1 y2 y3 y4 y5) (huff_Room.j1 (k + 1) y0 y1 y2 y3 y4 y5))
  | 0 => ⟨fun _ _ _ _ r h => by simp [huff_Room.l0] at h, fun _ _ _ _ _ _ r h => by simp [huff_Room.j1] at h⟩
  | k + 1 => by
    obtain ⟨ih0, ih1⟩ := huff_Room.mono_l k
    refine ⟨?_, ?_⟩
    · intro y0 y1 y2 y3
      unfold huff_Room.l0
      repeat' first
      | (with_reducible exact ih0 _ _ _ _)
      | (with_reducible exact ih1 _ _ _ _ _ _)
      | (with_reducible exact LeO.refl _)
      | (with_reducible exact LeO.none _)
      | (with_reducible refine LeO.ite ?_ ?_)
      | (with_reducible refine LeO.bind ?_ (fun _ => ?_))
      | exact ih0 _ _ _ _
      | exact ih1 _ _ _ _ _ _
      | exact LeO.none _
      | refine LeO.ite ?_ ?_
      | refine LeO.bind ?_ (fun _ => ?_)
    · intro y0 y1 y2 y3 y4 y5
      unfold huff_Room.j1
      repeat' first
      | (with_reducible exact ih0 _ _ _ _)
      | (with_reducible exact ih1 _ _ _ _ _ _)
      | (with_reducible exact LeO.refl _)
      | (with_reducible exact LeO.none _)
      | (with_reducible refine LeO.ite ?_ ?_)
      | (with_reducible refine LeO.bind ?_ (fun _ => ?_))
      | exact ih0 _ _ _ _
      | exact ih1 _ _ _ _ _ _
      | exact LeO.none _
      | refine LeO.ite ?_ ?_
      | refine LeO.bind ?_ (fun _ => ?_)
theorem huff_Room.mono : ∀ a0 k, LeO (huff_Room.f k a0) (huff_Room.f (k + 1) a0) := by
  intro a0 k
  obtain ⟨ih0, ih1⟩ := huff_Room.mono_l k
  unfold huff_Room.f
  repeat' first
      | (with_reducible exact ih0 _ _ _ _)
      | (with_reducible exact ih1 _ _ _ _ _ _)
      | (with_reducible exact LeO.refl _)
      | (with_reducible exact LeO.none _)
      | (with_reducible refine LeO.ite ?_ ?_)
      | (with_reducible refine LeO.bind ?_ (fun _ => ?_))
      | exact ih0 _ _ _ _
      | exact ih1 _ _ _ _ _ _
      | exact LeO.none _
      | refine LeO.ite ?_ ?_
      | refine LeO.bind ?_ (fun _ => ?_)
set_option maxHeartbeats 8000000 in
set_option maxRecDepth 100000 in
theorem huff_Room.calls (k : Nat) (A0 : Option Addr) (c0 : Nat) (l0 : List Int) (r1 : Int) (r2 : Bool) (w : World) (hr0 : Kd.C (Kd.int .i64) w A0 l0.length l0) (hc0 : l0.length ≤ c0) (h : huff_Room.f k l0 = some (r1, r2)) :
    Calls Try.prog 34 #[.slice A0 l0.length c0] w fun e w' => e = .returned (.tuple #[.int .i64 r1, .bool r2]) ∧ Drawn0 w w' := by
  have HR0 := Aside0.mk hr0
  have HC0 := Aside0.mk hc0
  clear hr0 hc0
  have H : (if (l0.length : Int) > 320 then (some (0, false)) else (huff_Room.l0 k 0 l0 (l0.length : Int) 0)) = some (r1, r2) := h
  clear h
  by_cases c2 : (l0.length : Int) > 320
  · rw [if_pos c2] at H
    have c2b0 : decide (320 < (l0.length : Int)) = true := decide_eq_true c2
    have c2b1 : decide (320 < l0.length) = true := decide_eq_true (by omega)
    clear c2
    simp only [Option.some.injEq, Prod.mk.injEq] at H
    obtain ⟨rfl, rfl⟩ := H
    go_enter Try.func34, Try.ntmps34
    go_wp2
    go_ret2
    exact ⟨by first | rfl | (simp; done) | (simp [*]; done), by repeat (first | exact Drawn0.refl _ | apply Drawn0.step)⟩
  · rw [if_neg c2] at H
    have c2b0 : decide (320 < (l0.length : Int)) = false := decide_eq_false c2
    have c2b1 : decide (320 < l0.length) = false := decide_eq_false (by omega)
    clear c2
    have H' := Aside0.mk H
    clear H
    go_enter Try.func34, Try.ntmps34
    go_wp2
    go_loopg [4, 12] k (fun kq v4 v12 w' => ∃ (x4_1 : Int) (x12_1 : Int), v4 = .int .i64 x4_1 ∧ v12 = .int .i64 x12_1 ∧ Aside0 (huff_Room.l0 kq x4_1 l0 (l0.length : Int) x12_1 = some (r1, r2)) ∧ Aside0 (kq ≤ k) ∧ Drawn0 w w')
    case atStart => exact ⟨(0), (0), (by first | rfl | (simp; done) | (simp [*]; done)), (by first | rfl | (simp; done) | (simp [*]; done)), H', ⟨Nat.le_refl _⟩, by repeat (first | exact Drawn0.refl _ | apply Drawn0.step)⟩
    case round =>
      clear H'
      try clear c2
      try clear c2b0
      try clear c2b1
      try clear p2
      obtain ⟨x4_1, x12_1, rfl, rfl, HA, HK1, ⟨m1, rfl⟩⟩ := hrel
      cases gk with
      | zero => exact absurd HA.out (by simp [huff_Room.l0])
      | succ k1 =>
        have H := HA.out
        clear HA
        simp only [huff_Room.l0] at H
        by_cases c3 : x12_1 < (l0.length : Int)
        · rw [if_pos c3] at H
          have c3b0 : decide (x12_1 < (l0.length : Int)) = true := decide_eq_true c3
          clear c3
          by_cases c4 : 0 ≤ x12_1
          · rw [if_pos c4] at H
            have c4b0 : decide (0 ≤ x12_1) = true := decide_eq_true c4
            clear c4
            by_cases c5 : x12_1 < (l0.length : Int)
            · rw [if_pos c5] at H
              have c5b0 : decide (x12_1 < (l0.length : Int)) = true := decide_eq_true c5
              clear c5
              have HC6 := Aside0.mk H
              clear H
              have p109 : 0 ≤ (x12_1 : Int) := of_decide_eq_true (by first | (with_reducible assumption) | assumption)
              have q109 : x12_1 < (l0.length : Int) := of_decide_eq_true (by first | (with_reducible assumption) | assumption)
              obtain ⟨ad109, e109, hx109_0⟩ := Kd.at_int HR0.out x12_1 p109 q109
              cases e109
              replace p109 := eq_true p109
              replace q109 := eq_true q109
              go_upto_region 7 with (fail)
              go_cut [16] (fun v16 wc => ∃ (kq : Nat) (x16_5 : Bool), v16 = .bool x16_5 ∧ Aside0 (huff_Room.j1 kq x4_1 (rd l0 x12_1) l0 (l0.length : Int) x12_1 x16_5 = some (r1, r2)) ∧ Aside0 (kq ≤ k1) ∧ Drawn0 w wc)
              case first =>
                have H := HC6.out
                clear HC6
                by_cases c7 : (rd l0 x12_1) < 0
                · rw [if_pos c7] at H
                  have c7b0 : decide ((rd l0 x12_1) < 0) = true := decide_eq_true c7
                  clear c7
                  (first | rw [c7b0] | (simp only [i64_w, i32_w]; rw [c7b0]) | skip)
                  have H' := Aside0.mk H
                  clear H
                  go_wp2
                  go_meet
                  case rel => exact ⟨_, (true), (by first | rfl | (simp; done) | (simp [*]; done)), H', ⟨by have := HK1.out; first | omega | exact Nat.le_refl _⟩, by repeat (first | exact Drawn0.refl _ | apply Drawn0.step)⟩
                · rw [if_neg c7] at H
                  have c7b0 : decide ((rd l0 x12_1) < 0) = false := decide_eq_false c7
                  clear c7
                  (first | rw [c7b0] | (simp only [i64_w, i32_w]; rw [c7b0]) | skip)
                  have H' := Aside0.mk H
                  clear H
                  go_wp2
                  go_meet
                  case rel => exact ⟨_, (decide ((rd l0 x12_1) > 15)), (by first | rfl | (simp; done) | (simp [*]; done)), H', ⟨by have := HK1.out; first | omega | exact Nat.le_refl _⟩, by repeat (first | exact Drawn0.refl _ | apply Drawn0.step)⟩
              case rest =>
                clear HC6
                try clear p1
                try clear q1
                try clear hx1
                try clear c2
                try clear c2b0
                try clear c2b1
                try clear p2
                try clear c3
                try clear c3b0
                try clear c4
                try clear c4b0
                try clear c5
                try clear c5b0
                try clear c7
                try clear c7b0
                try clear hx109_0
                try clear p109
                try clear p2
                try clear q109
                obtain ⟨kq, x16_5, rfl, HA, HJ5, ⟨mc5, rfl⟩⟩ := hcut
                cases kq with
                | zero => exact absurd HA.out (by simp [huff_Room.j1])
                | succ kj5 =>
                  have H := HA.out
                  clear HA
                  simp only [huff_Room.j1] at H
                  by_cases c8 : x16_5 = true
                  · subst c8
                    have H1 : (some (0, false)) = some (r1, r2) := by rw [if_pos rfl] at H; exact H
                    clear H
                    have H := H1
                    clear H1
                    simp only [Option.some.injEq, Prod.mk.injEq] at H
                    obtain ⟨rfl, rfl⟩ := H
                    go_wp2
                    go_ret2
                    exact ⟨by first | rfl | (simp; done) | (simp [*]; done), by repeat (first | exact Drawn0.refl _ | apply Drawn0.step)⟩
                  · replace c8 := Bool.eq_false_iff.mpr c8
                    subst c8
                    have H1 : (if (rd l0 x12_1) > 0 then (if 0 ≤ (rd l0 x12_1) then (huff_Room.l0 kj5 (wrap64 (x4_1 + (shr .i64 32768 (rd l0 x12_1)))) l0 (l0.length : Int) (wrap64 (x12_1 + 1))) else (none)) else (huff_Room.l0 kj5 x4_1 l0 (l0.length : Int) (wrap64 (x12_1 + 1)))) = some (r1, r2) := by rw [if_neg (show ¬ (false = true) by decide)] at H; exact H
                    clear H
                    have H := H1
                    clear H1
                    by_cases c9 : (rd l0 x12_1) > 0
                    · rw [if_pos c9] at H
                      have c9b0 : decide (0 < (rd l0 x12_1)) = true := decide_eq_true c9
                      clear c9
                      by_cases c10 : 0 ≤ (rd l0 x12_1)
                      · rw [if_pos c10] at H
                        have c10b0 := eq_true c10
                        have c10b1 : decide (0 ≤ (rd l0 x12_1)) = true := decide_eq_true c10
                        clear c10
                        obtain ⟨ji11, hji11⟩ : ∃ j_ : Int, (shr .i64 32768 (rd l0 x12_1)) = j_ := ⟨_, rfl⟩
                        replace H : (huff_Room.l0 kj5 (wrap64 (x4_1 + (ji11))) l0 (l0.length : Int) (wrap64 (x12_1 + 1))) = some (r1, r2) := by first | (rw [hji11] at H; exact H) | (simp only [hji11] at H ⊢; exact H)
                        have hji11_ : (32768 / 2 ^ min (rd l0 x12_1).toNat 64) = ji11 := hji11
                        have hji11z : (rd l0 x12_1) ≤ 64 → (32768 / 2 ^ (rd l0 x12_1).toNat) = ji11 := shr_small hji11
                        have H' := Aside0.mk H
                        clear H
                        go_wp2
                        go_roundg kj5
                        case measure => have := HK1.out; have := HJ5.out; omega
                        case rel => exact ⟨(wrap64 (x4_1 + (ji11))), (wrap64 (x12_1 + 1)), (by first | rfl | (simp; done) | (simp only [← hji11] <;> (first | rfl | simp)) | (simp [*]; done)), (by first | rfl | (simp; done) | (simp [*]; done)), H', ⟨by have := HK1.out; have := HJ5.out; omega⟩, by repeat (first | exact Drawn0.refl _ | apply Drawn0.step)⟩
                      · rw [if_neg c10] at H
                        exact absurd H (by simp)
                    · rw [if_neg c9] at H
                      have c9b0 : decide (0 < (rd l0 x12_1)) = false := decide_eq_false c9
                      clear c9
                      have H' := Aside0.mk H
                      clear H
                      go_wp2
                      go_roundg kj5
                      case measure => have := HK1.out; have := HJ5.out; omega
                      case rel => exact ⟨(x4_1), (wrap64 (x12_1 + 1)), (by first | rfl | (simp; done) | (simp [*]; done)), (by first | rfl | (simp; done) | (simp [*]; done)), H', ⟨by have := HK1.out; have := HJ5.out; omega⟩, by repeat (first | exact Drawn0.refl _ | apply Drawn0.step)⟩
            · rw [if_neg c5] at H
              exact absurd H (by simp)
          · rw [if_neg c4] at H
            exact absurd H (by simp)
        · rw [if_neg c3] at H
          have c3b0 : decide (x12_1 < (l0.length : Int)) = false := decide_eq_false c3
          clear c3
          simp only [Option.some.injEq, Prod.mk.injEq] at H
          obtain ⟨rfl, rfl⟩ := H
          go_wp2
          go_ret2
          exact ⟨by first | rfl | (simp; done) | (simp [*]; done), by repeat (first | exact Drawn0.refl _ | apply Drawn0.step)⟩

/-! ### bits_ReverseBytes32: function 69 -/
def bits_ReverseBytes32.f (a0 : Int) : Option (Int) := some (Go.bits .or .u32 ((Go.bits .or .u32 (Go.bits .and .u32 (a0 / 256) 16711935) (((Go.bits .and .u32 a0 16711935) * 256) % 4294967296)) / 65536) (((Go.bits .or .u32 (Go.bits .and .u32 (a0 / 256) 16711935) (((Go.bits .and .u32 a0 16711935) * 256) % 4294967296)) * 65536) % 4294967296))
set_option maxHeartbeats 8000000 in
set_option maxRecDepth 100000 in
theorem bits_ReverseBytes32.calls (a0 : Int) (r : Int) (w : World) (h : bits_ReverseBytes32.f a0 = some r) :
    Calls Try.prog 69 #[.int .u32 a0] w fun e w' => e = .returned (.int .u32 r) ∧ Drawn0 w w' := by
  have H : (some (Go.bits .or .u32 ((Go.bits .or .u32 (Go.bits .and .u32 (a0 / 256) 16711935) (((Go.bits .and .u32 a0 16711935) * 256) % 4294967296)) / 65536) (((Go.bits .or .u32 (Go.bits .and .u32 (a0 / 256) 16711935) (((Go.bits .and .u32 a0 16711935) * 256) % 4294967296)) * 65536) % 4294967296))) = some r := h
  clear h
  obtain rfl := Option.some.inj H
  go_enter Try.func69, Try.ntmps69
  go_wp2
  go_ret
  exact ⟨by first | rfl | (simp; done) | (simp [*]; done), by repeat (first | exact Drawn0.refl _ | apply Drawn0.step)⟩

/-! ### bits_Reverse32: function 51 -/
def bits_Reverse32.f (a0 : Int) : Option (Int) := (bits_ReverseBytes32.f (Go.bits .or .u32 (Go.bits .and .u32 ((Go.bits .or .u32 (Go.bits .and .u32 ((Go.bits .or .u32 (Go.bits .and .u32 (a0 / 2) 1431655765) (((Go.bits .and .u32 a0 1431655765) * 2) % 4294967296)) / 4) 858993459) (((Go.bits .and .u32 (Go.bits .or .u32 (Go.bits .and .u32 (a0 / 2) 1431655765) (((Go.bits .and .u32 a0 1431655765) * 2) % 4294967296)) 858993459) * 4) % 4294967296)) / 16) 252645135) (((Go.bits .and .u32 (Go.bits .or .u32 (Go.bits .and .u32 ((Go.bits .or .u32 (Go.bits .and .u32 (a0 / 2) 1431655765) (((Go.bits .and .u32 a0 1431655765) * 2) % 4294967296)) / 4) 858993459) (((Go.bits .and .u32 (Go.bits .or .u32 (Go.bits .and .u32 (a0 / 2) 1431655765) (((Go.bits .and .u32 a0 1431655765) * 2) % 4294967296)) 858993459) * 4) % 4294967296)) 252645135) * 16) % 4294967296))).bind fun t110 => (some t110)
set_option maxHeartbeats 8000000 in
set_option maxRecDepth 100000 in
theorem bits_Reverse32.calls (a0 : Int) (r : Int) (w : World) (h : bits_Reverse32.f a0 = some r) :
    Calls Try.prog 51 #[.int .u32 a0] w fun e w' => e = .returned (.int .u32 r) ∧ Drawn0 w w' := by
  have H : ((bits_ReverseBytes32.f (Go.bits .or .u32 (Go.bits .and .u32 ((Go.bits .or .u32 (Go.bits .and .u32 ((Go.bits .or .u32 (Go.bits .and .u32 (a0 / 2) 1431655765) (((Go.bits .and .u32 a0 1431655765) * 2) % 4294967296)) / 4) 858993459) (((Go.bits .and .u32 (Go.bits .or .u32 (Go.bits .and .u32 (a0 / 2) 1431655765) (((Go.bits .and .u32 a0 1431655765) * 2) % 4294967296)) 858993459) * 4) % 4294967296)) / 16) 252645135) (((Go.bits .and .u32 (Go.bits .or .u32 (Go.bits .and .u32 ((Go.bits .or .u32 (Go.bits .and .u32 (a0 / 2) 1431655765) (((Go.bits .and .u32 a0 1431655765) * 2) % 4294967296)) / 4) 858993459) (((Go.bits .and .u32 (Go.bits .or .u32 (Go.bits .and .u32 (a0 / 2) 1431655765) (((Go.bits .and .u32 a0 1431655765) * 2) % 4294967296)) 858993459) * 4) % 4294967296)) 252645135) * 16) % 4294967296))).bind fun t110 => (some t110)) = some r := h
  clear h
  replace H := Option.bind_eq_some_iff.mp H
  obtain ⟨t110, A20, H⟩ := H
  replace H : (some t110) = some r := H
  have A2 := Aside0.mk A20
  clear A20
  obtain rfl := Option.some.inj H
  go_enter Try.func51, Try.ntmps51
  go_wp2_with (first | ((with_reducible refine gate_callee (f := 69) rfl ?_); refine goesL_ (some 25) rfl rfl Try.func69 (by kernel_rfl) rfl #[.int .u32 (Go.bits .or .u32 (Go.bits .and .u32 ((Go.bits .or .u32 (Go.bits .and .u32 ((Go.bits .or .u32 (Go.bits .and .u32 (a0 / 2) 1431655765) (((Go.bits .and .u32 a0 1431655765) * 2) % 4294967296)) / 4) 858993459) (((Go.bits .and .u32 (Go.bits .or .u32 (Go.bits .and .u32 (a0 / 2) 1431655765) (((Go.bits .and .u32 a0 1431655765) * 2) % 4294967296)) 858993459) * 4) % 4294967296)) / 16) 252645135) (((Go.bits .and .u32 (Go.bits .or .u32 (Go.bits .and .u32 ((Go.bits .or .u32 (Go.bits .and .u32 (a0 / 2) 1431655765) (((Go.bits .and .u32 a0 1431655765) * 2) % 4294967296)) / 4) 858993459) (((Go.bits .and .u32 (Go.bits .or .u32 (Go.bits .and .u32 (a0 / 2) 1431655765) (((Go.bits .and .u32 a0 1431655765) * 2) % 4294967296)) 858993459) * 4) % 4294967296)) 252645135) * 16) % 4294967296))] rfl (by (try simp only [List.map_toArray, List.map_cons, List.map_nil]); first | done | rfl | (simp only [List.length_drop, List.length_take]; rfl)) ?_; (with_reducible refine (bits_ReverseBytes32.calls (Go.bits .or .u32 (Go.bits .and .u32 ((Go.bits .or .u32 (Go.bits .and .u32 ((Go.bits .or .u32 (Go.bits .and .u32 (a0 / 2) 1431655765) (((Go.bits .and .u32 a0 1431655765) * 2) % 4294967296)) / 4) 858993459) (((Go.bits .and .u32 (Go.bits .or .u32 (Go.bits .and .u32 (a0 / 2) 1431655765) (((Go.bits .and .u32 a0 1431655765) * 2) % 4294967296)) 858993459) * 4) % 4294967296)) / 16) 252645135) (((Go.bits .and .u32 (Go.bits .or .u32 (Go.bits .and .u32 ((Go.bits .or .u32 (Go.bits .and .u32 (a0 / 2) 1431655765) (((Go.bits .and .u32 a0 1431655765) * 2) % 4294967296)) / 4) 858993459) (((Go.bits .and .u32 (Go.bits .or .u32 (Go.bits .and .u32 (a0 / 2) 1431655765) (((Go.bits .and .u32 a0 1431655765) * 2) % 4294967296)) 858993459) * 4) % 4294967296)) 252645135) * 16) % 4294967296)) t110 _ A2.out).mono ?_); rintro e w' ⟨rfl, ⟨nd, rfl⟩⟩; refine ⟨_, rfl, ?_⟩))
  go_ret
  exact ⟨by first | rfl | (simp; done) | (simp [*]; done), by repeat (first | exact Drawn0.refl _ | apply Drawn0.step)⟩

/-! ### bits_Reverse: function 35 -/
def bits_Reverse.f (a0 : Int) (a1 : Int) : Option (Int) := if a1 ≤ 0 then (some 0) else (if a1 > 32 then (some 0) else ((bits_Reverse32.f a0).bind fun t111 => (if 0 ≤ (wrap64 (32 - a1)) then (some (shr .u32 t111 (wrap64 (32 - a1)))) else (none))))
set_option maxHeartbeats 8000000 in
set_option maxRecDepth 100000 in
theorem bits_Reverse.calls (a0 : Int) (a1 : Int) (r : Int) (w : World) (h : bits_Reverse.f a0 a1 = some r) :
    Calls Try.prog 35 #[.int .u32 a0, .int .i64 a1] w fun e w' => e = .returned (.int .u32 r) ∧ Drawn0 w w' := by
  have H : (if a1 ≤ 0 then (some 0) else (if a1 > 32 then (some 0) else ((bits_Reverse32.f a0).bind fun t111 => (if 0 ≤ (wrap64 (32 - a1)) then (some (shr .u32 t111 (wrap64 (32 - a1)))) else (none))))) = some r := h
  clear h
  by_cases c3 : a1 ≤ 0
  · rw [if_pos c3] at H
    have c3b0 : decide (a1 ≤ 0) = true := decide_eq_true c3
    clear c3
    obtain rfl := Option.some.inj H
    go_enter Try.func35, Try.ntmps35
    go_wp2
    go_ret
    exact ⟨by first | rfl | (simp; done) | (simp [*]; done), by repeat (first | exact Drawn0.refl _ | apply Drawn0.step)⟩
  · rw [if_neg c3] at H
    have c3b0 : decide (a1 ≤ 0) = false := decide_eq_false c3
    clear c3
    by_cases c4 : a1 > 32
    · rw [if_pos c4] at H
      have c4b0 : decide (32 < a1) = true := decide_eq_true c4
      clear c4
      obtain rfl := Option.some.inj H
      go_enter Try.func35, Try.ntmps35
      go_wp2
      go_ret
      exact ⟨by first | rfl | (simp; done) | (simp [*]; done), by repeat (first | exact Drawn0.refl _ | apply Drawn0.step)⟩
    · rw [if_neg c4] at H
      have c4b0 : decide (32 < a1) = false := decide_eq_false c4
      clear c4
      replace H := Option.bind_eq_some_iff.mp H
      obtain ⟨t111, A50, H⟩ := H
      replace H : (if 0 ≤ (wrap64 (32 - a1)) then (some (shr .u32 t111 (wrap64 (32 - a1)))) else (none)) = some r := H
      have A5 := Aside0.mk A50
      clear A50
      obtain ⟨ji6, hji6⟩ : ∃ j_ : Int, (wrap64 (32 - a1)) = j_ := ⟨_, rfl⟩
      replace H : (if 0 ≤ (ji6) then (some (shr .u32 t111 (ji6))) else (none)) = some r := by first | (rw [hji6] at H; exact H) | (simp only [hji6] at H ⊢; exact H)
      (try rw [hji6] at A5)
      have hji6w : (IntKind.i64.wrap (32 - a1)) = ji6 := (i64_w _).trans hji6
      by_cases c7 : 0 ≤ (ji6)
      · rw [if_pos c7] at H
        have c7b0 := eq_true c7
        have c7b1 : decide (0 ≤ (ji6)) = true := decide_eq_true c7
        clear c7
        obtain ⟨ji8, hji8⟩ : ∃ j_ : Int, (shr .u32 t111 (ji6)) = j_ := ⟨_, rfl⟩
        replace H : (some ji8) = some r := by first | (rw [hji8] at H; exact H) | (simp only [hji8] at H ⊢; exact H)
        (try rw [hji8] at A5)
        have hji8_ : (t111 / 2 ^ min (ji6).toNat 32) = ji8 := hji8
        have hji8z : (ji6) ≤ 32 → (t111 / 2 ^ (ji6).toNat) = ji8 := shr_small hji8
        obtain rfl := Option.some.inj H
        go_enter Try.func35, Try.ntmps35
        go_wp2_with (first | ((with_reducible refine gate_callee (f := 51) rfl ?_); refine goesL_ (some 12) rfl rfl Try.func51 (by kernel_rfl) rfl #[.int .u32 a0] rfl (by (try simp only [List.map_toArray, List.map_cons, List.map_nil]); first | done | rfl | (simp only [List.length_drop, List.length_take]; rfl)) ?_; (with_reducible refine (bits_Reverse32.calls a0 t111 _ A5.out).mono ?_); rintro e w' ⟨rfl, ⟨nd, rfl⟩⟩; refine ⟨_, rfl, ?_⟩))
        go_ret
        exact ⟨by first | rfl | (simp; done) | (simp only [← hji6, ← hji8] <;> (first | rfl | simp)) | (simp [*]; done), by repeat (first | exact Drawn0.refl _ | apply Drawn0.step)⟩
      · rw [if_neg c7] at H
        exact absurd H (by simp)

-- NOT PRINTED: function 22 (huff_New)

-- NOT PRINTED: function 50 (inflate_need)

-- NOT PRINTED: function 46 (inflate_reader_number)

-- NOT PRINTED: function 63 (inflate_reader_room)

-- NOT PRINTED: function 47 (inflate_reader_stored)

-- NOT PRINTED: function 71 (bits_Reader_Peek)

/-- A state of type 93 at block g of W; what its slices lead to came in by w0. -/
def IsS93 (w0 W : World) (g : Nat) (f0 : List Int) (f1 : Int) : Prop := ∃ A0 c0, W.heap[g]? = some (.cells #[.slice A0 f0.length c0, .int .i64 f1] 93 (0, 0)) ∧ w0.heap.size ≤ g ∧ Kd.C (Kd.int .u8) w0 A0 f0.length f0
theorem IsS93.grown {w0 W : World} {g : Nat} {f0 : List Int} {f1 : Int} {W1 : World} {row : Option Nat} (h : IsS93 w0 W g f0 f1) (hw : W.grownBy W1 row) (hne : some g ≠ row) : IsS93 w0 W1 g f0 f1 := by
  obtain ⟨A0, c0, hb, hg, hr0⟩ := h
  exact ⟨A0, c0, blk_grown hb hw hne, hg, hr0⟩
theorem IsS93.own_neN {w0 W : World} {g : Nat} {f0 : List Int} {f1 : Int} {α : Type} {d : Kd α} {e : Nat} {base : Nat} {ok : Nat → Prop} {v : Value} {xs : List α} (h : IsS93 w0 W g f0 f1) (ho : Kd.N d e W base ok v xs) (ht : e ≠ 93) : some g ≠ v.ownBlock := by
  obtain ⟨A0, c0, hb, hg, hr0⟩ := h
  exact Kd.N_ne ho hb ht
theorem IsS93.fresh {w0 W : World} {g : Nat} {f0 : List Int} {f1 : Int} (h : IsS93 w0 W g f0 f1) : ∀ k, W.heap.size ≤ k → k ≠ g := by
  obtain ⟨A0, c0, hb, hg, hr0⟩ := h
  exact Kd.freshB hb
theorem IsS93.kept {w0 W : World} {g : Nat} {f0 : List Int} {f1 : Int} {W1 : World} {S : Nat → Prop} (h : IsS93 w0 W g f0 f1) (hk : Kept W W1 S) (hne : ¬ S g) : IsS93 w0 W1 g f0 f1 := by
  obtain ⟨A0, c0, hb, hg, hr0⟩ := h
  exact ⟨A0, c0, blk_kept hb hk hne, hg, hr0⟩
theorem IsS93.below {w0 W : World} {g : Nat} {f0 : List Int} {f1 : Int} {W1 : World} (h : IsS93 w0 W g f0 f1) (hw : Below W.heap.size W W1) : IsS93 w0 W1 g f0 f1 := h.grown (grown_of_below hw none) (by simp)
theorem IsS93.alloc {w0 W : World} {g : Nat} {f0 : List Int} {f1 : Int} (h : IsS93 w0 W g f0 f1) (o : Obj) : IsS93 w0 (W.alloc o) g f0 f1 := h.below (below_alloc (Below.refl _ _) o)
theorem IsS93.drewN {w0 W : World} {g : Nat} {f0 : List Int} {f1 : Int} (h : IsS93 w0 W g f0 f1) (m : Nat) : IsS93 w0 (W.drewN m) g f0 f1 := h
theorem IsS93.drew {w0 W : World} {g : Nat} {f0 : List Int} {f1 : Int} (h : IsS93 w0 W g f0 f1) : IsS93 w0 W.drew g f0 f1 := h
theorem IsS93.at_ {w0 W : World} {g : Nat} {f0 : List Int} {f1 : Int} {w' : World} {m : Nat} (hq : W.drewN m = w') (h : IsS93 w0 W g f0 f1) : IsS93 w0 w' g f0 f1 := by subst hq; exact IsS93.drewN h m
theorem IsS93.apart {w0 W : World} {g : Nat} {f0 : List Int} {f1 : Int} {α : Type} {d : Kd α} {e : Nat} {base : Nat} {ok : Nat → Prop} {v : Value} {xs : List α} (h : IsS93 w0 W g f0 f1) (ho : d.R e W base ok v xs) (ht : ∀ q, q ∈ e :: d.E → q ≠ 93) : d.R e W base (fun k => ok k ∧ k ≠ g) v xs := by
  obtain ⟨A0, c0, hb, hg, hr0⟩ := h
  exact Kd.R_types ho hb ht
theorem IsS93.own_ne {w0 W : World} {g : Nat} {f0 : List Int} {f1 : Int} {α : Type} {d : Kd α} {e : Nat} {base : Nat} {ok : Nat → Prop} {v : Value} {xs : List α} (h : IsS93 w0 W g f0 f1) (ho : d.R e W base ok v xs) (ht : e ≠ 93) : some g ≠ v.ownBlock := by
  obtain ⟨A0, c0, hb, hg, hr0⟩ := h
  exact Kd.R_ne ho hb ht
theorem IsS93.apartQ {w0 W : World} {g : Nat} {f0 : List Int} {f1 : Int} {α : Type} {d : Kd α} {e : Nat} {base : Nat} {ok : Nat → Prop} {v : Value} {xs : List α} (h : IsS93 w0 W g f0 f1) (ho : d.Q e W base ok v xs) (ht : ∀ q, q ∈ e :: d.E → q ≠ 93) : d.Q e W base (fun k => ok k ∧ k ≠ g) v xs := by
  obtain ⟨A0, c0, hb, hg, hr0⟩ := h
  exact Kd.Q_types ho hb ht
theorem IsS93.own_neQ {w0 W : World} {g : Nat} {f0 : List Int} {f1 : Int} {α : Type} {d : Kd α} {e : Nat} {base : Nat} {ok : Nat → Prop} {v : Value} {xs : List α} (h : IsS93 w0 W g f0 f1) (ho : d.Q e W base ok v xs) (ht : e ≠ 93) : some g ≠ v.ownBlock := by
  obtain ⟨A0, c0, hb, hg, hr0⟩ := h
  exact Kd.Q_ne ho hb ht
theorem IsS93.apartS {w0 W : World} {g : Nat} {f0 : List Int} {f1 : Int} {α : Type} {d : Kd α} {e : Nat} {base : Nat} {ok : Nat → Prop} {v : Value} {xs : List α} (h : IsS93 w0 W g f0 f1) (ho : d.S e W base ok v xs) (ht : ∀ q, q ∈ e :: d.E → q ≠ 93) : d.S e W base (fun k => ok k ∧ k ≠ g) v xs := by
  obtain ⟨A0, c0, hb, hg, hr0⟩ := h
  exact Kd.S_types ho hb ht
theorem IsS93.own_neS {w0 W : World} {g : Nat} {f0 : List Int} {f1 : Int} {α : Type} {d : Kd α} {e : Nat} {base : Nat} {ok : Nat → Prop} {v : Value} {xs : List α} (h : IsS93 w0 W g f0 f1) (ho : d.S e W base ok v xs) (ht : e ≠ 93) : some g ≠ v.ownBlock := by
  obtain ⟨A0, c0, hb, hg, hr0⟩ := h
  exact Kd.S_ne ho hb ht
theorem IsS93.lt {w0 W : World} {g : Nat} {f0 : List Int} {f1 : Int} (h : IsS93 w0 W g f0 f1) : g < W.heap.size := by
  obtain ⟨A0, c0, hb, hg, hr0⟩ := h
  exact blk_lt hb
theorem IsS93.ge {w0 W : World} {g : Nat} {f0 : List Int} {f1 : Int} (h : IsS93 w0 W g f0 f1) : w0.heap.size ≤ g := by
  obtain ⟨A0, c0, hb, hg, hr0⟩ := h
  exact hg
theorem IsS93.ne_blk {w0 W : World} {g : Nat} {f0 : List Int} {f1 : Int} {a : Nat} {cs : Array Value} {t : TypeId} {fr : Nat × Nat} (h : IsS93 w0 W g f0 f1) (hb2 : W.heap[a]? = some (.cells cs t fr)) (ht : t ≠ 93) : g ≠ a := by
  obtain ⟨A0, c0, hb, hg, hr0⟩ := h
  rintro rfl
  rw [hb] at hb2
  injection hb2 with hb2
  injection hb2 with _ ht2
  exact ht ht2.symm
theorem IsS93.far {w0 W : World} {g : Nat} {f0 : List Int} {f1 : Int} {p : Addr} (h : IsS93 w0 W g f0 f1) (hne : g ≠ p.block) (u : Value) : IsS93 w0 (W.setCell p u) g f0 f1 := by
  obtain ⟨A0, c0, hb, hg, hr0⟩ := h
  exact ⟨A0, c0, blk_far hb hne u, hg, hr0⟩
theorem cellS93_0 {W : World} {g : Nat} {A0 : Option Addr} {c0 : Nat} {f0 : List Int} {f1 : Int} (h : W.heap[g]? = some (.cells #[.slice A0 f0.length c0, .int .i64 f1] 93 (0, 0))) : W.cell? ⟨g, 0, none⟩ = some (.slice A0 f0.length c0) := (blk_cell h 0).trans rfl
theorem cellS93_1 {W : World} {g : Nat} {A0 : Option Addr} {c0 : Nat} {f0 : List Int} {f1 : Int} (h : W.heap[g]? = some (.cells #[.slice A0 f0.length c0, .int .i64 f1] 93 (0, 0))) : W.cell? ⟨g, 1, none⟩ = some (.int .i64 f1) := (blk_cell h 1).trans rfl
theorem IsS93.set_1 {w0 W : World} {g : Nat} {f0 : List Int} {f1 : Int} (h : IsS93 w0 W g f0 f1) (x : Int) : IsS93 w0 (W.setCell ⟨g, 1, none⟩ (.int .i64 x)) g f0 x := by
  obtain ⟨A0, c0, hb, hg, hr0⟩ := h
  exact ⟨A0, c0, by simpa using blk_set hb 1 (.int .i64 x), hg, hr0⟩
theorem IsS93.new (w0 W : World) (A0 : Option Addr) (c0 : Nat) (f0 : List Int) (f1 : Int) (hB : Below w0.heap.size w0 W) (hr0 : Kd.C (Kd.int .u8) w0 A0 f0.length f0) : IsS93 w0 (W.alloc (.cells #[.slice A0 f0.length c0, .int .i64 f1] 93)) W.heap.size f0 f1 := ⟨A0, c0, by simpa using heap_alloc_new W _, hB.size, hr0⟩

/-! ### bits_Reader_Left: function 79 -/
def bits_Reader_Left.f (s0_0 : List Int) (s0_1 : Int) : Option (Int × Int) := some (wrap64 ((wrap64 (8 * (s0_0.length : Int))) - s0_1), s0_1)
set_option maxHeartbeats 8000000 in
set_option maxRecDepth 100000 in
theorem bits_Reader_Left.calls (g : Nat) (s0_0 : List Int) (s0_1 : Int) (r1 : Int) (r2 : Int) (w0 w : World) (hI : IsS93 w0 w g s0_0 s0_1) (hB : Below w0.heap.size w0 w) (h : bits_Reader_Left.f s0_0 s0_1 = some (r1, r2)) :
    Calls Try.prog 79 #[.pointer (some ⟨g, 0, none⟩)] w fun e w' => e = .returned (.int .i64 r1) ∧ IsS93 w0 w' g s0_0 r2 ∧ Below w0.heap.size w0 w' ∧ KeepBut w w' g none := by
  have HI0 := Aside0.mk hI
  have HK := Aside0.mk (KeepBut.refl w g none)
  have HL := Aside0.mk hB.size
  clear hI
  have HW0 := Aside0.mk hB.size
  have HB := Aside0.mk hB
  clear hB
  have H : (some (wrap64 ((wrap64 (8 * (s0_0.length : Int))) - s0_1), s0_1)) = some (r1, r2) := h
  clear h
  simp only [Option.some.injEq, Prod.mk.injEq] at H
  obtain ⟨rfl, rfl⟩ := H
  obtain ⟨ASz2_0, cSz2_0, HGz2, hgz2, HSz2_0⟩ := HI0.out
  have hcz2_0 := cellS93_0 HGz2
  have hcz2_1 := cellS93_1 HGz2
  have hfz2_1 := blk_frozen HGz2 1
  clear HGz2 hgz2
  go_enter Try.func79, Try.ntmps79
  go_wp2
  repeat (go_quiet (fail); try go_wp2)
  go_ret
  exact ⟨by first | rfl | (simp [errW_none, errW_some] <;> rfl) | (simp [*, errW_none, errW_some] <;> rfl), by repeat (first | (with_reducible first | exact HI0.out | apply IsS93.alloc | apply IsS93.drewN | apply IsS93.drew | apply IsS93.set_1) | exact HI0.out), by repeat (first | (with_reducible first | exact HB.out | apply below_alloc | apply pw_below_drewN | apply below_drew1 | refine below_set ?_ (IsS93.ge HI0.out)) | exact HB.out), by repeat (first | (with_reducible first | exact HK.out | apply KeepBut.set_ | apply keep_drewN | apply keep_drew | apply keep_alloc) | exact HK.out)⟩

end Go.Proofs.Ytoaebpjjfglnnaa.PInflateAnswers
