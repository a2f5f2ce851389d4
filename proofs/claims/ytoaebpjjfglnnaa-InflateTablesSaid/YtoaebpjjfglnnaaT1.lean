/- The tables: what the document's Length, Distance, Fixed tell; the law. -/
import Derived.Test.YtoaebpjjfglnnaaB4
import Derived.Test.YtoaebpjjfglnnaaPInflateTablesx2
set_option linter.unusedVariables false
set_option linter.unusedSimpArgs false
namespace Go.Proofs.Ytoaebpjjfglnnaa
open Go.RowKit Go.Proofs.YtoaebpjjfglnnaaW.PrintWords Go.Proofs.YtoaebpjjfglnnaaW.PrintLast Go.Proofs.YtoaebpjjfglnnaaW.PrintMore
attribute [local go_sem] max2_int min2_int max_two min_two max_three min_three max_four min_four

theorem sameI_l0 (a b : List Int) (hl : a.length = b.length) (hm : a.length ≤ 9223372036854775807) : ∀ d i k, a.length - i = d → d < k → a.take i = b.take i → PInflateTables.etuiref00_SameInts.l0 k a b (i : Nat) = some (decide (a = b))
  | 0, i, 0, _, h, _ => by omega
  | 0, i, k + 1, h1, _, h3 => by
    rw [PInflateTables.etuiref00_SameInts.l0, if_neg (by omega)]
    rw [List.take_of_length_le (by omega), List.take_of_length_le (by omega)] at h3
    simp [h3]
  | d + 1, i, 0, _, h, _ => by omega
  | d + 1, i, k + 1, h1, h2, h3 => by
    have hi : i < a.length := by omega
    have hi2 : i < b.length := by omega
    rw [PInflateTables.etuiref00_SameInts.l0, if_pos (by omega), if_pos (by omega), if_pos (by omega)]
    have e1 : rd a (i : Nat) = a[i] := by simp [rd, List.getD_eq_getElem?_getD, hi]
    have e2 : rd b (i : Nat) = b[i] := by simp [rd, List.getD_eq_getElem?_getD, hi2]
    rw [e1, e2]
    by_cases he : a[i] = b[i]
    · rw [if_pos he, show wrap64 ((i : Int) + 1) = ((i + 1 : Nat) : Int) by unfold wrap64; omega]
      refine sameI_l0 a b hl hm d (i + 1) k (by omega) (by omega) ?_
      rw [List.take_succ_eq_append_getElem hi, List.take_succ_eq_append_getElem hi2, h3, he]
    · rw [if_neg he]
      have : a ≠ b := by
        rintro rfl
        exact he rfl
      simp [this]
theorem sameI_f (a b : List Int) (hm : a.length ≤ 9223372036854775807) : PInflateTables.etuiref00_SameInts.f (a.length + 1) a b = some (decide (a = b)) := by
  unfold PInflateTables.etuiref00_SameInts.f
  by_cases h : a.length = b.length
  · rw [if_pos (by omega)]
    exact sameI_l0 a b h hm a.length 0 _ (by omega) (by omega) (by simp)
  · rw [if_neg (by omega)]
    have : a ≠ b := fun e => h (by rw [e])
    simp [this]
theorem sameI_any (A0 A1 : Option Addr) (c0 c1 : Nat) (a b : List Int) (w : World) (h0 : (Kd.int .i64).C w A0 a.length a) (g0 : a.length ≤ c0) (h1 : (Kd.int .i64).C w A1 b.length b) (g1 : b.length ≤ c1) :
    Calls Try.prog 20 #[.slice A0 a.length c0, .slice A1 b.length c1] w fun e w' => e = .returned (.bool (decide (a = b))) ∧ Kp [] w w' := by
  refine (PInflateTables.etuiref00_SameInts.calls _ A0 c0 a A1 c1 b _ w h0 g0 h1 g1 (sameI_f a b h0.2.1)).mono ?_
  rintro e w' ⟨rfl, hd⟩
  exact ⟨rfl, kp_drawn hd⟩

theorem refLen_f (s : Int) : PInflateTables.etuiref06_Length.f 5 s = some (((lengthM s.toNat).1 : Int), ((lengthM s.toNat).2.1 : Int), (lengthM s.toNat).2.2) := by
  by_cases h : 257 ≤ s ∧ s ≤ 285
  · have hs : s = 257 ∨ s = 258 ∨ s = 259 ∨ s = 260 ∨ s = 261 ∨ s = 262 ∨ s = 263 ∨ s = 264 ∨ s = 265 ∨ s = 266 ∨ s = 267 ∨ s = 268 ∨ s = 269 ∨ s = 270 ∨ s = 271 ∨ s = 272 ∨ s = 273 ∨ s = 274 ∨ s = 275 ∨ s = 276 ∨ s = 277 ∨ s = 278 ∨ s = 279 ∨ s = 280 ∨ s = 281 ∨ s = 282 ∨ s = 283 ∨ s = 284 ∨ s = 285 := by omega
    clear h
    rcases hs with rfl | rfl | rfl | rfl | rfl | rfl | rfl | rfl | rfl | rfl | rfl | rfl | rfl | rfl | rfl | rfl | rfl | rfl | rfl | rfl | rfl | rfl | rfl | rfl | rfl | rfl | rfl | rfl | rfl
    all_goals decide +kernel
  · have e : lengthM s.toNat = (0, 0, false) := by unfold lengthM; rw [if_pos (by omega)]
    rw [e]
    unfold PInflateTables.etuiref06_Length.f
    by_cases h1 : s < 257
    · rw [if_pos h1]; rfl
    · rw [if_neg h1, decide_eq_true (by omega)]; rfl
theorem refDist_f (s : Int) (h0 : 0 ≤ s) : PInflateTables.etuiref06_Distance.f 5 s = some (((distanceM s.toNat).1 : Int), ((distanceM s.toNat).2.1 : Int), (distanceM s.toNat).2.2) := by
  by_cases h : s ≤ 29
  · have hs : s = 0 ∨ s = 1 ∨ s = 2 ∨ s = 3 ∨ s = 4 ∨ s = 5 ∨ s = 6 ∨ s = 7 ∨ s = 8 ∨ s = 9 ∨ s = 10 ∨ s = 11 ∨ s = 12 ∨ s = 13 ∨ s = 14 ∨ s = 15 ∨ s = 16 ∨ s = 17 ∨ s = 18 ∨ s = 19 ∨ s = 20 ∨ s = 21 ∨ s = 22 ∨ s = 23 ∨ s = 24 ∨ s = 25 ∨ s = 26 ∨ s = 27 ∨ s = 28 ∨ s = 29 := by omega
    clear h h0
    rcases hs with rfl | rfl | rfl | rfl | rfl | rfl | rfl | rfl | rfl | rfl | rfl | rfl | rfl | rfl | rfl | rfl | rfl | rfl | rfl | rfl | rfl | rfl | rfl | rfl | rfl | rfl | rfl | rfl | rfl | rfl
    all_goals decide +kernel
  · have e : distanceM s.toNat = (0, 0, false) := by unfold distanceM; rw [if_pos (by omega)]
    rw [e]
    unfold PInflateTables.etuiref06_Distance.f
    rw [if_neg (by omega), decide_eq_true (by omega)]; rfl
theorem refDist_neg (s : Int) (h0 : s < 0) : PInflateTables.etuiref06_Distance.f 5 s = some (0, 0, false) := by
  unfold PInflateTables.etuiref06_Distance.f
  rw [if_pos h0]; rfl
theorem refFix_f : PInflateTables.etuiref06_Fixed.f 700 = some (fixF.map Int.ofNat, fixS.map Int.ofNat) := by kernel_rfl
theorem distances (s : Int) : ∃ t : Nat × Nat × Bool, (∀ w, Calls Try.prog 16 #[.int .i64 s] w fun e w' => e = .returned (trip t) ∧ w = w') ∧ PInflateTables.etuiref06_Distance.f 5 s = some ((t.1 : Int), (t.2.1 : Int), t.2.2) := by
  by_cases h : 0 ≤ s
  · refine ⟨distanceM s.toNat, fun w => ?_, refDist_f s h⟩
    by_cases h2 : s ≤ 29
    · exact distance_in s w h h2
    · have e : distanceM s.toNat = (0, 0, false) := by unfold distanceM; rw [if_pos (by omega)]
      rw [e]
      exact distance_none s w (by omega)
  · exact ⟨(0, 0, false), fun w => distance_none s w (by omega), refDist_neg s (by omega)⟩

set_option maxHeartbeats 8000000 in
set_option maxRecDepth 100000 in
theorem tables_any (s : Int) (w : World) : Calls Try.prog 4 #[.int .i64 s] w fun e w' => e = .returned (.bool true) ∧ Below w.heap.size w w' := by
  obtain ⟨⟨l1, l2, l3⟩, hl⟩ : ∃ t, lengthM s.toNat = t := ⟨_, rfl⟩
  obtain ⟨⟨d1, d2, d3⟩, hD, hd⟩ := distances s
  have hL := fun w => length_all s w
  have hRL := fun w => PInflateTables.etuiref06_Length.calls 5 s _ _ _ w (refLen_f s)
  have hRD := fun w => PInflateTables.etuiref06_Distance.calls 5 s _ _ _ w hd
  rw [hl] at hL hRL
  have HL := Lib.hid hL
  have HRL := Lib.hid hRL
  have HD := Lib.hid hD
  have HRD := Lib.hid hRD
  clear hl hd hL hRL hD hRD
  go_enter Try.func4, Try.ntmps4
  go_wp2_with fail
  refine (alive_any w).mono ?_
  rintro e w1 ⟨rfl, k1⟩
  go_wp2_with fail
  refine (HL.out w1).mono ?_
  rintro e w' ⟨rfl, rfl⟩
  go_wp2_with fail
  refine (HRL.out w1).mono ?_
  rintro e w2 ⟨rfl, k2⟩
  replace k1 := k1.then_ (kp_drawn k2)
  clear k2
  go_wp2_with fail
  refine (HD.out w2).mono ?_
  rintro e w' ⟨rfl, rfl⟩
  go_wp2_with fail
  refine (HRD.out w2).mono ?_
  rintro e w3 ⟨rfl, k2⟩
  replace k1 := k1.then_ (kp_drawn k2)
  clear k2
  go_wp2_with fail
  refine (fixed_any w3).mono ?_
  rintro e w4 ⟨v1, v2, rfl, o1, o2, k2, -, -⟩
  replace k1 := k1.then_ k2
  obtain ⟨A1, c1, rfl, hc1, hC1⟩ := own_C o1
  obtain ⟨A2, c2, rfl, hc2, hC2⟩ := own_C o2
  have e1 : (fixF.map Int.ofNat).length = 288 := by rw [List.length_map, fixF_len]
  have e2 : (fixS.map Int.ofNat).length = 32 := by rw [List.length_map, fixS_len]
  rw [e1, e2]
  clear k2 o1 o2
  go_wp2_with fail
  refine (PInflateTables.etuiref06_Fixed.calls 700 _ _ w4 refFix_f).mono ?_
  rintro e w5 ⟨v3, v4, rfl, r3, r4, hb⟩
  obtain ⟨A3, c3, rfl, hc3, hC3⟩ := Kd.R_reads r3
  obtain ⟨A4, c4, rfl, hc4, hC4⟩ := Kd.R_reads r4
  have k2 := Kp.of_below hb
  replace k1 := k1.then_ k2
  replace hC1 := C_kp hC1 k2 (by simp)
  replace hC2 := C_kp hC2 k2 (by simp)
  have S1 := fun w h0 h1 => sameI_any A1 A3 c1 c3 _ _ w h0 hc1 h1 hc3
  have S2 := fun w h0 h1 => sameI_any A2 A4 c2 c4 _ _ w h0 hc2 h1 hc4
  rw [e1] at S1 hc1 hc3 ⊢
  rw [e2] at S2 hc2 hc4 ⊢
  have HS1 := Lib.hid S1
  have HS2 := Lib.hid S2
  have H1 := Lib.hid hC1
  have H2 := Lib.hid hC2
  have H3 := Lib.hid hC3
  have H4 := Lib.hid hC4
  clear r3 r4 hb k2 S1 S2 hC1 hC2 hC3 hC4
  have Q1 := HS1.out w5 (by rw [← e1]; exact H1.out) (by rw [← e1]; exact H3.out)
  have HQ1 := Lib.hid Q1
  clear Q1
  go_wp2_with fail
  refine HQ1.out.mono ?_
  rintro e w6 ⟨rfl, k2⟩
  have Q2 := HS2.out w6 (by rw [← e2]; exact C_kp H2.out k2 (by simp)) (by rw [← e2]; exact C_kp H4.out k2 (by simp))
  replace k1 := k1.then_ k2
  have HQ2 := Lib.hid Q2
  clear Q2 k2
  go_wp2_with fail
  refine HQ2.out.mono ?_
  rintro e w7 ⟨rfl, k2⟩
  replace k1 := k1.then_ k2
  clear k2
  go_wp2_with fail
  go_ret
  exact ⟨by simp, k1.below⟩
theorem tables_walk (a0 : Int) (w : World) (_ : (Lit.int .i64 a0).wf = true) : Calls Try.prog 4 #[.int .i64 a0] w fun e w' => e = .returned (.bool true) ∧ Below w.heap.size w w' := tables_any a0 w
end Go.Proofs.Ytoaebpjjfglnnaa
