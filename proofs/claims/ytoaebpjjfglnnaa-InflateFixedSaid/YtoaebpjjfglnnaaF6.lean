/- Bytes and a length that goes back, by the fixed codes: the law's walk, whole. -/
import Derived.Test.YtoaebpjjfglnnaaF5
set_option linter.unusedVariables false
set_option linter.unusedSimpArgs false
namespace Go.Proofs.Ytoaebpjjfglnnaa
open Go.RowKit Go.Proofs.YtoaebpjjfglnnaaW.PrintWords Go.Proofs.YtoaebpjjfglnnaaW.PrintLast Go.Proofs.YtoaebpjjfglnnaaW.PrintMore

theorem wrap_pow {n x : Nat} (hx : 2 ^ n = x) (h : x ≤ 8192) : wrap64 (2 ^ n) = (x : Int) := by
  rw [show (2 : Int) ^ n = ((2 ^ n : Nat) : Int) by simp, hx]; unfold wrap64; omega
theorem len_ok {k : Nat} (h : (lengthM k).2.2 = true) : 257 ≤ k ∧ k ≤ 285 := by
  unfold lengthM at h
  split at h
  · cases h
  · omega
theorem dist_ok {k : Nat} (h : (distanceM k).2.2 = true) : k ≤ 29 := by
  unfold distanceM at h
  split at h
  · cases h
  · omega
theorem fixed_walk (A : Option Addr) (n c : Nat) (zs : List Int) (sym extra far more : Int) (w : World) (h0 : IsRow .u8 w A n c zs) (y0 : n * 1 ≤ 140737488351232) (_ : (Lit.int .i64 sym).wf = true) (_ : (Lit.int .i64 extra).wf = true) (_ : (Lit.int .i64 far).wf = true) (_ : (Lit.int .i64 more).wf = true) :
    Calls Try.prog 9 #[.slice A n c, .int .i64 sym, .int .i64 extra, .int .i64 far, .int .i64 more] w fun e w' => e = .returned (.bool true) ∧ Below w.heap.size w w' := by
  obtain ⟨xs, hxn, hC, hby, hc⟩ := row_in h0
  obtain ⟨base, nn, o, hl⟩ : ∃ base nn o, lengthM sym.toNat = (base, nn, o) := ⟨_, _, _, rfl⟩
  obtain ⟨dist, m, s, hD, hdm, hds⟩ : ∃ dist m s, DistC far (dist, m, s) ∧ m ≤ 13 ∧ (s = true → 0 ≤ far ∧ far ≤ 29 ∧ distanceM far.toNat = (dist, m, true)) := by
    by_cases h : 0 ≤ far
    · refine ⟨(distanceM far.toNat).1, (distanceM far.toNat).2.1, (distanceM far.toNat).2.2, fun w => ?_, (distance_bd _).2, fun hs => ?_⟩
      · have := distance_nat far.toNat w
        rw [show ((far.toNat : Nat) : Int) = far by omega] at this
        exact this
      · have := dist_ok hs
        exact ⟨h, by omega, by rw [← hs]⟩
    · exact ⟨0, 0, false, fun w => distance_none far w (by omega), by decide, fun h => by cases h⟩
  have hL : LenC sym (base, nn, o) := fun w => by have := length_all sym w; rw [hl] at this; exact this
  have hnn : nn ≤ 5 := by have := (length_bd sym.toNat).2; rw [hl] at this; exact this
  have h32 : 2 ^ nn ≤ 2 ^ 5 := Nat.pow_le_pow_right (by decide) hnn
  have h32m : 2 ^ m ≤ 2 ^ 13 := Nat.pow_le_pow_right (by decide) hdm
  obtain ⟨P1, hP1e⟩ : ∃ P, 2 ^ nn = P := ⟨_, rfl⟩
  obtain ⟨P2, hP2e⟩ : ∃ P, 2 ^ m = P := ⟨_, rfl⟩
  rw [hP1e] at h32
  rw [hP2e] at h32m
  have hP1 := wrap_pow hP1e (by omega)
  have hP2 := wrap_pow hP2e (by omega)
  have hp1 : IntKind.i64.wrap (2 ^ nn) = (P1 : Int) := by rw [i64_w]; exact hP1
  have hp2 : IntKind.i64.wrap (2 ^ m) = (P2 : Int) := by rw [i64_w]; exact hP2
  by_cases c1 : 600 < n
  · exact fixed_o0 A n c sym extra far more base nn dist m w P1 P2 o s hnn hdm hL hD (decide_eq_true (by omega)) hp1 hp2 hP1 hP2
  have e1 : decide ((600 : Int) < (n : Int)) = false := decide_eq_false (by omega)
  cases o with
  | false => exact fixed_o1 A n c sym extra far more base nn dist m w P1 P2 false s hnn hdm hL hD e1 hp1 hp2 hP1 hP2
  | true =>
    cases s with
    | false => exact fixed_o2 A n c sym extra far more base nn dist m w P1 P2 true false hnn hdm hL hD e1 hp1 hp2 hP1 hP2
    | true =>
      by_cases c2 : extra < 0
      · exact fixed_o3 A n c sym extra far more base nn dist m w P1 P2 true true hnn hdm hL hD e1 (decide_eq_true c2) hp1 hp2 hP1 hP2
      have e2 := decide_eq_false c2
      by_cases c3 : more < 0
      · exact fixed_o4 A n c sym extra far more base nn dist m w P1 P2 true true hnn hdm hL hD e1 e2 (decide_eq_true c3) hp1 hp2 hP1 hP2
      have e3 := decide_eq_false c3
      by_cases c4 : (P1 : Int) ≤ extra
      · exact fixed_o5 A n c sym extra far more base nn dist m w P1 P2 true true hnn hdm hL hD e1 e2 e3 (decide_eq_true c4) hp1 hp2 hP1 hP2
      have e4 := decide_eq_false c4
      by_cases c5 : (P2 : Int) ≤ more
      · exact fixed_o6 A n c sym extra far more base nn dist m w P1 P2 true true hnn hdm hL hD e1 e2 e3 e4 (decide_eq_true c5) hp1 hp2 hP1 hP2
      have hok := len_ok (k := sym.toNat) (by rw [hl])
      obtain ⟨f0, f1, f2⟩ := hds rfl
      obtain ⟨sy, rfl⟩ : ∃ k : Nat, sym = k := ⟨sym.toNat, by omega⟩
      obtain ⟨fa, rfl⟩ : ∃ k : Nat, far = k := ⟨far.toNat, by omega⟩
      obtain ⟨ex, rfl⟩ : ∃ k : Nat, extra = k := ⟨extra.toNat, by omega⟩
      obtain ⟨mo, rfl⟩ : ∃ k : Nat, more = k := ⟨more.toNat, by omega⟩
      rw [Int.toNat_natCast] at hok hl f2
      have hf29 : fa ≤ 29 := by have := f1; omega
      have hex : ex < 2 ^ nn := by rw [hP1e]; exact Int.ofNat_lt.1 (Int.not_le.1 c4)
      have hmo : mo < 2 ^ m := by rw [hP2e]; exact Int.ofNat_lt.1 (Int.not_le.1 c5)
      clear hP1 hP2 hp1 hp2 e1 e2 e3 e4 c2 c3 c4 c5 hL hD hds
      exact fixed_in A n c xs sy ex fa mo base nn dist m w hxn hC hc hby (Nat.not_lt.1 c1) hok.1 hok.2 hl hf29 f2 hex hmo
end Go.Proofs.Ytoaebpjjfglnnaa
