/- Bytes and a length that goes back, by the fixed codes: what is asked first; the law's walk, whole. -/
import Derived.Test.YtoaebpjjfglnnaaF4
set_option linter.unusedVariables false
set_option linter.unusedSimpArgs false
namespace Go.Proofs.Ytoaebpjjfglnnaa
open Go.RowKit Go.Proofs.YtoaebpjjfglnnaaW.PrintWords Go.Proofs.YtoaebpjjfglnnaaW.PrintLast Go.Proofs.YtoaebpjjfglnnaaW.PrintMore
attribute [local go_sem] max2_int min2_int max_two min_two max_three min_three max_four min_four

abbrev LenC (sym : Int) (t : Nat × Nat × Bool) : Prop := ∀ w : World, Calls Try.prog 14 #[.int .i64 sym] w fun e w' => e = .returned (trip t) ∧ w = w'
abbrev DistC (far : Int) (t : Nat × Nat × Bool) : Prop := ∀ w : World, Calls Try.prog 16 #[.int .i64 far] w fun e w' => e = .returned (trip t) ∧ w = w'
set_option maxHeartbeats 4000000 in
set_option maxRecDepth 100000 in
theorem fixed_o0 (A : Option Addr) (n c : Nat) (sym extra far more : Int) (base nn dist m : Nat) (w : World) (P1 P2 : Nat) (o s : Bool) (hnn : nn ≤ 5) (hmm : m ≤ 13) (H1 : Hid (LenC sym (base, nn, o))) (H2 : Hid (DistC far (dist, m, s))) (q1 : decide ((600 : Int) < (n : Int)) = true) (hp1 : IntKind.i64.wrap (2 ^ nn) = (P1 : Int)) (hp2 : IntKind.i64.wrap (2 ^ m) = (P2 : Int)) (hP1 : wrap64 (2 ^ nn) = (P1 : Int)) (hP2 : wrap64 (2 ^ m) = (P2 : Int)) :
    Calls Try.prog 9 #[.slice A n c, .int .i64 sym, .int .i64 extra, .int .i64 far, .int .i64 more] w fun e w' => e = .returned (.bool true) ∧ Below w.heap.size w w' := by
  go_enter Try.func9, Try.ntmps9
  go_wp2_with fail
  refine (alive_any w).mono ?_
  rintro e w1 ⟨rfl, k1⟩
  go_wp2_with fail
  refine (H1.out w1).mono ?_
  rintro e w' ⟨rfl, rfl⟩
  go_wp2_with fail
  refine (H2.out w1).mono ?_
  rintro e w' ⟨rfl, rfl⟩
  go_wp2_with fail
  go_ret
  exact ⟨rfl, k1.below⟩
set_option maxHeartbeats 4000000 in
set_option maxRecDepth 100000 in
theorem fixed_o1 (A : Option Addr) (n c : Nat) (sym extra far more : Int) (base nn dist m : Nat) (w : World) (P1 P2 : Nat) (o s : Bool) (hnn : nn ≤ 5) (hmm : m ≤ 13) (H1 : Hid (LenC sym (base, nn, false))) (H2 : Hid (DistC far (dist, m, s))) (q1 : decide ((600 : Int) < (n : Int)) = false) (hp1 : IntKind.i64.wrap (2 ^ nn) = (P1 : Int)) (hp2 : IntKind.i64.wrap (2 ^ m) = (P2 : Int)) (hP1 : wrap64 (2 ^ nn) = (P1 : Int)) (hP2 : wrap64 (2 ^ m) = (P2 : Int)) :
    Calls Try.prog 9 #[.slice A n c, .int .i64 sym, .int .i64 extra, .int .i64 far, .int .i64 more] w fun e w' => e = .returned (.bool true) ∧ Below w.heap.size w w' := by
  go_enter Try.func9, Try.ntmps9
  go_wp2_with fail
  refine (alive_any w).mono ?_
  rintro e w1 ⟨rfl, k1⟩
  go_wp2_with fail
  refine (H1.out w1).mono ?_
  rintro e w' ⟨rfl, rfl⟩
  go_wp2_with fail
  refine (H2.out w1).mono ?_
  rintro e w' ⟨rfl, rfl⟩
  go_wp2_with fail
  go_ret
  exact ⟨rfl, k1.below⟩
set_option maxHeartbeats 4000000 in
set_option maxRecDepth 100000 in
theorem fixed_o2 (A : Option Addr) (n c : Nat) (sym extra far more : Int) (base nn dist m : Nat) (w : World) (P1 P2 : Nat) (o s : Bool) (hnn : nn ≤ 5) (hmm : m ≤ 13) (H1 : Hid (LenC sym (base, nn, true))) (H2 : Hid (DistC far (dist, m, false))) (q1 : decide ((600 : Int) < (n : Int)) = false) (hp1 : IntKind.i64.wrap (2 ^ nn) = (P1 : Int)) (hp2 : IntKind.i64.wrap (2 ^ m) = (P2 : Int)) (hP1 : wrap64 (2 ^ nn) = (P1 : Int)) (hP2 : wrap64 (2 ^ m) = (P2 : Int)) :
    Calls Try.prog 9 #[.slice A n c, .int .i64 sym, .int .i64 extra, .int .i64 far, .int .i64 more] w fun e w' => e = .returned (.bool true) ∧ Below w.heap.size w w' := by
  go_enter Try.func9, Try.ntmps9
  go_wp2_with fail
  refine (alive_any w).mono ?_
  rintro e w1 ⟨rfl, k1⟩
  go_wp2_with fail
  refine (H1.out w1).mono ?_
  rintro e w' ⟨rfl, rfl⟩
  go_wp2_with fail
  refine (H2.out w1).mono ?_
  rintro e w' ⟨rfl, rfl⟩
  go_wp2_with fail
  go_ret
  exact ⟨rfl, k1.below⟩
set_option maxHeartbeats 4000000 in
set_option maxRecDepth 100000 in
theorem fixed_o3 (A : Option Addr) (n c : Nat) (sym extra far more : Int) (base nn dist m : Nat) (w : World) (P1 P2 : Nat) (o s : Bool) (hnn : nn ≤ 5) (hmm : m ≤ 13) (H1 : Hid (LenC sym (base, nn, true))) (H2 : Hid (DistC far (dist, m, true))) (q1 : decide ((600 : Int) < (n : Int)) = false) (q2 : decide (extra < 0) = true) (hp1 : IntKind.i64.wrap (2 ^ nn) = (P1 : Int)) (hp2 : IntKind.i64.wrap (2 ^ m) = (P2 : Int)) (hP1 : wrap64 (2 ^ nn) = (P1 : Int)) (hP2 : wrap64 (2 ^ m) = (P2 : Int)) :
    Calls Try.prog 9 #[.slice A n c, .int .i64 sym, .int .i64 extra, .int .i64 far, .int .i64 more] w fun e w' => e = .returned (.bool true) ∧ Below w.heap.size w w' := by
  go_enter Try.func9, Try.ntmps9
  go_wp2_with fail
  refine (alive_any w).mono ?_
  rintro e w1 ⟨rfl, k1⟩
  go_wp2_with fail
  refine (H1.out w1).mono ?_
  rintro e w' ⟨rfl, rfl⟩
  go_wp2_with fail
  refine (H2.out w1).mono ?_
  rintro e w' ⟨rfl, rfl⟩
  go_wp2_with fail
  go_ret
  exact ⟨rfl, k1.below⟩
set_option maxHeartbeats 4000000 in
set_option maxRecDepth 100000 in
theorem fixed_o4 (A : Option Addr) (n c : Nat) (sym extra far more : Int) (base nn dist m : Nat) (w : World) (P1 P2 : Nat) (o s : Bool) (hnn : nn ≤ 5) (hmm : m ≤ 13) (H1 : Hid (LenC sym (base, nn, true))) (H2 : Hid (DistC far (dist, m, true))) (q1 : decide ((600 : Int) < (n : Int)) = false) (q2 : decide (extra < 0) = false) (q3 : decide (more < 0) = true) (hp1 : IntKind.i64.wrap (2 ^ nn) = (P1 : Int)) (hp2 : IntKind.i64.wrap (2 ^ m) = (P2 : Int)) (hP1 : wrap64 (2 ^ nn) = (P1 : Int)) (hP2 : wrap64 (2 ^ m) = (P2 : Int)) :
    Calls Try.prog 9 #[.slice A n c, .int .i64 sym, .int .i64 extra, .int .i64 far, .int .i64 more] w fun e w' => e = .returned (.bool true) ∧ Below w.heap.size w w' := by
  go_enter Try.func9, Try.ntmps9
  go_wp2_with fail
  refine (alive_any w).mono ?_
  rintro e w1 ⟨rfl, k1⟩
  go_wp2_with fail
  refine (H1.out w1).mono ?_
  rintro e w' ⟨rfl, rfl⟩
  go_wp2_with fail
  refine (H2.out w1).mono ?_
  rintro e w' ⟨rfl, rfl⟩
  go_wp2_with fail
  go_ret
  exact ⟨rfl, k1.below⟩
set_option maxHeartbeats 4000000 in
set_option maxRecDepth 100000 in
theorem fixed_o5 (A : Option Addr) (n c : Nat) (sym extra far more : Int) (base nn dist m : Nat) (w : World) (P1 P2 : Nat) (o s : Bool) (hnn : nn ≤ 5) (hmm : m ≤ 13) (H1 : Hid (LenC sym (base, nn, true))) (H2 : Hid (DistC far (dist, m, true))) (q1 : decide ((600 : Int) < (n : Int)) = false) (q2 : decide (extra < 0) = false) (q3 : decide (more < 0) = false) (q4 : decide ((P1 : Int) ≤ extra) = true) (hp1 : IntKind.i64.wrap (2 ^ nn) = (P1 : Int)) (hp2 : IntKind.i64.wrap (2 ^ m) = (P2 : Int)) (hP1 : wrap64 (2 ^ nn) = (P1 : Int)) (hP2 : wrap64 (2 ^ m) = (P2 : Int)) :
    Calls Try.prog 9 #[.slice A n c, .int .i64 sym, .int .i64 extra, .int .i64 far, .int .i64 more] w fun e w' => e = .returned (.bool true) ∧ Below w.heap.size w w' := by
  go_enter Try.func9, Try.ntmps9
  go_wp2_with fail
  refine (alive_any w).mono ?_
  rintro e w1 ⟨rfl, k1⟩
  go_wp2_with fail
  refine (H1.out w1).mono ?_
  rintro e w' ⟨rfl, rfl⟩
  go_wp2_with fail
  refine (H2.out w1).mono ?_
  rintro e w' ⟨rfl, rfl⟩
  go_wp2_with fail
  go_ret
  exact ⟨rfl, k1.below⟩
set_option maxHeartbeats 4000000 in
set_option maxRecDepth 100000 in
theorem fixed_o6 (A : Option Addr) (n c : Nat) (sym extra far more : Int) (base nn dist m : Nat) (w : World) (P1 P2 : Nat) (o s : Bool) (hnn : nn ≤ 5) (hmm : m ≤ 13) (H1 : Hid (LenC sym (base, nn, true))) (H2 : Hid (DistC far (dist, m, true))) (q1 : decide ((600 : Int) < (n : Int)) = false) (q2 : decide (extra < 0) = false) (q3 : decide (more < 0) = false) (q4 : decide ((P1 : Int) ≤ extra) = false) (q5 : decide ((P2 : Int) ≤ more) = true) (hp1 : IntKind.i64.wrap (2 ^ nn) = (P1 : Int)) (hp2 : IntKind.i64.wrap (2 ^ m) = (P2 : Int)) (hP1 : wrap64 (2 ^ nn) = (P1 : Int)) (hP2 : wrap64 (2 ^ m) = (P2 : Int)) :
    Calls Try.prog 9 #[.slice A n c, .int .i64 sym, .int .i64 extra, .int .i64 far, .int .i64 more] w fun e w' => e = .returned (.bool true) ∧ Below w.heap.size w w' := by
  go_enter Try.func9, Try.ntmps9
  go_wp2_with fail
  refine (alive_any w).mono ?_
  rintro e w1 ⟨rfl, k1⟩
  go_wp2_with fail
  refine (H1.out w1).mono ?_
  rintro e w' ⟨rfl, rfl⟩
  go_wp2_with fail
  refine (H2.out w1).mono ?_
  rintro e w' ⟨rfl, rfl⟩
  go_wp2_with fail
  go_ret
  exact ⟨rfl, k1.below⟩
end Go.Proofs.Ytoaebpjjfglnnaa
