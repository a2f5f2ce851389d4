/- CopyBytes; what a call of Inflate tells, of bytes and a limit that come in. -/
import Derived.Test.YtoaebpjjfglnnaaS1
set_option linter.unusedVariables false
set_option linter.unusedSimpArgs false
namespace Go.Proofs.Ytoaebpjjfglnnaa
open Go.RowKit Go.Proofs.YtoaebpjjfglnnaaW.PrintWords Go.Proofs.YtoaebpjjfglnnaaW.PrintLast Go.Proofs.YtoaebpjjfglnnaaW.PrintMore
attribute [local go_sem] max2_int min2_int max_two min_two max_three min_three max_four min_four

theorem copyBytes_any (A : Option Addr) (n c : Nat) (xs : List Int) (w : World) (hC : (Kd.int .u8).C w A n xs) (hn : n ≤ 140737488351232) :
    Calls Try.prog 11 #[.slice A n c] w fun e w' => ∃ v, e = .returned v ∧ Own .u8 5 w' v xs ∧ Kp [] w w' ∧ (∀ g, v.ownBlock = some g → w.heap.size ≤ g) := by
  obtain rfl : xs.length = n := hC.1
  have HC := Lib.hid hC
  clear hC
  have HO : Own .u8 5 (w.alloc (.cells #[] 5)) (.slice (some ⟨w.heap.size, 0, none⟩) 0 0) [] := World.ownsRow_made w #[] 0 (Nat.zero_le _) (by simp [maxLen]) rfl
  go_enter Try.func11, Try.ntmps11
  go_wp2_with (at_builtin; refine print_append_row 0 rfl (.tmp 5) (.tmp 6) 22 5 .u8 1 rfl Try.underlying22 info5 (by decide) (.slice (some ⟨w.heap.size, 0, none⟩) 0 0) [] xs A xs.length c rfl rfl HO (Kd.reads_of_C (C_kp HC.out ((Kp.refl [] w).alloc _) (by simp))) (Below.refl 0 _) (Nat.zero_le _) (by simp; omega) ?_; intro v1 w1 hown _ hg hat)
  go_ret
  refine ⟨v1, rfl, hown, ((Kp.refl [] w).alloc (.cells #[] 5)).grown hg (by simp [Value.ownBlock]), ?_⟩
  intro g hv
  rcases hat with e | ⟨b, e, hb⟩
  · rw [hv] at e
    simp [Value.ownBlock] at e
    omega
  · rw [hv] at e
    cases e
    simp at hb
    omega
theorem alike_take {xs : List Int} (h : Bytes xs) (u l1 l2 : Nat) : Alike ⟨xs, l1⟩ ⟨xs.take u, l2⟩ := by
  refine ⟨h, h.take u, fun k h1 h2 => ?_⟩
  simp only [List.length_take] at h1 h2 ⊢
  rw [List.take_take, Nat.min_eq_left (by omega)]
theorem alike_lim {xs : List Int} (h : Bytes xs) (l1 l2 : Nat) : Alike ⟨xs, l1⟩ ⟨xs, l2⟩ := ⟨h, h, fun k h1 h2 => rfl⟩
theorem alike_app {xs ys : List Int} (h : Bytes xs) (hy : Bytes ys) (l1 l2 : Nat) : Alike ⟨xs, l1⟩ ⟨xs ++ ys, l2⟩ := by
  refine ⟨h, h.append hy, fun k h1 h2 => ?_⟩
  simp only at h1 ⊢
  rw [List.take_append_of_le_length h1]
/-- Unpacked bytes stay the same without what is behind them, and with other bytes there. -/
theorem inf_cut {xs : List Int} {lim : Nat} {s : IS} (h : Bytes xs) (hr : infM ⟨xs, lim⟩ = .ok s) (hat : s.at_ ≤ 8 * xs.length) (hl : s.out.length ≤ lim) : infM ⟨xs.take ((s.at_ + 7) / 8), lim⟩ = .ok s :=
  (inf_sim (alike_take h _ lim lim) hr).1 (by unfold IE.T; simp only [List.length_take]; omega) hl
theorem inf_more {xs ys : List Int} {lim : Nat} {s : IS} (h : Bytes xs) (hy : Bytes ys) (hr : infM ⟨xs, lim⟩ = .ok s) (hat : s.at_ ≤ 8 * xs.length) (hl : s.out.length ≤ lim) : infM ⟨xs.take ((s.at_ + 7) / 8) ++ ys, lim⟩ = .ok s :=
  (inf_sim (alike_app (h.take _) hy lim lim) (inf_cut h hr hat hl)).1 (by unfold IE.T; simp only [List.length_append, List.length_take]; omega) hl
theorem inf_short {xs : List Int} {lim : Nat} {s : IS} (h : Bytes xs) (hr : infM ⟨xs, lim⟩ = .ok s) (hl : s.out.length ≤ lim) (k : Nat) (hk : k < (s.at_ + 7) / 8) : infM ⟨xs.take k, lim⟩ = .error 15 :=
  (inf_sim (alike_take h k lim lim) hr).2.1 (by unfold IE.T; simp only [List.length_take]; omega) hl
/-- A call of Inflate, by what it comes to. -/
theorem inf_ok {xs : List Int} {lim : Nat} {s : IS} (A : Option Addr) (n c : Nat) (w : World) (hr : infM ⟨xs, lim⟩ = .ok s) (hC : (Kd.int .u8).C w A n xs) (hby : Bytes xs) (hn : n ≤ 1099511627776) (hl : lim ≤ 1099511627776) {m u st bl : Nat} (hm : s.out.length = m) (hu : (s.at_ + 7) / 8 = u) (hst : s.steps = st) (hbl : s.blocks = bl) :
    Calls Try.prog 21 #[.slice A n c, .int .i64 lim] w fun e w' => ∃ A' c', e = .returned (.tuple #[.agg #[.slice A' m c', .int .i64 u, .int .i64 st, .int .i64 bl], .int .i64 0]) ∧ m ≤ c' ∧ (Kd.int .u8).C w' A' m s.out ∧ Kp [] w w' ∧ s.Ok ⟨xs, lim⟩ := by
  subst hm hu hst hbl
  have := inflate_any revR revC A n c xs lim w hC hby hn (by omega)
  rw [Int.toNat_natCast] at this
  refine this.mono ?_
  intro e w' hp
  obtain ⟨k2, A2, c2, rfl, hc2, hC2, -, hok⟩ := hp.okC hr
  exact ⟨A2, c2, rfl, hc2, hC2, k2, hok⟩
theorem inf_bad {xs : List Int} {lim : Nat} {k : Nat} (A : Option Addr) (n c : Nat) (w : World) (hr : infM ⟨xs, lim⟩ = .error k) (hC : (Kd.int .u8).C w A n xs) (hby : Bytes xs) (hn : n ≤ 1099511627776) (hl : lim ≤ 1099511627776) :
    Calls Try.prog 21 #[.slice A n c, .int .i64 lim] w fun e w' => e = .returned (.tuple #[.agg #[.slice none 0 0, .int .i64 0, .int .i64 0, .int .i64 0], .int .i64 k]) ∧ Kp [] w w' := by
  have := inflate_any revR revC A n c xs lim w hC hby hn (by omega)
  rw [Int.toNat_natCast] at this
  refine this.mono ?_
  intro e w' hp
  obtain ⟨k2, rfl⟩ := hp.errC hr
  exact ⟨rfl, k2⟩
/-- The state of unpacked bytes is within its bounds: told by a run over bytes in memory. -/
def IsRow (k : IntKind) (w : World) (a : Option Addr) (len cap : Nat) (zs : List Int) : Prop :=
  (a = none ∧ len = 0 ∧ cap = 0 ∧ zs = []) ∨
  ∃ x, a = some x ∧ len ≤ cap ∧ cap ≤ maxLen ∧ zs.length = cap ∧ (∀ i, i < zs.length → w.cell? (x.add i) = some (.int k (zs.getD i 0))) ∧ ∀ n ∈ zs, (Lit.int k n).wf = true
theorem bytes_wf {l : List Int} (h : ∀ x ∈ l, (Lit.int .u8 x).wf = true) : Bytes l := by
  intro x hx
  have := h x hx
  simp [Lit.wf, IntKind.min, IntKind.max, IntKind.signed, IntKind.bits] at this
  omega
theorem row_in {w : World} {A : Option Addr} {n c : Nat} {zs : List Int} (h : IsRow .u8 w A n c zs) : ∃ xs : List Int, xs.length = n ∧ (Kd.int .u8).C w A n xs ∧ Bytes xs ∧ n ≤ c := by
  obtain ⟨l, rfl, hr, hm, hw, hc⟩ := ReadsInt.ofRowC h
  exact ⟨l, rfl, C_of_reads hr, bytes_wf hw, hc⟩
/-- InflateLimit: what is asked first. -/
theorem limit_out (A : Option Addr) (c : Nat) (xs : List Int) (limit : Int) (w : World) (hn : xs.length ≤ 140737488351232) (hg : 2000 < xs.length ∨ 1048576 < limit) :
    Calls Try.prog 5 #[.slice A xs.length c, .int .i64 limit] w fun e w' => e = .returned (.bool true) ∧ Below w.heap.size w w' := by
  by_cases h : 2000 < xs.length
  · have d : decide ((2000 : Int) < (xs.length : Int)) = true := decide_eq_true (by omega)
    clear hg
    go_enter Try.func5, Try.ntmps5
    go_wp2_with fail
    refine (alive_any w).mono ?_
    rintro e w1 ⟨rfl, k1⟩
    go_wp2_with fail
    go_ret
    exact ⟨rfl, k1.below⟩
  · have d : decide ((2000 : Int) < (xs.length : Int)) = false := decide_eq_false (by omega)
    have h2 : 1048576 < limit := by omega
    have d2 : decide ((1048576 : Int) < limit) = true := decide_eq_true (by omega)
    clear hg
    go_enter Try.func5, Try.ntmps5
    go_wp2_with fail
    refine (alive_any w).mono ?_
    rintro e w1 ⟨rfl, k1⟩
    go_wp2_with fail
    go_ret
    exact ⟨rfl, k1.below⟩
set_option maxHeartbeats 8000000 in
set_option maxRecDepth 100000 in
theorem limit_in (A : Option Addr) (c : Nat) (xs : List Int) (limit : Int) (w : World) (hC : (Kd.int .u8).C w A xs.length xs) (hc : xs.length ≤ c) (hby : Bytes xs) (hn : xs.length ≤ 2000) (hl : limit ≤ 1048576) :
    Calls Try.prog 5 #[.slice A xs.length c, .int .i64 limit] w fun e w' => e = .returned (.bool true) ∧ Below w.heap.size w w' := by
  have HI : Hid (∀ w, (Kd.int .u8).C w A xs.length xs → Calls Try.prog 21 #[.slice A xs.length c, .int .i64 limit] w (InfPost ⟨xs, limit.toNat⟩ (infM ⟨xs, limit.toNat⟩) w)) := fun w h => inflate_any revR revC A _ c xs limit w h hby (by omega) (by omega)
  have d1 : decide ((2000 : Int) < (xs.length : Int)) = false := decide_eq_false (by omega)
  have d2 : decide ((1048576 : Int) < limit) = false := decide_eq_false (by omega)
  obtain ⟨lim, hlim⟩ : ∃ lim : Nat, limit.toNat = lim := ⟨_, rfl⟩
  have hll : lim ≤ 1048576 := by omega
  have hmx : (if limit < 0 then (0 : Int) else limit) = (lim : Int) := by split <;> omega
  rw [hlim] at HI
  have HC := Lib.hid hC
  have HBY := Lib.hid hby
  clear hlim hC hby
  obtain ⟨n, hn0⟩ : ∃ n, xs.length = n := ⟨_, rfl⟩
  rw [hn0] at hn hc d1 HI ⊢
  have HN := Lib.hid hn0
  clear hn0
  go_enter Try.func5, Try.ntmps5
  go_wp2_with fail
  refine (alive_any w).mono ?_
  rintro e w1 ⟨rfl, k1⟩
  go_wp2_with fail
  refine (HI.out w1 (C_kp (by rw [← HN.out]; exact HC.out) k1 (by simp))).mono ?_
  intro e w2 hp
  cases hr : infM ⟨xs, lim⟩ with
  | error k =>
    obtain ⟨k2, rfl⟩ := hp.errC hr
    have hk := inf_err hr
    clear hp hr
    rcases hk with rfl | rfl | rfl
    all_goals
      go_wp2_with fail
      go_ret
      exact ⟨rfl, ((k1.then_ k2).alloc _).below⟩
  | ok s =>
    obtain ⟨k2, A2, c2, rfl, hc2, hC2, -, hok⟩ := hp.okC hr
    obtain ⟨m, hm⟩ : ∃ m, s.out.length = m := ⟨_, rfl⟩
    obtain ⟨u, hu⟩ : ∃ u, (s.at_ + 7) / 8 = u := ⟨_, rfl⟩
    obtain ⟨st, hst⟩ : ∃ st, s.steps = st := ⟨_, rfl⟩
    obtain ⟨bl, hbl⟩ : ∃ bl, s.blocks = bl := ⟨_, rfl⟩
    have hat : s.at_ ≤ 8 * n := by have := hok.at_le; unfold IE.T at this; rw [← HN.out]; exact this
    have g1 : m ≤ lim := by rw [← hm]; exact hok.out_le
    have g2 : st ≤ 8 * n := by have := hok.steps_le; omega
    have g3 : bl ≤ 8 * n := by have := hok.blocks_le; omega
    have g4 : 1 ≤ bl := by rw [← hbl]; exact inf_blocks hr
    have g5 : u ≤ n := by omega
    have R1 : infM ⟨xs.take u, m⟩ = .ok s := (inf_sim (alike_take HBY.out u lim m) hr).1 (by unfold IE.T; simp only [List.length_take, HN.out]; omega) (by simp only; omega)
    have R2 : 1 ≤ m → infM ⟨xs, m - 1⟩ = .error 14 := fun h0 => (inf_sim (alike_lim HBY.out lim (m - 1)) hr).2.2 (by unfold IE.T; simp only [HN.out]; omega) (by simp only; omega)
    rw [hm, hu, hst, hbl]
    rw [hm] at hc2
    have e1 : decide (lim < m) = false := decide_eq_false (by omega)
    have e2 : decide (8 * (n : Int) < (st : Int)) = false := decide_eq_false (by omega)
    have e3 : decide (n < u) = false := decide_eq_false (by omega)
    have e4 : decide ((bl : Int) < 1) = false := decide_eq_false (by omega)
    have e5 : decide (8 * (n : Int) < (bl : Int)) = false := decide_eq_false (by omega)
    have HCC := Lib.hid hC2
    have HM := Lib.hid hm
    have HU := Lib.hid hu
    have HR1 := Lib.hid R1
    have HR2 := Lib.hid R2
    clear hp hr hm hu hst hbl hat hok g2 g3 g4 R1 R2 hC2
    obtain ⟨i0, hi0, hz0, hz1, hz2⟩ := info_parts info5
    have hcut := cut_to (P := Try.prog) 22 5 .i64 Try.underlying22 hi0 A n c (u : Int) (by omega) (by omega) hc
    rw [Int.toNat_natCast] at hcut
    clear hi0 hz0 hz1 hz2
    go_wp2_with fail
    have B1 := Blk.new w2 35 #[.slice A2 m c2, .int .i64 u, .int .i64 st, .int .i64 bl]
    have k3 : Kp [] w2 (w2.alloc (.cells #[.slice A2 m c2, .int .i64 u, .int .i64 st, .int .i64 bl] 35)) := (Kp.refl _ _).alloc _
    obtain ⟨g, hg⟩ : ∃ g, w2.heap.size = g := ⟨_, rfl⟩
    rw [hg] at B1 ⊢
    generalize (w2.alloc (.cells #[.slice A2 m c2, .int .i64 u, .int .i64 st, .int .i64 bl] 35)) = w3 at *
    have hCu : (Kd.int .u8).C w3 A u (xs.take u) := by
      have h0 : (Kd.int .u8).C w3 A xs.length xs := C_kp (C_kp HC.out k1 (by simp)) (k2.then_ k3) (by simp)
      have := Kd.C_take (m := u) h0 (by rw [HN.out]; exact g5)
      rwa [show (xs.take u).length = u by rw [List.length_take, HN.out]; omega] at this
    have I2 := inflate_any revR revC A u c (xs.take u) (m : Int) w3 hCu (HBY.out.take u) (by omega) (by omega)
    rw [Int.toNat_natCast, HR1.out] at I2
    have K13 := (k1.then_ k2).then_ k3
    have HCC3 := Lib.hid (C_kp HCC.out k3 (by simp))
    clear hg hCu k1 k2 k3 hcut
    refine I2.mono ?_
    intro e w4 hp
    obtain ⟨k4, A4, c4, rfl, hc4, hC4, -, -⟩ := hp.okC rfl
    rw [HM.out] at hC4 hc4
    rw [HM.out, HU.out]
    have HC4 := Lib.hid hC4
    obtain ⟨st', hst'⟩ : ∃ st, s.steps = st := ⟨_, rfl⟩
    obtain ⟨bl', hbl'⟩ : ∃ bl, s.blocks = bl := ⟨_, rfl⟩
    rw [hst', hbl']
    clear hp I2 hC4 hst' hbl'
    replace B1 := B1.kp k4 (by simp)
    have a0 : w4.cell? ⟨g, 0, none⟩ = some (.slice A2 m c2) := B1.cell_ 0 rfl
    have a1 : w4.cell? ⟨g, 1, none⟩ = some (.int .i64 u) := B1.cell_ 1 rfl
    have glt : g < w4.heap.size := B1.lt
    go_wp2_with fail
    have B4 := Blk.new w4 35 #[.slice A4 m c4, .int .i64 u, .int .i64 st', .int .i64 bl']
    have k5 : Kp [] w4 (w4.alloc (.cells #[.slice A4 m c4, .int .i64 u, .int .i64 st', .int .i64 bl'] 35)) := (Kp.refl _ _).alloc _
    obtain ⟨g', hg'⟩ : ∃ g, w4.heap.size = g := ⟨_, rfl⟩
    rw [hg'] at B4 ⊢
    replace B1 := B1.kp k5 (by simp)
    generalize (w4.alloc (.cells #[.slice A4 m c4, .int .i64 u, .int .i64 st', .int .i64 bl'] 35)) = w5 at *
    have S := same_any A2 A4 c2 c4 s.out s.out w5 (C_kp HCC3.out (k4.then_ k5) (by simp)) (by rw [HM.out]; exact hc2) (by have := C_kp HC4.out k5 (by simp); rw [← HM.out] at this; exact this) (by rw [HM.out]; exact hc4)
    rw [HM.out, show decide (s.out = s.out) = true by simp] at S
    have K15 := (K13.then_ k4).then_ k5
    have HS := Lib.hid S
    clear S a0 a1 glt k4 k5 K13 hg'
    refine HS.out.mono ?_
    rintro e w6 ⟨rfl, k6⟩
    replace B1 := B1.kp k6 (by simp)
    replace B4 := B4.kp k6 (by simp)
    have b1 : w6.cell? ⟨g, 1, none⟩ = some (.int .i64 u) := B1.cell_ 1 rfl
    have b4 : w6.cell? ⟨g', 1, none⟩ = some (.int .i64 u) := B4.cell_ 1 rfl
    replace K15 := K15.then_ k6
    clear k6
    by_cases hm0 : m = 0
    · have q0 : ((m : Int) == 0) = true := by simp [hm0]
      clear hm0
      go_wp2_with fail
      go_ret
      exact ⟨rfl, K15.below⟩
    · have q0 : ((m : Int) == 0) = false := by simp [hm0]
      have hm1 : 1 ≤ m := by omega
      clear hm0
      have h6 : (Kd.int .u8).C w6 A n xs := by
        have := C_kp HC.out K15 (by simp)
        rw [HN.out] at this
        exact this
      have I3 := inflate_any revR revC A n c xs ((m : Int) - 1) w6 h6 HBY.out (by omega) (by omega)
      rw [show ((m : Int) - 1).toNat = m - 1 by omega, HR2.out hm1] at I3
      have HI3 := Lib.hid I3
      clear I3 h6
      go_wp2_with fail
      refine HI3.out.mono ?_
      intro e w7 hp
      obtain ⟨k7, rfl⟩ := hp.errC rfl
      clear hp
      go_wp2_with fail
      go_ret
      exact ⟨rfl, ((K15.then_ k7).alloc _).below⟩
theorem limit_walk (A : Option Addr) (n c : Nat) (zs : List Int) (a1 : Int) (w : World) (h0 : IsRow .u8 w A n c zs) (y0 : n * 1 ≤ 140737488351232) (h1 : (Lit.int .i64 a1).wf = true) :
    Calls Try.prog 5 #[.slice A n c, .int .i64 a1] w fun e w' => e = .returned (.bool true) ∧ Below w.heap.size w w' := by
  obtain ⟨xs, rfl, hC, hby, hc⟩ := row_in h0
  by_cases hg : 2000 < xs.length ∨ 1048576 < a1
  · exact limit_out A c xs a1 w (by omega) hg
  · exact limit_in A c xs a1 w hC hc hby (by omega) (by omega)
end Go.Proofs.Ytoaebpjjfglnnaa
