/- Packed bytes, one row behind the other: the law's walk. -/
import Derived.Test.YtoaebpjjfglnnaaS2
set_option linter.unusedVariables false
set_option linter.unusedSimpArgs false
namespace Go.Proofs.Ytoaebpjjfglnnaa
open Go.RowKit Go.Proofs.YtoaebpjjfglnnaaW.PrintWords Go.Proofs.YtoaebpjjfglnnaaW.PrintLast Go.Proofs.YtoaebpjjfglnnaaW.PrintMore
attribute [local go_sem] max2_int min2_int max_two min_two max_three min_three max_four min_four

theorem two_out (A B : Option Addr) (n c m d : Nat) (w : World) (hn : n ≤ 140737488351232) (hm : m ≤ 140737488351232) (hg : 2000 < n ∨ 2000 < m) :
    Calls Try.prog 8 #[.slice A n c, .slice B m d] w fun e w' => e = .returned (.bool true) ∧ Below w.heap.size w w' := by
  by_cases h : 2000 < n
  · have d1 : decide ((2000 : Int) < (n : Int)) = true := decide_eq_true (by omega)
    clear hg
    go_enter Try.func8, Try.ntmps8
    go_wp2_with fail
    refine (alive_any w).mono ?_
    rintro e w1 ⟨rfl, k1⟩
    go_wp2_with fail
    go_ret
    exact ⟨rfl, k1.below⟩
  · have d1 : decide ((2000 : Int) < (n : Int)) = false := decide_eq_false (by omega)
    have h2 : 2000 < m := by omega
    have d2 : decide ((2000 : Int) < (m : Int)) = true := decide_eq_true (by omega)
    clear hg
    go_enter Try.func8, Try.ntmps8
    go_wp2_with fail
    refine (alive_any w).mono ?_
    rintro e w1 ⟨rfl, k1⟩
    go_wp2_with fail
    go_ret
    exact ⟨rfl, k1.below⟩
set_option maxHeartbeats 8000000 in
set_option maxRecDepth 100000 in
theorem two_in (A B : Option Addr) (n c m d : Nat) (xs ys : List Int) (w : World) (hxn : xs.length = n) (hym : ys.length = m) (hC : (Kd.int .u8).C w A n xs) (hc : n ≤ c) (hby : Bytes xs) (hD : (Kd.int .u8).C w B m ys) (hd : m ≤ d) (hby2 : Bytes ys) (hn : n ≤ 2000) (hm : m ≤ 2000) :
    Calls Try.prog 8 #[.slice A n c, .slice B m d] w fun e w' => e = .returned (.bool true) ∧ Below w.heap.size w w' := by
  have d1 : decide ((2000 : Int) < (n : Int)) = false := decide_eq_false (by omega)
  have d2 : decide ((2000 : Int) < (m : Int)) = false := decide_eq_false (by omega)
  have HXN := Lib.hid hxn
  have HYM := Lib.hid hym
  have HC := Lib.hid hC
  have HD := Lib.hid hD
  have HX := Lib.hid hby
  have HY := Lib.hid hby2
  clear hxn hym hC hD hby hby2
  cases hr : infM ⟨xs, 1048576⟩ with
  | error k =>
    have HR := Lib.hid hr
    have hk := inf_err hr
    clear hr
    cases hr2 : infM ⟨ys, 1048576⟩ with
    | error k2 =>
      have HR2 := Lib.hid hr2
      have hkk := inf_err hr2
      clear hr2
      have q2 : ((k2 : Int) == 0) = false := by rcases hkk with rfl | rfl | rfl <;> rfl
      clear hkk
      rcases hk with rfl | rfl | rfl
      all_goals
        go_enter Try.func8, Try.ntmps8
        go_wp2_with fail
        refine (alive_any w).mono ?_
        rintro e w1 ⟨rfl, k1⟩
        go_wp2_with fail
        refine (inf_bad A n c w1 HR.out (C_kp HC.out k1 (by simp)) HX.out (by omega) (by decide)).mono ?_
        rintro e w2 ⟨rfl, k2⟩
        go_wp2_with fail
        refine (inf_bad B m d _ HR2.out (C_kp HD.out ((k1.then_ k2).alloc _) (by simp)) HY.out (by omega) (by decide)).mono ?_
        rintro e w3 ⟨rfl, k3⟩
        go_wp2_with fail
        go_ret
        exact ⟨rfl, ((((k1.then_ k2).alloc _).then_ k3).alloc _).below⟩
    | ok t =>
      have HR2 := Lib.hid hr2
      clear hr2
      rcases hk with rfl | rfl | rfl
      all_goals
        go_enter Try.func8, Try.ntmps8
        go_wp2_with fail
        refine (alive_any w).mono ?_
        rintro e w1 ⟨rfl, k1⟩
        go_wp2_with fail
        refine (inf_bad A n c w1 HR.out (C_kp HC.out k1 (by simp)) HX.out (by omega) (by decide)).mono ?_
        rintro e w2 ⟨rfl, k2⟩
        go_wp2_with fail
        refine (inf_ok B m d _ HR2.out (C_kp HD.out ((k1.then_ k2).alloc _) (by simp)) HY.out (by omega) (by decide) rfl rfl rfl rfl).mono ?_
        rintro e w3 ⟨A3, c3, rfl, hc3, hC3, k3, hok⟩
        clear hok hC3
        go_wp2_with fail
        go_ret
        exact ⟨rfl, ((((k1.then_ k2).alloc _).then_ k3).alloc _).below⟩
  | ok s =>
    have HR := Lib.hid hr
    clear hr
    obtain ⟨u, hu⟩ : ∃ u, (s.at_ + 7) / 8 = u := ⟨_, rfl⟩
    obtain ⟨st, hst⟩ : ∃ st, s.steps = st := ⟨_, rfl⟩
    obtain ⟨bl, hbl⟩ : ∃ bl, s.blocks = bl := ⟨_, rfl⟩
    obtain ⟨mo, hmo⟩ : ∃ mo, s.out.length = mo := ⟨_, rfl⟩
    have HU := Lib.hid hu
    have HST := Lib.hid hst
    have HBL := Lib.hid hbl
    have HMO := Lib.hid hmo
    clear hu hst hbl hmo
    cases hr2 : infM ⟨ys, 1048576⟩ with
    | error k2 =>
      have HR2 := Lib.hid hr2
      have hkk := inf_err hr2
      clear hr2
      rcases hkk with rfl | rfl | rfl
      all_goals
        go_enter Try.func8, Try.ntmps8
        go_wp2_with fail
        refine (alive_any w).mono ?_
        rintro e w1 ⟨rfl, k1⟩
        go_wp2_with fail
        refine (inf_ok A n c w1 HR.out (C_kp HC.out k1 (by simp)) HX.out (by omega) (by decide) HMO.out HU.out HST.out HBL.out).mono ?_
        rintro e w2 ⟨A2, c2, rfl, hc2, hC2, k2, hok⟩
        clear hok hC2
        go_wp2_with fail
        refine (inf_bad B m d _ HR2.out (C_kp HD.out ((k1.then_ k2).alloc _) (by simp)) HY.out (by omega) (by decide)).mono ?_
        rintro e w3 ⟨rfl, k3⟩
        go_wp2_with fail
        go_ret
        exact ⟨rfl, ((((k1.then_ k2).alloc _).then_ k3).alloc _).below⟩
    | ok t =>
      have HR2 := Lib.hid hr2
      clear hr2
      obtain ⟨tu, hu⟩ : ∃ u, (t.at_ + 7) / 8 = u := ⟨_, rfl⟩
      obtain ⟨tst, hst⟩ : ∃ st, t.steps = st := ⟨_, rfl⟩
      obtain ⟨tbl, hbl⟩ : ∃ bl, t.blocks = bl := ⟨_, rfl⟩
      obtain ⟨tmo, hmo⟩ : ∃ mo, t.out.length = mo := ⟨_, rfl⟩
      have HTU := Lib.hid hu
      have HTST := Lib.hid hst
      have HTBL := Lib.hid hbl
      have HTMO := Lib.hid hmo
      clear hu hst hbl hmo
      go_enter Try.func8, Try.ntmps8
      go_wp2_with fail
      refine (alive_any w).mono ?_
      rintro e w1 ⟨rfl, k1⟩
      go_wp2_with fail
      refine (inf_ok A n c w1 HR.out (C_kp HC.out k1 (by simp)) HX.out (by omega) (by decide) HMO.out HU.out HST.out HBL.out).mono ?_
      rintro e w2 ⟨A2, c2, rfl, hc2, hC2, k2, hok⟩
      have hat : s.at_ ≤ 8 * xs.length := hok.at_le
      have hol : s.out.length ≤ 1048576 := hok.out_le
      have hun : u ≤ n := by have := HU.out; have := HXN.out; omega
      have I2 := inf_more HX.out HY.out HR.out hat hol
      rw [HU.out] at I2
      have HI2 := Lib.hid I2
      obtain ⟨i0, hi0, hz0, hz1, hz2⟩ := info_parts info5
      have hcut2 := cut_to (P := Try.prog) 22 5 .i64 Try.underlying22 hi0 A n c (u : Int) (by omega) (by omega) hc
      rw [Int.toNat_natCast] at hcut2
      have HCUT2 := Lib.hid hcut2
      have HC2 := Lib.hid hC2
      clear hok hat hol I2 hi0 hz0 hz1 hz2 hcut2 hC2
      go_wp2_with fail
      have B1 := Blk.new w2 35 #[.slice A2 mo c2, .int .i64 u, .int .i64 st, .int .i64 bl]
      have k3 : Kp [] w2 (w2.alloc (.cells #[.slice A2 mo c2, .int .i64 u, .int .i64 st, .int .i64 bl] 35)) := (Kp.refl _ _).alloc _
      obtain ⟨g, hg⟩ : ∃ g, w2.heap.size = g := ⟨_, rfl⟩
      rw [hg] at B1 ⊢
      generalize (w2.alloc (.cells #[.slice A2 mo c2, .int .i64 u, .int .i64 st, .int .i64 bl] 35)) = w3 at *
      have K13 := (k1.then_ k2).then_ k3
      refine (inf_ok B m d w3 HR2.out (C_kp HD.out K13 (by simp)) HY.out (by omega) (by decide) HTMO.out HTU.out HTST.out HTBL.out).mono ?_
      rintro e w4 ⟨A4, c4, rfl, hc4, hC4, k4, -⟩
      have B1' := B1.kp k4 (by simp)
      have a1 : w4.cell? ⟨g, 1, none⟩ = some (.int .i64 u) := B1'.cell_ 1 rfl
      have glt : g < w4.heap.size := B1'.lt
      have hcut2 := HCUT2.out
      have HC4 := Lib.hid hC4
      clear hg k1 k2 hC4
      go_wp2_with fail
      have B2 := Blk.new w4 35 #[.slice A4 tmo c4, .int .i64 tu, .int .i64 tst, .int .i64 tbl]
      have k5 : Kp [] w4 (w4.alloc (.cells #[.slice A4 tmo c4, .int .i64 tu, .int .i64 tst, .int .i64 tbl] 35)) := (Kp.refl _ _).alloc _
      obtain ⟨g2, hg2⟩ : ∃ g, w4.heap.size = g := ⟨_, rfl⟩
      rw [hg2] at B2 ⊢
      generalize (w4.alloc (.cells #[.slice A4 tmo c4, .int .i64 tu, .int .i64 tst, .int .i64 tbl] 35)) = w5 at *
      have K15 := (K13.then_ k4).then_ k5
      have hCu : (Kd.int .u8).C w5 A u (xs.take u) := by
        have h0 : (Kd.int .u8).C w5 A xs.length xs := by rw [HXN.out]; exact C_kp HC.out K15 (by simp)
        have := Kd.C_take (m := u) h0 (by rw [HXN.out]; exact hun)
        rwa [show (xs.take u).length = u by rw [List.length_take, HXN.out]; omega] at this
      refine (copyBytes_any A u c (xs.take u) w5 hCu (by omega)).mono ?_
      rintro e w6 ⟨v, rfl, hown, k6, hf6⟩
      have K16 := K15.then_ k6
      have B16 := B1.kp ((k4.then_ k5).then_ k6) (by simp)
      have B26 := B2.kp k6 (by simp)
      have hD6 := C_kp HD.out K16 (by simp)
      have hul : (xs.take u).length = u := by rw [List.length_take, HXN.out]; omega
      have HOWN := Lib.hid hown
      have HF6 := Lib.hid hf6
      have HD6 := Lib.hid hD6
      have HUL := Lib.hid hul
      have HK26 := Lib.hid (k3.then_ ((k4.then_ k5).then_ k6))
      have HK46 := Lib.hid (k5.then_ k6)
      have HB16 := Lib.hid B16
      have HB26 := Lib.hid B26
      have hs25 : w2.heap.size ≤ w5.heap.size := (k3.then_ (k4.then_ k5)).size
      have hs45 : w4.heap.size ≤ w5.heap.size := k5.size
      have hsw5 : w.heap.size ≤ w5.heap.size := K15.size
      clear hown hf6 hCu a1 glt B1 B1' B2 B26 K13 K15 k4 k5 k3 hD6 hul B16 hcut2 hg2
      go_wp2_with (at_builtin; refine print_append_row 0 rfl (.tmp 44) (.tmp 45) 22 5 .u8 1 rfl Try.underlying22 info5 (by decide) v (xs.take u) ys B m d rfl rfl HOWN.out (Kd.reads_of_C HD6.out) (Below.refl 0 _) (Nat.zero_le _) (by rw [HUL.out]; omega) ?_; intro v1 w7 hown7 _ hg7 hat7)
      have kv : Kp v.ownBlock.toList w6 w7 := (Kp.refl _ _).grown hg7 (fun k hk => .inl (by simp [hk]))
      have K27 : Kp [] w2 w7 := HK26.out.trans kv (fun x hx => .inr (by have := HF6.out x (by simpa using hx); omega))
      have K47 : Kp [] w4 w7 := HK46.out.trans kv (fun x hx => .inr (by have := HF6.out x (by simpa using hx); omega))
      have K17 : Kp [] w w7 := K16.trans kv (fun x hx => .inr (by have := HF6.out x (by simpa using hx); omega))
      have B17 := HB16.out.kp kv (fun hm => own_blk_ne HOWN.out HB16.out (by decide) (by simpa using hm))
      have B27 := HB26.out.kp kv (fun hm => own_blk_ne HOWN.out HB26.out (by decide) (by simpa using hm))
      obtain ⟨A7, c7, rfl, hc7, hC7⟩ := own_C hown7
      have hC27 := C_kp HC2.out K27 (by simp)
      have hC47 := C_kp HC4.out K47 (by simp)
      have hl7 : (xs.take u ++ ys).length = u + m := by rw [List.length_append, HUL.out, HYM.out]
      have hC7d : (Kd.int .u8).C w7 (if c7 = u then A7 else A7.map (·.add (u * 1))) m ys := by
        have := Kd.C_drop (m := u) hC7 (by rw [hl7]; omega) hc7
        have e : (xs.take u ++ ys).drop u = ys := by
          have := List.drop_left' (l₂ := ys) HUL.out
          exact this
        rw [e, HYM.out] at this
        exact this
      rw [hl7] at hC7 hc7 ⊢
      obtain ⟨A9, hA9⟩ : ∃ A9, (if c7 = u then A7 else A7.map (·.add (u * 1))) = A9 := ⟨_, rfl⟩
      obtain ⟨i0, hi0, hz0, hz1, hz2⟩ := info_parts info5
      have hcut3 := cut_from (P := Try.prog) 22 5 .i64 Try.underlying22 hi0 1 hz1 A7 (u + m) c7 (u : Int) (by omega) (by omega)
      rw [Int.toNat_natCast, hA9, Nat.add_sub_cancel_left] at hcut3
      rw [hA9] at hC7d
      have HCUT3 := Lib.hid hcut3
      have HC7d := Lib.hid hC7d
      obtain ⟨tot, htot⟩ : ∃ tot, u + m = tot := ⟨_, rfl⟩
      rw [htot] at hC7 hc7 HCUT3 ⊢
      have htl : tot ≤ 4000 := by omega
      clear hown7 hg7 hat7 kv K16 HOWN hi0 hz0 hz1 hz2 hcut3 hA9 htot hl7 hC7d
      go_wp2_with fail
      refine (inf_ok A7 tot c7 w7 HI2.out hC7 ((HX.out.take u).append HY.out) (by omega) (by decide) HMO.out HU.out HST.out HBL.out).mono ?_
      rintro e w8 ⟨A8, c8, rfl, hc8, hC8, k8, -⟩
      have hC28 := C_kp hC27 k8 (by simp)
      have hC48 := C_kp hC47 k8 (by simp)
      have hC78 := C_kp HC7d.out k8 (by simp)
      have B18 := B17.kp k8 (by simp)
      have B28 := B27.kp k8 (by simp)
      have K18 := K17.then_ k8
      have a0 : w8.cell? ⟨g, 0, none⟩ = some (.slice A2 mo c2) := B18.cell_ 0 rfl
      have a1 : w8.cell? ⟨g, 1, none⟩ = some (.int .i64 u) := B18.cell_ 1 rfl
      have glt : g < w8.heap.size := B18.lt
      have HC28 := Lib.hid hC28
      have HC48 := Lib.hid hC48
      have HC78 := Lib.hid hC78
      have HC8 := Lib.hid hC8
      clear hC28 hC27 hC7 hC8 k8 K17 K27 B17 B27 hC48 hC47 hC78
      go_wp2_with fail
      have B8 := Blk.new w8 35 #[.slice A8 mo c8, .int .i64 u, .int .i64 st, .int .i64 bl]
      have k9 : Kp [] w8 (w8.alloc (.cells #[.slice A8 mo c8, .int .i64 u, .int .i64 st, .int .i64 bl] 35)) := (Kp.refl _ _).alloc _
      obtain ⟨g', hg'⟩ : ∃ g, w8.heap.size = g := ⟨_, rfl⟩
      rw [hg'] at B8 ⊢
      replace B28 := B28.kp k9 (by simp)
      generalize (w8.alloc (.cells #[.slice A8 mo c8, .int .i64 u, .int .i64 st, .int .i64 bl] 35)) = w9 at *
      have S := same_any A8 A2 c8 c2 s.out s.out w9 (by have := C_kp HC8.out k9 (by simp); rw [← HMO.out] at this; exact this) (by rw [HMO.out]; exact hc8) (by have := C_kp HC28.out k9 (by simp); rw [← HMO.out] at this; exact this) (by rw [HMO.out]; exact hc2)
      rw [HMO.out, show decide (s.out = s.out) = true by simp] at S
      have K19 := K18.then_ k9
      have HS := Lib.hid S
      clear S a0 a1 glt K18 hg' B18
      refine HS.out.mono ?_
      rintro e w10 ⟨rfl, k10⟩
      replace B28 := B28.kp k10 (by simp)
      replace B8 := B8.kp k10 (by simp)
      have c1 : w10.cell? ⟨g', 1, none⟩ = some (.int .i64 u) := B8.cell_ 1 rfl
      have HC49 := Lib.hid (C_kp HC48.out (k9.then_ k10) (by simp))
      have HC79 := Lib.hid (C_kp HC78.out (k9.then_ k10) (by simp))
      have hcut3 := HCUT3.out
      have K110 := K19.then_ k10
      clear k9 k10 K19
      go_wp2_with fail
      refine (inf_ok A9 m (c7 - u) w10 HR2.out HC79.out HY.out (by omega) (by decide) HTMO.out HTU.out HTST.out HTBL.out).mono ?_
      rintro e w11 ⟨A11, c11, rfl, hc11, hC11, k11, -⟩
      have B211 := B28.kp k11 (by simp)
      have b0 : w11.cell? ⟨g2, 0, none⟩ = some (.slice A4 tmo c4) := B211.cell_ 0 rfl
      have b1 : w11.cell? ⟨g2, 1, none⟩ = some (.int .i64 tu) := B211.cell_ 1 rfl
      have b3 : w11.cell? ⟨g2, 3, none⟩ = some (.int .i64 tbl) := B211.cell_ 3 rfl
      have glt : g2 < w11.heap.size := B211.lt
      have HC11 := Lib.hid hC11
      have HC411 := Lib.hid (C_kp HC49.out k11 (by simp))
      have K111 := K110.then_ k11
      clear hC11 k11 K110 c1 hcut3 B28
      go_wp2_with fail
      have B11 := Blk.new w11 35 #[.slice A11 tmo c11, .int .i64 tu, .int .i64 tst, .int .i64 tbl]
      have k12 : Kp [] w11 (w11.alloc (.cells #[.slice A11 tmo c11, .int .i64 tu, .int .i64 tst, .int .i64 tbl] 35)) := (Kp.refl _ _).alloc _
      obtain ⟨g3, hg3⟩ : ∃ g, w11.heap.size = g := ⟨_, rfl⟩
      rw [hg3] at B11 ⊢
      have B212 := B211.kp k12 (by simp)
      generalize (w11.alloc (.cells #[.slice A11 tmo c11, .int .i64 tu, .int .i64 tst, .int .i64 tbl] 35)) = w12 at *
      have S := same_any A11 A4 c11 c4 t.out t.out w12 (by have := C_kp HC11.out k12 (by simp); rw [← HTMO.out] at this; exact this) (by rw [HTMO.out]; exact hc11) (by have := C_kp HC411.out k12 (by simp); rw [← HTMO.out] at this; exact this) (by rw [HTMO.out]; exact hc4)
      rw [HTMO.out, show decide (t.out = t.out) = true by simp] at S
      have K112 := K111.then_ k12
      have HS2 := Lib.hid S
      clear S b0 b1 b3 glt k12 K111 hg3 B211
      refine HS2.out.mono ?_
      rintro e w13 ⟨rfl, k13⟩
      have B213 := B212.kp k13 (by simp)
      have B113 := B11.kp k13 (by simp)
      have b1 : w13.cell? ⟨g2, 1, none⟩ = some (.int .i64 tu) := B213.cell_ 1 rfl
      have b3 : w13.cell? ⟨g2, 3, none⟩ = some (.int .i64 tbl) := B213.cell_ 3 rfl
      have e1 : w13.cell? ⟨g3, 1, none⟩ = some (.int .i64 tu) := B113.cell_ 1 rfl
      have e3 : w13.cell? ⟨g3, 3, none⟩ = some (.int .i64 tbl) := B113.cell_ 3 rfl
      go_wp2_with fail
      go_ret
      exact ⟨by simp, (K112.then_ k13).below⟩
theorem two_walk (A : Option Addr) (n c : Nat) (z0 : List Int) (B : Option Addr) (m d : Nat) (z1 : List Int) (w : World) (h0 : IsRow .u8 w A n c z0) (y0 : n * 1 ≤ 140737488351232) (h1 : IsRow .u8 w B m d z1) (y1 : m * 1 ≤ 140737488351232) :
    Calls Try.prog 8 #[.slice A n c, .slice B m d] w fun e w' => e = .returned (.bool true) ∧ Below w.heap.size w w' := by
  obtain ⟨xs, rfl, hC, hby, hc⟩ := row_in h0
  obtain ⟨ys, rfl, hD, hby2, hd⟩ := row_in h1
  by_cases hg : 2000 < xs.length ∨ 2000 < ys.length
  · exact two_out A B _ c _ d w (by omega) (by omega) hg
  · exact two_in A B _ c _ d xs ys w rfl rfl hC hc hby hD hd hby2 (by omega) (by omega)
end Go.Proofs.Ytoaebpjjfglnnaa
