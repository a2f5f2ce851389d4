/- Packed bytes that are cut off: the law's walk. -/
import Derived.Test.YtoaebpjjfglnnaaS2
set_option linter.unusedVariables false
set_option linter.unusedSimpArgs false
namespace Go.Proofs.Ytoaebpjjfglnnaa
open Go.RowKit Go.Proofs.YtoaebpjjfglnnaaW.PrintWords Go.Proofs.YtoaebpjjfglnnaaW.PrintLast Go.Proofs.YtoaebpjjfglnnaaW.PrintMore
attribute [local go_sem] max2_int min2_int max_two min_two max_three min_three max_four min_four

theorem cuts_out (A B : Option Addr) (n c m d : Nat) (cut : Int) (w : World) (hn : n ≤ 140737488351232) (hm : m ≤ 140737488351232) (hg : 2000 < n ∨ 200 < m) :
    Calls Try.prog 6 #[.slice A n c, .int .i64 cut, .slice B m d] w fun e w' => e = .returned (.bool true) ∧ Below w.heap.size w w' := by
  by_cases h : 2000 < n
  · have d1 : decide ((2000 : Int) < (n : Int)) = true := decide_eq_true (by omega)
    clear hg
    go_enter Try.func6, Try.ntmps6
    go_wp2_with fail
    refine (alive_any w).mono ?_
    rintro e w1 ⟨rfl, k1⟩
    go_wp2_with fail
    go_ret
    exact ⟨rfl, k1.below⟩
  · have d1 : decide ((2000 : Int) < (n : Int)) = false := decide_eq_false (by omega)
    have h2 : 200 < m := by omega
    have d2 : decide ((200 : Int) < (m : Int)) = true := decide_eq_true (by omega)
    clear hg
    go_enter Try.func6, Try.ntmps6
    go_wp2_with fail
    refine (alive_any w).mono ?_
    rintro e w1 ⟨rfl, k1⟩
    go_wp2_with fail
    go_ret
    exact ⟨rfl, k1.below⟩
set_option maxHeartbeats 8000000 in
set_option maxRecDepth 100000 in
theorem cuts_in (A B : Option Addr) (n c m d : Nat) (xs ys : List Int) (cut : Int) (w : World) (hxn : xs.length = n) (hym : ys.length = m) (hC : (Kd.int .u8).C w A n xs) (hc : n ≤ c) (hby : Bytes xs) (hD : (Kd.int .u8).C w B m ys) (hd : m ≤ d) (hby2 : Bytes ys) (hn : n ≤ 2000) (hm : m ≤ 200) :
    Calls Try.prog 6 #[.slice A n c, .int .i64 cut, .slice B m d] w fun e w' => e = .returned (.bool true) ∧ Below w.heap.size w w' := by
  have d1 : decide ((2000 : Int) < (n : Int)) = false := decide_eq_false (by omega)
  have d2 : decide ((200 : Int) < (m : Int)) = false := decide_eq_false (by omega)
  have HXN := Lib.hid hxn
  have HYM := Lib.hid hym
  have HC := Lib.hid hC
  have HD := Lib.hid hD
  have HX := Lib.hid hby
  have HY := Lib.hid hby2
  clear hxn hym hC hD hby hby2
  cases hr : infM ⟨xs, 1048576⟩ with
  | error k =>
    have HR := Lib.hid hr
    have hk := inf_err hr
    clear hr
    rcases hk with rfl | rfl | rfl
    all_goals
      go_enter Try.func6, Try.ntmps6
      go_wp2_with fail
      refine (alive_any w).mono ?_
      rintro e w1 ⟨rfl, k1⟩
      go_wp2_with fail
      refine (inf_bad A n c w1 HR.out (C_kp HC.out k1 (by simp)) HX.out (by omega) (by decide)).mono ?_
      rintro e w2 ⟨rfl, k2⟩
      go_wp2_with fail
      go_ret
      exact ⟨rfl, ((k1.then_ k2).alloc _).below⟩
  | ok s =>
    have HR := Lib.hid hr
    clear hr
    obtain ⟨u, hu⟩ : ∃ u, (s.at_ + 7) / 8 = u := ⟨_, rfl⟩
    obtain ⟨st, hst⟩ : ∃ st, s.steps = st := ⟨_, rfl⟩
    obtain ⟨bl, hbl⟩ : ∃ bl, s.blocks = bl := ⟨_, rfl⟩
    obtain ⟨mo, hmo⟩ : ∃ mo, s.out.length = mo := ⟨_, rfl⟩
    have HU := Lib.hid hu
    have HST := Lib.hid hst
    have HBL := Lib.hid hbl
    have HMO := Lib.hid hmo
    clear hu hst hbl hmo
    by_cases h0 : cut < 0
    · have q0 : decide (cut < 0) = true := decide_eq_true h0
      clear h0
      go_enter Try.func6, Try.ntmps6
      go_wp2_with fail
      refine (alive_any w).mono ?_
      rintro e w1 ⟨rfl, k1⟩
      go_wp2_with fail
      refine (inf_ok A n c w1 HR.out (C_kp HC.out k1 (by simp)) HX.out (by omega) (by decide) HMO.out HU.out HST.out HBL.out).mono ?_
      rintro e w2 ⟨A2, c2, rfl, hc2, hC2, k2, hok⟩
      clear hok hC2
      go_wp2_with fail
      go_ret
      exact ⟨rfl, ((k1.then_ k2).alloc _).below⟩
    · have q0 : decide (cut < 0) = false := decide_eq_false h0
      by_cases h1 : (u : Int) ≤ cut
      · have q1 : decide ((u : Int) ≤ cut) = true := decide_eq_true h1
        clear h0 h1
        go_enter Try.func6, Try.ntmps6
        go_wp2_with fail
        refine (alive_any w).mono ?_
        rintro e w1 ⟨rfl, k1⟩
        go_wp2_with fail
        refine (inf_ok A n c w1 HR.out (C_kp HC.out k1 (by simp)) HX.out (by omega) (by decide) HMO.out HU.out HST.out HBL.out).mono ?_
        rintro e w2 ⟨A2, c2, rfl, hc2, hC2, k2, hok⟩
        clear hok hC2
        go_wp2_with fail
        go_ret
        exact ⟨rfl, ((k1.then_ k2).alloc _).below⟩
      · have q1 : decide ((u : Int) ≤ cut) = false := decide_eq_false h1
        obtain ⟨k, rfl⟩ : ∃ k : Nat, cut = k := ⟨cut.toNat, by omega⟩
        have hku : k < u := by omega
        clear h0 h1
        go_enter Try.func6, Try.ntmps6
        go_wp2_with fail
        refine (alive_any w).mono ?_
        rintro e w1 ⟨rfl, k1⟩
        go_wp2_with fail
        refine (inf_ok A n c w1 HR.out (C_kp HC.out k1 (by simp)) HX.out (by omega) (by decide) HMO.out HU.out HST.out HBL.out).mono ?_
        rintro e w2 ⟨A2, c2, rfl, hc2, hC2, k2, hok⟩
        have hat : s.at_ ≤ 8 * xs.length := hok.at_le
        have hol : s.out.length ≤ 1048576 := hok.out_le
        have hun : u ≤ n := by have := HU.out; have := HXN.out; omega
        have HI1 := Lib.hid (inf_short HX.out HR.out hol k (by rw [HU.out]; exact hku))
        have I2 := inf_more HX.out HY.out HR.out hat hol
        rw [HU.out] at I2
        have HI2 := Lib.hid I2
        obtain ⟨i0, hi0, hz0, hz1, hz2⟩ := info_parts info5
        have hcut1 := cut_to (P := Try.prog) 22 5 .i64 Try.underlying22 hi0 A n c (k : Int) (by omega) (by omega) hc
        have hcut2 := cut_to (P := Try.prog) 22 5 .i64 Try.underlying22 hi0 A n c (u : Int) (by omega) (by omega) hc
        rw [Int.toNat_natCast] at hcut1 hcut2
        have HCUT2 := Lib.hid hcut2
        have HC2 := Lib.hid hC2
        clear hok hat hol I2 hi0 hz0 hz1 hz2 hcut2 hC2
        go_wp2_with fail
        have B1 := Blk.new w2 35 #[.slice A2 mo c2, .int .i64 u, .int .i64 st, .int .i64 bl]
        have k3 : Kp [] w2 (w2.alloc (.cells #[.slice A2 mo c2, .int .i64 u, .int .i64 st, .int .i64 bl] 35)) := (Kp.refl _ _).alloc _
        obtain ⟨g, hg⟩ : ∃ g, w2.heap.size = g := ⟨_, rfl⟩
        rw [hg] at B1 ⊢
        generalize (w2.alloc (.cells #[.slice A2 mo c2, .int .i64 u, .int .i64 st, .int .i64 bl] 35)) = w3 at *
        have K13 := (k1.then_ k2).then_ k3
        have hCk : (Kd.int .u8).C w3 A k (xs.take k) := by
          have h0 : (Kd.int .u8).C w3 A xs.length xs := by rw [HXN.out]; exact C_kp HC.out K13 (by simp)
          have := Kd.C_take (m := k) h0 (by rw [HXN.out]; omega)
          rwa [show (xs.take k).length = k by rw [List.length_take, HXN.out]; omega] at this
        refine (inf_bad A k c w3 HI1.out hCk (HX.out.take k) (by omega) (by decide)).mono ?_
        rintro e w4 ⟨rfl, k4⟩
        have B1' := B1.kp k4 (by simp)
        have a1 : w4.cell? ⟨g, 1, none⟩ = some (.int .i64 u) := B1'.cell_ 1 rfl
        have glt : g < w4.heap.size := B1'.lt
        have hcut2 := HCUT2.out
        clear hg hCk k1 k2 hcut1
        go_wp2_with fail
        have k5 : Kp [] w4 (w4.alloc (.cells #[.slice none 0 0, .int .i64 0, .int .i64 0, .int .i64 0] 35)) := (Kp.refl _ _).alloc _
        generalize (w4.alloc (.cells #[.slice none 0 0, .int .i64 0, .int .i64 0, .int .i64 0] 35)) = w5 at *
        have K15 := (K13.then_ k4).then_ k5
        have hCu : (Kd.int .u8).C w5 A u (xs.take u) := by
          have h0 : (Kd.int .u8).C w5 A xs.length xs := by rw [HXN.out]; exact C_kp HC.out K15 (by simp)
          have := Kd.C_take (m := u) h0 (by rw [HXN.out]; exact hun)
          rwa [show (xs.take u).length = u by rw [List.length_take, HXN.out]; omega] at this
        refine (copyBytes_any A u c (xs.take u) w5 hCu (by omega)).mono ?_
        rintro e w6 ⟨v, rfl, hown, k6, hf6⟩
        have K16 := K15.then_ k6
        have k46 := k3.then_ ((k4.then_ k5).then_ k6)
        have B16 := B1.kp ((k4.then_ k5).then_ k6) (by simp)
        have hD6 := C_kp HD.out K16 (by simp)
        have hul : (xs.take u).length = u := by rw [List.length_take, HXN.out]; omega
        have HOWN := Lib.hid hown
        have HF6 := Lib.hid hf6
        have HD6 := Lib.hid hD6
        have HUL := Lib.hid hul
        have hs25 : w2.heap.size ≤ w5.heap.size := (k3.then_ (k4.then_ k5)).size
        have hsw5 : w.heap.size ≤ w5.heap.size := K15.size
        have HK46 := Lib.hid k46
        have HB16 := Lib.hid B16
        have HK15s := Lib.hid K15
        clear hown hf6 hCu a1 glt B1 B1' K13 K15 k4 k5 k3 hD6 hul k46 B16 hcut2
        go_wp2_with (at_builtin; refine print_append_row 0 rfl (.tmp 52) (.tmp 53) 22 5 .u8 1 rfl Try.underlying22 info5 (by decide) v (xs.take u) ys B m d rfl rfl HOWN.out (Kd.reads_of_C HD6.out) (Below.refl 0 _) (Nat.zero_le _) (by rw [HUL.out]; omega) ?_; intro v1 w7 hown7 _ hg7 hat7)
        have kv : Kp v.ownBlock.toList w6 w7 := (Kp.refl _ _).grown hg7 (fun k hk => .inl (by simp [hk]))
        have K27 : Kp [] w2 w7 := HK46.out.trans kv (fun x hx => .inr (by have := HF6.out x (by simpa using hx); omega))
        have K17 : Kp [] w w7 := K16.trans kv (fun x hx => .inr (by have := HF6.out x (by simpa using hx); omega))
        have B17 := HB16.out.kp kv (fun hm => own_blk_ne HOWN.out HB16.out (by decide) (by simpa using hm))
        obtain ⟨A7, c7, rfl, hc7, hC7⟩ := own_C hown7
        have hC27 := C_kp HC2.out K27 (by simp)
        obtain ⟨tot, htot⟩ : ∃ t, (xs.take u ++ ys).length = t := ⟨_, rfl⟩
        have htl : tot ≤ 4000 := by rw [← htot, List.length_append, HUL.out]; have := HYM.out; omega
        rw [htot] at hC7 ⊢
        clear hown7 hg7 hat7 kv K16 HOWN hc7
        refine (inf_ok A7 tot c7 w7 HI2.out hC7 ((HX.out.take u).append HY.out) (by omega) (by decide) HMO.out HU.out HST.out HBL.out).mono ?_
        rintro e w8 ⟨A8, c8, rfl, hc8, hC8, k8, -⟩
        have hC28 := C_kp hC27 k8 (by simp)
        have B18 := B17.kp k8 (by simp)
        have K18 := K17.then_ k8
        have a0 : w8.cell? ⟨g, 0, none⟩ = some (.slice A2 mo c2) := B18.cell_ 0 rfl
        have glt : g < w8.heap.size := B18.lt
        have HC28 := Lib.hid hC28
        have HC8 := Lib.hid hC8
        clear hC28 hC27 hC7 hC8 k8 K17 K27 htot B17
        go_wp2_with fail
        have B8 := Blk.new w8 35 #[.slice A8 mo c8, .int .i64 u, .int .i64 st, .int .i64 bl]
        have k9 : Kp [] w8 (w8.alloc (.cells #[.slice A8 mo c8, .int .i64 u, .int .i64 st, .int .i64 bl] 35)) := (Kp.refl _ _).alloc _
        obtain ⟨g', hg'⟩ : ∃ g, w8.heap.size = g := ⟨_, rfl⟩
        rw [hg'] at B8 ⊢
        replace B18 := B18.kp k9 (by simp)
        generalize (w8.alloc (.cells #[.slice A8 mo c8, .int .i64 u, .int .i64 st, .int .i64 bl] 35)) = w9 at *
        have S := same_any A2 A8 c2 c8 s.out s.out w9 (by have := C_kp HC28.out k9 (by simp); rw [← HMO.out] at this; exact this) (by rw [HMO.out]; exact hc2) (by have := C_kp HC8.out k9 (by simp); rw [← HMO.out] at this; exact this) (by rw [HMO.out]; exact hc8)
        rw [HMO.out, show decide (s.out = s.out) = true by simp] at S
        have K19 := K18.then_ k9
        have HS := Lib.hid S
        clear S a0 glt k9 K18 hg'
        refine HS.out.mono ?_
        rintro e w10 ⟨rfl, k10⟩
        replace B18 := B18.kp k10 (by simp)
        replace B8 := B8.kp k10 (by simp)
        have b1 : w10.cell? ⟨g, 1, none⟩ = some (.int .i64 u) := B18.cell_ 1 rfl
        have b2 : w10.cell? ⟨g, 2, none⟩ = some (.int .i64 st) := B18.cell_ 2 rfl
        have c1 : w10.cell? ⟨g', 1, none⟩ = some (.int .i64 u) := B8.cell_ 1 rfl
        have c2' : w10.cell? ⟨g', 2, none⟩ = some (.int .i64 st) := B8.cell_ 2 rfl
        go_wp2_with fail
        go_ret
        exact ⟨by simp, (K19.then_ k10).below⟩
theorem cuts_walk (A : Option Addr) (n c : Nat) (z0 : List Int) (a1 : Int) (B : Option Addr) (m d : Nat) (z2 : List Int) (w : World) (h0 : IsRow .u8 w A n c z0) (y0 : n * 1 ≤ 140737488351232) (h1 : (Lit.int .i64 a1).wf = true) (h2 : IsRow .u8 w B m d z2) (y2 : m * 1 ≤ 140737488351232) :
    Calls Try.prog 6 #[.slice A n c, .int .i64 a1, .slice B m d] w fun e w' => e = .returned (.bool true) ∧ Below w.heap.size w w' := by
  obtain ⟨xs, rfl, hC, hby, hc⟩ := row_in h0
  obtain ⟨ys, rfl, hD, hby2, hd⟩ := row_in h2
  by_cases hg : 2000 < xs.length ∨ 200 < ys.length
  · exact cuts_out A B _ c _ d a1 w (by omega) (by omega) hg
  · exact cuts_in A B _ c _ d xs ys a1 w rfl rfl hC hc hby hD hd hby2 (by omega) (by omega)
end Go.Proofs.Ytoaebpjjfglnnaa
