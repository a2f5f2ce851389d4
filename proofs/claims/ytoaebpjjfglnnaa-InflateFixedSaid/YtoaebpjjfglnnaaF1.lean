/- bits.Writer. -/
import Derived.Test.YtoaebpjjfglnnaaS2
set_option linter.unusedVariables false
set_option linter.unusedSimpArgs false
namespace Go.Proofs.Ytoaebpjjfglnnaa
open Go.RowKit Go.Proofs.YtoaebpjjfglnnaaW.PrintWords Go.Proofs.YtoaebpjjfglnnaaW.PrintLast Go.Proofs.YtoaebpjjfglnnaaW.PrintMore
attribute [local go_sem] max2_int min2_int max_two min_two max_three min_three max_four min_four

/-- The first j bytes of a number. -/
def bytesTo (V j : Nat) : List Int := (List.range j).map fun i => ((V / 256 ^ i % 256 : Nat) : Int)
theorem bytesTo_len (V j : Nat) : (bytesTo V j).length = j := by simp [bytesTo]
theorem bytesTo_succ (V j : Nat) : bytesTo V (j + 1) = bytesTo V j ++ [((V / 256 ^ j % 256 : Nat) : Int)] := by simp [bytesTo, List.range_succ]
theorem bytesTo_bytes (V j : Nat) : Bytes (bytesTo V j) := by
  intro b hb
  simp only [bytesTo, List.mem_map] at hb
  obtain ⟨i, _, rfl⟩ := hb
  omega
theorem lw_bytesTo (V : Nat) : ∀ j, lw (bytesTo V j) = V % 256 ^ j
  | 0 => by simp [bytesTo, lw, Nat.mod_one]
  | j + 1 => by
    rw [bytesTo_succ, lw_append, lw_bytesTo V j, bytesTo_len]
    simp only [lw, Int.toNat_natCast, Nat.mul_zero, Nat.add_zero]
    rw [Nat.pow_succ, Nat.mod_mul]
theorem bytesTo_more (V x N j : Nat) (h : 8 * j ≤ N) : bytesTo (V + x * 2 ^ N) j = bytesTo V j := by
  unfold bytesTo
  apply List.map_congr_left
  intro i hi
  have hij := List.mem_range.1 hi
  have e : (2 : Nat) ^ N = 256 ^ i * (256 * 2 ^ (N - 8 * (i + 1))) := by
    rw [show (256 : Nat) = 2 ^ 8 from rfl, ← Nat.pow_mul, ← Nat.pow_add, ← Nat.pow_add]
    congr 1
    omega
  rw [e, show x * (256 ^ i * (256 * 2 ^ (N - 8 * (i + 1)))) = 256 ^ i * (256 * (x * 2 ^ (N - 8 * (i + 1)))) by simp only [Nat.mul_left_comm, Nat.mul_assoc], Nat.add_mul_div_left _ _ (Nat.pow_pos (by decide)), Nat.add_mul_mod_self_left]

/-- The writer in memory. -/
structure WrB (w : World) (gw : Nat) (v : Value) (V N : Nat) : Prop where
  blk : Blk w gw 80 #[v, .int .u64 (V / 256 ^ (N / 8) : Nat), .int .i64 (N % 8 : Nat)]
  own : Own .u8 5 w v (bytesTo V (N / 8))
  lt : V < 2 ^ N
theorem mask_new (l x n k : Nat) (hl : l < 2 ^ n) (hn : n < 8) (hx : x < 4294967296) (hk : k ≤ 32) :
    bits .or .u64 (l : Int) (IntKind.u64.wrap (bits .and .u64 (x : Int) (IntKind.u64.wrap (IntKind.u64.wrap (2 ^ k) - 1)) * 2 ^ n)) = ((l + x % 2 ^ k * 2 ^ n : Nat) : Int) := by
  have h32 : (2 : Nat) ^ k ≤ 2 ^ 32 := Nat.pow_le_pow_right (by decide) hk
  have h0 : 0 < (2 : Nat) ^ k := Nat.pow_pos (by decide)
  have h7 : (2 : Nat) ^ n ≤ 2 ^ 7 := Nat.pow_le_pow_right (by decide) (by omega)
  have e1 : IntKind.u64.wrap (IntKind.u64.wrap (2 ^ k) - 1) = ((2 ^ k - 1 : Nat) : Int) := by
    have e0 : ((2 : Int) ^ k) = ((2 ^ k : Nat) : Int) := by simp
    rw [IntKind.wrap_u64, IntKind.wrap_u64, e0]
    generalize 2 ^ k = x at *
    omega
  have hm := Nat.mod_lt x h0
  have hmul : x % 2 ^ k * 2 ^ n ≤ 4294967296 * 128 := Nat.mul_le_mul (by omega) (by omega)
  rw [e1, bits_and_u64_nat _ _ (by omega) (by omega), Nat.and_two_pow_sub_one_eq_mod]
  have e3 : IntKind.u64.wrap (((x % 2 ^ k : Nat) : Int) * 2 ^ n) = ((x % 2 ^ k * 2 ^ n : Nat) : Int) := by
    rw [IntKind.wrap_u64, show (((x % 2 ^ k : Nat) : Int) * 2 ^ n) = ((x % 2 ^ k * 2 ^ n : Nat) : Int) by simp]
    omega
  rw [e3, bits_or_u64_nat _ _ (by omega) (by omega), Nat.or_comm, Nat.mul_comm (x % 2 ^ k), ← Nat.two_pow_add_eq_or_of_lt hl, Nat.add_comm]
set_option maxHeartbeats 8000000 in
set_option maxRecDepth 100000 in
theorem put_any (gw : Nat) (v : Value) (V N x k : Nat) (w : World) (h : WrB w gw v V N) (hx : x < 4294967296) (hk : k ≤ 32) (hN : N ≤ 1000000) :
    Calls Try.prog 24 #[.pointer (some ⟨gw, 0, none⟩), .int .u32 x, .int .i64 k] w fun e w' => e = .returned (.tuple #[]) ∧ ∃ v', WrB w' gw v' (V + x % 2 ^ k * 2 ^ N) (N + k) ∧ Kp (gw :: v.ownBlock.toList) w w' ∧ (v'.ownBlock = v.ownBlock ∨ ∃ g, v'.ownBlock = some g ∧ w.heap.size ≤ g) := by
  obtain ⟨A, c, rfl⟩ := own_slice h.own
  rw [bytesTo_len] at *
  have HH := Lib.hid h
  obtain ⟨n, hn⟩ : ∃ n, N % 8 = n := ⟨_, rfl⟩
  obtain ⟨q, hq⟩ : ∃ q, N / 8 = q := ⟨_, rfl⟩
  obtain ⟨l, hl⟩ : ∃ l, V / 256 ^ q = l := ⟨_, rfl⟩
  have hb := h.blk
  rw [hq, hn, hl] at hb
  have c0 : w.cell? ⟨gw, 0, none⟩ = some (.slice A q c) := hb.cell_ 0 rfl
  have c1 : w.cell? ⟨gw, 1, none⟩ = some (.int .u64 l) := hb.cell_ 1 rfl
  have c2 : w.cell? ⟨gw, 2, none⟩ = some (.int .i64 n) := hb.cell_ 2 rfl
  have f := hb.frozen
  have d1 : decide ((k : Int) < 0) = false := decide_eq_false (by omega)
  have d2 : decide ((32 : Int) < (k : Int)) = false := decide_eq_false (by omega)
  have hn8 : n < 8 := by omega
  have hln : l < 2 ^ n := by
    rw [← hl]
    apply Nat.div_lt_of_lt_mul
    rw [show (256 : Nat) = 2 ^ 8 from rfl, ← Nat.pow_mul, ← Nat.pow_add, show 8 * q + n = N by omega]
    exact h.lt
  have hm := mask_new l x n k hln hn8 hx hk
  obtain ⟨l2, hl2⟩ : ∃ l2, l + x % 2 ^ k * 2 ^ n = l2 := ⟨_, rfl⟩
  rw [hl2] at hm
  have hlow : V % 256 ^ q + 256 ^ q * l2 = V + x % 2 ^ k * 2 ^ N := by
    have e1 : (2 : Nat) ^ N = 256 ^ q * 2 ^ n := by
      rw [show (256 : Nat) = 2 ^ 8 from rfl, ← Nat.pow_mul, ← Nat.pow_add]
      congr 1
      have := hq; have := hn; omega
    have e2 := Nat.mod_add_div V (256 ^ q)
    rw [hl] at e2
    rw [e1, ← hl2, Nat.mul_add, ← Nat.add_assoc, e2]
    simp only [Nat.mul_left_comm, Nat.mul_assoc]
  obtain ⟨V2, hV2⟩ : ∃ V2, V + x % 2 ^ k * 2 ^ N = V2 := ⟨_, rfl⟩
  have hV2d : V2 / 256 ^ q = l2 := by
    rw [← hV2, ← hlow, Nat.add_mul_div_left _ _ (Nat.pow_pos (by decide)), Nat.div_eq_of_lt (Nat.mod_lt _ (Nat.pow_pos (by decide))), Nat.zero_add]
  have hV2b : bytesTo V2 q = bytesTo V q := by rw [← hV2]; exact bytesTo_more V _ N q (by have := hq; omega)
  have hV2l : V2 < 2 ^ (N + k) := by
    have h1 := h.lt
    have h2 : x % 2 ^ k + 1 ≤ 2 ^ k := Nat.mod_lt _ (Nat.pow_pos (by decide))
    have h3 := Nat.mul_le_mul_right (2 ^ N) h2
    rw [Nat.add_mul, Nat.one_mul] at h3
    rw [← hV2, Nat.pow_add, Nat.mul_comm (2 ^ N)]
    omega
  obtain ⟨N2, hN2⟩ : ∃ N2, N + k = N2 := ⟨_, rfl⟩
  have hnk : (n : Int) + k = ((N2 - 8 * q : Nat) : Int) := by have := hq; have := hn; omega
  have hq2 : q ≤ N2 / 8 := by have := hq; omega
  have hN2b : N2 ≤ 1000032 := by omega
  rw [hN2] at hV2l
  rw [hV2]
  have HV2 := Lib.hid hV2
  have HV2d := Lib.hid hV2d
  have HV2b := Lib.hid hV2b
  have HV2l := Lib.hid hV2l
  have HN2 := Lib.hid hN2
  have HNK := Lib.hid hnk
  rw [hN2]
  clear hlow hV2 hV2d hV2b hV2l hN2 hnk
  have HQ := Lib.hid hq
  have HN := Lib.hid hn
  have HL := Lib.hid hl
  have HL2 := Lib.hid hl2
  have HB := Lib.hid hb
  clear h hq hn hl hl2 hb
  go_enter Try.func24, Try.ntmps24
  go_wp2_with fail
  go_region
  clear c0 c2 f
  generalize hw1 : (w.setCell ⟨gw, 1, none⟩ (.int .u64 l2)).drew = w1
  have B1 : Blk w1 gw 80 #[.slice A q c, .int .u64 l2, .int .i64 n] := by
    rw [← hw1]
    have := (HB.out.set_ 1 (.int .u64 l2)).drew
    simpa using this
  have K1 : Kp [gw] w w1 := by
    rw [← hw1]
    exact ((Kp.refl [gw] w).set_ (by simp) _).drew
  have c0 : w1.cell? ⟨gw, 0, none⟩ = some (.slice A q c) := B1.cell_ 0 rfl
  have c2 : w1.cell? ⟨gw, 2, none⟩ = some (.int .i64 n) := B1.cell_ 2 rfl
  have f := B1.frozen
  have hnb : gw ∉ ([] : List Nat) := by simp
  have ho0 := HH.out.own
  have hne := own_blk_ne ho0 HB.out (by decide)
  have O1 : Own .u8 5 w1 (.slice A q c) (bytesTo V q) := by
    have := own_kp ho0 K1 (fun g hg => by rw [show g = gw by simpa using hg, HQ.out] at *; exact hne)
    rw [HQ.out] at this
    exact this
  have HO1 := Lib.hid O1
  have HK1 := Lib.hid K1
  have HB1 := Lib.hid B1
  have HNE := Lib.hid hne
  clear hm c1 hw1 hnb ho0 O1 K1 B1 hne
  go_wp2_with fail
  rw [HNK.out]
  have B2 : Blk (w1.setCell ⟨gw, 2, none⟩ (.int .i64 ((N2 - 8 * q : Nat) : Int))) gw 80 #[.slice A q c, .int .u64 l2, .int .i64 ((N2 - 8 * q : Nat) : Int)] := by
    have := HB1.out.set_ 2 (.int .i64 ((N2 - 8 * q : Nat) : Int))
    simpa using this
  have K2 : Kp [gw] w (w1.setCell ⟨gw, 2, none⟩ (.int .i64 ((N2 - 8 * q : Nat) : Int))) := HK1.out.set_ (by simp) _
  have O2 : Own .u8 5 (w1.setCell ⟨gw, 2, none⟩ (.int .i64 ((N2 - 8 * q : Nat) : Int))) (.slice A q c) (bytesTo V q) := ownsRow_setCell_other HO1.out (by rw [← HQ.out]; exact HNE.out) (.int .i64 ((N2 - 8 * q : Nat) : Int))
  generalize (w1.setCell ⟨gw, 2, none⟩ (.int .i64 ((N2 - 8 * q : Nat) : Int))) = w2 at *
  have HB2 := Lib.hid B2
  have HK2 := Lib.hid K2
  have HO2 := Lib.hid O2
  clear B2 K2 O2 HO1 HK1 HB1 c0 c2 f HB
  go_loopg [42] (N2 / 8 - q) (fun g _ wr => ∃ (j : Nat) (v' : Value), j + g = N2 / 8 ∧ q ≤ j ∧ Hid (Blk wr gw 80 #[v', .int .u64 (V2 / 256 ^ j : Nat), .int .i64 (N2 - 8 * j : Nat)]) ∧ Hid (Own .u8 5 wr v' (bytesTo V2 j)) ∧
    Hid (Kp (gw :: (Value.slice A q c).ownBlock.toList) w wr) ∧ Hid (v'.ownBlock = (Value.slice A q c).ownBlock ∨ ∃ b, v'.ownBlock = some b ∧ w.heap.size ≤ b))
  case atStart =>
    refine ⟨q, _, by omega, Nat.le_refl _, ?_, ?_, HK2.out.mono (by simp), .inl rfl⟩
    · have := HB2.out
      rw [← HV2d.out] at this
      exact this
    · have := HO2.out
      rw [← HV2b.out] at this
      exact this
  case round =>
    obtain ⟨j, v', hj, hqj, HBj, HOj, HKj, HFj⟩ := hrel
    obtain ⟨m, hm⟩ : ∃ m, N2 - 8 * j = m := ⟨_, rfl⟩
    obtain ⟨lj, hlj⟩ : ∃ l, V2 / 256 ^ j = l := ⟨_, rfl⟩
    obtain ⟨Aj, cj, rfl⟩ := own_slice HOj.out
    rw [bytesTo_len] at *
    have hbj := HBj.out
    rw [hm, hlj] at hbj
    have c0 : wr.cell? ⟨gw, 0, none⟩ = some (.slice Aj j cj) := hbj.cell_ 0 rfl
    have c1 : wr.cell? ⟨gw, 1, none⟩ = some (.int .u64 lj) := hbj.cell_ 1 rfl
    have c2 : wr.cell? ⟨gw, 2, none⟩ = some (.int .i64 m) := hbj.cell_ 2 rfl
    have f := hbj.frozen
    have HM := Lib.hid hm
    have HLJ := Lib.hid hlj
    have HBJ := Lib.hid hbj
    clear hbj hlj
    by_cases hg : gk = 0
    · have hm8 : m < 8 := by omega
      have dm : decide ((8 : Int) ≤ (m : Int)) = false := decide_eq_false (by omega)
      subst hg
      clear hm
      go_wp2_with fail
      go_end0
      obtain rfl : j = N2 / 8 := by omega
      have hkk := HKj.out
      have hff := HFj.out
      rw [← HQ.out] at hkk hff
      refine ⟨rfl, _, ⟨?_, HOj.out, HV2l.out⟩, hkk, hff⟩
      have e : N2 - 8 * (N2 / 8) = N2 % 8 := by omega
      have := HBj.out
      rw [e] at this
      exact this
    · have hm8 : 8 ≤ m := by omega
      have hmb : m ≤ 1000032 := by omega
      have dm : decide ((8 : Int) ≤ (m : Int)) = true := decide_eq_true (by omega)
      clear hm
      have hmw : IntKind.i64.wrap ((m : Int) - 8) = (m : Int) - 8 := by rw [IntKind.wrap_i64]; omega
      obtain ⟨b, hb⟩ : ∃ b : Int, IntKind.u8.wrap (lj : Int) = b := ⟨_, rfl⟩
      have hb2 : b = ((V2 / 256 ^ j % 256 : Nat) : Int) := by rw [← hb, IntKind.wrap_u8, ← HLJ.out]; omega
      have HBB := Lib.hid hb2
      have hlj2 : (lj : Int) / 256 = ((lj / 256 : Nat) : Int) := by omega
      have HD : Own .u8 5 wr.drew (.slice Aj j cj) (bytesTo V2 j) := own_kp HOj.out ((Kp.refl [] wr).drew) (by simp)
      have hnj := own_blk_ne HOj.out HBJ.out (by decide)
      have HBd : Blk wr.drew gw 80 #[.slice Aj j cj, .int .u64 lj, .int .i64 m] := HBJ.out.drew
      have HDA : Own .u8 5 wr.drew (.slice Aj j cj) (bytesTo V2 j) := HD
      have hjl : (bytesTo V2 j).length = j := bytesTo_len V2 j
      have hjb : j ≤ 200000 := by omega
      have c0a := cell_kp ((Kp.refl [] wr).alloc (.cells #[.int .u8 b] 5)) c0 (by simp)
      have HJL := Lib.hid hjl
      clear hb2 hlj2 hjl
      go_wp2_with fail
      clear dm hmw
      have hlen : (bytesTo V2 j).length + 1 ≤ 200001 := by rw [bytesTo_len]; omega
      go_region_law (refine step_append_num 0 rfl (.tmp 47) (.tmp 53) 22 5 .u8 1 rfl Try.underlying22 info5 (by decide) (.slice Aj j cj) (bytesTo V2 j) b rfl rfl HDA (Below.refl 0 _) (Nat.zero_le _) (by omega) ?_; intro v1 w3 hown1 hg1 hat1; obtain ⟨A1, c1', rfl⟩ := own_slice hown1; have hr1 := HBd.grown hg1 (fun e => hnj e.symm); have d0 := hr1.cell_ 0 rfl; have f2 := hr1.frozen 0; clear hr1)
      all_goals
        rw [bytesTo_len]
        rw [HBB.out, ← bytesTo_succ, bytesTo_len] at hown1
        have kg : Kp ((Value.slice Aj j cj).ownBlock.toList) wr w3 := ((Kp.refl [] wr).drew.mono (by simp)).then_ ((Kp.refl _ _).grown hg1 (fun k hk => .inl (by simp [hk])))
        have B3 := HBJ.out.kp kg (fun hm => hnj (by simpa using hm))
        have B4 : Blk (w3.setCell ⟨gw, 0, none⟩ (.slice A1 (j + 1) c1')) gw 80 #[.slice A1 (j + 1) c1', .int .u64 lj, .int .i64 m] := by
          have := B3.set_ 0 (.slice A1 (j + 1) c1')
          simpa using this
        have O4 : Own .u8 5 (w3.setCell ⟨gw, 0, none⟩ (.slice A1 (j + 1) c1')) (.slice A1 (j + 1) c1') (bytesTo V2 (j + 1)) := by
          unfold Own
          rw [bytesTo_len]
          exact ownsRow_setCell_other hown1 (own_blk_ne hown1 B3 (by decide)) _
        have K4 : Kp (gw :: (Value.slice Aj j cj).ownBlock.toList) wr (w3.setCell ⟨gw, 0, none⟩ (.slice A1 (j + 1) c1')) := (kg.mono (fun x hx => List.mem_cons_of_mem _ hx)).set_ (by simp) _
        have hat2 : (Value.slice A1 (j + 1) c1').ownBlock = (Value.slice Aj j cj).ownBlock ∨ ∃ b, (Value.slice A1 (j + 1) c1').ownBlock = some b ∧ wr.heap.size ≤ b := by
          have h := hat1
          rw [List.length_append, bytesTo_len] at h
          exact h
        generalize (w3.setCell ⟨gw, 0, none⟩ (.slice A1 (j + 1) c1')) = w4 at *
        clear hown1 hg1 hat1 d0 f2 B3 kg c0 c1 c2 f HD HDA HBd c0a
        have c1 : w4.cell? ⟨gw, 1, none⟩ = some (.int .u64 lj) := B4.cell_ 1 rfl
        have c2 : w4.cell? ⟨gw, 2, none⟩ = some (.int .i64 m) := B4.cell_ 2 rfl
        have f := B4.frozen
        have hne4 := own_blk_ne O4 B4 (by decide)
        have HB4 := Lib.hid B4
        have HO4 := Lib.hid O4
        have HK4 := Lib.hid K4
        have HA4 := Lib.hid hat2
        have HN4 := Lib.hid hne4
        clear B4 O4 K4 hat2 hne4 hb hlen
        go_wp2_with fail
        go_roundg (gk - 1)
        case measure => omega
        case rel =>
          refine ⟨j + 1, .slice A1 (j + 1) c1', by omega, by omega, ?_, ?_, ?_, ?_⟩
          · have := (HB4.out.set_ 1 (.int .u64 ((lj : Int) / 256))).set_ 2 (.int .i64 ((m : Int) - 8))
            have e1 : ((lj : Int) / 256) = ((V2 / 256 ^ (j + 1) : Nat) : Int) := by
              rw [Nat.pow_succ, ← Nat.div_div_eq_div_mul, HLJ.out]; omega
            have e2 : ((m : Int) - 8) = ((N2 - 8 * (j + 1) : Nat) : Int) := by have := HM.out; omega
            unfold Hid
            rw [← e1, ← e2]
            simpa using this
          · exact ownsRow_setCell_other (ownsRow_setCell_other HO4.out HN4.out _) HN4.out _
          · refine HKj.out.trans ((HK4.out.set_ (by simp) _).set_ (by simp) _) (fun x hx => ?_)
            rcases List.mem_cons.1 hx with h | h
            · exact .inl (by rw [h]; simp)
            · have h' : (Value.slice Aj j cj).ownBlock = some x := by simpa using h
              rcases HFj.out with e | ⟨b', e, hb'⟩
              · rw [e] at h'
                exact .inl (List.mem_cons_of_mem _ (by simp [h']))
              · rw [e] at h'
                have : b' = x := by simpa using h'
                exact .inr (by omega)
          · have hs := HKj.out.size
            rcases HA4.out with e | ⟨b', e, hb'⟩
            · rw [e]; exact HFj.out
            · exact .inr ⟨b', e, by omega⟩
end Go.Proofs.Ytoaebpjjfglnnaa
