/- bits.NewWriter, Writer.Out; huff.Bits, Put. -/
import Derived.Test.YtoaebpjjfglnnaaF1
set_option linter.unusedVariables false
set_option linter.unusedSimpArgs false
namespace Go.Proofs.Ytoaebpjjfglnnaa
open Go.RowKit Go.Proofs.YtoaebpjjfglnnaaW.PrintWords Go.Proofs.YtoaebpjjfglnnaaW.PrintLast Go.Proofs.YtoaebpjjfglnnaaW.PrintMore
attribute [local go_sem] max2_int min2_int max_two min_two max_three min_three max_four min_four

theorem newWriter_any (w : World) : Calls Try.prog 23 #[] w fun e w' => e = .returned (.pointer (some ⟨w.heap.size, 0, none⟩)) ∧ WrB w' w.heap.size (.slice none 0 0) 0 0 ∧ Kp [] w w' := by
  go_enter Try.func23, Try.ntmps23
  go_wp2
  go_ret
  refine ⟨rfl, ⟨?_, World.ownsRow_nil _ _ _ _, by simp⟩, (Kp.refl _ _).alloc _⟩
  exact Blk.new _ _ _
theorem app_kp' {w0 W w' : World} {v : Value} (hk : Kp [] w0 W) (hg : W.grownBy w' v.ownBlock) (hf : ∀ g, v.ownBlock = some g → w0.heap.size ≤ g) : Kp [] w0 w' := by
  have kv : Kp v.ownBlock.toList W w' := (Kp.refl _ _).grown hg (fun k hk => .inl (by simp [hk]))
  exact hk.trans kv (fun x hx => .inr (hf x (by simpa using hx)))
theorem out_bytes0 (V N : Nat) (h : N % 8 = 0) : bytesTo V (N / 8) = bytesTo V ((N + 7) / 8) := by
  congr 1
  omega
theorem out_bytes1 (V N : Nat) (h : 0 < N % 8) (hlt : V < 2 ^ N) : bytesTo V (N / 8) ++ [((V / 256 ^ (N / 8) : Nat) : Int)] = bytesTo V ((N + 7) / 8) := by
  rw [show (N + 7) / 8 = N / 8 + 1 by omega, bytesTo_succ]
  congr 3
  rw [Nat.mod_eq_of_lt]
  apply Nat.div_lt_of_lt_mul
  rw [← Nat.pow_succ]
  refine Nat.lt_of_lt_of_le hlt ?_
  rw [show (256 : Nat) = 2 ^ 8 from rfl, ← Nat.pow_mul]
  exact Nat.pow_le_pow_right (by decide) (by omega)
set_option maxHeartbeats 4000000 in
set_option maxRecDepth 100000 in
theorem out_any (gw : Nat) (v : Value) (V N : Nat) (w : World) (h : WrB w gw v V N) (hN : N ≤ 1000000) :
    Calls Try.prog 26 #[.pointer (some ⟨gw, 0, none⟩)] w fun e w' => ∃ v', e = .returned v' ∧ Own .u8 5 w' v' (bytesTo V ((N + 7) / 8)) ∧ Kp [] w w' := by
  obtain ⟨A, c, rfl, hc, hC⟩ := own_C h.own
  obtain ⟨n, hn⟩ : ∃ n, N % 8 = n := ⟨_, rfl⟩
  obtain ⟨l, hl⟩ : ∃ l, V / 256 ^ (N / 8) = l := ⟨_, rfl⟩
  have hb := h.blk
  rw [hn, hl] at hb
  have hlt := h.lt
  rw [bytesTo_len] at *
  have hcl := fun w h => clone_any A (N / 8) c (bytesTo V (N / 8)) w h (by omega)
  have HCL := Lib.hid hcl
  have HC := Lib.hid hC
  have HB := Lib.hid hb
  have HN := Lib.hid hn
  have HL := Lib.hid hl
  have HLT := Lib.hid hlt
  obtain ⟨q, hq⟩ : ∃ q, N / 8 = q := ⟨_, rfl⟩
  rw [hq] at HCL HC HB hc
  have HQ := Lib.hid hq
  have c0 : w.cell? ⟨gw, 0, none⟩ = some (.slice A q c) := HB.out.cell_ 0 rfl
  clear h hb hn hl hlt hcl hC hq
  go_enter Try.func26, Try.ntmps26
  go_wp2_with fail
  refine (HCL.out w HC.out).mono ?_
  rintro e w1 ⟨v, rfl, hown, hk1, hf⟩
  have B1 := HB.out.kp hk1 (by simp)
  have c1 : w1.cell? ⟨gw, 1, none⟩ = some (.int .u64 l) := B1.cell_ 1 rfl
  have c2 : w1.cell? ⟨gw, 2, none⟩ = some (.int .i64 n) := B1.cell_ 2 rfl
  clear c0
  by_cases hn0 : 0 < n
  · have d : decide ((0 : Int) < (n : Int)) = true := decide_eq_true (by omega)
    have hl256 : l < 256 := by
      have h1 := out_bytes1 V N (by rw [HN.out]; exact hn0) HLT.out
      rw [show (N + 7) / 8 = N / 8 + 1 by have := HN.out; omega, bytesTo_succ, HL.out] at h1
      have h2 := List.append_cancel_left h1
      simp only [List.cons.injEq, and_true] at h2
      omega
    have HOWN := Lib.hid hown
    have hl8 : (l : Int) < 256 := by omega
    have hlen : (bytesTo V q).length ≤ 1000000 := by rw [bytesTo_len]; have := HQ.out; omega
    clear hown
    go_wp2_with (at_builtin; refine print_append_row 0 rfl (.tmp 14) (.tmp 20) 22 5 .u8 1 rfl Try.underlying22 info5 (by decide) v (bytesTo V q) [(l : Int)] (some ⟨w1.heap.size, 0, none⟩) 1 1 rfl rfl (HOWN.out.alloc _) (Kd.reads_of_C (own_blk (xs := [(l : Int)]) (Blk.new w1 5 _) rfl (by decide))) (Below.refl 0 _) (Nat.zero_le _) (by omega) ?_; intro v1 w2 hown1 _ hg1 hat1)
    go_ret
    have K2 := app_kp' (hk1.alloc (.cells #[.int .u8 l] 5)) hg1 hf
    refine ⟨v1, rfl, ?_, K2⟩
    have := hown1
    rw [← out_bytes1 V N (by rw [HN.out]; exact hn0) HLT.out, HQ.out]
    rw [← HQ.out, HL.out, HQ.out]
    exact this
  · have d : decide ((0 : Int) < (n : Int)) = false := decide_eq_false (by omega)
    have HOWN := Lib.hid hown
    clear hown
    go_wp2_with fail
    go_ret
    refine ⟨v, rfl, ?_, hk1⟩
    rw [← out_bytes0 V N (by rw [HN.out]; omega), HQ.out]
    exact HOWN.out

theorem wordsTo_get (R : Nat → Nat → Nat) (ls : List Nat) (s : Nat) (hs : s < ls.length) : (wordsTo R ls ls.length)[s]? = some (wordF R ls s) := by
  simp [wordsTo, hs]
set_option maxHeartbeats 4000000 in
set_option maxRecDepth 100000 in
theorem bits_yes (R : Nat → Nat → Nat) (pc : Nat) (ls : List Nat) (s l : Nat) (w : World) (h : HCode R w pc ls) (hs : s < ls.length) (hl : ls.getD s 0 = l) (h0 : 0 < l) (hls : ls.length ≤ 320) :
    Calls Try.prog 36 #[.pointer (some ⟨pc, 0, none⟩), .int .i64 s] w fun e w' => e = .returned (.tuple #[.int .u32 (R (firstF ls l + rank ls s) l : Nat), .int .i64 l, .bool true]) ∧ Kp [] w w' := by
  obtain ⟨cs, gw, go, ords, hb, hcc, hord, hown, hw⟩ := h
  have c0 : w.cell? ⟨pc, 0, none⟩ = some (.slice (some ⟨gw, 0, none⟩) ls.length ls.length) := hb.cell_ 0 hcc.words
  have hlen : (wordsTo R ls ls.length).length = ls.length := by simp [wordsTo]
  obtain ⟨g1, g2⟩ := wcells_get (wordsTo R ls ls.length) s (by rw [hlen]; exact hs)
  have e : (wordsTo R ls ls.length)[s]'(by rw [hlen]; exact hs) = (R (firstF ls l + rank ls s) l, l) := by
    have := wordsTo_get R ls s hs
    rw [List.getElem?_eq_getElem (by rw [hlen]; exact hs)] at this
    have := Option.some.inj this
    rw [this, wordF, if_neg (by omega), hl]
  rw [e] at g1 g2
  obtain ⟨x, hx⟩ : ∃ x, R (firstF ls l + rank ls s) l = x := ⟨_, rfl⟩
  rw [hx] at g1 ⊢
  obtain ⟨n, hn⟩ : ∃ n, ls.length = n := ⟨_, rfl⟩
  rw [hn] at c0 hs hls
  have k0 : w.cell? ⟨gw, s * 2, none⟩ = some (.int .u32 x) := by rw [Nat.mul_comm]; exact hw.cell_ (2 * s) (by simpa using g1)
  have k1 : w.cell? ⟨gw, s * 2 + 1, none⟩ = some (.int .i64 l) := by rw [Nat.mul_comm]; exact hw.cell_ (2 * s + 1) (by simpa using g2)
  have d1 : decide ((s : Int) < 0) = false := decide_eq_false (by omega)
  have d2 : decide ((n : Int) ≤ (s : Int)) = false := decide_eq_false (by omega)
  have d3 : ((l : Int) == 0) = false := by simp; omega
  have hsi : (s : Int) < (n : Int) := by omega
  clear hb hcc hord hown hw hx g1 g2 e hlen hn hl
  go_enter Try.func36, Try.ntmps36
  go_wp2_with fail
  clear k0 k1 c0
  generalize hw1 : (w.alloc (.cells #[.int .u32 x, .int .i64 l] 77)) = w1
  have B1 : Blk w1 w.heap.size 77 #[.int .u32 x, .int .i64 l] := by rw [← hw1]; exact Blk.new _ _ _
  have K1 : Kp [] w w1 := by rw [← hw1]; exact (Kp.refl _ _).alloc _
  have a0 : w1.cell? ⟨w.heap.size, 0, none⟩ = some (.int .u32 x) := B1.cell_ 0 rfl
  have a1 : w1.cell? ⟨w.heap.size, 1, none⟩ = some (.int .i64 l) := B1.cell_ 1 rfl
  have HK1 := Lib.hid K1
  clear hw1 B1 K1
  go_quiet (fail)
  go_wp2
  go_ret3
  exact ⟨rfl, HK1.out.drewN _⟩
/-- huff.Put: a symbol's word. -/
theorem WrB.kp0 {w w' : World} {gw : Nat} {v : Value} {V N : Nat} (h : WrB w gw v V N) (hk : Kp [] w w') : WrB w' gw v V N := ⟨h.blk.kp hk (by simp), own_kp h.own hk (by simp), h.lt⟩
set_option maxHeartbeats 4000000 in
set_option maxRecDepth 100000 in
theorem hput_any (R : Nat → Nat → Nat) (pc gw : Nat) (ls : List Nat) (s l x V N : Nat) (v : Value) (w : World) (h : HCode R w pc ls) (hw : WrB w gw v V N) (hs : s < ls.length) (hl : ls.getD s 0 = l) (h0 : 0 < l) (h15 : l ≤ 15) (hls : ls.length ≤ 320) (hx : R (firstF ls l + rank ls s) l = x) (hx32 : x < 4294967296) (hN : N ≤ 1000000) :
    Calls Try.prog 25 #[.pointer (some ⟨pc, 0, none⟩), .pointer (some ⟨gw, 0, none⟩), .int .i64 s] w fun e w' => e = .returned (.bool true) ∧ ∃ v', WrB w' gw v' (V + x % 2 ^ l * 2 ^ N) (N + l) ∧ Kp (gw :: v.ownBlock.toList) w w' ∧ (v'.ownBlock = v.ownBlock ∨ ∃ g, v'.ownBlock = some g ∧ w.heap.size ≤ g) := by
  have H1 := Lib.hid (bits_yes R pc ls s l w h hs hl h0 hls)
  rw [hx] at H1
  have HW := Lib.hid hw
  obtain ⟨V2, hV2⟩ : ∃ V2, V + x % 2 ^ l * 2 ^ N = V2 := ⟨_, rfl⟩
  have HP : Hid (∀ w1, Kp [] w w1 → Calls Try.prog 24 #[.pointer (some ⟨gw, 0, none⟩), .int .u32 x, .int .i64 l] w1 fun e w' => e = .returned (.tuple #[]) ∧ ∃ v', WrB w' gw v' V2 (N + l) ∧ Kp (gw :: v.ownBlock.toList) w1 w' ∧ (v'.ownBlock = v.ownBlock ∨ ∃ g, v'.ownBlock = some g ∧ w1.heap.size ≤ g)) := fun w1 hk => by
    have := put_any gw v V N x l w1 (hw.kp0 hk) hx32 (by omega) hN
    rw [hV2] at this
    exact this
  rw [hV2]
  obtain ⟨N2, hN2⟩ : ∃ N2, N + l = N2 := ⟨_, rfl⟩
  rw [hN2] at HP ⊢
  clear h hw hs hl hx hV2 hN2
  go_enter Try.func25, Try.ntmps25
  go_wp2_with fail
  refine H1.out.mono ?_
  rintro e w1 ⟨rfl, k1⟩
  go_wp2_with fail
  refine (HP.out w1 k1).mono ?_
  rintro e w2 ⟨rfl, v', hw2, k2, hf2⟩
  have HW2 := Lib.hid hw2
  have HF2 := Lib.hid hf2
  clear hw2 hf2
  go_wp2_with fail
  go_ret
  refine ⟨rfl, v', HW2.out, k1.nil_then k2, ?_⟩
  rcases HF2.out with e | ⟨g, e, hg⟩
  · exact .inl e
  · exact .inr ⟨g, e, Nat.le_trans k1.size hg⟩
end Go.Proofs.Ytoaebpjjfglnnaa
