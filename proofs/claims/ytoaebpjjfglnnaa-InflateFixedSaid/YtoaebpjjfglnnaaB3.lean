/- Library calls (Repeat, Concat, Max), Fixed, lens.Unpack, the code of lengths, rows (contracts, no law). -/
import Derived.Test.YtoaebpjjfglnnaaB2
import Derived.Test.YtoaebpjjfglnnaaPInflateAnswersx1
import Derived.Deep.RegionLaw
import Derived.Laws.CopyOwn
import Derived.Lib.AppendZerosOnto
set_option linter.unusedVariables false
set_option linter.unusedSimpArgs false

/- slices.Repeat of one Int. -/
namespace Go.Proofs.Ytoaebpjjfglnnaa
open Go.RowKit Go.Proofs.YtoaebpjjfglnnaaW.PrintWords Go.Proofs.YtoaebpjjfglnnaaW.PrintLast Go.Proofs.YtoaebpjjfglnnaaW.PrintMore
attribute [local go_sem] max2_int min2_int max_two min_two max_three min_three max_four min_four

theorem and32 (n : Nat) (hn : n < 4294967296) : bits .and .u64 (n : Int) 4294967295 = (n : Int) := by
  have h0 : bits .and .u64 (n : Int) 4294967295 = IntKind.u64.wrap (((BitVec.ofInt 64 (n : Int) &&& BitVec.ofInt 64 4294967295).toNat : Nat) : Int) := rfl
  have h1 : BitVec.ofInt 64 (n : Int) = BitVec.ofNat 64 n := by simp
  have h2 : BitVec.ofInt 64 4294967295 = BitVec.ofNat 64 4294967295 := by decide
  rw [h0, h1, h2, BitVec.toNat_and, BitVec.toNat_ofNat, BitVec.toNat_ofNat, Nat.mod_eq_of_lt (by omega), Nat.mod_eq_of_lt (by decide), show (4294967295 : Nat) = 2 ^ 32 - 1 by decide, Nat.and_two_pow_sub_one_eq_mod, Nat.mod_eq_of_lt hn, IntKind.wrap_u64]
  omega
theorem mul_one_any (n : Nat) (hn : n ≤ 1000000) (w : World) : Calls Try.prog 45 #[.int .u64 1, .int .u64 n] w fun e w' => e = .returned (.tuple #[.int .u64 0, .int .u64 n]) ∧ Drawn0 w w' := by
  refine PInflateAnswers.bits_Mul.calls 1 n 0 n w ?_
  have h1 := and32 n (by omega)
  have h2 : bits .and .u64 (1 : Int) 4294967295 = 1 := by decide
  have h3 : bits .and .u64 (0 : Int) 4294967295 = 0 := by decide
  have h4 : (n : Int) / 4294967296 = 0 := by omega
  have h5 : (n : Int) % 18446744073709551616 = n := by omega
  unfold PInflateAnswers.bits_Mul.f PInflateAnswers.bits_Mul64.f
  simp only [h1, h2, h3, h4, show (1 : Int) / 4294967296 = 0 by decide, IntKind.wrap_u64, Option.bind]
  simp [h1, h3, h4, h5]

theorem splice_rep (x : Value) (z : Value) (n k m : Nat) (hm : k + m ≤ n) : splice (List.replicate k x ++ List.replicate (n - k) z) k (List.replicate m x) = List.replicate (k + m) x ++ List.replicate (n - (k + m)) z := by
  unfold splice
  rw [List.take_left' (by simp), List.drop_append, List.drop_eq_nil_of_le (by simp), List.length_replicate, List.length_replicate, List.drop_replicate, List.nil_append, ← List.append_assoc, List.replicate_append_replicate, show n - k - (k + m - k) = n - (k + m) by omega]
theorem nums_rep (k : IntKind) (n : Nat) (x : Int) : nums k (List.replicate n x) = List.replicate n (.int k x) := by simp [nums]
theorem made_rep (z : Value) (n : Nat) : (madeCells #[z] n).toList = List.replicate n z := by
  apply List.ext_getElem
  · simp [madeCells]
  · intro i h1 h2
    simp [madeCells, Nat.mod_one]
theorem splice_head (x z : Value) (n m : Nat) (hm : m ≤ n) : splice (List.replicate n z) 0 (List.replicate m x) = List.replicate m x ++ List.replicate (n - m) z := by
  have := splice_rep x z n 0 m (by omega)
  simpa using this
/-- A block of its own that holds just these Ints. -/
theorem Blk.own {w : World} {g : Nat} {e : TypeId} {k : IntKind} {xs : List Int} (h : Blk w g e (nums k xs).toArray) (hl : xs.length ≤ 9223372036854775807) : Own k e w (.slice (some ⟨g, 0, none⟩) xs.length xs.length) xs := by
  refine ⟨by simp [nums], .inr ⟨g, xs.length, _, rfl, Nat.zero_le _, h, Nat.le_refl _, by simpa [maxLen] using hl, by simp [nums], by simp only [Nat.mul_one]; exact List.take_of_length_le (by simp [nums])⟩⟩

theorem Kp.setRow_ {L : List Nat} {a w : World} (h : Kp L a w) {g : Nat} (hg : g ∈ L ∨ a.heap.size ≤ g) (cs : Array Value) : Kp L a (w.setRow g cs) :=
  h.trans (L1 := [g]) ⟨rfl, rfl, rfl, by simp [World.setRow], fun k _ hk => setRow_other w g k cs (by simpa using hk)⟩ (by simpa using hg)
theorem info3s : (Try.prog.info? 3).map (·.size) = some 1 := by kernel_rfl

/-- A copy inside one block. -/
theorem copy_any (W : World) (ty : TypeId) (g off dLen dCap : Nat) (a : Addr) (sLen sCap : Nat) (cur cs : List Value) (hg : Blk W g 3 cur.toArray) (hn : cs.length = Nat.min sLen dLen)
    (hsrc : ∀ j v, cs[j]? = some v → W.cell? (a.add j) = some v) (hfit : off + cs.length ≤ cur.length) (h1 : ∀ v ∈ cs, v.oneCell' = true) :
    (Builtin.copy_ #[29, 29] ty #[.slice (some ⟨g, off, none⟩) dLen dCap, .slice (some a) sLen sCap]).run Try.prog W = .ok (.int .i64 cs.length) (W.setRow g (splice cur off cs).toArray) := by
  have := run_copy_row (P := Try.prog) W 29 29 ty 3 g off dLen dCap a sLen sCap cur.toArray 3 cs Try.underlying29 info3s hg hn hsrc (by simpa using hfit) h1
  simpa [goInt, splice] using this

set_option maxHeartbeats 4000000 in
set_option maxRecDepth 100000 in
theorem repeat_any (x : Int) (n gx : Nat) (w : World) (hx : Blk w gx 3 #[.int .i64 x]) (hn : n ≤ 1000) :
    Calls Try.prog 29 #[.slice (some ⟨gx, 0, none⟩) 1 1, .int .i64 n] w fun e w' => ∃ g, e = .returned (.slice (some ⟨g, 0, none⟩) n n) ∧ Blk w' g 3 (nums .i64 (List.replicate n x)).toArray ∧ Kp [] w w' ∧ w.heap.size ≤ g := by
  have hmk := print_make (P := Try.prog) 29 3 .i64 8 Try.underlying29 info3 (by decide) n (by omega)
  have h1 : IntKind.u64.wrap (n : Int) = (n : Int) := by rw [IntKind.wrap_u64]; omega
  have h2 : wrap64 (n : Int) = (n : Int) := by unfold wrap64; omega
  have HX := Lib.hid hx
  have hlt := hx.lt
  clear hx
  go_enter Try.func29, Try.ntmps29
  go_wp2_with (first
    | (go_at_call 45; refine (mul_one_any n (by omega) _).mono ?_; rintro e w1 ⟨rfl, hd⟩
       have k1 : Kp [] w w1 := Kp.of_below hd.below
       have b1 : Blk (w1.alloc (.cells (madeCells #[Value.int .i64 0] n) 3)) w1.heap.size 3 (List.replicate n (Value.int .i64 0)).toArray := by
         have := Blk.new w1 3 (madeCells #[Value.int .i64 0] n)
         rwa [← made_rep]
       have k2 : Kp [] w (w1.alloc (.cells (madeCells #[Value.int .i64 0] n) 3)) := k1.alloc _
       have hc := fun ty => copy_any (w1.alloc (.cells (madeCells #[Value.int .i64 0] n) 3)) ty w1.heap.size 0 n n ⟨gx, 0, none⟩ 1 1 _ (List.replicate (min 1 n) (.int .i64 x)) b1 (by simp [Nat.min_def]) (fun j v hj => by
         rw [List.getElem?_replicate] at hj
         split at hj
         · injection hj with hj
           subst hj
           have : j = 0 := by omega
           subst this
           exact (HX.out.kp k2 (by simp)).cell_ 0 rfl
         · cases hj) (by simp; omega) (by simp [Value.oneCell'])
       rw [splice_head _ _ _ _ (by omega)] at hc
       simp only [List.length_replicate] at hc
       have b3 := setRow_heap _ _ _ (List.replicate (min 1 n) (Value.int .i64 x) ++ List.replicate (n - min 1 n) (Value.int .i64 0)).toArray _ _ b1
       have k3 := k2.setRow_ (g := w1.heap.size) (.inr k1.size) (List.replicate (min 1 n) (Value.int .i64 x) ++ List.replicate (n - min 1 n) (Value.int .i64 0)).toArray
       have hg1 := k1.size
       obtain ⟨g, hg⟩ : ∃ g, w1.heap.size = g := ⟨_, rfl⟩
       obtain ⟨w3, hw3⟩ : ∃ w3, (w1.alloc (.cells (madeCells #[Value.int .i64 0] n) 3)).setRow w1.heap.size (List.replicate (min 1 n) (Value.int .i64 x) ++ List.replicate (n - min 1 n) (Value.int .i64 0)).toArray = w3 := ⟨_, rfl⟩
       rw [hw3] at hc b3 k3
       rw [hg] at b3 hc hg1
       have HG := Lib.hid hg
       have B3 := Lib.hid b3
       have K3 := Lib.hid k3
       clear b1 k2 k1 hw3 b3 k3))
  clear hmk h2 hg hc
  obtain ⟨i3, hi3, hz3, hsz3, hb3⟩ := info_parts info3
  go_loopw [8] (fun i wr => ∃ k : Nat, i = .int .i64 k ∧ k ≤ n ∧ (n = 0 ∨ 1 ≤ k) ∧ Hid (Blk wr g 3 (List.replicate k (Value.int .i64 x) ++ List.replicate (n - k) (Value.int .i64 0)).toArray) ∧ Hid (Kp [] w wr)) (fun i _ => n - (intOf i).toNat)
  case atStart => exact ⟨min 1 n, rfl, by omega, by omega, B3.out, K3.out⟩
  case round =>
    obtain ⟨k, rfl, hk, hk1, HB, HK⟩ := hrel
    by_cases hlt2 : k < n
    · have c1 := cut_from (P := Try.prog) 29 3 .i64 Try.underlying29 hi3 1 hsz3 (some ⟨g, 0, none⟩) n n (k : Int) (by omega) (by omega)
      have c2 := cut_to (P := Try.prog) 29 3 .i64 Try.underlying29 hi3 (some ⟨g, 0, none⟩) n n (k : Int) (by omega) (by omega) (Nat.le_refl _)
      simp only [Int.toNat_natCast, if_neg (show ¬ n = k by omega), Option.map, Nat.mul_one, Addr.add, Nat.zero_add, if_neg (show ¬ k = 0 by omega)] at c1 c2
      have hc := fun ty => copy_any wr.drew ty g k (n - k) (n - k) ⟨g, 0, none⟩ k n _ (List.replicate (min k (n - k)) (.int .i64 x)) HB.out (by simp [Nat.min_def]) (fun j v hj => by
         rw [List.getElem?_replicate] at hj
         split at hj
         · injection hj with hj
           subst hj
           rename_i hj
           have ha : (Addr.add ⟨g, 0, none⟩ j : Addr) = ⟨g, j, none⟩ := by (simp [Addr.add]; try (intro h; exact h.symm))
           rw [ha]
           refine (HB.out.drew.cell_ j ?_)
           simp [List.getElem?_append, show j < k by omega, List.getElem?_replicate]
         · cases hj) (by simp; omega) (by intro v hv; rw [List.eq_of_mem_replicate hv]; rfl)
      rw [splice_rep _ _ _ _ _ (by omega)] at hc
      simp only [List.length_replicate] at hc
      have b3 := setRow_heap _ _ _ (List.replicate (k + min k (n - k)) (Value.int .i64 x) ++ List.replicate (n - (k + min k (n - k))) (Value.int .i64 0)).toArray _ _ HB.out.drew
      have k3 := HK.out.drew.setRow_ (g := g) (.inr (by omega)) (List.replicate (k + min k (n - k)) (Value.int .i64 x) ++ List.replicate (n - (k + min k (n - k))) (Value.int .i64 0)).toArray
      obtain ⟨w3, hw3⟩ : ∃ w3, wr.drew.setRow g (List.replicate (k + min k (n - k)) (Value.int .i64 x) ++ List.replicate (n - (k + min k (n - k))) (Value.int .i64 0)).toArray = w3 := ⟨_, rfl⟩
      rw [hw3] at hc b3 k3
      obtain ⟨m, hm⟩ : ∃ m, min k (n - k) = m := ⟨_, rfl⟩
      rw [hm] at hc b3
      have hm1 : 1 ≤ m := by omega
      have hm2 : k + m ≤ n := by omega
      have hkl : (k : Int) < (n : Int) := by omega
      have B3 := Lib.hid b3
      have K3 := Lib.hid k3
      clear hw3 b3 k3 hm
      go_wp2_with fail
      go_region
      go_wp2_with fail
      go_roundw
      case measure => simp [intOf]; omega
      case rel => exact ⟨k + m, by go_num, hm2, by omega, B3.out, K3.out⟩
    · obtain rfl : k = n := by omega
      rw [Nat.sub_self] at HB
      simp only [List.replicate_zero, List.append_nil] at HB
      go_wp2_with fail
      go_ret
      exact ⟨g, rfl, by rw [nums_rep]; exact HB.out, HK.out, hg1⟩
end Go.Proofs.Ytoaebpjjfglnnaa

/- slices.Grow, slices.Concat, inflate.Fixed. -/
namespace Go.Proofs.Ytoaebpjjfglnnaa
open Go.RowKit Go.Proofs.YtoaebpjjfglnnaaW.PrintWords Go.Proofs.YtoaebpjjfglnnaaW.PrintLast Go.Proofs.YtoaebpjjfglnnaaW.PrintMore
attribute [local go_sem] max2_int min2_int max_two min_two max_three min_three max_four min_four

theorem under3 : Try.prog.underlying 3 = some (.int .i64) := by kernel_rfl

set_option maxHeartbeats 4000000 in
set_option maxRecDepth 100000 in
theorem grow_any (n : Nat) (w : World) (h1 : 1 ≤ n) (h2 : n ≤ 10000) :
    Calls Try.prog 44 #[.slice none 0 0, .int .i64 n] w fun e w' => ∃ v, e = .returned v ∧ Own .i64 3 w' v [] ∧ Kp [] w w' ∧ (∀ g, v.ownBlock = some g → w.heap.size ≤ g) := by
  obtain ⟨i3, hi3, hz3, hsz3, hb3⟩ := info_parts info3
  have hap := fun W ty => Lib.run_append_grow_zeros (P := Try.prog) W 29 3 ty 3 i3 _ .i64 .i64 Try.underlying29 under3 hi3 hz3 none 0 0 [] (by rw [hsz3]; simp [Builtin.firstCells]) n (by omega) (by omega) (by omega) (by omega) (by rw [hb3]; omega) (by rw [hb3]; have := nextslicecap_le (need := 0 + n) (old := 0) (by omega); omega)
  simp only [Nat.zero_add] at hap
  have hw1 : wrap64 ((n : Int) - 0) = (n : Int) := by unfold wrap64; omega
  have hge := grownCap_ge w n 0 3
  have hle := grownCap_le_maxLen w n 0 3 (by unfold maxLen; omega)
  have hap := hap w
  obtain ⟨G, hG⟩ : ∃ G, grownCap w n 0 3 = G := ⟨_, rfl⟩
  rw [hG] at hap hge hle
  have hle2 : G ≤ 9223372036854775807 := by unfold maxLen at hle; omega
  have HL := Lib.hid hle
  clear hG hi3 hz3 hsz3 hb3 hle
  go_enter Try.func44, Try.ntmps44
  go_wp2_with (at_builtin; refine Lib.wpList_append_run _ rfl _ _ _ _ rfl _ _ rfl rfl _ _ (hap _) ?_)
  go_ret
  refine ⟨_, rfl, ⟨rfl, .inr ⟨w.heap.size, G, _, rfl, Nat.zero_le _, Blk.new w.drew 3 _, Nat.zero_le _, HL.out, ?_, ?_⟩⟩, ((Kp.refl [] w).drew).alloc _, fun g hg => ?_⟩
  · simp [Builtin.zeroCells, Value.cells]; omega
  · simp [nums]
  · have : w.heap.size = g := by simpa [Value.ownBlock] using hg
    omega

/-- A row of Ints in a block of its own. -/
def rowV (r : Nat × List Int) : Value := .slice (some ⟨r.1, 0, none⟩) r.2.length r.2.length
def sumL (rs : List (Nat × List Int)) : Nat := (rs.map (·.2.length)).sum
def catL (rs : List (Nat × List Int)) : List Int := rs.flatMap (·.2)
theorem catL_length (rs : List (Nat × List Int)) : (catL rs).length = sumL rs := by
  induction rs with
  | nil => rfl
  | cons r rs ih => simp [catL, sumL] at ih ⊢
theorem take_snoc {α : Type} {l : List α} {k : Nat} {x : α} (h : l[k]? = some x) : l.take (k + 1) = l.take k ++ [x] := by
  rw [List.take_add_one, h]; rfl
theorem sumL_take {rs : List (Nat × List Int)} {k : Nat} {r : Nat × List Int} (h : rs[k]? = some r) : sumL (rs.take (k + 1)) = sumL (rs.take k) + r.2.length := by
  rw [take_snoc h]; simp [sumL]
theorem catL_take {rs : List (Nat × List Int)} {k : Nat} {r : Nat × List Int} (h : rs[k]? = some r) : catL (rs.take (k + 1)) = catL (rs.take k) ++ r.2 := by
  rw [take_snoc h]; simp [catL]
theorem sumL_take_le (rs : List (Nat × List Int)) (k : Nat) : sumL (rs.take k) ≤ sumL rs := by
  have : rs = rs.take k ++ rs.drop k := (List.take_append_drop k rs).symm
  have h : sumL rs = sumL (rs.take k) + sumL (rs.drop k) := by
    conv => lhs; rw [this]
    unfold sumL
    rw [List.map_append, List.sum_append]
  omega

set_option maxHeartbeats 4000000 in
set_option maxRecDepth 100000 in
theorem concat_any (rs : List (Nat × List Int)) (gb : Nat) (w : World) (hb : Blk w gb 29 (rs.map rowV).toArray) (hr : ∀ r ∈ rs, Blk w r.1 3 (nums .i64 r.2).toArray) (h1 : 1 ≤ sumL rs) (h2 : sumL rs ≤ 10000) (h3 : rs.length ≤ 100) :
    Calls Try.prog 28 #[.slice (some ⟨gb, 0, none⟩) rs.length rs.length] w fun e w' => ∃ v, e = .returned v ∧ Own .i64 3 w' v (catL rs) ∧ Kp [] w w' ∧ (∀ g, v.ownBlock = some g → w.heap.size ≤ g) := by
  have HB := Lib.hid hb
  have HR := Lib.hid hr
  clear hb hr
  go_enter Try.func28, Try.ntmps28
  go_wp2_with fail
  go_loopw [3, 5, 11] (fun t _ i wr => ∃ k : Nat, k ≤ rs.length ∧ i = .int .i64 k ∧ t = .int .i64 (sumL (rs.take k) : Nat) ∧ w = wr) (fun _ _ i _ => rs.length - (intOf i).toNat)
  case atStart => exact ⟨0, Nat.zero_le _, rfl, rfl, rfl⟩
  case round =>
    obtain ⟨k, hk, rfl, rfl, rfl⟩ := hrel
    by_cases hlt : k < rs.length
    · obtain ⟨r, hr⟩ : ∃ r, rs[k]? = some r := ⟨_, List.getElem?_eq_getElem hlt⟩
      have hs := sumL_take hr
      have hsl := sumL_take_le rs (k + 1)
      have c0 := HB.out.cell_ k (v := rowV r) (by simp [hr])
      unfold rowV at c0
      obtain ⟨s, hs2⟩ : ∃ s, sumL (rs.take k) = s := ⟨_, rfl⟩
      rw [hs2] at hs
      rw [hs] at hsl
      have HS := Lib.hid hs
      have HS2 := Lib.hid hs2
      rw [hs2]
      have hkl : (k : Int) < (rs.length : Int) := by omega
      clear hr hs hs2
      go_wp2_with fail
      go_roundw
      case measure => simp [intOf]; omega
      case rel => exact ⟨k + 1, by omega, by go_num, by rw [HS.out]; go_num, trivial⟩
    · obtain rfl : k = rs.length := by omega
      have h4 : sumL (rs.take rs.length) = sumL rs := by rw [List.take_length]
      rw [h4]
      go_wp2_with (go_at_call 44; refine (grow_any (sumL rs) _ h1 h2).mono ?_; rintro e w1 ⟨v, rfl, hv, hk1, hf⟩)
      go_loopw [6, 8, 27] (fun v _ i wr => ∃ k : Nat, k ≤ rs.length ∧ i = .int .i64 k ∧ Own .i64 3 wr v (catL (rs.take k)) ∧ Hid (Kp [] w wr) ∧ Hid (∀ g, v.ownBlock = some g → w.heap.size ≤ g)) (fun _ _ i _ => rs.length - (intOf i).toNat)
      case atStart => exact ⟨0, Nat.zero_le _, rfl, hv, hk1, hf⟩
      case round =>
        obtain ⟨k, hk, rfl, ho, HK, HF⟩ := hrel
        clear hv hf hk1
        by_cases hlt : k < rs.length
        · obtain ⟨r, hr⟩ : ∃ r, rs[k]? = some r := ⟨_, List.getElem?_eq_getElem hlt⟩
          have hsl := sumL_take_le rs (k + 1)
          rw [sumL_take hr] at hsl
          have hcl := catL_length (rs.take k)
          have c0 := (HB.out.kp HK.out (by simp)).cell_ k (v := rowV r) (by simp [hr])
          have hrm : r ∈ rs := List.mem_of_getElem? hr
          have HO1 := ((HR.out r hrm).kp HK.out (by simp)).own (by omega)
          obtain ⟨A1, q1, hv1, HRD⟩ := own_reads HO1
          unfold rowV at c0
          rw [hv1] at c0
          have HC := Lib.hid (catL_take hr)
          have hkl : (k : Int) < (rs.length : Int) := by omega
          obtain ⟨A0, q0, rfl⟩ := own_slice ho
          clear hr hrm HO1 hv1
          go_wp2_with (at_builtin; refine print_append_row 0 rfl (.tmp 31) (.tmp 32) 29 3 .i64 8 rfl Try.underlying29 info3 (by decide) _ (catL (rs.take k)) r.2 A1 r.2.length q1 rfl rfl ho HRD (Below.refl 0 _) (Nat.zero_le _) (by omega) ?_; intro v5 w5 hown5 _ hg5 hat5)
          go_roundw
          case measure => simp [intOf]; omega
          case rel =>
            refine ⟨k + 1, by omega, by go_num, ?_, HK.out.grown hg5 (fun g hg => .inr (HF.out g hg)), ?_⟩
            · rw [HC.out]; exact hown5
            · intro g hg
              rcases hat5 with e | ⟨b, e, hb⟩
              · rw [e] at hg; exact HF.out g hg
              · rw [e] at hg
                have : b = g := by simpa using hg
                have := HK.out.size
                omega
        · obtain rfl : k = rs.length := by omega
          rw [List.take_length] at ho
          go_wp2_with fail
          go_ret
          exact ⟨_, rfl, ho, HK.out, HF.out⟩
end Go.Proofs.Ytoaebpjjfglnnaa

/- inflate.Fixed. -/
namespace Go.Proofs.Ytoaebpjjfglnnaa
open Go.RowKit Go.Proofs.YtoaebpjjfglnnaaW.PrintWords Go.Proofs.YtoaebpjjfglnnaaW.PrintLast Go.Proofs.YtoaebpjjfglnnaaW.PrintMore
attribute [local go_sem] max2_int min2_int max_two min_two max_three min_three max_four min_four

/-- The fixed codes' lengths. -/
def fixF : List Nat := List.replicate 144 8 ++ (List.replicate 112 9 ++ (List.replicate 24 7 ++ List.replicate 8 8))
def fixS : List Nat := List.replicate 32 5
theorem ints_rep (n x : Nat) : (List.replicate n x).map Int.ofNat = List.replicate n (x : Int) := by simp

set_option maxHeartbeats 4000000 in
set_option maxRecDepth 100000 in
theorem fixed_any (w : World) : Calls Try.prog 18 #[] w fun e w' => ∃ v1 v2, e = .returned (.tuple #[v1, v2]) ∧ Own .i64 3 w' v1 (fixF.map Int.ofNat) ∧ Own .i64 3 w' v2 (fixS.map Int.ofNat) ∧ Kp [] w w' ∧ (∀ g, v1.ownBlock = some g → w.heap.size ≤ g) ∧ (∀ g, v2.ownBlock = some g → w.heap.size ≤ g) := by
  go_enter Try.func18, Try.ntmps18
  go_wp2_with fail
  refine (repeat_any 8 144 _ _ (Blk.new w 3 #[.int .i64 8]) (by decide)).mono ?_
  rintro e w1 ⟨g1, rfl, b1, k1, f1⟩
  replace k1 : Kp [] w w1 := ((Kp.refl [] w).alloc _).then_ k1
  have q1 : w.heap.size ≤ g1 := by have := f1; simp at this; omega
  clear f1
  go_wp2_with fail
  refine (repeat_any 9 112 _ _ (Blk.new w1 3 #[.int .i64 9]) (by decide)).mono ?_
  rintro e w2 ⟨g2, rfl, b2, k2, f2⟩
  replace k2 : Kp [] w1 w2 := ((Kp.refl [] w1).alloc _).then_ k2
  replace b1 := b1.kp k2 (by simp)
  replace k2 := k1.then_ k2
  clear f2 k1
  go_wp2_with fail
  refine (repeat_any 7 24 _ _ (Blk.new w2 3 #[.int .i64 7]) (by decide)).mono ?_
  rintro e w3 ⟨g3, rfl, b3, k3, f3⟩
  replace k3 : Kp [] w2 w3 := ((Kp.refl [] w2).alloc _).then_ k3
  replace b1 := b1.kp k3 (by simp)
  replace b2 := b2.kp k3 (by simp)
  replace k3 := k2.then_ k3
  clear f3 k2
  go_wp2_with fail
  refine (repeat_any 8 8 _ _ (Blk.new w3 3 #[.int .i64 8]) (by decide)).mono ?_
  rintro e w4 ⟨g4, rfl, b4, k4, f4⟩
  replace k4 : Kp [] w3 w4 := ((Kp.refl [] w3).alloc _).then_ k4
  replace b1 := b1.kp k4 (by simp)
  replace b2 := b2.kp k4 (by simp)
  replace b3 := b3.kp k4 (by simp)
  replace k4 := k3.then_ k4
  clear f4 k3
  obtain ⟨rs, hrs⟩ : ∃ rs : List (Nat × List Int), rs = [(g1, List.replicate 144 8), (g2, List.replicate 112 9), (g3, List.replicate 24 7), (g4, List.replicate 8 8)] := ⟨_, rfl⟩
  have hsum : sumL rs = 288 := by rw [hrs]; rfl
  have hlen : rs.length = 4 := by rw [hrs]; rfl
  have hcat : catL rs = fixF.map Int.ofNat := by rw [hrs]; rfl
  have henc : (rs.map rowV).toArray = #[.slice (some ⟨g1, 0, none⟩) 144 144, .slice (some ⟨g2, 0, none⟩) 112 112, .slice (some ⟨g3, 0, none⟩) 24 24, .slice (some ⟨g4, 0, none⟩) 8 8] := by rw [hrs]; rfl
  have hrows : ∀ r ∈ rs, Blk (w4.alloc (.cells #[.slice (some ⟨g1, 0, none⟩) 144 144, .slice (some ⟨g2, 0, none⟩) 112 112, .slice (some ⟨g3, 0, none⟩) 24 24, .slice (some ⟨g4, 0, none⟩) 8 8] 29)) r.1 3 (nums .i64 r.2).toArray := by
    rw [hrs]
    intro r hr
    simp only [List.mem_cons, List.not_mem_nil, or_false] at hr
    rcases hr with rfl | rfl | rfl | rfl
    · exact b1.alloc _
    · exact b2.alloc _
    · exact b3.alloc _
    · exact b4.alloc _
  have hcon := concat_any rs w4.heap.size _ (by rw [henc]; exact Blk.new w4 29 _) hrows (by omega) (by omega) (by omega)
  rw [hlen, hcat] at hcon
  have HCON := Lib.hid hcon
  clear hcon hrows henc hcat hlen hsum hrs b1 b2 b3 b4
  have HK4 := Lib.hid k4
  clear k4
  go_wp2_with fail
  refine HCON.out.mono ?_
  rintro e w5 ⟨v, rfl, ho, hk, hf⟩
  have k5 := (HK4.out.alloc (.cells #[.slice (some ⟨g1, 0, none⟩) 144 144, .slice (some ⟨g2, 0, none⟩) 112 112, .slice (some ⟨g3, 0, none⟩) 24 24, .slice (some ⟨g4, 0, none⟩) 8 8] 29)).then_ hk
  have hf5 : ∀ g, v.ownBlock = some g → w.heap.size ≤ g := fun g hg => by have := hf g hg; have := HK4.out.size; simp at *; omega
  clear hk hf
  go_wp2_with fail
  refine (repeat_any 5 32 _ _ (Blk.new w5 3 #[.int .i64 5]) (by decide)).mono ?_
  rintro e w6 ⟨g6, rfl, b6, k6, f6⟩
  have k7 : Kp [] w5 w6 := ((Kp.refl [] w5).alloc _).then_ k6
  have ho6 := own_kp ho k7 (by simp)
  have o6 := b6.own (by simp)
  clear k6
  go_wp2_with fail
  go_ret2
  refine ⟨_, _, rfl, ho6, ?_, k5.then_ k7, hf5, fun g hg => ?_⟩
  · exact o6
  · have h1 : g6 = g := by simpa [Value.ownBlock] using hg
    have := k5.size
    simp at f6
    omega
end Go.Proofs.Ytoaebpjjfglnnaa

/- slices.Max; the rows of lengths. -/
namespace Go.Proofs.Ytoaebpjjfglnnaa
open Go.RowKit Go.Proofs.YtoaebpjjfglnnaaW.PrintWords Go.Proofs.YtoaebpjjfglnnaaW.PrintLast Go.Proofs.YtoaebpjjfglnnaaW.PrintMore
attribute [local go_sem] max2_int min2_int max_two min_two max_three min_three max_four min_four

/-- The greatest. -/
def maxL (ls : List Nat) : Nat := ls.foldl max 0
theorem maxL_take {ls : List Nat} {k x : Nat} (h : ls[k]? = some x) : maxL (ls.take (k + 1)) = max (maxL (ls.take k)) x := by
  rw [take_snoc h]; simp [maxL]
theorem getD_some {ls : List Nat} {k : Nat} (h : k < ls.length) : ls[k]? = some (ls.getD k 0) := by
  simp [List.getD, List.getElem?_eq_getElem h]

set_option maxHeartbeats 4000000 in
set_option maxRecDepth 100000 in
theorem maxs_any (A : Option Addr) (c : Nat) (ls : List Nat) (w : World) (hC : (Kd.int .i64).C w A ls.length (ls.map Int.ofNat)) (h1 : 1 ≤ ls.length) (h2 : ls.length ≤ 1000) :
    Calls Try.prog 77 #[.slice A ls.length c] w fun e w' => e = .returned (.int .i64 (maxL ls : Nat)) ∧ w = w' := by
  have HC := Lib.hid hC
  obtain ⟨ad, rfl, h0⟩ := lens_at hC 0 (by omega)
  have ea : ad.add 0 = ad := by simp [Addr.add]
  rw [ea] at h0
  have hm0 := Lib.hid (maxL_take (getD_some (ls := ls) (k := 0) (by omega)))
  obtain ⟨x0, hx0⟩ : ∃ x0, ls.getD 0 0 = x0 := ⟨_, rfl⟩
  rw [hx0] at h0 hm0
  clear hC hx0 ea
  go_enter Try.func77, Try.ntmps77
  go_wp2_with fail
  go_loopw [3, 4] (fun m i wr => ∃ k : Nat, k ≤ ls.length ∧ i = .int .i64 k ∧ m = .int .i64 (maxL (ls.take k) : Nat) ∧ w = wr) (fun _ i _ => ls.length - (intOf i).toNat)
  case atStart => exact ⟨1, h1, rfl, by rw [hm0.out]; simp [maxL], rfl⟩
  case round =>
    obtain ⟨k, hk, rfl, rfl, rfl⟩ := hrel
    by_cases hlt : k < ls.length
    · have hm := Lib.hid (maxL_take (getD_some hlt))
      obtain ⟨ad', hA, hc⟩ := lens_at HC.out k hlt
      cases hA
      obtain ⟨x, hx⟩ : ∃ x, ls.getD k 0 = x := ⟨_, rfl⟩
      obtain ⟨y, hy⟩ : ∃ y, maxL (ls.take k) = y := ⟨_, rfl⟩
      rw [hx] at hc hm
      rw [hy] at hm ⊢
      clear hx hy
      have hkl : (k : Int) < (ls.length : Int) := by omega
      have hmx : max (y : Int) (x : Int) = ((max y x : Nat) : Int) := by omega
      go_wp2_with fail
      go_roundw
      case measure => simp [intOf]; omega
      case rel => exact ⟨k + 1, by omega, by go_num, by rw [hm.out, show ((max y x : Nat) : Int) = if y < x then (x : Int) else (y : Int) by split <;> omega], trivial⟩
    · obtain rfl : k = ls.length := by omega
      rw [List.take_length]
      go_wp2_with fail
      go_ret
      exact ⟨rfl, rfl⟩

theorem row1_any (b : Nat) (x m : Nat) (w : World) (hb : w.cell? ⟨b, 1, none⟩ = some (.int .i64 x)) (hx : x ≤ m) (hm : m ≤ 1000) :
    Calls Try.prog 82 #[.int .i64 m, .pointer (some ⟨b, 0, none⟩)] w fun e w' => e = .returned (.bool true) ∧ w = w' := by
  have hd : decide (x ≤ m) = true := decide_eq_true hx
  go_enter Try.func82, Try.ntmps82
  go_wp2_with fail
  go_ret
  exact ⟨rfl, rfl⟩

theorem row_lit_any (s : Nat) (A : Option Addr) (n c : Nat) (w : World) (hs : s ≤ 15) :
    Calls Try.prog 81 #[.agg #[.int .i64 s, .int .i64 0], .slice A n c] w fun e w' => e = .returned (.tuple #[.int .i64 s, .int .i64 1, .bool true]) ∧ Kp [] w w' := by
  have h1 : decide ((s : Int) < 0) = false := decide_eq_false (by omega)
  have h2 : decide ((19 : Int) ≤ (s : Int)) = false := decide_eq_false (by omega)
  have h3 : decide ((s : Int) ≤ 15) = true := decide_eq_true (by omega)
  go_enter Try.func81, Try.ntmps81
  go_wp2_with fail
  go_region
  go_wp2_with fail
  go_ret3
  exact ⟨rfl, ((Kp.refl [] w).alloc _).drew⟩
theorem row_16_any (x : Nat) (ad : Addr) (n c : Nat) (y : Nat) (w : World) (hx : x ≤ 3) (hn : 1 ≤ n) (hn2 : n ≤ 1000) (hy : w.cell? (ad.add (n - 1)) = some (.int .i64 y)) :
    Calls Try.prog 81 #[.agg #[.int .i64 16, .int .i64 x], .slice (some ad) n c] w fun e w' => e = .returned (.tuple #[.int .i64 y, .int .i64 ((3 + x : Nat) : Int), .bool true]) ∧ Kp [] w w' := by
  have hy2 := cell_kp ((Kp.refl [] w).alloc (.cells #[.int .i64 16, .int .i64 x] 131)) hy (by simp)
  obtain ⟨m, rfl⟩ : ∃ m, n = m + 1 := ⟨n - 1, by omega⟩
  rw [Nat.add_sub_cancel] at hy2
  have hw : IntKind.i64.wrap (((m + 1 : Nat) : Int) - 1) = (m : Int) := by rw [IntKind.wrap_i64]; omega
  have hml : (m : Int) < ((m + 1 : Nat) : Int) := by omega
  have hk := (Kp.refl [] w).alloc (.cells #[.int .i64 16, .int .i64 x] 131)
  have d0 : (w.alloc (.cells #[.int .i64 16, .int .i64 x] 131)).cell? ⟨w.heap.size, 1, none⟩ = some (.int .i64 x) := (Blk.new w 131 #[.int .i64 16, .int .i64 x]).cell_ 1 rfl
  have hn3 : ((m : Int) + 1 == 0) = false := by simp; omega
  go_enter Try.func81, Try.ntmps81
  go_wp2_with fail
  refine (row1_any _ x 3 _ d0 hx (by decide)).mono ?_
  rintro e w1 ⟨rfl, rfl⟩
  go_wp2_with fail
  go_quiet (fail)
  go_wp2_with fail
  go_ret3
  exact ⟨by go_num, hk.drewN _⟩
theorem row_17_any (x : Nat) (A : Option Addr) (n c : Nat) (w : World) (hx : x ≤ 7) :
    Calls Try.prog 81 #[.agg #[.int .i64 17, .int .i64 x], .slice A n c] w fun e w' => e = .returned (.tuple #[.int .i64 0, .int .i64 ((3 + x : Nat) : Int), .bool true]) ∧ Kp [] w w' := by
  have hk := (Kp.refl [] w).alloc (.cells #[.int .i64 17, .int .i64 x] 131)
  have d0 : (w.alloc (.cells #[.int .i64 17, .int .i64 x] 131)).cell? ⟨w.heap.size, 1, none⟩ = some (.int .i64 x) := (Blk.new w 131 #[.int .i64 17, .int .i64 x]).cell_ 1 rfl
  have HQ := fun W (h : W.cell? ⟨w.heap.size, 1, none⟩ = some (.int .i64 x)) => row1_any w.heap.size x 7 W h hx (by decide)
  go_enter Try.func81, Try.ntmps81
  go_wp2_with fail
  obtain ⟨w2, hw2⟩ : ∃ w2, w.alloc (.cells #[.int .i64 17, .int .i64 x] 131) = w2 := ⟨_, rfl⟩
  rw [hw2] at d0 hk ⊢
  clear hw2
  go_quiet (first | (go_at_call 82; refine Calls.quiet_of_same ((HQ _ (by simpa using d0)).mono fun e w' h => ⟨h.1, h.2.symm⟩)))
  go_wp2_with fail
  go_ret3
  exact ⟨by go_num, hk.drewN _⟩
theorem row_18_any (x : Nat) (A : Option Addr) (n c : Nat) (w : World) (hx : x ≤ 127) :
    Calls Try.prog 81 #[.agg #[.int .i64 18, .int .i64 x], .slice A n c] w fun e w' => e = .returned (.tuple #[.int .i64 0, .int .i64 ((11 + x : Nat) : Int), .bool true]) ∧ Kp [] w w' := by
  have hk := (Kp.refl [] w).alloc (.cells #[.int .i64 18, .int .i64 x] 131)
  have d0 : (w.alloc (.cells #[.int .i64 18, .int .i64 x] 131)).cell? ⟨w.heap.size, 1, none⟩ = some (.int .i64 x) := (Blk.new w 131 #[.int .i64 18, .int .i64 x]).cell_ 1 rfl
  have HQ := fun W (h : W.cell? ⟨w.heap.size, 1, none⟩ = some (.int .i64 x)) => row1_any w.heap.size x 127 W h hx (by decide)
  go_enter Try.func81, Try.ntmps81
  go_wp2_with fail
  obtain ⟨w2, hw2⟩ : ∃ w2, w.alloc (.cells #[.int .i64 18, .int .i64 x] 131) = w2 := ⟨_, rfl⟩
  rw [hw2] at d0 hk ⊢
  clear hw2
  go_quiet (first | (go_at_call 82; refine Calls.quiet_of_same ((HQ _ (by simpa using d0)).mono fun e w' h => ⟨h.1, h.2.symm⟩)))
  go_wp2_with fail
  go_ret3
  exact ⟨by go_num, hk.drewN _⟩
end Go.Proofs.Ytoaebpjjfglnnaa

/- lens.Unpack. -/
namespace Go.Proofs.Ytoaebpjjfglnnaa
open Go.RowKit Go.Proofs.YtoaebpjjfglnnaaW.PrintWords Go.Proofs.YtoaebpjjfglnnaaW.PrintLast Go.Proofs.YtoaebpjjfglnnaaW.PrintMore
attribute [local go_sem] max2_int min2_int max_two min_two max_three min_three max_four min_four

/-- One symbol of the packed lengths: which length, and how often. -/
def rowM (last : Nat) (it : Nat × Nat) : Nat × Nat := if it.1 ≤ 15 then (it.1, 1) else if it.1 = 16 then (last, 3 + it.2) else if it.1 = 17 then (0, 3 + it.2) else (0, 11 + it.2)
def stepU (acc : List Nat) (it : Nat × Nat) : List Nat := acc ++ List.replicate (rowM (acc.getLastD 0) it).2 (rowM (acc.getLastD 0) it).1
def unpackM (its : List (Nat × Nat)) : List Nat := its.foldl stepU []
def okIt (acc : List Nat) (it : Nat × Nat) : Prop := (it.1 ≤ 15 ∧ it.2 = 0) ∨ (it.1 = 16 ∧ it.2 ≤ 3 ∧ 1 ≤ acc.length) ∨ (it.1 = 17 ∧ it.2 ≤ 7) ∨ (it.1 = 18 ∧ it.2 ≤ 127)
def okIts (its : List (Nat × Nat)) : Prop := ∀ k it, its[k]? = some it → okIt (unpackM (its.take k)) it
def itsC (its : List (Nat × Nat)) : List Value := its.flatMap fun it => [.int .i64 (it.1 : Nat), .int .i64 (it.2 : Nat)]
abbrev Own2 (w : World) (v : Value) (its : List (Nat × Nat)) : Prop := w.ownsRow 0 131 2 v its.length (itsC its)
theorem unpackM_take {its : List (Nat × Nat)} {k : Nat} {it : Nat × Nat} (h : its[k]? = some it) : unpackM (its.take (k + 1)) = stepU (unpackM (its.take k)) it := by
  rw [take_snoc h]; simp [unpackM]
theorem unpackM_snoc (its : List (Nat × Nat)) (it : Nat × Nat) : unpackM (its ++ [it]) = stepU (unpackM its) it := by simp [unpackM]
theorem stepU_length (acc : List Nat) (it : Nat × Nat) : (stepU acc it).length = acc.length + (rowM (acc.getLastD 0) it).2 := by simp [stepU]
theorem unpackM_take_le (its : List (Nat × Nat)) : ∀ k, (unpackM (its.take k)).length ≤ (unpackM its).length := by
  intro k
  rcases Nat.lt_or_ge k its.length with h | h
  · have : ∀ d, k + d ≤ its.length → (unpackM (its.take k)).length ≤ (unpackM (its.take (k + d))).length := by
      intro d
      induction d with
      | zero => intro _; exact Nat.le_refl _
      | succ d ih =>
        intro hd
        have h1 := ih (by omega)
        obtain ⟨it, hit⟩ : ∃ it, its[k + d]? = some it := ⟨_, List.getElem?_eq_getElem (by omega)⟩
        have h2 := stepU_length (unpackM (its.take (k + d))) it
        rw [← unpackM_take hit] at h2
        rw [← Nat.add_assoc]
        omega
    have := this (its.length - k) (by omega)
    rwa [show k + (its.length - k) = its.length by omega, List.take_length] at this
  · rw [List.take_of_length_le h]; exact Nat.le_refl _
theorem rowM_le {acc : List Nat} {it : Nat × Nat} (h : okIt acc it) : (rowM (acc.getLastD 0) it).2 ≤ 138 := by
  unfold rowM
  rcases h with ⟨h1, h2⟩ | ⟨h1, h2, _⟩ | ⟨h1, h2⟩ | ⟨h1, h2⟩
  · rw [if_pos h1]; simp
  · rw [if_neg (by omega), if_pos h1]; simp only; omega
  · rw [if_neg (by omega), if_neg (by omega), if_pos h1]; simp only; omega
  · rw [if_neg (by omega), if_neg (by omega), if_neg (by omega)]; simp only; omega

theorem row_any (acc : List Nat) (it : Nat × Nat) (v : Value) (w : World) (h : okIt acc it) (hv : Own .i64 3 w v (acc.map Int.ofNat)) (hn : acc.length ≤ 1000) :
    Calls Try.prog 81 #[.agg #[.int .i64 (it.1 : Nat), .int .i64 (it.2 : Nat)], v] w fun e w' => e = .returned (.tuple #[.int .i64 ((rowM (acc.getLastD 0) it).1 : Nat), .int .i64 ((rowM (acc.getLastD 0) it).2 : Nat), .bool true]) ∧ Kp [] w w' := by
  obtain ⟨s, x⟩ := it
  obtain ⟨A, c, hvv, hr⟩ := own_reads hv
  rw [List.length_map] at hvv
  subst hvv
  unfold okIt at h
  simp only at h
  unfold rowM
  simp only
  rcases h with ⟨h1, rfl⟩ | ⟨rfl, h2, h3⟩ | ⟨rfl, h2⟩ | ⟨rfl, h2⟩
  · rw [if_pos h1]; exact row_lit_any s A acc.length c w h1
  · rw [if_neg (by omega), if_pos rfl]
    obtain ⟨ad, rfl, hc⟩ := hr.2.2 (by rw [List.length_map]; omega)
    refine row_16_any x ad acc.length c (acc.getLastD 0) w h2 h3 hn ?_
    rw [hc _ (by simp; omega)]
    congr 2
    rw [List.getLastD_eq_getLast?, List.getLast?_eq_getElem?]
    simp [List.getD, List.getElem?_map]
    cases acc[acc.length - 1]? <;> rfl
  · exact row_17_any x A acc.length c w h2
  · exact row_18_any x A acc.length c w h2

theorem itsC_at : ∀ {its : List (Nat × Nat)} {k : Nat} {it : Nat × Nat}, its[k]? = some it → (itsC its)[k * 2]? = some (.int .i64 (it.1 : Nat)) ∧ (itsC its)[k * 2 + 1]? = some (.int .i64 (it.2 : Nat))
  | [], k, it, h => by simp at h
  | a :: its, 0, it, h => by simp at h; subst h; simp [itsC]
  | a :: its, k + 1, it, h => by
    have := itsC_at (its := its) (k := k) (it := it) (by simpa using h)
    rw [show (k + 1) * 2 = k * 2 + 2 by omega]
    simpa [itsC] using this
theorem itsC_length (its : List (Nat × Nat)) : (itsC its).length = its.length * 2 := by
  induction its with
  | nil => rfl
  | cons a its ih => simp [itsC] at ih ⊢; omega
theorem own2_at {w : World} {A : Option Addr} {cap : Nat} {its : List (Nat × Nat)} {k : Nat} {it : Nat × Nat} (h : Own2 w (.slice A its.length cap) its) (hk : its[k]? = some it) :
    ∃ g, A = some ⟨g, 0, none⟩ ∧ w.cell? ⟨g, k * 2, none⟩ = some (.int .i64 (it.1 : Nat)) ∧ w.cell? ⟨g, k * 2 + 1, none⟩ = some (.int .i64 (it.2 : Nat)) := by
  have hlt : k < its.length := (List.getElem?_eq_some_iff.1 hk).1
  obtain ⟨h1, h2⟩ := itsC_at hk
  rcases h.2 with ⟨e, h0⟩ | ⟨g, cap', cur, hA, -, hcur, hc1, -, hsz, htk⟩
  · omega
  · injection hA with hA _ _
    rw [← htk] at h1 h2
    have hcell : ∀ j u, (cur.toList.take (its.length * 2))[j]? = some u → w.cell? ⟨g, j, none⟩ = some u := by
      intro j u hu
      have hj : j < its.length * 2 := by
        have := (List.getElem?_eq_some_iff.1 hu).1
        simp at this; omega
      rw [List.getElem?_take_of_lt hj] at hu
      exact (Blk.cell hcur j).trans (by simpa using hu)
    exact ⟨g, hA, hcell _ _ h1, hcell _ _ h2⟩

set_option maxHeartbeats 4000000 in
set_option maxRecDepth 100000 in
theorem unpack_any (its : List (Nat × Nat)) (v : Value) (w : World) (hv : Own2 w v its) (hok : okIts its) (hn : (unpackM its).length ≤ 320) (hl : its.length ≤ 1000) :
    Calls Try.prog 75 #[v] w fun e w' => ∃ v', e = .returned (.tuple #[v', .bool true]) ∧ Own .i64 3 w' v' ((unpackM its).map Int.ofNat) ∧ Kp [] w w' ∧ (∀ g, v'.ownBlock = some g → w.heap.size ≤ g) := by
  have HV := Lib.hid hv
  have HO := Lib.hid hok
  obtain ⟨A, cap, rfl⟩ : ∃ A cap, v = .slice A its.length cap := by
    rcases hv.2 with ⟨h1, h2⟩ | ⟨g, cap, cur, h1, _⟩
    · exact ⟨none, 0, by rw [h1, h2]⟩
    · exact ⟨_, _, h1⟩
  clear hv hok
  go_enter Try.func75, Try.ntmps75
  go_wp2_with fail
  go_loopw [4, 6, 7, 8, 9, 12] (fun o _ _ _ _ i wr => ∃ k : Nat, k ≤ its.length ∧ i = .int .i64 k ∧ Own .i64 3 wr o ((unpackM (its.take k)).map Int.ofNat) ∧ Hid (Kp [] w wr) ∧ Hid (∀ g, o.ownBlock = some g → w.heap.size ≤ g)) (fun _ _ _ _ _ i _ => its.length - (intOf i).toNat)
  case atStart => exact ⟨0, Nat.zero_le _, rfl, Own.nil _ _ _, Kp.refl _ _, by intro g hg; simp [Value.ownBlock] at hg⟩
  case round =>
    obtain ⟨k, hk, rfl, ho, HK, HF⟩ := hrel
    by_cases hlt : k < its.length
    · obtain ⟨it, hit⟩ : ∃ it, its[k]? = some it := ⟨_, List.getElem?_eq_getElem hlt⟩
      have hokk := HO.out k it hit
      have HU := Lib.hid (unpackM_take hit)
      obtain ⟨g, rfl, e1, e2⟩ := own2_at (own_kp HV.out HK.out (by simp)) hit
      have hkl : (k : Int) < (its.length : Int) := by omega
      have hle := unpackM_take_le its (k + 1)
      rw [HU.out, stepU_length] at hle
      have hq := rowM_le hokk
      go_wp2_with fail
      have HKA := (Kp.refl [] wr).alloc (.cells #[.int .i64 (it.1 : Nat), .int .i64 (it.2 : Nat)] 131)
      refine (row_any _ it _ _ hokk (own_kp ho HKA (by simp)) (by omega)).mono ?_
      rintro e w2 ⟨rfl, hk2⟩
      obtain ⟨acc, hacc⟩ : ∃ acc, unpackM (its.take k) = acc := ⟨_, rfl⟩
      rw [hacc] at ho HU hle hq hokk ⊢
      obtain ⟨p, hp⟩ : ∃ p, (rowM (acc.getLastD 0) it).1 = p := ⟨_, rfl⟩
      obtain ⟨q, hqq⟩ : ∃ q, (rowM (acc.getLastD 0) it).2 = q := ⟨_, rfl⟩
      have HS : Hid (stepU acc it = acc ++ List.replicate q p) := by unfold Hid stepU; rw [hp, hqq]
      rw [hqq] at hle hq ⊢
      rw [hp]
      have hk3 := (HKA.then_ hk2)
      have ho2 := own_kp ho hk3 (by simp)
      have HK3 := Lib.hid (HK.out.then_ hk3)
      clear hk2 hk3 HKA hp hqq hokk hacc hit e1 e2 ho
      obtain ⟨A0, c0, rfl⟩ := own_slice ho2
      rw [List.length_map] at ho2 ⊢
      go_wp2_with fail
      refine (repeat_any (p : Int) q _ _ (Blk.new w2 3 #[.int .i64 (p : Int)]) (by omega)).mono ?_
      rintro e w4 ⟨g4, rfl, b4, k4, f4⟩
      have k5 : Kp [] w2 w4 := ((Kp.refl [] w2).alloc _).then_ k4
      have ho4 := own_kp ho2 k5 (by simp)
      have HO4 := b4.own (by simp; omega)
      obtain ⟨A1, q1, hv1, HRD⟩ := own_reads HO4
      simp only [List.length_replicate] at hv1 HRD
      injection hv1 with hv1 _ hv2
      subst hv1
      subst hv2
      have HK5 := Lib.hid (HK3.out.then_ k5)
      clear k4 k5 ho2 HO4 b4 f4
      go_wp2_with (at_builtin; refine print_append_row 0 rfl (.tmp 32) (.tmp 36) 29 3 .i64 8 rfl Try.underlying29 info3 (by decide) (.slice A0 acc.length c0) (acc.map Int.ofNat) (List.replicate q (p : Int)) (some ⟨g4, 0, none⟩) q q rfl rfl (by rw [List.length_map]; exact ho4) HRD (Below.refl 0 _) (Nat.zero_le _) (by rw [List.length_map]; omega) ?_; intro v5 w5 hown5 _ hg5 hat5)
      go_roundw
      case measure => simp [intOf]; omega
      case rel =>
        refine ⟨k + 1, by omega, by go_num, ?_, HK5.out.grown hg5 (fun g hg => .inr (HF.out g (by rw [List.length_map]; exact hg))), ?_⟩
        · rw [HU.out, HS.out, List.map_append, ints_rep]; exact hown5
        · intro g hg
          rcases hat5 with e | ⟨b, e, hb⟩
          · rw [e] at hg; exact HF.out g (by rw [List.length_map]; exact hg)
          · rw [e] at hg
            have : b = g := by simpa using hg
            have := HK5.out.size
            omega
    · obtain rfl : k = its.length := by omega
      rw [List.take_length] at ho
      go_wp2_with fail
      go_ret2
      exact ⟨_, rfl, ho, HK.out, HF.out⟩
end Go.Proofs.Ytoaebpjjfglnnaa

/- inflate.code -/
namespace Go.Proofs.Ytoaebpjjfglnnaa
open Go.RowKit Go.Proofs.YtoaebpjjfglnnaaW.PrintWords Go.Proofs.YtoaebpjjfglnnaaW.PrintLast Go.Proofs.YtoaebpjjfglnnaaW.PrintMore
attribute [local go_sem] max2_int min2_int max_two min_two max_three min_three max_four min_four

abbrev RevC (R : Nat → Nat → Nat) : Prop := ∀ (a b l : Nat) (w : World), a ≤ 41943040 → b ≤ 320 → l ≤ 15 → Calls Try.prog 35 #[.int .u32 ((a : Int) + b), .int .i64 l] w fun e w' => e = .returned (.int .u32 (R (a + b) l : Nat)) ∧ w = w'

set_option maxHeartbeats 4000000 in
set_option maxRecDepth 100000 in
theorem new_bad (A : Option Addr) (c : Nat) (ls : List Nat) (w : World) (hC : (Kd.int .i64).C w A ls.length (ls.map Int.ofNat)) (hn : ls.length ≤ 320) (hl : ∀ l ∈ ls, l ≤ 15) (hr : 32768 < roomF ls) :
    Calls Try.prog 22 #[.slice A ls.length c] w fun e w' => e = .returned (.tuple #[.pointer none, .int .i64 10]) ∧ w = w' := by
  have H := Lib.hid (room_ok A c ls w hC hn hl)
  obtain ⟨room, hroom⟩ : ∃ r, roomF ls = r := ⟨_, rfl⟩
  rw [hroom] at H hr
  have hd : decide ((32768 : Int) < (room : Int)) = true := decide_eq_true (by omega)
  clear hC hl
  go_enter Try.func22, Try.ntmps22
  go_wp2_with fail
  refine H.out.mono ?_
  rintro e w1 ⟨rfl, rfl⟩
  go_wp2_with fail
  go_ret2
  exact ⟨rfl, rfl⟩

/-- Is this a code that may be read by? -/
def okCode (ls : List Nat) (single none : Bool) : Bool := decide (roomF ls ≤ 32768) && (decide (roomF ls = 32768) || (single && decide (used ls = 1) && decide (maxL ls = 1)) || (none && decide (used ls = 0)))

/-- What a call of code comes to. -/
def CodePost (R : Nat → Nat → Nat) (ok : Bool) (ls : List Nat) (w : World) (e : Ending) (w' : World) : Prop :=
  Kp [] w w' ∧ (if ok = true then ∃ pc, e = .returned (.pointer (some ⟨pc, 0, Option.none⟩)) ∧ HCode R w' pc ls ∧ w.heap.size ≤ pc else e = .panicked (faultP 10))

set_option maxHeartbeats 40000000 in
set_option maxRecDepth 100000 in
theorem code_any (R : Nat → Nat → Nat) (hR : RevC R) (A : Option Addr) (c : Nat) (ls : List Nat) (single nn : Bool) (w : World) (hC : (Kd.int .i64).C w A ls.length (ls.map Int.ofNat)) (hn : ls.length ≤ 320) (hl : ∀ l ∈ ls, l ≤ 15) :
    Calls Try.prog 68 #[.slice A ls.length c, .bool single, .bool nn] w (CodePost R (okCode ls single nn) ls w) := by
  have HC := Lib.hid hC
  have HL := Lib.hid hl
  have HR := Lib.hid hR
  by_cases hr : roomF ls ≤ 32768
  · have H := Lib.hid (new_ok R hR A c ls w hC hn hl hr)
    have HM : Hid (used ls = 1 → ∀ w1, Kp [] w w1 → Calls Try.prog 77 #[.slice A ls.length c] w1 fun e w' => e = .returned (.int .i64 (maxL ls : Nat)) ∧ w1 = w') := fun hu w1 hk => by
      refine maxs_any A c ls w1 (C_kp hC hk (by simp)) ?_ (by omega)
      cases ls with
      | nil => exact absurd hu (by decide)
      | cons a l => simp
    obtain ⟨u, hu⟩ : ∃ u, used ls = u := ⟨_, rfl⟩
    obtain ⟨m, hm⟩ : ∃ m, maxL ls = m := ⟨_, rfl⟩
    obtain ⟨q1, hq1⟩ : ∃ q : Bool, ((u : Int) == 1) = q := ⟨_, rfl⟩
    obtain ⟨q0, hq0⟩ : ∃ q : Bool, ((u : Int) == 0) = q := ⟨_, rfl⟩
    obtain ⟨q2, hq2⟩ : ∃ q : Bool, ((m : Int) == 1) = q := ⟨_, rfl⟩
    obtain ⟨b, hb⟩ : ∃ b : Bool, decide (roomF ls = 32768) = b := ⟨_, rfl⟩
    have HOK : Hid (okCode ls single nn = (b || (single && q1 && q2) || (nn && q0))) := by
      unfold Hid okCode
      rw [decide_eq_true hr, hb, hu, hm, ← hq1, ← hq0, ← hq2]
      have e1 : decide (u = 1) = ((u : Int) == 1) := by by_cases h : u = 1 <;> simp [h]; omega
      have e0 : decide (u = 0) = ((u : Int) == 0) := by by_cases h : u = 0 <;> simp [h]
      have e2 : decide (m = 1) = ((m : Int) == 1) := by by_cases h : m = 1 <;> simp [h]; omega
      rw [e1, e0, e2, Bool.true_and]
    have HQ1 : Hid (q1 = true → used ls = 1) := fun h => by rw [h] at hq1; rw [hu]; have := eq_of_beq hq1; omega
    rw [hm] at HM
    have HS0 : Hid (∀ w1 pc, HCode R w1 pc ls → Calls Try.prog 76 #[.pointer (some ⟨pc, 0, none⟩)] w1 fun e w' => e = .returned (.int .i64 u) ∧ w1 = w') := fun w1 pc hh => by rw [← hu]; exact symbols_any R pc ls w1 hh
    have HC0 : Hid (∀ w1 pc, HCode R w1 pc ls → Calls Try.prog 78 #[.pointer (some ⟨pc, 0, none⟩)] w1 fun e w' => e = .returned (.bool b) ∧ w1 = w') := fun w1 pc hh => by rw [← hb]; exact complete_any R pc ls w1 hh
    clear hC hl hR hb hu hm
    rcases (show (single = false ∧ b = true) ∨ (single = false ∧ b = false ∧ nn = false) ∨ (single = false ∧ b = false ∧ nn = true ∧ q0 = false) ∨ (single = false ∧ b = false ∧ nn = true ∧ q0 = true) ∨ (single = true ∧ q1 = false ∧ b = true) ∨ (single = true ∧ q1 = false ∧ b = false ∧ nn = false) ∨ (single = true ∧ q1 = false ∧ b = false ∧ nn = true ∧ q0 = false) ∨ (single = true ∧ q1 = false ∧ b = false ∧ nn = true ∧ q0 = true) ∨ (single = true ∧ q1 = true ∧ q2 = false ∧ b = true) ∨ (single = true ∧ q1 = true ∧ q2 = false ∧ b = false ∧ nn = false) ∨ (single = true ∧ q1 = true ∧ q2 = false ∧ b = false ∧ nn = true ∧ q0 = false) ∨ (single = true ∧ q1 = true ∧ q2 = false ∧ b = false ∧ nn = true ∧ q0 = true) ∨ (single = true ∧ q1 = true ∧ q2 = true ∧ b = true) ∨ (single = true ∧ q1 = true ∧ q2 = true ∧ b = false) by cases single <;> cases q1 <;> cases q2 <;> cases b <;> cases nn <;> cases q0 <;> simp) with ⟨rfl, rfl⟩ | ⟨rfl, rfl, rfl⟩ | ⟨rfl, rfl, rfl, rfl⟩ | ⟨rfl, rfl, rfl, rfl⟩ | ⟨rfl, rfl, rfl⟩ | ⟨rfl, rfl, rfl, rfl⟩ | ⟨rfl, rfl, rfl, rfl, rfl⟩ | ⟨rfl, rfl, rfl, rfl, rfl⟩ | ⟨rfl, rfl, rfl, rfl⟩ | ⟨rfl, rfl, rfl, rfl, rfl⟩ | ⟨rfl, rfl, rfl, rfl, rfl, rfl⟩ | ⟨rfl, rfl, rfl, rfl, rfl, rfl⟩ | ⟨rfl, rfl, rfl, rfl⟩ | ⟨rfl, rfl, rfl, rfl⟩
    all_goals
      go_enter Try.func68, Try.ntmps68
      go_wp2_with fail
      refine H.out.mono ?_
      rintro e w1 ⟨pc, rfl, hh, hk, hp⟩
      have HH := Lib.hid hh
      have HK := Lib.hid hk
      clear hh hk
      go_wp2_with (first
        | (go_at_call 50; first | (refine (need_yes 10 _).mono ?_; rintro e w2 ⟨rfl, rfl⟩) | (refine (need_no 10 _).mono ?_; rintro e w2 ⟨rfl, rfl⟩))
        | (go_at_call 76; refine (HS0.out _ _ HH.out).mono ?_; rintro e w2 ⟨rfl, rfl⟩)
        | (go_at_call 78; refine (HC0.out _ _ HH.out).mono ?_; rintro e w2 ⟨rfl, rfl⟩)
        | (go_at_call 77; refine (HM.out (HQ1.out (by first | rfl | trivial)) _ HK.out).mono ?_; rintro e w2 ⟨rfl, rfl⟩))
      first
        | (go_ret; exact ⟨HK.out, by rw [HOK.out]; simp only [Bool.true_or, Bool.or_true, Bool.and_true, Bool.and_self, Bool.false_or, if_true]; exact ⟨pc, rfl, HH.out, hp⟩⟩)
        | exact ⟨rfl, HK.out, by rw [HOK.out]; simp only [Bool.false_and, Bool.and_false, Bool.or_false, Bool.and_true, Bool.true_and, Bool.or_self, Bool.false_eq_true, if_false]⟩
  · have H := Lib.hid (new_bad A c ls w hC hn hl (by omega))
    have HK : Hid (okCode ls single nn = false) := by unfold Hid okCode; simp [hr]
    clear hC hl hR hr
    go_enter Try.func68, Try.ntmps68
    go_wp2_with fail
    refine H.out.mono ?_
    rintro e w1 ⟨rfl, rfl⟩
    go_wp2_with fail
    refine (need_no 10 _).mono ?_
    rintro e w2 ⟨rfl, rfl⟩
    go_wp2_with fail
    exact ⟨rfl, Kp.refl _ _, by rw [HK.out]; rfl⟩
end Go.Proofs.Ytoaebpjjfglnnaa

/- The unpacking reader: the packed lengths (rows). -/
namespace Go.Proofs.Ytoaebpjjfglnnaa
open Go.RowKit Go.Proofs.YtoaebpjjfglnnaaW.PrintWords Go.Proofs.YtoaebpjjfglnnaaW.PrintLast Go.Proofs.YtoaebpjjfglnnaaW.PrintMore
attribute [local go_sem] max2_int min2_int max_two min_two max_three min_three max_four min_four

/-- One symbol of the packed lengths. -/
def mRow (E : IE) (cl : List Nat) (acc : List Nat) : IM (Nat × Nat) :=
  mBind (mSymbol E cl) fun s =>
  if s = 16 then mBind (mNumber E 2) fun x => mBind (mNeed (decide (0 < acc.length)) 10) fun _ => mPure (16, x)
  else if s = 17 then mBind (mNumber E 3) fun x => mPure (17, x)
  else if s = 18 then mBind (mNumber E 7) fun x => mPure (18, x)
  else mPure (s, 0)
def mRowsL (E : IE) (cl : List Nat) (total : Nat) : Nat → List Nat → IM (List Nat)
  | 0, acc => mPure acc
  | k + 1, acc => if acc.length < total then mBind (mRow E cl acc) fun it => mRowsL E cl total k (stepU acc it) else mPure acc
def mRows (E : IE) (cl : List Nat) (total : Nat) : IM (List Nat) :=
  mBind (mRowsL E cl total total []) fun acc => mBind (mNeed (decide (acc.length = total)) 10) fun _ => mPure acc

theorem rowM_pos (last : Nat) (it : Nat × Nat) : 1 ≤ (rowM last it).2 := by
  unfold rowM
  split
  · simp
  · split
    · simp only; omega
    · split <;> simp only <;> omega
theorem its_le (its : List (Nat × Nat)) : its.length ≤ (unpackM its).length := by
  have : ∀ k, k ≤ its.length → k ≤ (unpackM (its.take k)).length := by
    intro k
    induction k with
    | zero => intro _; exact Nat.zero_le _
    | succ k ih =>
      intro hk
      obtain ⟨it, hit⟩ : ∃ it, its[k]? = some it := ⟨_, List.getElem?_eq_getElem (by omega)⟩
      rw [unpackM_take hit, stepU_length]
      have := ih (by omega)
      have := rowM_pos ((unpackM (its.take k)).getLastD 0) it
      omega
  have h := this its.length (Nat.le_refl _)
  rwa [List.take_length] at h
theorem okIts.snoc {its : List (Nat × Nat)} {it : Nat × Nat} (h : okIts its) (hk : okIt (unpackM its) it) : okIts (its ++ [it]) := by
  intro k x hx
  rcases Nat.lt_or_ge k its.length with hlt | hge
  · rw [List.getElem?_append_left hlt] at hx
    rw [List.take_append_of_le_length (by omega)]
    exact h k x hx
  · rw [List.getElem?_append_right hge] at hx
    have hk0 : k - its.length = 0 := by
      rcases Nat.eq_zero_or_pos (k - its.length) with e | e
      · exact e
      · rw [List.getElem?_eq_none (by simp; omega)] at hx; cases hx
    rw [hk0] at hx
    have : x = it := by simpa using hx.symm
    subst this
    rw [show k = its.length by omega, List.take_append_of_le_length (Nat.le_refl _), List.take_length]
    exact hk

/-- Blocks that the reader does not know have turned. -/
theorem RepI.off {E : IE} {br bb : Nat} {A : Option Addr} {c : Nat} {w w' : World} {ov : Value} {s : IS} {L : List Nat} (h : RepI E br bb A c w ov s) (hk : Kp L w w') (hL : ∀ x ∈ L, (∃ t cs, Blk w x t cs ∧ t ≠ 64 ∧ t ≠ 93 ∧ t ≠ 5) ∨ w.heap.size ≤ x) : RepI E br bb A c w' ov s := by
  have hb : ∀ {g t cs}, Blk w g t cs → (t = 64 ∨ t = 93 ∨ t = 5) → g ∉ L := by
    intro g t cs hg ht hm
    rcases hL g hm with ⟨t', cs', hg', h1, h2, h3⟩ | hge
    · have : g ≠ g := Blk.ne_ hg hg' (by rcases ht with rfl | rfl | rfl <;> first | exact fun e => h1 e.symm | exact fun e => h2 e.symm | exact fun e => h3 e.symm)
      exact this rfl
    · have := hg.lt; omega
  have ho : ∀ {v : Value} {n : Nat} {xs : List Value}, w.ownsRow 0 5 1 v n xs → ∀ g ∈ L, v.ownBlock ≠ some g := by
    intro v n xs hv g hg he
    rcases hv.2 with ⟨rfl, _⟩ | ⟨g', cap, cur, rfl, _, hh, _⟩
    · simp [Value.ownBlock] at he
    · have : g' = g := by simpa [Value.ownBlock] using he
      subst this
      exact hb (show Blk w g' 5 cur from hh) (.inr (.inr rfl)) hg
  exact ⟨h.r.kp hk (hb h.r (.inl rfl)), h.b.kp hk (hb h.b (.inr (.inl rfl))), own_kp h.src hk (ho h.src), own_kp h.own hk (ho h.own), h.apart, h.ok⟩
theorem StepI.off {E : IE} {br bb : Nat} {A : Option Addr} {c : Nat} {w w1 w2 : World} {ov ov1 : Value} {s : IS} {L : List Nat} (h : StepI E br bb A c w ov w1 ov1 s) (hk : Kp L w1 w2) (hL : ∀ x ∈ L, (∃ t cs, Blk w1 x t cs ∧ t ≠ 64 ∧ t ≠ 93 ∧ t ≠ 5) ∨ w1.heap.size ≤ x) (hn : ∀ x ∈ L, w.heap.size ≤ x) : StepI E br bb A c w ov w2 ov1 s :=
  ⟨h.rep.off hk hL, h.kp.trans hk (fun x hx => .inr (hn x hx)), h.new⟩
theorem StepI.off1 {E : IE} {br bb : Nat} {A : Option Addr} {c : Nat} {w w1 w2 : World} {ov ov1 : Value} {s : IS} {g : Nat} {t : TypeId} {cs : Array Value} (h : StepI E br bb A c w ov w1 ov1 s) (hk : Kp [g] w1 w2) (hb : Blk w1 g t cs) (h1 : t ≠ 64) (h2 : t ≠ 93) (h3 : t ≠ 5) (hn : w.heap.size ≤ g) : StepI E br bb A c w ov w2 ov1 s :=
  h.off hk (fun x hx => .inl ⟨t, cs, by rw [show x = g by simpa using hx]; exact hb, h1, h2, h3⟩) (fun x hx => by rw [show x = g by simpa using hx]; exact hn)
theorem RepI.turn_ne {E : IE} {br bb : Nat} {A : Option Addr} {c : Nat} {w : World} {ov : Value} {s : IS} (h : RepI E br bb A c w ov s) {g : Nat} {t : TypeId} {cs : Array Value} (hb : Blk w g t cs) (h1 : t ≠ 64) (h2 : t ≠ 93) (h3 : t ≠ 5) : g ∉ turns br bb ov := by
  intro hm
  unfold turns at hm
  simp only [List.mem_cons, Option.mem_toList] at hm
  rcases hm with rfl | rfl | e
  · exact Blk.ne_ hb h.r h1 rfl
  · exact Blk.ne_ hb h.b h2 rfl
  · exact own_blk_ne h.own hb (fun e => h3 e.symm) e
theorem RepI.turn_own {E : IE} {br bb : Nat} {A : Option Addr} {c : Nat} {w w' : World} {ov : Value} {s : IS} (h : RepI E br bb A c w ov s) {base : Nat} {t : TypeId} {size n : Nat} {v : Value} {xs : List Value} (hv : w.ownsRow base t size v n xs) (hk : Kp (turns br bb ov) w w') (h1 : t ≠ 64) (h2 : t ≠ 93) (h3 : t ≠ 5) : w'.ownsRow base t size v n xs := by
  refine own_kp hv hk (fun g hg he => ?_)
  rcases hv.2 with ⟨rfl, _⟩ | ⟨g', cap, cur, rfl, _, hh, _⟩
  · simp [Value.ownBlock] at he
  · have : g' = g := by simpa [Value.ownBlock] using he
    subst this
    exact h.turn_ne (show Blk w g' t cur from hh) h1 h2 h3 hg
theorem info131 : (Try.prog.info? 131).map (fun i => (i.zero, i.size, i.bytes)) = some (some (.agg #[.int .i64 0, .int .i64 0]), 2, 16) := by kernel_rfl

/-- What a call of rows comes to. -/
def RowsPost (E : IE) (br bb : Nat) (A : Option Addr) (c : Nat) (w : World) (ov : Value) (r : Except Nat (List Nat × IS)) (e : Ending) (w' : World) : Prop :=
  match r with
  | .ok (ls, s') => ∃ v, e = .returned v ∧ Own .i64 3 w' v (ls.map Int.ofNat) ∧ (∀ g, v.ownBlock = some g → w.heap.size ≤ g) ∧ ∃ ov', StepI E br bb A c w ov w' ov' s'
  | .error k => e = .panicked (faultP k) ∧ Kp (turns br bb ov) w w'
theorem RowsPost.err {E : IE} {br bb : Nat} {A : Option Addr} {c : Nat} {w w' : World} {ov : Value} {r : Except Nat (List Nat × IS)} {k : Nat} (hr : r = .error k) (h : Kp (turns br bb ov) w w') : RowsPost E br bb A c w ov r (.panicked (faultP k)) w' := by
  rw [hr]; exact ⟨rfl, h⟩
theorem RowsPost.ok {E : IE} {br bb : Nat} {A : Option Addr} {c : Nat} {w w' : World} {ov ov' v : Value} {r : Except Nat (List Nat × IS)} {ls : List Nat} {s' : IS} (hr : r = .ok (ls, s')) (hv : Own .i64 3 w' v (ls.map Int.ofNat)) (hf : ∀ g, v.ownBlock = some g → w.heap.size ≤ g) (h : StepI E br bb A c w ov w' ov' s') : RowsPost E br bb A c w ov r (.returned v) w' := by
  rw [hr]; exact ⟨v, rfl, hv, hf, ov', h⟩
theorem RowsPost.cases {E : IE} {br bb : Nat} {A : Option Addr} {c : Nat} {w w' : World} {ov : Value} {r : Except Nat (List Nat × IS)} {e : Ending} (h : RowsPost E br bb A c w ov r e w') :
    (∃ ls s' v ov', Hid (r = .ok (ls, s')) ∧ e = .returned v ∧ Own .i64 3 w' v (ls.map Int.ofNat) ∧ (∀ g, v.ownBlock = some g → w.heap.size ≤ g) ∧ StepI E br bb A c w ov w' ov' s') ∨ (∃ k, Hid (r = .error k) ∧ e = .panicked (faultP k) ∧ Kp (turns br bb ov) w w') := by
  cases r with
  | ok p => obtain ⟨ls, s'⟩ := p; obtain ⟨v, h1, h2, h3, ov', h4⟩ := h; exact .inl ⟨ls, s', v, ov', rfl, h1, h2, h3, h4⟩
  | error k => exact .inr ⟨k, rfl, h.1, h.2⟩

theorem itsC_snoc (its : List (Nat × Nat)) (it : Nat × Nat) : itsC (its ++ [it]) = itsC its ++ [.int .i64 (it.1 : Nat), .int .i64 (it.2 : Nat)] := by simp [itsC]
/-- Behind the append of an item. -/
theorem rows_tail {E : IE} {br bb : Nat} {A : Option Addr} {c : Nat} {w wx w5 : World} {ov ovx v v5 : Value} {s : IS} {its : List (Nat × Nat)} {it : Nat × Nat} (S : StepI E br bb A c w ov wx ovx s) (hv : Own2 wx v its)
    (hf : ∀ g, v.ownBlock = some g → w.heap.size ≤ g) (hown : w5.ownsRow 0 131 2 v5 (its.length + 1) (itsC its ++ [.int .i64 (it.1 : Nat), .int .i64 (it.2 : Nat)])) (hg : wx.grownBy w5 v.ownBlock)
    (hat : v5.ownBlock = v.ownBlock ∨ ∃ b, v5.ownBlock = some b ∧ wx.heap.size ≤ b) :
    StepI E br bb A c w ov w5 ovx s ∧ Own2 w5 v5 (its ++ [it]) ∧ (∀ g, v5.ownBlock = some g → w.heap.size ≤ g) := by
  have hk : Kp v.ownBlock.toList wx w5 := (Kp.refl _ _).grown hg (fun k hk => .inl (by simp [hk]))
  refine ⟨S.off hk (fun x hx => .inl ?_) (fun x hx => hf x (by simpa using hx)), ?_, fun g h5 => ?_⟩
  · have hx' : v.ownBlock = some x := by simpa using hx
    rcases hv.2 with ⟨rfl, _⟩ | ⟨g', cap, cur, rfl, _, hh, _⟩
    · simp [Value.ownBlock] at hx'
    · have : g' = x := by simpa [Value.ownBlock] using hx'
      subst this
      exact ⟨131, cur, hh, by decide, by decide, by decide⟩
  · unfold Own2
    rw [itsC_snoc, List.length_append]
    exact hown
  · rcases hat with e | ⟨b, e, hb⟩
    · rw [e] at h5; exact hf g h5
    · rw [e] at h5
      have : b = g := by simpa using h5
      have := S.kp.size
      omega

set_option maxHeartbeats 8000000 in
set_option maxRecDepth 100000 in
theorem rows_any (R : Nat → Nat → Nat) (E : IE) (hE : E.Ok) (br bb pc : Nat) (cl : List Nat) (total : Nat) (A : Option Addr) (c : Nat) (w : World) (ov : Value) (s : IS) (h : RepI E br bb A c w ov s) (hc : HCode R w pc cl) (hcl : cl.length = 19) (ht : total ≤ 320) :
    Calls Try.prog 67 #[.pointer (some ⟨br, 0, none⟩), .pointer (some ⟨pc, 0, none⟩), .int .i64 total] w (RowsPost E br bb A c w ov (mRows E cl total s)) := by
  have HH := Lib.hid h
  have HE := Lib.hid hE
  have HC := Lib.hid hc
  clear h hE hc
  go_enter Try.func67, Try.ntmps67
  go_wp2_with fail
  go_loopg [7, 8, 9] total (fun k v n _ wr => ∃ its s' ov', n = .int .i64 ((unpackM its).length : Nat) ∧ Own2 wr v its ∧ Hid (okIts its) ∧ (unpackM its).length ≤ 500 ∧ total ≤ (unpackM its).length + k ∧
    Hid (mRowsL E cl total k (unpackM its) s' = mRowsL E cl total total [] s) ∧ Hid (∀ g, v.ownBlock = some g → w.heap.size ≤ g) ∧ Hid (StepI E br bb A c w ov wr ov' s'))
  case atStart => exact ⟨[], s, ov, rfl, World.ownsRow_nil _ _ _ _, by intro k it hk; simp at hk, by simp [unpackM], by simp [unpackM], rfl, by intro g hg; simp [Value.ownBlock] at hg, HH.out.refl⟩
  case round =>
    obtain ⟨its, s1, ov1, rfl, hv, HO, hlen, htk, HM, HF, HS⟩ := hrel
    obtain ⟨acc, hacc⟩ : ∃ acc, unpackM its = acc := ⟨_, rfl⟩
    rw [hacc] at hlen htk HM ⊢
    have hil := its_le its
    rw [hacc] at hil
    have HACC := Lib.hid hacc
    clear hacc
    by_cases hlt : acc.length < total
    · obtain ⟨k, rfl⟩ : ∃ k, gk = k + 1 := ⟨gk - 1, by omega⟩
      have hll : (acc.length : Int) < (total : Int) := by omega
      go_wp2_with fail
      refine (symbol_any R E HE.out br bb pc cl A c wr ov1 s1 HS.out.rep (HC.out.kp HS.out.kp (other_turns HH.out)) (by omega)).mono ?_
      intro e w2 hp
      rcases hp.cases with ⟨x, s2, ov2, HM2, rfl, S2⟩ | ⟨k, HM2, rfl, hk2⟩
      · clear hp
        obtain ⟨hx19, -⟩ := mSymbol_ok HM2.out HS.out.rep.ok.at_le
        rw [hcl] at hx19
        have hv2 := HS.out.rep.turn_own hv S2.kp (by decide) (by decide) (by decide)
        have HS2 := Lib.hid (HS.out.trans S2)
        have b9 := Blk.new w2 131 #[.int .i64 (x : Nat), .int .i64 0]
        have k9 := (Kp.refl [] w2).alloc (.cells #[.int .i64 (x : Nat), .int .i64 0] 131)
        have S9 := HS2.out.off k9 (by simp) (by simp)
        have hv9 := own_kp hv2 k9 (by simp)
        have hx : (x : Int) ≤ 100 := by omega
        by_cases h16 : x = 16
        · subst h16
          go_wp2_with fail
          refine (number_any E HE.out br bb A c 2 _ ov2 s2 S9.rep (by decide)).mono ?_
          intro e w3 hp
          rcases hp.cases with ⟨y, s3, ov3, HM3, rfl, S3⟩ | ⟨k3, HM3, rfl, hk3⟩
          · clear hp
            have hy := mNumber_lt HM3.out
            have hy2 : y < 4 := hy
            clear hy
            have b3 := b9.kp S3.kp (S9.rep.turn_ne b9 (by decide) (by decide) (by decide))
            have d0 : w3.cell? ⟨w2.heap.size, 0, none⟩ = some (.int .i64 16) := b3.cell_ 0 rfl
            have d1 : w3.cell? ⟨w2.heap.size, 1, none⟩ = some (.int .i64 0) := b3.cell_ 1 rfl
            have f1 := b3.frozen 1
            have hv3 := S9.rep.turn_own hv9 S3.kp (by decide) (by decide) (by decide)
            have hne : u7.ownBlock ≠ some w2.heap.size := fun e => by have := (hv2.lt _ e).2; omega
            have hv4 := ownsRow_setCell_other hv3 hne (a := ⟨w2.heap.size, 1, none⟩) (.int .i64 (y : Nat))
            have k4 : Kp [w2.heap.size] w3 (w3.setCell ⟨w2.heap.size, 1, none⟩ (.int .i64 (y : Nat))) := (Kp.refl _ _).set_ (by simp) _
            have S4 := (S9.trans S3).off1 k4 b3 (by decide) (by decide) (by decide) HS2.out.kp.size
            by_cases h0 : 1 ≤ acc.length
            · have hd0 : decide (0 < acc.length) = true := decide_eq_true (by omega)
              have HMR : Hid (mRow E cl acc s1 = .ok ((16, y), s3)) := by
                unfold Hid mRow mBind
                rw [HM2.out]
                simp only [if_true, mBind, HM3.out, mNeed, show 0 < acc.length by omega, decide_true, mPure]
              have hok : okIt acc (16, y) := .inr (.inl ⟨rfl, by simp only; omega, h0⟩)
              have HST : Hid (stepU acc (16, y) = acc ++ List.replicate (3 + y) (acc.getLastD 0)) := by unfold Hid; rfl
              have HOKI : Hid (okIts (its ++ [(16, y)])) := HO.out.snoc (by rw [HACC.out]; exact hok)
              clear hok
              go_wp2_with fail
              refine (need_yes 10 _).mono ?_
              rintro e w4 ⟨rfl, rfl⟩
              go_wp2_with (at_builtin; refine print_append_cells 0 rfl (.tmp 56) (.tmp 58) 130 131 _ 2 16 rfl Try.underlying130 info131 rfl (by decide) (by decide) u7 its.length (itsC its) [.int .i64 16, .int .i64 (y : Nat)] rfl (by simp [Act.eval]) rfl (by simp [Value.oneCell']) hv4 (Below.refl 0 _) (Nat.zero_le _) (by omega) ?_; intro v5 w5 hown5 _ hg5 hat5)
              obtain ⟨S5, hv5, hf5⟩ := rows_tail (it := (16, y)) S4 hv4 HF.out hown5 hg5 hat5
              go_roundg k
              case measure => omega
              case rel =>
                have hun : unpackM (its ++ [(16, y)]) = acc ++ List.replicate (3 + y) (acc.getLastD 0) := by rw [unpackM_snoc, HACC.out, HST.out]
                have hul : (unpackM (its ++ [(16, y)])).length = acc.length + (3 + y) := by rw [hun, List.length_append, List.length_replicate]
                refine ⟨its ++ [(16, y)], s3, ov3, by rw [hul]; go_num, hv5, HOKI, by omega, by omega, ?_, hf5, S5⟩
                unfold Hid
                rw [← HM.out, mRowsL, if_pos hlt, hun]
                simp only [mBind, HMR.out, HST.out]
            · have hd0 : decide (0 < acc.length) = false := decide_eq_false (by omega)
              have HMR : Hid (mRow E cl acc s1 = .error 10) := by
                unfold Hid mRow mBind
                rw [HM2.out]
                simp only [if_true, mBind, HM3.out, mNeed, show ¬ 0 < acc.length by omega, decide_false, Bool.false_eq_true, if_false]
              go_wp2_with fail
              refine (need_no 10 _).mono ?_
              rintro e w4 ⟨rfl, rfl⟩
              go_wp2_with fail
              refine ⟨rfl, RowsPost.err ?_ S4.kp⟩
              unfold mRows mBind
              rw [← HM.out, mRowsL, if_pos hlt]
              simp only [mBind, HMR.out]
          · clear hp
            have HMR : Hid (mRow E cl acc s1 = .error k3) := by
              unfold Hid mRow mBind
              rw [HM2.out]
              simp only [if_true, mBind, HM3.out]
            go_wp2_with fail
            refine ⟨rfl, RowsPost.err ?_ (S9.fail hk3)⟩
            unfold mRows mBind
            rw [← HM.out, mRowsL, if_pos hlt]
            simp only [mBind, HMR.out]
        · have e16 : ((x : Int) == 16) = false := by simp; omega
          by_cases h17 : x = 17
          · subst h17
            go_wp2_with fail
            refine (number_any E HE.out br bb A c 3 _ ov2 s2 S9.rep (by decide)).mono ?_
            intro e w3 hp
            rcases hp.cases with ⟨y, s3, ov3, HM3, rfl, S3⟩ | ⟨k3, HM3, rfl, hk3⟩
            · clear hp
              have hy := mNumber_lt HM3.out
              have hy2 : y < 8 := hy
              clear hy
              have b3 := b9.kp S3.kp (S9.rep.turn_ne b9 (by decide) (by decide) (by decide))
              have d0 : w3.cell? ⟨w2.heap.size, 0, none⟩ = some (.int .i64 17) := b3.cell_ 0 rfl
              have d1 : w3.cell? ⟨w2.heap.size, 1, none⟩ = some (.int .i64 0) := b3.cell_ 1 rfl
              have f1 := b3.frozen 1
              have hv3 := S9.rep.turn_own hv9 S3.kp (by decide) (by decide) (by decide)
              have hne : u7.ownBlock ≠ some w2.heap.size := fun e => by have := (hv2.lt _ e).2; omega
              have hv4 := ownsRow_setCell_other hv3 hne (a := ⟨w2.heap.size, 1, none⟩) (.int .i64 (y : Nat))
              have k4 : Kp [w2.heap.size] w3 (w3.setCell ⟨w2.heap.size, 1, none⟩ (.int .i64 (y : Nat))) := (Kp.refl _ _).set_ (by simp) _
              have S4 := (S9.trans S3).off1 k4 b3 (by decide) (by decide) (by decide) HS2.out.kp.size
              have HMR : Hid (mRow E cl acc s1 = .ok ((17, y), s3)) := by
                unfold Hid mRow mBind
                rw [HM2.out]
                simp only [show ¬ (17 : Nat) = 16 by decide, if_false, if_true, mBind, HM3.out, mPure]
              have hok : okIt acc (17, y) := .inr (.inr (.inl ⟨rfl, by simp only; omega⟩))
              have HST : Hid (stepU acc (17, y) = acc ++ List.replicate (3 + y) 0) := by unfold Hid; rfl
              have HOKI : Hid (okIts (its ++ [(17, y)])) := HO.out.snoc (by rw [HACC.out]; exact hok)
              clear hok
              go_wp2_with (at_builtin; refine print_append_cells 0 rfl (.tmp 56) (.tmp 58) 130 131 _ 2 16 rfl Try.underlying130 info131 rfl (by decide) (by decide) u7 its.length (itsC its) [.int .i64 17, .int .i64 (y : Nat)] rfl (by simp [Act.eval]) rfl (by simp [Value.oneCell']) hv4 (Below.refl 0 _) (Nat.zero_le _) (by omega) ?_; intro v5 w5 hown5 _ hg5 hat5)
              obtain ⟨S5, hv5, hf5⟩ := rows_tail (it := (17, y)) S4 hv4 HF.out hown5 hg5 hat5
              go_roundg k
              case measure => omega
              case rel =>
                have hun : unpackM (its ++ [(17, y)]) = acc ++ List.replicate (3 + y) 0 := by rw [unpackM_snoc, HACC.out, HST.out]
                have hul : (unpackM (its ++ [(17, y)])).length = acc.length + (3 + y) := by rw [hun, List.length_append, List.length_replicate]
                refine ⟨its ++ [(17, y)], s3, ov3, by rw [hul]; go_num, hv5, HOKI, by omega, by omega, ?_, hf5, S5⟩
                unfold Hid
                rw [← HM.out, mRowsL, if_pos hlt, hun]
                simp only [mBind, HMR.out, HST.out]
            · clear hp
              have HMR : Hid (mRow E cl acc s1 = .error k3) := by
                unfold Hid mRow mBind
                rw [HM2.out]
                simp only [show ¬ (17 : Nat) = 16 by decide, if_false, if_true, mBind, HM3.out]
              go_wp2_with fail
              refine ⟨rfl, RowsPost.err ?_ (S9.fail hk3)⟩
              unfold mRows mBind
              rw [← HM.out, mRowsL, if_pos hlt]
              simp only [mBind, HMR.out]
          · have e17 : ((x : Int) == 17) = false := by simp; omega
            by_cases h18 : x = 18
            · subst h18
              go_wp2_with fail
              refine (number_any E HE.out br bb A c 7 _ ov2 s2 S9.rep (by decide)).mono ?_
              intro e w3 hp
              rcases hp.cases with ⟨y, s3, ov3, HM3, rfl, S3⟩ | ⟨k3, HM3, rfl, hk3⟩
              · clear hp
                have hy := mNumber_lt HM3.out
                have hy2 : y < 128 := hy
                clear hy
                have b3 := b9.kp S3.kp (S9.rep.turn_ne b9 (by decide) (by decide) (by decide))
                have d0 : w3.cell? ⟨w2.heap.size, 0, none⟩ = some (.int .i64 18) := b3.cell_ 0 rfl
                have d1 : w3.cell? ⟨w2.heap.size, 1, none⟩ = some (.int .i64 0) := b3.cell_ 1 rfl
                have f1 := b3.frozen 1
                have hv3 := S9.rep.turn_own hv9 S3.kp (by decide) (by decide) (by decide)
                have hne : u7.ownBlock ≠ some w2.heap.size := fun e => by have := (hv2.lt _ e).2; omega
                have hv4 := ownsRow_setCell_other hv3 hne (a := ⟨w2.heap.size, 1, none⟩) (.int .i64 (y : Nat))
                have k4 : Kp [w2.heap.size] w3 (w3.setCell ⟨w2.heap.size, 1, none⟩ (.int .i64 (y : Nat))) := (Kp.refl _ _).set_ (by simp) _
                have S4 := (S9.trans S3).off1 k4 b3 (by decide) (by decide) (by decide) HS2.out.kp.size
                have HMR : Hid (mRow E cl acc s1 = .ok ((18, y), s3)) := by
                  unfold Hid mRow mBind
                  rw [HM2.out]
                  simp only [show ¬ (18 : Nat) = 16 by decide, show ¬ (18 : Nat) = 17 by decide, if_false, if_true, mBind, HM3.out, mPure]
                have hok : okIt acc (18, y) := .inr (.inr (.inr ⟨rfl, by simp only; omega⟩))
                have HST : Hid (stepU acc (18, y) = acc ++ List.replicate (11 + y) 0) := by unfold Hid; rfl
                have HOKI : Hid (okIts (its ++ [(18, y)])) := HO.out.snoc (by rw [HACC.out]; exact hok)
                clear hok
                go_wp2_with (at_builtin; refine print_append_cells 0 rfl (.tmp 56) (.tmp 58) 130 131 _ 2 16 rfl Try.underlying130 info131 rfl (by decide) (by decide) u7 its.length (itsC its) [.int .i64 18, .int .i64 (y : Nat)] rfl (by simp [Act.eval]) rfl (by simp [Value.oneCell']) hv4 (Below.refl 0 _) (Nat.zero_le _) (by omega) ?_; intro v5 w5 hown5 _ hg5 hat5)
                obtain ⟨S5, hv5, hf5⟩ := rows_tail (it := (18, y)) S4 hv4 HF.out hown5 hg5 hat5
                go_roundg k
                case measure => omega
                case rel =>
                  have hun : unpackM (its ++ [(18, y)]) = acc ++ List.replicate (11 + y) 0 := by rw [unpackM_snoc, HACC.out, HST.out]
                  have hul : (unpackM (its ++ [(18, y)])).length = acc.length + (11 + y) := by rw [hun, List.length_append, List.length_replicate]
                  refine ⟨its ++ [(18, y)], s3, ov3, by rw [hul]; go_num, hv5, HOKI, by omega, by omega, ?_, hf5, S5⟩
                  unfold Hid
                  rw [← HM.out, mRowsL, if_pos hlt, hun]
                  simp only [mBind, HMR.out, HST.out]
              · clear hp
                have HMR : Hid (mRow E cl acc s1 = .error k3) := by
                  unfold Hid mRow mBind
                  rw [HM2.out]
                  simp only [show ¬ (18 : Nat) = 16 by decide, show ¬ (18 : Nat) = 17 by decide, if_false, if_true, mBind, HM3.out]
                go_wp2_with fail
                refine ⟨rfl, RowsPost.err ?_ (S9.fail hk3)⟩
                unfold mRows mBind
                rw [← HM.out, mRowsL, if_pos hlt]
                simp only [mBind, HMR.out]
            · have e18 : ((x : Int) == 18) = false := by simp; omega
              have HMR : Hid (mRow E cl acc s1 = .ok ((x, 0), s2)) := by
                unfold Hid mRow mBind
                rw [HM2.out]
                simp only [h16, h17, h18, if_false, mPure]
              have hok : okIt acc (x, 0) := .inl ⟨by simp only; omega, rfl⟩
              have HST : Hid (stepU acc (x, 0) = acc ++ [x]) := by unfold Hid stepU rowM; simp only; rw [if_pos (by omega)]; rfl
              have HX := Lib.hid (And.intro h16 (And.intro h17 h18))
              have HOKI : Hid (okIts (its ++ [(x, 0)])) := HO.out.snoc (by rw [HACC.out]; exact hok)
              clear h16 h17 h18 hok
              go_wp2_with (at_builtin; refine print_append_cells 0 rfl (.tmp 56) (.tmp 58) 130 131 _ 2 16 rfl Try.underlying130 info131 rfl (by decide) (by decide) u7 its.length (itsC its) [.int .i64 (x : Nat), .int .i64 0] rfl (by simp [Act.eval]) rfl (by simp [Value.oneCell']) hv9 (Below.refl 0 _) (Nat.zero_le _) (by omega) ?_; intro v5 w5 hown5 _ hg5 hat5)
              obtain ⟨S5, hv5, hf5⟩ := rows_tail (it := (x, 0)) S9 hv9 HF.out hown5 hg5 hat5
              go_roundg k
              case measure => omega
              case rel =>
                have hun : unpackM (its ++ [(x, 0)]) = acc ++ [x] := by rw [unpackM_snoc, HACC.out, HST.out]
                have hul : (unpackM (its ++ [(x, 0)])).length = acc.length + 1 := by rw [hun, List.length_append]; rfl
                refine ⟨its ++ [(x, 0)], s2, ov2, by rw [hul]; go_num, hv5, HOKI, by omega, by omega, ?_, hf5, S5⟩
                unfold Hid
                rw [← HM.out, mRowsL, if_pos hlt, hun]
                simp only [mBind, HMR.out, HST.out]
      · clear hp
        go_wp2_with fail
        refine ⟨rfl, RowsPost.err ?_ (HS.out.fail hk2)⟩
        unfold mRows mBind
        rw [← HM.out, mRowsL, if_pos hlt]
        simp only [mBind, mRow, HM2.out]
    · have hll : decide ((acc.length : Int) < (total : Int)) = false := decide_eq_false (by omega)
      have HL0 : Hid (mRowsL E cl total total [] s = .ok (acc, s1)) := by
        unfold Hid
        rw [← HM.out]
        cases gk with
        | zero => rfl
        | succ k => rw [mRowsL, if_neg hlt]; rfl
      by_cases heq : acc.length = total
      · have hq : ((acc.length : Int) == (total : Int)) = true := by simp [heq]
        have HR0 : Hid (mRows E cl total s = .ok (acc, s1)) := by
          unfold Hid mRows mBind
          rw [HL0.out]
          simp only [mNeed, heq, decide_true, if_true, mPure]
        have HEQ := Lib.hid heq
        clear heq
        go_wp2_with fail
        refine (need_yes 10 _).mono ?_
        rintro e w3 ⟨rfl, rfl⟩
        go_wp2_with fail
        have hun := unpack_any its _ wr hv HO.out (by rw [HACC.out]; have := HEQ.out; omega) (by omega)
        rw [HACC.out] at hun
        refine hun.mono ?_
        rintro e w4 ⟨v', rfl, ho4, hk4, hf4⟩
        clear hun
        go_wp2_with fail
        refine (need_yes 10 _).mono ?_
        rintro e w5 ⟨rfl, rfl⟩
        go_wp2_with fail
        go_ret
        exact RowsPost.ok HR0.out ho4 (fun g hg => Nat.le_trans HS.out.kp.size (hf4 g hg)) (HS.out.off hk4 (by simp) (by simp))
      · have hq : ((acc.length : Int) == (total : Int)) = false := by simp; omega
        have HR0 : Hid (mRows E cl total s = .error 10) := by
          unfold Hid mRows mBind
          rw [HL0.out]
          simp only [mNeed, heq, decide_false, Bool.false_eq_true, if_false]
        clear heq
        go_wp2_with fail
        refine (need_no 10 _).mono ?_
        rintro e w3 ⟨rfl, rfl⟩
        go_wp2_with fail
        exact ⟨rfl, RowsPost.err HR0.out HS.out.kp⟩
end Go.Proofs.Ytoaebpjjfglnnaa
