/- Bytes, codes and the model of the unpacking reader; the reader of bits and the codes, method by method (contracts, no law). -/
import Derived.Test.YtoaebpjjfglnnaaProg
import Derived.Test.YtoaebpjjfglnnaaWLast
import Derived.Test.YtoaebpjjfglnnaaWMore
import Derived.Test.YtoaebpjjfglnnaaWWords
import Derived.BigQuiet
import Derived.BigRegion
import Derived.Deep.Draws
import Derived.Deep.QuietTactic
import Derived.Deep.RegionWith
import Derived.Lib.Hide
import Derived.Maps.AppendAt
import Derived.Outline
import Derived.RegionTactic
import Derived.StillTailTactics
import Derived.WalkKit
import Derived.WalkSpells
set_option linter.unusedVariables false
set_option linter.unusedSimpArgs false

/- Bytes as one number, the lowest byte first; its bits from a place on. -/
namespace Go.Proofs.Ytoaebpjjfglnnaa

/-- Are all numbers of a list bytes? -/
def Bytes (l : List Int) : Prop := ∀ b ∈ l, 0 ≤ b ∧ b < 256

/-- The number that bytes make, the lowest first. -/
def lw : List Int → Nat
  | [] => 0
  | b :: r => b.toNat + 256 * lw r

theorem Bytes.nil : Bytes [] := by simp [Bytes]
theorem Bytes.cons {b : Int} {l : List Int} (h0 : 0 ≤ b) (h1 : b < 256) (h : Bytes l) : Bytes (b :: l) := by
  intro x hx
  rcases List.mem_cons.1 hx with rfl | hx
  · exact ⟨h0, h1⟩
  · exact h x hx
theorem Bytes.append {l r : List Int} (h : Bytes l) (k : Bytes r) : Bytes (l ++ r) := by
  intro x hx
  rcases List.mem_append.1 hx with hx | hx
  · exact h x hx
  · exact k x hx
theorem Bytes.take {l : List Int} (h : Bytes l) (k : Nat) : Bytes (l.take k) := fun b hb => h b (List.mem_of_mem_take hb)
theorem Bytes.drop {l : List Int} (h : Bytes l) (k : Nat) : Bytes (l.drop k) := fun b hb => h b (List.mem_of_mem_drop hb)
theorem Bytes.tail {b : Int} {l : List Int} (h : Bytes (b :: l)) : Bytes l := fun x hx => h x (List.mem_cons_of_mem _ hx)
theorem Bytes.get {l : List Int} (h : Bytes l) (k : Nat) : 0 ≤ l.getD k 0 ∧ l.getD k 0 < 256 := by
  rw [List.getD_eq_getElem?_getD]
  cases e : l[k]? with
  | none => exact ⟨Int.le_refl _, by decide⟩
  | some b => exact h b (List.mem_of_getElem? e)

theorem lw_lt : ∀ {l : List Int}, Bytes l → lw l < 256 ^ l.length
  | [], _ => by simp [lw]
  | b :: r, h => by
    have ih := lw_lt h.tail
    have hb := h b (by simp)
    simp only [lw, List.length_cons, Nat.pow_succ]
    omega
theorem lw_append : ∀ (l r : List Int), lw (l ++ r) = lw l + 256 ^ l.length * lw r
  | [], r => by simp [lw]
  | b :: l, r => by
    simp only [List.cons_append, lw, lw_append l r, List.length_cons, Nat.pow_succ, Nat.mul_add]
    rw [Nat.mul_comm (256 ^ l.length) 256, Nat.mul_assoc]
    omega
theorem lw_take_succ (l : List Int) (k : Nat) (hk : k < l.length) : lw (l.take (k + 1)) = lw (l.take k) + (l.getD k 0).toNat * 256 ^ k := by
  rw [List.take_succ_eq_append_getElem hk, lw_append, List.length_take, Nat.min_eq_left (by omega)]
  simp only [lw, Nat.mul_zero, Nat.add_zero, List.getD_eq_getElem?_getD, List.getElem?_eq_getElem hk, Option.getD_some]
  rw [Nat.mul_comm]
theorem lw_take (l : List Int) (h : Bytes l) (k : Nat) : lw (l.take k) = lw l % 256 ^ k := by
  have e := lw_append (l.take k) (l.drop k)
  rw [List.take_append_drop] at e
  rcases Nat.lt_or_ge k l.length with hk | hk
  · rw [e, List.length_take, Nat.min_eq_left (by omega), Nat.add_mul_mod_self_left, Nat.mod_eq_of_lt]
    have := lw_lt (h.take k)
    rwa [List.length_take, Nat.min_eq_left (by omega)] at this
  · rw [List.take_of_length_le hk, Nat.mod_eq_of_lt]
    exact Nat.lt_of_lt_of_le (lw_lt h) (Nat.pow_le_pow_right (by decide) hk)
theorem lw_drop (l : List Int) (h : Bytes l) (k : Nat) : lw (l.drop k) = lw l / 256 ^ k := by
  have e := lw_append (l.take k) (l.drop k)
  rw [List.take_append_drop] at e
  rcases Nat.lt_or_ge k l.length with hk | hk
  · have hl := lw_lt (h.take k)
    rw [List.length_take, Nat.min_eq_left (by omega)] at hl e
    rw [e, Nat.add_mul_div_left _ _ (Nat.pow_pos (by decide)), Nat.div_eq_of_lt hl, Nat.zero_add]
  · rw [List.drop_eq_nil_of_le hk, Nat.div_eq_of_lt]
    · rfl
    · exact Nat.lt_of_lt_of_le (lw_lt h) (Nat.pow_le_pow_right (by decide) hk)

/-- n bits of the number V from a place on. -/
def nb (V p n : Nat) : Nat := V / 2 ^ p % 2 ^ n
theorem nb_lt (V p n : Nat) : nb V p n < 2 ^ n := Nat.mod_lt _ (Nat.pow_pos (by decide))
theorem cut_bits (x a j m : Nat) (h : a + j ≤ m) : x % 2 ^ m / 2 ^ a % 2 ^ j = x / 2 ^ a % 2 ^ j := by
  apply Nat.eq_of_testBit_eq
  intro i
  simp only [Nat.testBit_mod_two_pow, Nat.testBit_div_two_pow]
  by_cases hi : i < j
  · simp [hi, show i + a < m by omega]
  · simp [hi]

/-- What Peek's word tells. -/
theorem peeked (bs : List Int) (h : Bytes bs) (p j hi : Nat) (hp : p / 8 ≤ bs.length) (hj : j ≤ 32) (hh : hi = min (p / 8 + 5) bs.length) :
    lw ((bs.take hi).drop (p / 8)) / 2 ^ (p % 8) % 2 ^ j = nb (lw bs) p j := by
  have e256 : ∀ k, 256 ^ k = 2 ^ (8 * k) := fun k => by rw [show (256 : Nat) = 2 ^ 8 from rfl, ← Nat.pow_mul]
  have e : lw ((bs.take hi).drop (p / 8)) = lw bs / 2 ^ (8 * (p / 8)) % 2 ^ 40 := by
    rw [lw_drop _ (h.take hi), ← e256]
    rcases Nat.lt_or_ge (p / 8 + 5) bs.length with hlt | hge
    · rw [lw_take _ h, show hi = p / 8 + 5 by omega, Nat.pow_add, Nat.mod_mul_right_div_self]
    · rw [show hi = bs.length by omega, List.take_of_length_le (Nat.le_refl _), Nat.mod_eq_of_lt]
      apply Nat.div_lt_of_lt_mul
      rw [show (2 : Nat) ^ 40 = 256 ^ 5 from rfl, ← Nat.pow_add]
      exact Nat.lt_of_lt_of_le (lw_lt h) (Nat.pow_le_pow_right (by decide) hge)
  rw [e, cut_bits _ _ _ _ (by omega), nb, Nat.div_div_eq_div_mul, ← Nat.pow_add, show 8 * (p / 8) + p % 8 = p by omega]
end Go.Proofs.Ytoaebpjjfglnnaa

/- Lengths of codes: how many there are of each, the first code of each, where their symbols stand, each symbol's rank. -/
namespace Go.Proofs.Ytoaebpjjfglnnaa

/-- A function turned at one place. -/
def at_ (f : Nat → Nat) (l x : Nat) : Nat → Nat := fun k => if k = l then x else f k
/-- How many lengths are l. -/
def cnt (ls : List Nat) (l : Nat) : Nat := ls.count l
/-- The same, noughts left out. -/
def cz (ls : List Nat) : Nat → Nat := at_ (cnt ls) 0 0
/-- The first code of each length. -/
def firstF (ls : List Nat) : Nat → Nat
  | 0 => 0
  | k + 1 => 2 * (firstF ls k + cz ls k)
/-- Where the symbols of each length begin. -/
def startF (ls : List Nat) : Nat → Nat
  | 0 => 0
  | k + 1 => startF ls k + cz ls k
def rank (ls : List Nat) (s : Nat) : Nat := cnt (ls.take s) (ls.getD s 0)
def pos (ls : List Nat) (s : Nat) : Nat := startF ls (ls.getD s 0) + rank ls s
/-- The room that lengths take. -/
def roomF : List Nat → Nat
  | [] => 0
  | l :: r => (if 0 < l then 32768 / 2 ^ l else 0) + roomF r
/-- How many symbols have a code. -/
def used (ls : List Nat) : Nat := startF ls 16
/-- f below l, nothing from l on. -/
def upto (f : Nat → Nat) (l : Nat) : Nat → Nat := fun k => if k < l then f k else 0

theorem at_upto (f : Nat → Nat) (l : Nat) : at_ (upto f l) l (f l) = upto f (l + 1) := by
  funext k
  simp only [at_, upto]
  by_cases h : k = l
  · subst h; simp
  · rw [if_neg h]
    by_cases h2 : k < l
    · rw [if_pos h2, if_pos (by omega)]
    · rw [if_neg h2, if_neg (by omega)]
theorem cnt_nil (l : Nat) : cnt [] l = 0 := rfl
theorem cnt_le (ls : List Nat) (l : Nat) : cnt ls l ≤ ls.length := List.count_le_length
theorem cz_le (ls : List Nat) (l : Nat) : cz ls l ≤ ls.length := by
  unfold cz at_; split
  · omega
  · exact cnt_le ls l
theorem cnt_take_succ (ls : List Nat) (k : Nat) (hk : k < ls.length) (l : Nat) : cnt (ls.take (k + 1)) l = cnt (ls.take k) l + if ls.getD k 0 = l then 1 else 0 := by
  rw [List.take_succ_eq_append_getElem hk, cnt, List.count_append]
  simp only [cnt, List.count_singleton, List.getD_eq_getElem?_getD, List.getElem?_eq_getElem hk, Option.getD_some]
  congr 1
  by_cases h : ls[k] = l <;> simp [h]
theorem at_cnt_succ (ls : List Nat) (k : Nat) (hk : k < ls.length) : at_ (cnt (ls.take k)) (ls.getD k 0) (cnt (ls.take k) (ls.getD k 0) + 1) = cnt (ls.take (k + 1)) := by
  funext l
  rw [cnt_take_succ ls k hk]
  unfold at_
  by_cases h : l = ls.getD k 0
  · subst h; simp
  · rw [if_neg h, if_neg (fun e => h e.symm)]; rfl
theorem at_cz_succ (ls : List Nat) (k : Nat) (hk : k < ls.length) (h0 : ls.getD k 0 ≠ 0) : at_ (cz (ls.take k)) (ls.getD k 0) (cnt (ls.take k) (ls.getD k 0) + 1) = cz (ls.take (k + 1)) := by
  funext l
  have := congrFun (at_cnt_succ ls k hk) l
  simp only [cz, at_] at this ⊢
  by_cases h : l = 0
  · subst h; rw [if_neg (fun e => h0 e.symm)]; simp
  · rw [if_neg h, if_neg h]; exact this
theorem cz_skip (ls : List Nat) (k : Nat) (hk : k < ls.length) (h0 : ls.getD k 0 = 0) : cz (ls.take (k + 1)) = cz (ls.take k) := by
  funext l
  simp only [cz, at_]
  by_cases h : l = 0
  · simp [h]
  · rw [if_neg h, if_neg h, cnt_take_succ ls k hk, h0, if_neg (fun e => h e.symm)]; rfl
theorem cz_at (ls : List Nat) (l : Nat) (h : l ≠ 0) : cz ls l = cnt ls l := by simp [cz, at_, h]
theorem firstF_le (ls : List Nat) (h : ls.length ≤ 320) : ∀ k, firstF ls k + 640 ≤ 640 * 2 ^ k
  | 0 => by simp [firstF]
  | k + 1 => by
    have := firstF_le ls h k
    have := cz_le ls k
    simp only [firstF, Nat.pow_succ]
    omega
theorem firstF_lt (ls : List Nat) (h : ls.length ≤ 320) (k : Nat) (hk : k ≤ 16) : firstF ls k ≤ 41943040 := by
  have h1 := firstF_le ls h k
  have h2 : 2 ^ k ≤ 2 ^ 16 := Nat.pow_le_pow_right (by decide) hk
  omega
theorem startF_mono (ls : List Nat) {a b : Nat} (h : a ≤ b) : startF ls a ≤ startF ls b := by
  induction h with
  | refl => exact Nat.le_refl _
  | step _ ih => exact Nat.le_trans ih (Nat.le_add_right _ _)
theorem rank_lt (ls : List Nat) (s : Nat) (hs : s < ls.length) : rank ls s < cnt ls (ls.getD s 0) := by
  have h1 := cnt_take_succ ls s hs (ls.getD s 0)
  rw [if_pos rfl] at h1
  have h2 : cnt (ls.take (s + 1)) (ls.getD s 0) ≤ cnt ls (ls.getD s 0) := (List.take_sublist _ _).count_le _
  unfold rank
  omega
theorem pos_lt (ls : List Nat) (s : Nat) (hs : s < ls.length) (h0 : ls.getD s 0 ≠ 0) (h15 : ls.getD s 0 ≤ 15) : pos ls s < used ls := by
  have h1 := rank_lt ls s hs
  have h2 := startF_mono ls (show ls.getD s 0 + 1 ≤ 16 by omega)
  rw [startF, cz_at ls _ h0] at h2
  unfold pos used
  omega
theorem rank_mono (ls : List Nat) {s t : Nat} (h : s < t) (ht : t < ls.length) (he : ls.getD s 0 = ls.getD t 0) : rank ls s < rank ls t := by
  have h1 := cnt_take_succ ls s (by omega) (ls.getD s 0)
  rw [if_pos rfl] at h1
  have h2 : cnt (ls.take (s + 1)) (ls.getD s 0) ≤ cnt (ls.take t) (ls.getD s 0) := by
    apply List.Sublist.count_le
    rw [show ls.take (s + 1) = (ls.take t).take (s + 1) by rw [List.take_take, Nat.min_eq_left (by omega)]]
    exact List.take_sublist _ _
  unfold rank
  rw [← he]
  omega
theorem pos_inj (ls : List Nat) {s t : Nat} (h : s < t) (ht : t < ls.length) (hs0 : ls.getD s 0 ≠ 0) (ht0 : ls.getD t 0 ≠ 0) : pos ls s ≠ pos ls t := by
  unfold pos
  rcases Nat.lt_trichotomy (ls.getD s 0) (ls.getD t 0) with hl | hl | hl
  · have h1 := rank_lt ls s (by omega)
    have h2 := startF_mono ls (show ls.getD s 0 + 1 ≤ ls.getD t 0 by omega)
    rw [startF, cz_at ls _ hs0] at h2
    omega
  · have := rank_mono ls h ht hl
    rw [hl]
    omega
  · have h1 := rank_lt ls t ht
    have h2 := startF_mono ls (show ls.getD t 0 + 1 ≤ ls.getD s 0 by omega)
    rw [startF, cz_at ls _ ht0] at h2
    omega
theorem startF_sum (ls : List Nat) : ∀ k, startF ls k ≤ k * ls.length
  | 0 => by simp [startF]
  | k + 1 => by
    have := startF_sum ls k
    have := cz_le ls k
    rw [startF, Nat.succ_mul]
    omega
/-- A symbol's word. -/
def wordF (R : Nat → Nat → Nat) (ls : List Nat) (s : Nat) : Nat × Nat :=
  if ls.getD s 0 = 0 then (0, 0) else (R (firstF ls (ls.getD s 0) + rank ls s) (ls.getD s 0), ls.getD s 0)
/-- The words of the first k symbols. -/
def wordsTo (R : Nat → Nat → Nat) (ls : List Nat) (k : Nat) : List (Nat × Nat) := (List.range ls.length).map fun s => if s < k then wordF R ls s else (0, 0)
theorem wordsTo_set (R : Nat → Nat → Nat) (ls : List Nat) (k : Nat) (hk : k < ls.length) : (wordsTo R ls k).set k (wordF R ls k) = wordsTo R ls (k + 1) := by
  apply List.ext_getElem
  · simp [wordsTo]
  · intro i h1 h2
    simp only [wordsTo, List.length_set, List.length_map, List.length_range] at h1 h2
    rw [List.getElem_set]
    simp only [wordsTo, List.getElem_map, List.getElem_range]
    by_cases h : k = i
    · subst h; simp
    · rw [if_neg h]
      by_cases h3 : i < k
      · rw [if_pos h3, if_pos (by omega)]
      · rw [if_neg h3, if_neg (by omega)]
theorem wordsTo_skip (R : Nat → Nat → Nat) (ls : List Nat) (k : Nat) (hk : k < ls.length) (h0 : ls.getD k 0 = 0) : wordsTo R ls (k + 1) = wordsTo R ls k := by
  apply List.map_congr_left
  intro s hs
  by_cases h : s < k
  · rw [if_pos h, if_pos (by omega)]
  · rw [if_neg h]
    by_cases h2 : s = k
    · subst h2; rw [if_pos (by omega)]; unfold wordF; rw [if_pos h0]
    · rw [if_neg (by omega)]
theorem wordsTo_zero (R : Nat → Nat → Nat) (ls : List Nat) : wordsTo R ls 0 = List.replicate ls.length (0, 0) := by
  apply List.ext_getElem <;> simp [wordsTo]
theorem roomF_append (a b : List Nat) : roomF (a ++ b) = roomF a + roomF b := by
  induction a with
  | nil => simp [roomF]
  | cons l r ih => simp only [List.cons_append, roomF, ih]; omega
theorem roomF_take_succ (ls : List Nat) (k : Nat) (hk : k < ls.length) : roomF (ls.take (k + 1)) = roomF (ls.take k) + if 0 < ls.getD k 0 then 32768 / 2 ^ ls.getD k 0 else 0 := by
  rw [List.take_succ_eq_append_getElem hk, roomF_append]
  simp [roomF, List.getD_eq_getElem?_getD, List.getElem?_eq_getElem hk]
theorem roomF_le : ∀ ls : List Nat, roomF ls ≤ 16384 * ls.length
  | [] => by simp [roomF]
  | l :: r => by
    have := roomF_le r
    simp only [roomF, List.length_cons]
    by_cases h : 0 < l
    · rw [if_pos h]
      have h2 : 32768 / 2 ^ l ≤ 32768 / 2 ^ 1 := Nat.div_le_div_left (Nat.pow_le_pow_right (by decide) h) (by decide)
      omega
    · rw [if_neg h]; omega
/-- Where the first k symbols stand in the order. -/
def OrdTo (ls : List Nat) (k : Nat) (ords : List Int) : Prop := ords.length = used ls ∧ ∀ s, s < k → ls.getD s 0 ≠ 0 → ords.getD (pos ls s) 0 = (s : Int)
theorem OrdTo.zero (ls : List Nat) : OrdTo ls 0 (List.replicate (used ls) 0) := ⟨List.length_replicate, fun s h => absurd h (by omega)⟩
theorem OrdTo.skip {ls : List Nat} {k : Nat} {ords : List Int} (h : OrdTo ls k ords) (h0 : ls.getD k 0 = 0) : OrdTo ls (k + 1) ords :=
  ⟨h.1, fun s hs hn => h.2 s (Nat.lt_of_le_of_ne (by omega) (fun e => hn (by rw [e]; exact h0))) hn⟩
theorem OrdTo.put {ls : List Nat} {k : Nat} {ords : List Int} (h : OrdTo ls k ords) (hk : k < ls.length) (h0 : ls.getD k 0 ≠ 0) (h15 : ls.getD k 0 ≤ 15) : OrdTo ls (k + 1) (ords.set (pos ls k) (k : Int)) := by
  refine ⟨by rw [List.length_set]; exact h.1, fun s hs hn => ?_⟩
  have hp := pos_lt ls k hk h0 h15
  rcases Nat.lt_or_ge s k with h1 | h1
  · have := pos_inj ls h1 hk hn h0
    rw [List.getD_eq_getElem?_getD, List.getElem?_set_ne (fun e => this e.symm), ← List.getD_eq_getElem?_getD]
    exact h.2 s h1 hn
  · rw [show s = k by omega, List.getD_eq_getElem?_getD, List.getElem?_set_self (by rw [h.1]; exact hp)]
    rfl
/-- The symbol of length n with rank k. -/
def symF (ls : List Nat) (n k : Nat) : Nat := ((List.range ls.length).find? fun s => ls.getD s 0 == n && rank ls s == k).getD 0
theorem exists_rank (ls : List Nat) (n k : Nat) : ∀ j, j ≤ ls.length → k < cnt (ls.take j) n → ∃ s, s < j ∧ ls.getD s 0 = n ∧ rank ls s = k
  | 0, _, h => by simp [cnt] at h
  | j + 1, hj, h => by
    rw [cnt_take_succ ls j (by omega)] at h
    by_cases hk : k < cnt (ls.take j) n
    · obtain ⟨s, h1, h2⟩ := exists_rank ls n k j (by omega) hk
      exact ⟨s, by omega, h2⟩
    · by_cases he : ls.getD j 0 = n
      · rw [if_pos he] at h
        refine ⟨j, by omega, he, ?_⟩
        unfold rank
        rw [he]
        omega
      · rw [if_neg he] at h
        omega
theorem symF_spec (ls : List Nat) (n k : Nat) (h : k < cnt ls n) : symF ls n k < ls.length ∧ ls.getD (symF ls n k) 0 = n ∧ rank ls (symF ls n k) = k := by
  obtain ⟨s, h1, h2, h3⟩ := exists_rank ls n k ls.length (Nat.le_refl _) (by rw [List.take_length]; exact h)
  unfold symF
  cases e : (List.range ls.length).find? fun s => ls.getD s 0 == n && rank ls s == k with
  | none =>
    rw [List.find?_eq_none] at e
    have := e s (List.mem_range.2 h1)
    simp only [Bool.and_eq_true, beq_iff_eq] at this
    exact absurd ⟨h2, h3⟩ this
  | some t =>
    have h4 := List.find?_some e
    have h5 := List.mem_of_find?_eq_some e
    simp only [Bool.and_eq_true, beq_iff_eq] at h4
    exact ⟨List.mem_range.1 h5, h4.1, h4.2⟩
theorem ords_sym {ls : List Nat} {ords : List Int} (h : OrdTo ls ls.length ords) (n k : Nat) (hn : n ≠ 0) (hk : k < cz ls n) : ords.getD (startF ls n + k) 0 = (symF ls n k : Int) := by
  rw [cz_at ls n hn] at hk
  obtain ⟨h1, h2, h3⟩ := symF_spec ls n k hk
  have := h.2 _ h1 (by rw [h2]; exact hn)
  rw [pos, h2, h3] at this
  exact this
/-- A bit. -/
def bitN (V q : Nat) : Nat := V / 2 ^ q % 2
theorem bitN_lt (V q : Nat) : bitN V q < 2 := Nat.mod_lt _ (by decide)
theorem nb_bit (V p n m : Nat) (h : m < n) : nb V p n / 2 ^ m % 2 = bitN V (p + m) := by
  unfold nb bitN
  have := cut_bits (V / 2 ^ p) m 1 n (by omega)
  rw [Nat.pow_one] at this
  rw [this, Nat.div_div_eq_div_mul, ← Nat.pow_add]
/-- Is the number v of n bits the beginning of a code of d bits more? -/
def longAt (ls : List Nat) (v n d : Nat) : Prop := 0 < cz ls (n + d) ∧ v * 2 ^ d < firstF ls (n + d) + cz ls (n + d) ∧ firstF ls (n + d) < (v + 1) * 2 ^ d
instance (ls : List Nat) (v n d : Nat) : Decidable (longAt ls v n d) := by unfold longAt; exact inferInstance
/-- Is it the beginning of a longer code? -/
def longerP (ls : List Nat) (v n : Nat) : Prop := ∃ d, 0 < d ∧ n + d ≤ 15 ∧ longAt ls v n d
def longerB (ls : List Nat) (v n : Nat) : Bool := (List.range 16).any fun d => decide (0 < d ∧ n + d ≤ 15 ∧ longAt ls v n d)
theorem longerB_iff (ls : List Nat) (v n : Nat) : longerB ls v n = true ↔ longerP ls v n := by
  unfold longerB longerP
  rw [List.any_eq_true]
  constructor
  · rintro ⟨d, _, h⟩
    exact ⟨d, of_decide_eq_true h⟩
  · rintro ⟨d, h1, h2, h3⟩
    exact ⟨d, List.mem_range.2 (by omega), decide_eq_true ⟨h1, h2, h3⟩⟩
/-- The next symbol, and how many bits it has; or the error: by numbers of n, n + 1, .. bits. -/
def nextR (ls : List Nat) (V T p : Nat) : Nat → Nat → Nat → Except Nat (Nat × Nat)
  | 0, _, _ => .error 10
  | d + 1, n, v =>
    if T - p < n then .error 15
    else if firstF ls n ≤ v * 2 + bitN V (p + (n - 1)) ∧ v * 2 + bitN V (p + (n - 1)) < firstF ls n + cz ls n then .ok (symF ls n (v * 2 + bitN V (p + (n - 1)) - firstF ls n), n)
    else if longerB ls (v * 2 + bitN V (p + (n - 1))) n = true then nextR ls V T p d (n + 1) (v * 2 + bitN V (p + (n - 1)))
    else .error 10
def nextM (ls : List Nat) (V T p : Nat) : Except Nat (Nat × Nat) := nextR ls V T p 15 1 0
end Go.Proofs.Ytoaebpjjfglnnaa

/- The program's unpacking, as plain functions of the bits. -/
namespace Go.Proofs.Ytoaebpjjfglnnaa

/-- Where the reader is, and what it has made. -/
structure IS where
  at_ : Nat
  out : List Int
  steps : Nat
  blocks : Nat

/-- What does not turn: the bytes, and the limit. -/
structure IE where
  bs : List Int
  lim : Nat
def IE.V (E : IE) : Nat := lw E.bs
def IE.T (E : IE) : Nat := 8 * E.bs.length
/-- What holds of each state that is come to. -/
structure IS.Ok (E : IE) (s : IS) : Prop where
  at_le : s.at_ ≤ E.T
  out_le : s.out.length ≤ E.lim
  steps_le : s.steps ≤ s.at_
  blocks_le : s.blocks ≤ s.at_
  bytes : Bytes s.out

abbrev IM (α : Type) := IS → Except Nat (α × IS)

def mNumber (E : IE) (n : Nat) : IM Nat := fun s => if s.at_ + n ≤ E.T then .ok (nb E.V s.at_ n, { s with at_ := s.at_ + n }) else .error 15
def mSymbol (E : IE) (ls : List Nat) : IM Nat := fun s => match nextM ls E.V E.T s.at_ with
  | .ok (x, j) => .ok (x, { s with at_ := s.at_ + j })
  | .error k => .error k
def mRoom (E : IE) (n : Nat) : IM Unit := fun s => if s.out.length + n ≤ E.lim then .ok ((), s) else .error 14
def mNeed (b : Bool) (k : Nat) : IM Unit := fun s => if b = true then .ok ((), s) else .error k
def mBind {α β : Type} (m : IM α) (f : α → IM β) : IM β := fun s => match m s with
  | .ok (a, s') => f a s'
  | .error k => .error k
def mPure {α : Type} (a : α) : IM α := fun s => .ok (a, s)
def mAlign : IM Unit := fun s => .ok ((), { s with at_ := (s.at_ + 7) / 8 * 8 })
def mBytes (E : IE) (n : Nat) : IM (List Int) := fun s =>
  if (s.at_ + 7) / 8 + n ≤ E.bs.length then .ok ((E.bs.drop ((s.at_ + 7) / 8)).take n, { s with at_ := 8 * ((s.at_ + 7) / 8 + n) }) else .error 15
def mPut (l : List Int) : IM Unit := fun s => .ok ((), { s with out := s.out ++ l })
def mSteps (n : Nat) : IM Unit := fun s => .ok ((), { s with steps := s.steps + n })
def mBlock : IM Unit := fun s => .ok ((), { s with blocks := s.blocks + 1 })

def mStored (E : IE) : IM Unit :=
  mBind mAlign fun _ => mBind (mNumber E 16) fun n => mBind (mNumber E 16) fun t => mBind (mNeed (n ^^^ t == 65535) 10) fun _ =>
  mBind (mBytes E n) fun l => mBind (mRoom E n) fun _ => mBind (mPut l) fun _ => mSteps n
def lengthM (s : Nat) : Nat × Nat × Bool :=
  if s < 257 ∨ 285 < s then (0, 0, false) else if s = 285 then (258, 0, true) else if s < 265 then (s - 254, 0, true)
  else (3 + (4 + (s - 257) % 4) * 2 ^ ((s - 257) / 4 - 1), (s - 257) / 4 - 1, true)
def distanceM (s : Nat) : Nat × Nat × Bool :=
  if 29 < s then (0, 0, false) else if s < 4 then (s + 1, 0, true) else (1 + (2 + s % 2) * 2 ^ (s / 2 - 1), s / 2 - 1, true)
/-- n bytes, each the one that stands so far back. -/
def copyM (far : Nat) : Nat → List Int → List Int
  | 0, out => out
  | n + 1, out => copyM far n (out ++ [out.getD (out.length - far) 0])
def mCopy (far n : Nat) : IM Unit := fun s => .ok ((), { s with out := copyM far n s.out })
def mFar (far : Nat) : IM Unit := fun s => if far ≤ s.out.length then .ok ((), s) else .error 10
def mBack (E : IE) (sym : Nat) (other : List Nat) : IM Unit :=
  mBind (mNeed (lengthM sym).2.2 10) fun _ => mBind (mNumber E (lengthM sym).2.1) fun x => mBind (mSymbol E other) fun d => mBind (mNeed (distanceM d).2.2 10) fun _ =>
  mBind (mNumber E (distanceM d).2.1) fun y => mBind (mFar ((distanceM d).1 + y)) fun _ => mBind (mRoom E ((lengthM sym).1 + x)) fun _ => mCopy ((distanceM d).1 + y) ((lengthM sym).1 + x)
/-- One symbol: is the block at its end? -/
def mSym1 (E : IE) (first other : List Nat) : IM Bool :=
  mBind (mSymbol E first) fun s => mBind (mSteps 1) fun _ =>
  if s = 256 then mPure true
  else if s < 256 then mBind (mRoom E 1) fun _ => mBind (mPut [(s : Int)]) fun _ => mPure false
  else mBind (mBack E s other) fun _ => mPure false
/-- Symbols up to the block's end, k of them at most. -/
def mSymbols (E : IE) (first other : List Nat) : Nat → IS → Option (Except Nat (Unit × IS))
  | 0, _ => none
  | k + 1, s => match mSym1 E first other s with
    | .ok (true, s') => some (.ok ((), s'))
    | .ok (false, s') => mSymbols E first other k s'
    | .error e => some (.error e)

theorem nextR_ok {ls : List Nat} {V T p : Nat} : ∀ {d n v s j : Nat}, nextR ls V T p d n v = .ok (s, j) → n ≤ j ∧ j ≤ T - p ∧ (∀ m, cz ls m ≤ ls.length) ∧ (1 ≤ n → s < ls.length)
  | 0, _, _, _, _, h => by simp [nextR] at h
  | d + 1, n, v, s, j, h => by
    rw [nextR] at h
    by_cases h1 : T - p < n
    · rw [if_pos h1] at h; cases h
    · rw [if_neg h1] at h
      by_cases h2 : firstF ls n ≤ v * 2 + bitN V (p + (n - 1)) ∧ v * 2 + bitN V (p + (n - 1)) < firstF ls n + cz ls n
      · rw [if_pos h2] at h
        cases h
        refine ⟨Nat.le_refl _, by omega, cz_le ls, fun hn => ?_⟩
        have : v * 2 + bitN V (p + (n - 1)) - firstF ls n < cz ls n := by omega
        rw [cz_at ls n (by omega)] at this
        exact (symF_spec ls n _ this).1
      · rw [if_neg h2] at h
        by_cases h3 : longerB ls (v * 2 + bitN V (p + (n - 1))) n = true
        · rw [if_pos h3] at h
          have ih := nextR_ok h
          exact ⟨by omega, ih.2.1, cz_le ls, fun _ => ih.2.2.2 (by omega)⟩
        · rw [if_neg h3] at h; cases h
theorem nextM_ok {ls : List Nat} {V T p s j : Nat} (h : nextM ls V T p = .ok (s, j)) (hp : p ≤ T) : 1 ≤ j ∧ p + j ≤ T ∧ s < ls.length := by
  have := nextR_ok h
  exact ⟨this.1, by omega, this.2.2.2 (Nat.le_refl _)⟩
theorem nextR_err {ls : List Nat} {V T p : Nat} : ∀ {d n v k : Nat}, nextR ls V T p d n v = .error k → k = 15 ∨ k = 10
  | 0, _, _, _, h => by simp [nextR] at h; exact .inr h.symm
  | d + 1, n, v, k, h => by
    rw [nextR] at h
    by_cases h1 : T - p < n
    · rw [if_pos h1] at h; cases h; exact .inl rfl
    · rw [if_neg h1] at h
      by_cases h2 : firstF ls n ≤ v * 2 + bitN V (p + (n - 1)) ∧ v * 2 + bitN V (p + (n - 1)) < firstF ls n + cz ls n
      · rw [if_pos h2] at h; cases h
      · rw [if_neg h2] at h
        by_cases h3 : longerB ls (v * 2 + bitN V (p + (n - 1))) n = true
        · rw [if_pos h3] at h; exact nextR_err h
        · rw [if_neg h3] at h; cases h; exact .inr rfl
theorem nextM_err {ls : List Nat} {V T p k : Nat} (h : nextM ls V T p = .error k) : k = 15 ∨ k = 10 := nextR_err h
end Go.Proofs.Ytoaebpjjfglnnaa

/- Frames over worlds: which blocks a call may have changed; rows that are read; blocks that are known whole. -/
namespace Go.Proofs.Ytoaebpjjfglnnaa
open Go.RowKit Go.Proofs.YtoaebpjjfglnnaaW.PrintWords

/-- w' is w but for the blocks of L, and with new blocks. -/
structure Kp (L : List Nat) (w w' : World) : Prop where
  os : w'.os = w.os
  tape : w'.tape = w.tape
  output : w'.output = w.output
  size : w.heap.size ≤ w'.heap.size
  keep : ∀ k, k < w.heap.size → k ∉ L → w'.heap[k]? = w.heap[k]?

theorem Kp.refl (L : List Nat) (w : World) : Kp L w w := ⟨rfl, rfl, rfl, Nat.le_refl _, fun _ _ _ => rfl⟩
theorem Kp.trans {L L1 : List Nat} {a b c : World} (h : Kp L a b) (k : Kp L1 b c) (hl : ∀ x ∈ L1, x ∈ L ∨ a.heap.size ≤ x) : Kp L a c :=
  ⟨k.os.trans h.os, k.tape.trans h.tape, k.output.trans h.output, Nat.le_trans h.size k.size, fun i hi hn => by
    refine (k.keep i (Nat.lt_of_lt_of_le hi h.size) (fun hm => ?_)).trans (h.keep i hi hn)
    rcases hl i hm with e | e
    · exact hn e
    · omega⟩
theorem Kp.mono {L L' : List Nat} {w w' : World} (h : Kp L w w') (hl : ∀ x ∈ L, x ∈ L') : Kp L' w w' := ⟨h.os, h.tape, h.output, h.size, fun k hk hn => h.keep k hk (fun e => hn (hl k e))⟩
theorem Kp.then_ {L : List Nat} {a b c : World} (h : Kp L a b) (k : Kp L b c) : Kp L a c := h.trans k fun _ h => .inl h
theorem Kp.nil_then {L : List Nat} {a b c : World} (h : Kp [] a b) (k : Kp L b c) : Kp L a c := (h.mono (by simp)).then_ k
theorem Kp.then_nil {L : List Nat} {a b c : World} (h : Kp L a b) (k : Kp [] b c) : Kp L a c := h.trans k (by simp)
theorem Kp.drew {L : List Nat} {a w : World} (h : Kp L a w) : Kp L a w.drew := ⟨h.os, h.tape, h.output, h.size, h.keep⟩
theorem Kp.drewN {L : List Nat} {a w : World} (h : Kp L a w) (n : Nat) : Kp L a (w.drewN n) := ⟨h.os, h.tape, h.output, h.size, h.keep⟩
theorem Kp.alloc {L : List Nat} {a w : World} (h : Kp L a w) (o : Obj) : Kp L a (w.alloc o) :=
  h.then_nil ⟨rfl, rfl, rfl, by simp, fun k hk _ => Below.heap_alloc _ _ _ hk⟩
theorem Kp.set_ {L : List Nat} {a w : World} (h : Kp L a w) {p : Addr} (hp : p.block ∈ L ∨ a.heap.size ≤ p.block) (u : Value) : Kp L a (w.setCell p u) :=
  h.trans (L1 := [p.block]) ⟨rfl, rfl, rfl, by simp [World.setCell], fun k _ hk => Below.heap_setCell _ _ _ _ (by simpa using hk)⟩ (by simpa using hp)
theorem Kp.grown {L : List Nat} {a w w' : World} (h : Kp L a w) {row : Option Nat} (hg : w.grownBy w' row) (hr : ∀ k, row = some k → k ∈ L ∨ a.heap.size ≤ k) : Kp L a w' :=
  h.trans (L1 := row.toList) ⟨hg.os, hg.tape, hg.output, hg.size, fun k hk hn => hg.block k hk (fun e => hn (by simp [← e]))⟩ (fun x hx => hr x (by simpa using hx))
theorem Kp.of_below {w w' : World} (h : Below w.heap.size w w') : Kp [] w w' := ⟨h.os, h.tape, h.output, h.size, fun k hk _ => h.block k hk⟩
theorem Kp.below {w w' : World} (h : Kp [] w w') : Below w.heap.size w w' := ⟨h.os, h.tape, h.output, h.size, fun k hk => h.keep k hk (by simp)⟩
theorem Kp.belowB {L : List Nat} {w w' : World} {B : Nat} (h : Kp L w w') (hB : B ≤ w.heap.size) (hl : ∀ x ∈ L, B ≤ x) : Below B w w' :=
  ⟨h.os, h.tape, h.output, h.size, fun k hk => h.keep k (by omega) (fun e => by have := hl k e; omega)⟩

/-- Block g is just the cells cs of type t, none frozen. -/
def Blk (w : World) (g : Nat) (t : TypeId) (cs : Array Value) : Prop := w.heap[g]? = some (.cells cs t (0, 0))
section
variable {w w' : World} {g : Nat} {t : TypeId} {cs : Array Value}
theorem Blk.lt (h : Blk w g t cs) : g < w.heap.size := by
  rcases Nat.lt_or_ge g w.heap.size with hlt | hge
  · exact hlt
  · unfold Blk at h; rw [Array.getElem?_eq_none hge] at h; cases h
theorem Blk.cell (h : Blk w g t cs) (i : Nat) : w.cell? ⟨g, i, none⟩ = cs[i]? := cell_of_row w g i cs t (0, 0) h
theorem Blk.cell_ (h : Blk w g t cs) (i : Nat) {v : Value} (hv : cs[i]? = some v) : w.cell? ⟨g, i, none⟩ = some v := (h.cell i).trans hv
theorem Blk.frozen (h : Blk w g t cs) (i : Nat) : w.frozen? ⟨g, i, none⟩ = false := by
  unfold Blk at h
  simp [World.frozen?, h]
theorem Blk.new (w : World) (t : TypeId) (cs : Array Value) : Blk (w.alloc (.cells cs t)) w.heap.size t cs := heap_alloc_new w _
theorem Blk.drew (h : Blk w g t cs) : Blk w.drew g t cs := h
theorem Blk.drewN (h : Blk w g t cs) (n : Nat) : Blk (w.drewN n) g t cs := h
theorem Blk.alloc (h : Blk w g t cs) (o : Obj) : Blk (w.alloc o) g t cs := (Below.heap_alloc w o g h.lt).trans h
theorem Blk.set_ (h : Blk w g t cs) (i : Nat) (u : Value) : Blk (w.setCell ⟨g, i, none⟩ u) g t (cs.setIfInBounds i u) := by
  unfold Blk at h ⊢
  simp [World.setCell, Array.getElem?_modify, h]
theorem Blk.far (h : Blk w g t cs) {p : Addr} (hp : g ≠ p.block) (u : Value) : Blk (w.setCell p u) g t cs := (Below.heap_setCell w p u g hp).trans h
theorem Blk.kp {L : List Nat} (h : Blk w g t cs) (hb : Kp L w w') (hg : g ∉ L) : Blk w' g t cs := (hb.keep g h.lt hg).trans h
theorem Blk.grown {row : Option Nat} (h : Blk w g t cs) (hb : w.grownBy w' row) (hg : some g ≠ row) : Blk w' g t cs := (hb.block g h.lt hg).trans h
theorem Blk.ne_ {g' : Nat} {t' : TypeId} {cs' : Array Value} (h : Blk w g t cs) (h' : Blk w g' t' cs') (hne : t ≠ t') : g ≠ g' := by
  rintro rfl
  unfold Blk at h h'
  rw [h] at h'
  injection h' with h'
  injection h' with _ ht
  exact hne ht
theorem own_blk_ne {base : Nat} {e : TypeId} {size n : Nat} {v : Value} {xs : List Value} (h : w.ownsRow base e size v n xs) (hg : Blk w g t cs) (hne : e ≠ t) : v.ownBlock ≠ some g := by
  rcases h.2 with ⟨rfl, _⟩ | ⟨g', cap, cur, rfl, _, hh, _⟩
  · simp [Value.ownBlock]
  · intro he
    have : g' = g := by simpa [Value.ownBlock] using he
    subst this
    exact Blk.ne_ (t := e) hh hg hne rfl
end

/-- The numbers' row stays read if its block stays. -/
theorem C_keep {k : IntKind} {w w' : World} {A : Option Addr} {n : Nat} {xs : List Int} (h : (Kd.int k).C w A n xs) (hk : ∀ ad, A = some ad → 0 < n → w'.heap[ad.block]? = w.heap[ad.block]?) : (Kd.int k).C w' A n xs := by
  refine ⟨h.1, h.2.1, fun hn => ?_⟩
  obtain ⟨ad, e, hc⟩ := h.2.2 hn
  refine ⟨ad, e, fun j p hj => ?_⟩
  obtain ⟨c, hs, hr, hcell⟩ := hc j p hj
  refine ⟨c, hs, hr, fun i u hu => ?_⟩
  have := hcell i u hu
  have hb : (ad.add (j * (Kd.int k).sz + i)).block = ad.block := by unfold Addr.add; split <;> rfl
  exact (World.cell?_of_block (w := w) (by rw [hb]; exact hk ad e hn)).trans this
/-- A row's block. -/
def rowIn (A : Option Addr) (n : Nat) (L : List Nat) : Prop := ∀ ad, A = some ad → 0 < n → ad.block ∈ L
theorem C_lt {k : IntKind} {w : World} {A : Option Addr} {n : Nat} {xs : List Int} (h : (Kd.int k).C w A n xs) : ∀ ad, A = some ad → 0 < n → ad.block < w.heap.size := by
  intro ad e hn
  obtain ⟨ad', e', hc⟩ := h.2.2 hn
  rw [e] at e'
  cases e'
  have h0 : 0 < xs.length := by rw [h.1]; exact hn
  obtain ⟨ad2, e2, hx⟩ := Kd.at_int h 0 (by omega) (by omega)
  rw [e] at e2
  cases e2
  have := World.block_lt_of_cell? w _ hx
  have hb : (ad.add (0 : Int).toNat).block = ad.block := by unfold Addr.add; split <;> rfl
  rw [hb] at this
  exact this
theorem C_kp {k : IntKind} {L : List Nat} {w w' : World} {A : Option Addr} {n : Nat} {xs : List Int} (h : (Kd.int k).C w A n xs) (hb : Kp L w w') (hn : ∀ ad, A = some ad → 0 < n → ad.block ∉ L) : (Kd.int k).C w' A n xs :=
  C_keep h fun ad e h0 => hb.keep _ (C_lt h ad e h0) (hn ad e h0)
end Go.Proofs.Ytoaebpjjfglnnaa

/- The reader of bits, method by method. -/
namespace Go.Proofs.Ytoaebpjjfglnnaa
open Go.RowKit Go.Proofs.YtoaebpjjfglnnaaW.PrintWords

theorem ret_int {k : IntKind} {a b : Int} (h : a = b) : Ending.returned (.int k a) = .returned (.int k b) := by rw [h]

/-- The reader's block: its bytes, and its place. -/
abbrev RdB (w : World) (bb : Nat) (A : Option Addr) (n c : Nat) (p : Nat) : Prop := Blk w bb 93 #[.slice A n c, .int .i64 p]

theorem up_any (p : Nat) (w : World) (hp : p ≤ 1125899906842624) :
    Calls Try.prog 73 #[.int .i64 p] w fun e w' => e = .returned (.int .i64 ((p + 7) / 8 * 8 : Nat)) ∧ w = w' := by
  go_enter Try.func73, Try.ntmps73
  go_wp2
  go_ret
  exact ⟨ret_int (by omega), rfl⟩

theorem left_any (bb : Nat) (A : Option Addr) (n c p : Nat) (w : World) (hB : RdB w bb A n c p) (hn : n ≤ 140737488351232) (hp : p ≤ 8 * n) :
    Calls Try.prog 79 #[.pointer (some ⟨bb, 0, none⟩)] w fun e w' => e = .returned (.int .i64 ((8 * n - p : Nat) : Int)) ∧ ∃ m, w' = w.drewN m := by
  have h0 := hB.cell_ 0 rfl
  have h1 := hB.cell_ 1 rfl
  clear hB
  go_enter Try.func79, Try.ntmps79
  go_wp2
  go_quiet (fail)
  go_wp2
  go_ret
  exact ⟨ret_int (by omega), _, rfl⟩

theorem at_any (bb : Nat) (A : Option Addr) (n c p : Nat) (w : World) (hB : RdB w bb A n c p) :
    Calls Try.prog 33 #[.pointer (some ⟨bb, 0, none⟩)] w fun e w' => e = .returned (.int .i64 p) ∧ w = w' := by
  have h1 := hB.cell_ 1 rfl
  clear hB
  go_enter Try.func33, Try.ntmps33
  go_wp2
  go_ret
  exact ⟨rfl, rfl⟩

/-- Skip: the place goes on, if so many bits are left. -/
theorem skip_any (bb : Nat) (A : Option Addr) (n c p j : Nat) (w : World) (hB : RdB w bb A n c p) (hn : n ≤ 140737488351232) (hp : p ≤ 8 * n) (hj : j ≤ 64) :
    Calls Try.prog 72 #[.pointer (some ⟨bb, 0, none⟩), .int .i64 j] w fun e w' =>
      e = .returned (.bool (decide (p + j ≤ 8 * n))) ∧ Kp [bb] w w' ∧ RdB w' bb A n c (if p + j ≤ 8 * n then p + j else p) := by
  have h1 : w.cell? ⟨bb, 1, none⟩ = some (.int .i64 p) := hB.cell_ 1 rfl
  have f1 := hB.frozen 1
  have HB := Lib.hid hB
  clear hB
  by_cases hle : p + j ≤ 8 * n
  · go_enter Try.func72, Try.ntmps72
    go_wp2_with (go_at_call 79; refine (left_any bb A n c p _ HB.out hn hp).mono ?_; rintro e w' ⟨rfl, m, rfl⟩)
    go_ret
    refine ⟨rfl, ((Kp.refl _ _).drewN m).set_ (by simp) _, ?_⟩
    have := (HB.out.drewN m).set_ 1 (.int .i64 ((p : Int) + j))
    simpa [RdB, hle] using this
  · go_enter Try.func72, Try.ntmps72
    go_wp2_with (go_at_call 79; refine (left_any bb A n c p _ HB.out hn hp).mono ?_; rintro e w' ⟨rfl, m, rfl⟩)
    go_ret
    refine ⟨rfl, (Kp.refl _ _).drewN m, ?_⟩
    simpa [RdB, hle] using HB.out.drewN m

theorem align_any (bb : Nat) (A : Option Addr) (n c p : Nat) (w : World) (hB : RdB w bb A n c p) (hn : n ≤ 140737488351232) (hp : p ≤ 8 * n) :
    Calls Try.prog 61 #[.pointer (some ⟨bb, 0, none⟩)] w fun e w' =>
      e = .returned (.tuple #[]) ∧ Kp [bb] w w' ∧ RdB w' bb A n c ((p + 7) / 8 * 8) := by
  have h1 : w.cell? ⟨bb, 1, none⟩ = some (.int .i64 p) := hB.cell_ 1 rfl
  have f1 := hB.frozen 1
  have HB := Lib.hid hB
  clear hB
  go_enter Try.func61, Try.ntmps61
  go_wp2_with (go_at_call 73; refine (up_any p _ (by omega)).mono ?_; rintro e w' ⟨rfl, rfl⟩)
  go_end0
  refine ⟨rfl, (Kp.refl _ _).set_ (by simp) _, ?_⟩
  simpa [RdB] using HB.out.set_ 1 (.int .i64 ((p + 7) / 8 * 8 : Nat))
end Go.Proofs.Ytoaebpjjfglnnaa

/- Peek: the next number of so many bits. -/
namespace Go.Proofs.Ytoaebpjjfglnnaa
open Go.RowKit Go.Proofs.YtoaebpjjfglnnaaW.PrintWords Go.Proofs.YtoaebpjjfglnnaaW.PrintLast Go.Proofs.YtoaebpjjfglnnaaW.PrintMore
attribute [local go_sem] max2_int min2_int max_two min_two max_three min_three max_four min_four

theorem info5 : (Try.prog.info? 5).map (fun i => (i.zero, i.size, i.bytes)) = some (some (.int .u8 0), 1, 1) := by kernel_rfl

/-- One byte more in the word. -/
theorem or_byte (x b k : Nat) (hx : x < 256 ^ k) (hb : b < 256) (hk : k < 5) :
    bits .or .u64 (x : Int) (IntKind.u64.wrap ((b : Int) * 2 ^ (8 * k))) = ((x + b * 256 ^ k : Nat) : Int) := by
  have e : (256 : Nat) ^ k = 2 ^ (8 * k) := by rw [show (256 : Nat) = 2 ^ 8 from rfl, ← Nat.pow_mul]
  have h4 : (256 : Nat) ^ k ≤ 256 ^ 4 := Nat.pow_le_pow_right (by decide) (by omega)
  have hm : b * 256 ^ k ≤ 255 * 256 ^ 4 := Nat.mul_le_mul (by omega) h4
  have hw : IntKind.u64.wrap ((b : Int) * 2 ^ (8 * k)) = ((b * 256 ^ k : Nat) : Int) := by
    rw [IntKind.wrap_u64, show ((b : Int) * 2 ^ (8 * k)) = ((b * 256 ^ k : Nat) : Int) by rw [e]; simp]
    omega
  rw [hw, bits_or_u64_nat _ _ (by omega) (by omega)]
  congr 1
  rw [e, Nat.mul_comm b, Nat.or_comm, ← Nat.two_pow_add_eq_or_of_lt (by rw [← e]; exact hx), Nat.add_comm]

/-- The word's bits from within its first byte on. -/
theorem and_mask (W a j : Nat) (hW : W < 18446744073709551616) (hj : j ≤ 32) :
    bits .and .u64 ((W : Int) / 2 ^ a) (IntKind.u64.wrap (IntKind.u64.wrap (2 ^ j) - 1)) % 4294967296 = ((W / 2 ^ a % 2 ^ j : Nat) : Int) := by
  have h32 : (2 : Nat) ^ j ≤ 2 ^ 32 := Nat.pow_le_pow_right (by decide) hj
  have h0 : 0 < (2 : Nat) ^ j := Nat.pow_pos (by decide)
  have e1 : IntKind.u64.wrap (IntKind.u64.wrap (2 ^ j) - 1) = ((2 ^ j - 1 : Nat) : Int) := by
    have e0 : ((2 : Int) ^ j) = ((2 ^ j : Nat) : Int) := by simp
    rw [IntKind.wrap_u64, IntKind.wrap_u64, e0]
    generalize 2 ^ j = x at *
    omega
  have e2 : ((W : Int) / 2 ^ a) = ((W / 2 ^ a : Nat) : Int) := by simp
  have hl := Nat.div_le_self W (2 ^ a)
  rw [e1, e2, bits_and_u64_nat _ _ (by omega) (by omega), Nat.and_two_pow_sub_one_eq_mod]
  have hm := Nat.mod_lt (W / 2 ^ a) h0
  omega

set_option maxHeartbeats 1000000 in
theorem peek_any (bb : Nat) (A : Option Addr) (c p j : Nat) (bs : List Int) (w : World) (hB : RdB w bb A bs.length c p) (hby : Bytes bs) (hC : (Kd.int .u8).C w A bs.length bs) (hn : bs.length ≤ 140737488351232) (hc : bs.length ≤ c) (hp : p ≤ 8 * bs.length) (h0 : 0 < j) (hj : j ≤ 32) :
    Calls Try.prog 71 #[.pointer (some ⟨bb, 0, none⟩), .int .i64 j] w fun e w' =>
      e = .returned (.int .u32 (nb (lw bs) p j : Nat)) ∧ Kp [] w w' := by
  have hc0 : w.cell? ⟨bb, 0, none⟩ = some (.slice A bs.length c) := hB.cell_ 0 rfl
  have hc1 : w.cell? ⟨bb, 1, none⟩ = some (.int .i64 p) := hB.cell_ 1 rfl
  have HB := Lib.hid hB
  have HC := Lib.hid hC
  clear hB hC
  obtain ⟨hi, hhi⟩ : ∃ hi : Nat, (if (bs.length : Int) < (p : Int) / 8 + 5 then (bs.length : Int) else (p : Int) / 8 + 5) = (hi : Int) := ⟨if bs.length < p / 8 + 5 then bs.length else p / 8 + 5, by split <;> split <;> omega⟩
  have HM : Hid (hi = min (p / 8 + 5) bs.length) := by unfold Hid; split at hhi <;> omega
  have h1 : p / 8 ≤ hi := by split at hhi <;> omega
  have h2 : hi ≤ bs.length := by split at hhi <;> omega
  obtain ⟨i0, hi0, hz0, hz1, hz2⟩ := info_parts info5
  have hcut := cut_mid (P := Try.prog) 22 5 .i64 .i64 Try.underlying22 hi0 1 hz1 A bs.length c ((p : Int) / 8) hi (by omega) (by omega) (by omega) hc
  have hD := Kd.C_mid (lo := p / 8) (hi := hi) HC.out h1 h2 hc
  simp only [show ((p : Int) / 8).toNat = p / 8 by omega, Int.toNat_natCast] at hcut
  obtain ⟨A', hA'⟩ : ∃ A', (if c = p / 8 then A else A.map (·.add (p / 8 * 1))) = A' := ⟨_, rfl⟩
  rw [hA'] at hcut
  have hD : (Kd.int .u8).C w A' ((bs.take hi).drop (p / 8)).length ((bs.take hi).drop (p / 8)) := by rw [← hA']; exact hD
  have HD := Lib.hid hD
  clear hD hA' hz0 hz1 hz2 hi0
  go_enter Try.func71, Try.ntmps71
  go_wp2
  go_quiet (fail)
  go_wp2
  go_loop [6, 41] (fun t i => ∃ k : Nat, k ≤ hi - p / 8 ∧ i = .int .i64 k ∧ t = .int .u64 ((lw (((bs.take hi).drop (p / 8)).take k) : Nat) : Int)) (fun _ i => hi - p / 8 - (intOf i).toNat)
  case atStart => exact ⟨0, by omega, rfl, by simp [lw]⟩
  case round =>
    obtain ⟨k, hk, rfl, rfl⟩ := hrel
    have hl : ((bs.take hi).drop (p / 8)).length = hi - p / 8 := by simp; omega
    have h5 : hi - p / 8 ≤ 5 := by split at hhi <;> omega
    by_cases hlt : k < hi - p / 8
    · obtain ⟨ad, e, hx⟩ := Kd.at_int HD.out k (by omega) (by omega)
      subst e
      simp only [Int.toNat_natCast, rd] at hx
      have hbr := ((hby.take hi).drop (p / 8)).get k
      have hs := lw_take_succ ((bs.take hi).drop (p / 8)) k (by omega)
      have hwr := lw_lt (((hby.take hi).drop (p / 8)).take k)
      rw [List.length_take, hl, Nat.min_eq_left hk] at hwr
      obtain ⟨b, hb⟩ : ∃ b : Nat, ((bs.take hi).drop (p / 8)).getD k 0 = b := ⟨_, (Int.toNat_of_nonneg hbr.1).symm⟩
      rw [hb] at hx hbr hs
      have HS := Lib.hid hs
      obtain ⟨hbr0, hbr1⟩ := hbr
      have HW := Lib.hid hwr
      clear hb hhi hl hs hwr
      go_wp2
      go_round
      case rel =>
        refine ⟨k + 1, by omega, by go_num, ?_⟩
        have h1 := HS.out
        rw [h1, or_byte _ _ _ HW.out (by omega) (by omega), Int.toNat_natCast]
      case measure => simp [intOf]; omega
    · have hke : k = hi - p / 8 := by omega
      have HX : Hid (k = hi - p / 8) := hke
      have HL := Lib.hid hl
      clear hhi hke hl
      go_wp2
      go_ret
      have hW := lw_lt (((hby.take hi).drop (p / 8)).take k)
      rw [List.length_take, HL.out] at hW
      have hW2 : 256 ^ min k (hi - p / 8) ≤ 256 ^ 5 := Nat.pow_le_pow_right (by decide) (by omega)
      refine ⟨ret_int ?_, (Kp.refl _ _).drewN nq⟩
      rw [and_mask _ _ _ (by omega) hj, HX.out, List.take_of_length_le (by rw [HL.out]; exact Nat.le_refl _), peeked bs hby p j hi (by omega) hj HM.out]
end Go.Proofs.Ytoaebpjjfglnnaa

/- Bits, Bytes, NewReader: the reader's other calls. -/
namespace Go.Proofs.Ytoaebpjjfglnnaa
open Go.RowKit Go.Proofs.YtoaebpjjfglnnaaW.PrintWords Go.Proofs.YtoaebpjjfglnnaaW.PrintLast Go.Proofs.YtoaebpjjfglnnaaW.PrintMore
attribute [local go_sem] max2_int min2_int max_two min_two max_three min_three max_four min_four

/-- A row of numbers of one's own. -/
abbrev Own (k : IntKind) (e : TypeId) (w : World) (v : Value) (xs : List Int) : Prop := w.ownsRow 0 e 1 v xs.length (nums k xs)
theorem Own.nil (k : IntKind) (e : TypeId) (w : World) : Own k e w (.slice none 0 0) [] := World.ownsRow_nil w 0 e 1

theorem clone_any (A : Option Addr) (n c : Nat) (xs : List Int) (w : World) (hC : (Kd.int .u8).C w A n xs) (hn : n ≤ 140737488351232) :
    Calls Try.prog 37 #[.slice A n c] w fun e w' => ∃ v, e = .returned v ∧ Own .u8 5 w' v xs ∧ Kp [] w w' ∧ (∀ g, v.ownBlock = some g → w.heap.size ≤ g) := by
  have hl : xs.length = n := hC.1
  subst hl
  have HC := Lib.hid hC
  clear hC
  cases A with
  | none =>
    have h0 : xs = [] := by
      rcases List.eq_nil_or_concat xs with h | h
      · exact h
      · obtain ⟨ad, e, _⟩ := HC.out.2.2 (by obtain ⟨l, b, rfl⟩ := h; simp)
        cases e
    subst h0
    have hnl := fun w => Lib.run_eql_slice_nil (P := Try.prog) w 22 5 none 0 c 0 0 Try.underlying22
    go_enter Try.func37, Try.ntmps37
    go_wp2
    go_ret
    exact ⟨_, rfl, Own.nil _ _ _, Kp.refl _ _, by simp [Value.ownBlock]⟩
  | some ad =>
    have hnl := fun w => Lib.run_eql_slice_nil (P := Try.prog) w 22 5 (some ad) xs.length c 0 0 Try.underlying22
    have HO : Own .u8 5 (w.alloc (.cells #[] 5)) (.slice (some ⟨w.heap.size, 0, none⟩) 0 0) [] := World.ownsRow_made w #[] 0 (Nat.zero_le _) (by simp [maxLen]) rfl
    go_enter Try.func37, Try.ntmps37
    go_wp2_with (at_builtin; refine print_append_row 0 rfl (.tmp 5) (.tmp 6) 22 5 .u8 1 rfl Try.underlying22 info5 (by decide) (.slice (some ⟨w.heap.size, 0, none⟩) 0 0) [] xs (some ad) xs.length c rfl rfl HO (Kd.reads_of_C (C_kp HC.out ((Kp.refl [] w).alloc _) (by simp))) (Below.refl 0 _) (Nat.zero_le _) (by simp; omega) ?_; intro v1 w1 hown _ hg hat)
    go_ret
    refine ⟨v1, rfl, hown, ((Kp.refl [] w).alloc (.cells #[] 5)).grown hg (by simp [Value.ownBlock]), ?_⟩
    intro g hv
    rcases hat with e | ⟨b, e, hb⟩
    · rw [hv] at e
      simp [Value.ownBlock] at e
      omega
    · rw [hv] at e
      cases e
      simp at hb
      omega
theorem peek_zero (bb : Nat) (w : World) :
    Calls Try.prog 71 #[.pointer (some ⟨bb, 0, none⟩), .int .i64 0] w fun e w' => e = .returned (.int .u32 0) ∧ w = w' := by
  go_enter Try.func71, Try.ntmps71
  go_wp2
  go_ret
  exact ⟨rfl, rfl⟩

/-- Peek at any count. -/
theorem peek_all (bb : Nat) (A : Option Addr) (c p j : Nat) (bs : List Int) (w : World) (hB : RdB w bb A bs.length c p) (hby : Bytes bs) (hC : (Kd.int .u8).C w A bs.length bs) (hn : bs.length ≤ 140737488351232) (hc : bs.length ≤ c) (hp : p ≤ 8 * bs.length) (hj : j ≤ 32) :
    Calls Try.prog 71 #[.pointer (some ⟨bb, 0, none⟩), .int .i64 j] w fun e w' => e = .returned (.int .u32 (nb (lw bs) p j : Nat)) ∧ Kp [] w w' := by
  rcases Nat.eq_zero_or_pos j with rfl | h0
  · refine (peek_zero bb w).mono ?_
    rintro e w' ⟨rfl, rfl⟩
    exact ⟨by simp [nb, Nat.mod_one], Kp.refl _ _⟩
  · exact peek_any bb A c p j bs w hB hby hC hn hc hp h0 hj

/-- What Bits hands back. -/
def bitsV (V T p j : Nat) : Value := if p + j ≤ T then .tuple #[.int .u32 (nb V p j : Nat), .bool true] else .tuple #[.int .u32 0, .bool false]

theorem bits_any (bb : Nat) (A : Option Addr) (c p j : Nat) (bs : List Int) (w : World) (hB : RdB w bb A bs.length c p) (hby : Bytes bs) (hC : (Kd.int .u8).C w A bs.length bs) (hn : bs.length ≤ 140737488351232) (hc : bs.length ≤ c) (hp : p ≤ 8 * bs.length) (hj : j ≤ 32) :
    Calls Try.prog 60 #[.pointer (some ⟨bb, 0, none⟩), .int .i64 j] w fun e w' =>
      e = .returned (bitsV (lw bs) (8 * bs.length) p j) ∧ Kp [bb] w w' ∧ RdB w' bb A bs.length c (if p + j ≤ 8 * bs.length then p + j else p) := by
  by_cases hle : p + j ≤ 8 * bs.length
  all_goals
    go_enter Try.func60, Try.ntmps60
    go_wp2_with (first
      | (go_at_call 71; refine (peek_all bb A c p j bs _ hB hby hC hn hc hp hj).mono ?_; rintro e w1 ⟨rfl, hk⟩)
      | (go_at_call 72; refine (skip_any bb A bs.length c p j _ (hB.kp hk (by simp)) hn hp (by omega)).mono ?_; rintro e w2 ⟨rfl, hk2, hB2⟩))
    go_ret2
    refine ⟨by simp [bitsV, hle], hk.nil_then hk2, by simpa [hle] using hB2⟩

theorem up_to (p q : Nat) (w : World) (hp : p ≤ 1125899906842624) (hq : (p + 7) / 8 = q) :
    Calls Try.prog 73 #[.int .i64 p] w fun e w' => e = .returned (.int .i64 ((q : Int) * 8)) ∧ w = w' := by
  subst hq
  refine (up_any p w hp).mono ?_
  rintro e w' ⟨rfl, rfl⟩
  exact ⟨ret_int (by omega), rfl⟩

/-- Bytes: the next bytes, where they are there. -/
theorem bytes_yes (bb : Nat) (A : Option Addr) (c p j q : Nat) (bs : List Int) (w : World) (hB : RdB w bb A bs.length c p) (hC : (Kd.int .u8).C w A bs.length bs) (hn : bs.length ≤ 140737488351232) (hc : bs.length ≤ c) (hp : p ≤ 8 * bs.length) (hj : j ≤ 65535) (hA : ∀ ad, A = some ad → 0 < bs.length → ad.block ≠ bb)
    (hq : (p + 7) / 8 = q) (hle : q + j ≤ bs.length) :
    Calls Try.prog 62 #[.pointer (some ⟨bb, 0, none⟩), .int .i64 j] w fun e w' =>
        ∃ v, e = .returned (.tuple #[v, .bool true]) ∧ Own .u8 5 w' v ((bs.drop q).take j) ∧ Kp [bb] w w' ∧ RdB w' bb A bs.length c (8 * (q + j)) ∧ (∀ g, v.ownBlock = some g → w.heap.size ≤ g) := by
  have h0 : w.cell? ⟨bb, 0, none⟩ = some (.slice A bs.length c) := hB.cell_ 0 rfl
  have h1 : w.cell? ⟨bb, 1, none⟩ = some (.int .i64 p) := hB.cell_ 1 rfl
  have f1 := hB.frozen 1
  have HB := Lib.hid hB
  have HC := Lib.hid hC
  have HA := Lib.hid hA
  have HQ := Lib.hid hq
  have hp2 : p ≤ 1125899906842624 := by omega
  clear hB hC hA hq
  obtain ⟨i0, hi0, hz0, hz1, hz2⟩ := info_parts info5
  have hcut := cut_mid (P := Try.prog) 22 5 .i64 .i64 Try.underlying22 hi0 1 hz1 A bs.length c q ((q : Int) + j) (by omega) (by omega) (by omega) hc
  have hD := Kd.C_mid (lo := q) (hi := q + j) HC.out (by omega) hle hc
  simp only [show ((q : Int) + j).toNat = q + j by omega, Int.toNat_natCast, Nat.add_sub_cancel_left] at hcut
  obtain ⟨A', hA'⟩ : ∃ A', (if c = q then A else A.map (·.add (q * 1))) = A' := ⟨_, rfl⟩
  have hDA : ∀ ad, A' = some ad → 0 < j → ad.block ≠ bb := by
    intro ad e hj0
    rw [← hA'] at e
    rw [if_neg (by omega)] at e
    obtain ⟨a0, e0, e1⟩ := Option.map_eq_some_iff.1 e
    have := HA.out a0 e0 (by omega)
    rw [← e1]
    unfold Addr.add
    split <;> exact this
  rw [hA'] at hcut
  have hl : ((bs.take (q + j)).drop q).length = j := by simp; omega
  have hD : (Kd.int .u8).C w A' j ((bs.take (q + j)).drop q) := by rw [← hA']; have := hD; rw [hl] at this; exact this
  have HD := Lib.hid hD
  have HDA := Lib.hid hDA
  have hq0 : q ≤ bs.length := by omega
  clear hD hA' hz0 hz1 hz2 hi0 hl hDA
  go_enter Try.func62, Try.ntmps62
  go_wp2_with (first
    | (go_at_call 73; refine (up_to p q _ hp2 HQ.out).mono ?_; rintro e w' ⟨rfl, rfl⟩)
    | (go_at_call 37; refine (clone_any A' j _ _ _ (C_kp HD.out ((Kp.refl [bb] w).set_ (by simp) _) (by simpa using HDA.out)) (by omega)).mono ?_; rintro e w2 ⟨v, rfl, hown, hk, hg⟩))
  go_ret2
  refine ⟨v, rfl, ?_, ((Kp.refl [bb] w).set_ (by simp) _).then_nil hk, ?_, fun g e => by have := hg g e; simpa [World.setCell] using this⟩
  · rw [List.take_drop]; exact hown
  · have := (HB.out.set_ 1 (.int .i64 (8 * ((q : Int) + j)))).kp hk (by simp)
    simpa [RdB] using this

theorem bytes_no (bb : Nat) (A : Option Addr) (c p j : Nat) (n : Nat) (w : World) (hB : RdB w bb A n c p) (hn : n ≤ 140737488351232) (hp : p ≤ 8 * n) (hj : j ≤ 65535)
    (hle : n < (p + 7) / 8 + j) :
    Calls Try.prog 62 #[.pointer (some ⟨bb, 0, none⟩), .int .i64 j] w fun e w' => e = .returned (.tuple #[.slice none 0 0, .bool false]) ∧ w = w' := by
  have h0 : w.cell? ⟨bb, 0, none⟩ = some (.slice A n c) := hB.cell_ 0 rfl
  have h1 : w.cell? ⟨bb, 1, none⟩ = some (.int .i64 p) := hB.cell_ 1 rfl
  clear hB
  go_enter Try.func62, Try.ntmps62
  go_wp2_with (go_at_call 73; refine (up_any p _ (by omega)).mono ?_; rintro e w' ⟨rfl, rfl⟩)
  go_ret2
  exact ⟨rfl, rfl⟩

/-- NewReader: a reader of a copy. -/
theorem newReader_any (A : Option Addr) (n c : Nat) (xs : List Int) (w : World) (hC : (Kd.int .u8).C w A n xs) (hn : n ≤ 140737488351232) :
    Calls Try.prog 30 #[.slice A n c] w fun e w' => ∃ bb A' c', e = .returned (.pointer (some ⟨bb, 0, none⟩)) ∧ RdB w' bb A' xs.length c' 0 ∧ Own .u8 5 w' (.slice A' xs.length c') xs ∧ Kp [] w w' ∧ w.heap.size ≤ bb ∧
      (∀ ad, A' = some ad → w.heap.size ≤ ad.block) := by
  go_enter Try.func30, Try.ntmps30
  go_wp2_with (go_at_call 37; refine (clone_any A n c xs _ hC hn).mono ?_; rintro e w2 ⟨v, rfl, hown, hk, hg⟩; obtain ⟨A', c', rfl⟩ := own_slice hown)
  go_ret
  refine ⟨w2.heap.size, A', c', rfl, ?_, ?_, hk.alloc _, hk.size, ?_⟩
  · exact Blk.new _ _ _
  · exact hown.alloc _
  · intro ad e
    subst e
    exact hg _ rfl
end Go.Proofs.Ytoaebpjjfglnnaa

/- huff.New -/
namespace Go.Proofs.Ytoaebpjjfglnnaa
open Go.RowKit Go.Proofs.YtoaebpjjfglnnaaW.PrintWords Go.Proofs.YtoaebpjjfglnnaaW.PrintLast Go.Proofs.YtoaebpjjfglnnaaW.PrintMore
attribute [local go_sem] max2_int min2_int max_two min_two max_three min_three max_four min_four

/-- A code's block: the words' row, first, counts, starts, the order's row, the room. -/
structure CodeC (cs : Array Value) (wv ov : Value) (first counts starts : Nat → Nat) (room : Nat) : Prop where
  size : cs.size = 51
  words : cs[0]? = some wv
  first : ∀ l, l < 16 → cs[1 + l]? = some (.int .i64 (first l : Nat))
  counts : ∀ l, l < 16 → cs[17 + l]? = some (.int .i64 (counts l : Nat))
  starts : ∀ l, l < 16 → cs[33 + l]? = some (.int .i64 (starts l : Nat))
  order : cs[49]? = some ov
  room : cs[50]? = some (.int .i64 room)
theorem CodeC.setCounts {cs : Array Value} {wv ov : Value} {first counts starts : Nat → Nat} {room : Nat} (h : CodeC cs wv ov first counts starts room) (l x : Nat) (hl : l < 16) :
    CodeC (cs.setIfInBounds (17 + l) (.int .i64 (x : Nat))) wv ov first (at_ counts l x) starts room := by
  obtain ⟨h0, h1, h2, h3, h4, h5, h6⟩ := h
  refine ⟨by simp [h0], ?_, fun k hk => ?_, fun k hk => ?_, fun k hk => ?_, ?_, ?_⟩ <;> rw [Array.getElem?_setIfInBounds]
  · rw [if_neg (by omega)]; exact h1
  · rw [if_neg (by omega)]; exact h2 k hk
  · by_cases e : l = k
    · subst e
      rw [if_pos rfl, if_pos (by omega)]
      simp [at_]
    · rw [if_neg (by omega), h3 k hk]
      simp [at_, show ¬ k = l from fun h => e h.symm]
  · rw [if_neg (by omega)]; exact h4 k hk
  · rw [if_neg (by omega)]; exact h5
  · rw [if_neg (by omega)]; exact h6
theorem CodeC.setFirst {cs : Array Value} {wv ov : Value} {first counts starts : Nat → Nat} {room : Nat} (h : CodeC cs wv ov first counts starts room) (l x : Nat) (hl : l < 16) :
    CodeC (cs.setIfInBounds (1 + l) (.int .i64 (x : Nat))) wv ov (at_ first l x) counts starts room := by
  obtain ⟨h0, h1, h2, h3, h4, h5, h6⟩ := h
  refine ⟨by simp [h0], ?_, fun k hk => ?_, fun k hk => ?_, fun k hk => ?_, ?_, ?_⟩ <;> rw [Array.getElem?_setIfInBounds]
  · rw [if_neg (by omega)]; exact h1
  · by_cases e : l = k
    · subst e
      rw [if_pos rfl, if_pos (by omega)]
      simp [at_]
    · rw [if_neg (by omega), h2 k hk]
      simp [at_, show ¬ k = l from fun h => e h.symm]
  · rw [if_neg (by omega)]; exact h3 k hk
  · rw [if_neg (by omega)]; exact h4 k hk
  · rw [if_neg (by omega)]; exact h5
  · rw [if_neg (by omega)]; exact h6
theorem CodeC.setStarts {cs : Array Value} {wv ov : Value} {first counts starts : Nat → Nat} {room : Nat} (h : CodeC cs wv ov first counts starts room) (l x : Nat) (hl : l < 16) :
    CodeC (cs.setIfInBounds (33 + l) (.int .i64 (x : Nat))) wv ov first counts (at_ starts l x) room := by
  obtain ⟨h0, h1, h2, h3, h4, h5, h6⟩ := h
  refine ⟨by simp [h0], ?_, fun k hk => ?_, fun k hk => ?_, fun k hk => ?_, ?_, ?_⟩ <;> rw [Array.getElem?_setIfInBounds]
  · rw [if_neg (by omega)]; exact h1
  · rw [if_neg (by omega)]; exact h2 k hk
  · rw [if_neg (by omega)]; exact h3 k hk
  · by_cases e : l = k
    · subst e
      rw [if_pos rfl, if_pos (by omega)]
      simp [at_]
    · rw [if_neg (by omega), h4 k hk]
      simp [at_, show ¬ k = l from fun h => e h.symm]
  · rw [if_neg (by omega)]; exact h5
  · rw [if_neg (by omega)]; exact h6
theorem CodeC.setOrder {cs : Array Value} {wv ov ov' : Value} {first counts starts : Nat → Nat} {room : Nat} (h : CodeC cs wv ov first counts starts room) :
    CodeC (cs.setIfInBounds 49 ov') wv ov' first counts starts room := by
  obtain ⟨h0, h1, h2, h3, h4, h5, h6⟩ := h
  refine ⟨by simp [h0], ?_, fun k hk => ?_, fun k hk => ?_, fun k hk => ?_, ?_, ?_⟩ <;> rw [Array.getElem?_setIfInBounds]
  · rw [if_neg (by omega)]; exact h1
  · rw [if_neg (by omega)]; exact h2 k hk
  · rw [if_neg (by omega)]; exact h3 k hk
  · rw [if_neg (by omega)]; exact h4 k hk
  · rw [if_pos rfl, if_pos (by omega)]
  · rw [if_neg (by omega)]; exact h6

theorem Blk.newAt {w : World} {g : Nat} (hg : w.heap.size = g) (t : TypeId) (cs : Array Value) : Blk (w.alloc (.cells cs t)) g t cs := by subst hg; exact Blk.new w t cs
theorem info77 : (Try.prog.info? 77).map (fun i => (i.zero, i.size, i.bytes)) = some (some (.agg #[.int .u32 0, .int .i64 0]), 2, 16) := by kernel_rfl
theorem info3 : (Try.prog.info? 3).map (fun i => (i.zero, i.size, i.bytes)) = some (some (.int .i64 0), 1, 8) := by kernel_rfl
theorem lens_at {w : World} {A : Option Addr} {ls : List Nat} (h : (Kd.int .i64).C w A ls.length (ls.map Int.ofNat)) (k : Nat) (hk : k < ls.length) :
    ∃ ad, A = some ad ∧ w.cell? (ad.add k) = some (.int .i64 (ls.getD k 0 : Nat)) := by
  obtain ⟨ad, e, hx⟩ := Kd.at_int h k (by omega) (by omega)
  refine ⟨ad, e, ?_⟩
  rw [Int.toNat_natCast] at hx
  rw [hx]
  simp [rd, List.getD_eq_getElem?_getD, hk]

theorem getD_le {ls : List Nat} {m : Nat} (h : ∀ l ∈ ls, l ≤ m) (k : Nat) : ls.getD k 0 ≤ m := by
  rw [List.getD_eq_getElem?_getD]
  cases e : ls[k]? with
  | none => exact Nat.zero_le _
  | some x => exact h x (List.mem_of_getElem? e)
theorem room_ok (A : Option Addr) (c : Nat) (ls : List Nat) (w : World) (hC : (Kd.int .i64).C w A ls.length (ls.map Int.ofNat)) (hn : ls.length ≤ 320) (hl : ∀ l ∈ ls, l ≤ 15) :
    Calls Try.prog 34 #[.slice A ls.length c] w fun e w' => e = .returned (.tuple #[.int .i64 (roomF ls : Nat), .bool true]) ∧ w = w' := by
  have HC := Lib.hid hC
  have HL := Lib.hid hl
  clear hC hl
  go_enter Try.func34, Try.ntmps34
  go_wp2
  go_loop [4, 12] (fun t i => ∃ k : Nat, k ≤ ls.length ∧ i = .int .i64 k ∧ t = .int .i64 (roomF (ls.take k) : Nat)) (fun _ i => ls.length - (intOf i).toNat)
  case atStart => exact ⟨0, Nat.zero_le _, rfl, rfl⟩
  case round =>
    obtain ⟨k, hk, rfl, rfl⟩ := hrel
    by_cases hlt : k < ls.length
    · obtain ⟨ad, e, hx⟩ := lens_at HC.out k hlt
      subst e
      have hl15 : ls.getD k 0 ≤ 15 := getD_le HL.out k
      have hs := roomF_take_succ ls k hlt
      have hb := roomF_le (ls.take k)
      have hb2 : (ls.take k).length ≤ 320 := by rw [List.length_take]; omega
      obtain ⟨x, hxx⟩ : ∃ x, roomF (ls.take k) = x := ⟨_, rfl⟩
      obtain ⟨l, hll⟩ : ∃ l, ls.getD k 0 = l := ⟨_, rfl⟩
      rw [hll] at hx hl15 hs
      rw [hxx] at hs hb ⊢
      have hb3 : x ≤ 5242880 := by omega
      have HS := Lib.hid hs
      clear hll hxx hs hb hb2
      by_cases h0 : 0 < l
      · have hd : 32768 / 2 ^ l ≤ 16384 := by
          have := Nat.div_le_div_left (a := 32768) (Nat.pow_le_pow_right (show 0 < 2 by decide) h0) (by decide)
          omega
        obtain ⟨d, hdd⟩ : ∃ d, 32768 / 2 ^ l = d := ⟨_, rfl⟩
        have hdi : (32768 : Int) / 2 ^ l = (d : Int) := by rw [← hdd]; simp
        rw [hdd] at hd
        have HD := Lib.hid hdd
        clear hdd
        go_wp2
        go_round
        case rel => exact ⟨k + 1, by omega, by go_num, by rw [HS.out, if_pos h0, HD.out]; go_num⟩
        case measure => simp [intOf]; omega
      · go_wp2
        go_round
        case rel => exact ⟨k + 1, by omega, by go_num, by rw [HS.out, if_neg h0]; go_num⟩
        case measure => simp [intOf]; omega
    · go_wp2
      go_ret2
      exact ⟨by rw [List.take_of_length_le (by omega)]; rfl, rfl⟩

end Go.Proofs.Ytoaebpjjfglnnaa

/- huff.New -/
namespace Go.Proofs.Ytoaebpjjfglnnaa
open Go.RowKit Go.Proofs.YtoaebpjjfglnnaaW.PrintWords Go.Proofs.YtoaebpjjfglnnaaW.PrintLast Go.Proofs.YtoaebpjjfglnnaaW.PrintMore
attribute [local go_sem] max2_int min2_int max_two min_two max_three min_three max_four min_four

/-- A code's block as it is made. -/
def code0 (wv : Value) (room : Nat) : Array Value := #[wv, .int .i64 0, .int .i64 0, .int .i64 0, .int .i64 0, .int .i64 0, .int .i64 0, .int .i64 0, .int .i64 0, .int .i64 0, .int .i64 0, .int .i64 0, .int .i64 0, .int .i64 0, .int .i64 0, .int .i64 0, .int .i64 0, .int .i64 0, .int .i64 0, .int .i64 0, .int .i64 0, .int .i64 0, .int .i64 0, .int .i64 0, .int .i64 0, .int .i64 0, .int .i64 0, .int .i64 0, .int .i64 0, .int .i64 0, .int .i64 0, .int .i64 0, .int .i64 0, .int .i64 0, .int .i64 0, .int .i64 0, .int .i64 0, .int .i64 0, .int .i64 0, .int .i64 0, .int .i64 0, .int .i64 0, .int .i64 0, .int .i64 0, .int .i64 0, .int .i64 0, .int .i64 0, .int .i64 0, .int .i64 0, .slice none 0 0, .int .i64 room]
theorem CodeC.zero (wv : Value) (room : Nat) : CodeC (code0 wv room) wv (.slice none 0 0) (fun _ => 0) (fun _ => 0) (fun _ => 0) room := by
  refine ⟨rfl, rfl, fun l hl => ?_, fun l hl => ?_, fun l hl => ?_, rfl, rfl⟩ <;>
    (match l, hl with
     | 0, _ | 1, _ | 2, _ | 3, _ | 4, _ | 5, _ | 6, _ | 7, _ | 8, _ | 9, _ | 10, _ | 11, _ | 12, _ | 13, _ | 14, _ | 15, _ => exact rfl
     | n + 16, h => exact absurd h (by omega))

/-- The words' cells. -/
def wcells (ws : List (Nat × Nat)) : List Value := ws.flatMap fun p => [.int .u32 p.1, .int .i64 p.2]
theorem wcells_zero : ∀ n, (madeCells #[Value.int IntKind.u32 0, Value.int IntKind.i64 0] (n * 2)) = (wcells (List.replicate n (0, 0))).toArray := by
  intro n
  apply Array.toList_inj.1
  apply List.ext_getElem?
  intro i
  have hw : ∀ n i : Nat, (wcells (List.replicate n (0, 0)))[i]? = if i < n * 2 then some (if i % 2 = 0 then Value.int .u32 0 else Value.int .i64 0) else none := by
    intro n
    induction n with
    | zero => intro i; simp [wcells]
    | succ n ih =>
      intro i
      rw [List.replicate_succ]
      match i with
      | 0 => simp [wcells]
      | 1 => simp [wcells]; omega
      | i + 2 =>
        have := ih i
        simp only [wcells, List.flatMap_cons, List.cons_append, List.nil_append, List.getElem?_cons_succ] at this ⊢
        rw [this, show (i + 2) % 2 = i % 2 by omega]
        by_cases h : i < n * 2
        · rw [if_pos h, if_pos (show i + 2 < (n + 1) * 2 by omega)]
        · rw [if_neg h, if_neg (show ¬ i + 2 < (n + 1) * 2 by omega)]
  rw [hw]
  by_cases h : i < n * 2
  · rw [if_pos h]
    simp only [madeCells, Array.toList_map, Array.toList_range, List.getElem?_map, List.getElem?_range h, Option.map_some]
    rcases Nat.mod_two_eq_zero_or_one i with e | e <;> simp [e]
  · rw [if_neg h]
    simp only [madeCells, Array.toList_map, Array.toList_range, List.getElem?_map]
    rw [List.getElem?_eq_none (by simp; omega)]
    rfl
theorem wcells_get (ws : List (Nat × Nat)) (k : Nat) (hk : k < ws.length) : (wcells ws)[2 * k]? = some (.int .u32 (ws[k].1 : Nat)) ∧ (wcells ws)[2 * k + 1]? = some (.int .i64 (ws[k].2 : Nat)) := by
  induction ws generalizing k with
  | nil => simp at hk
  | cons p r ih =>
    match k with
    | 0 => simp [wcells]
    | k + 1 =>
      have := ih k (by simpa using hk)
      simp only [wcells, List.flatMap_cons, List.cons_append, List.nil_append, show 2 * (k + 1) = 2 * k + 1 + 1 by omega, List.getElem?_cons_succ, List.getElem_cons_succ] at this ⊢
      exact this
theorem wcells_set (ws : List (Nat × Nat)) (k : Nat) (p : Nat × Nat) (hk : k < ws.length) : ((wcells ws).set (2 * k) (.int .u32 (p.1 : Nat))).set (2 * k + 1) (.int .i64 (p.2 : Nat)) = wcells (ws.set k p) := by
  induction ws generalizing k with
  | nil => simp at hk
  | cons q r ih =>
    match k with
    | 0 => simp [wcells]
    | k + 1 =>
      have := ih k (by simpa using hk)
      simp only [wcells, List.flatMap_cons, List.cons_append, List.nil_append, show 2 * (k + 1) = 2 * k + 1 + 1 by omega, List.set_cons_succ] at this ⊢
      rw [this]
theorem wcells_len (ws : List (Nat × Nat)) : (wcells ws).length = 2 * ws.length := by
  induction ws with
  | nil => rfl
  | cons p r ih => simp only [wcells, List.flatMap_cons, List.length_append, List.length_cons, List.length_nil] at ih ⊢; omega

/-- The cells of the numbers that were seen. -/
def seenA (f : Nat → Nat) : Array Value := ((List.range 16).map fun l => Value.int .i64 (f l : Nat)).toArray
theorem seenA_get (f : Nat → Nat) (l : Nat) (hl : l < 16) : (seenA f)[l]? = some (.int .i64 (f l : Nat)) := by
  simp [seenA, hl]
theorem seenA_size (f : Nat → Nat) : (seenA f).size = 16 := by simp [seenA]
theorem seenA_set (f : Nat → Nat) (l x : Nat) (hl : l < 16) : (seenA f).setIfInBounds l (.int .i64 (x : Nat)) = seenA (at_ f l x) := by
  apply Array.ext_getElem?
  intro i
  rw [Array.getElem?_setIfInBounds]
  by_cases hi : i < 16
  · rw [seenA_get _ i hi]
    by_cases h : l = i
    · subst h
      rw [if_pos rfl, if_pos (by rw [seenA_size]; exact hl), seenA_get _ l hi]
      unfold at_
      rw [if_pos rfl]
    · rw [if_neg h, seenA_get _ i hi]
      unfold at_
      rw [if_neg (fun e => h e.symm)]
  · have h1 : (seenA f)[i]? = none := Array.getElem?_eq_none (by rw [seenA_size]; omega)
    have h2 : (seenA (at_ f l x))[i]? = none := Array.getElem?_eq_none (by rw [seenA_size]; omega)
    rw [h1, h2, if_neg (by omega)]
theorem upto_one (f : Nat → Nat) (h : f 0 = 0) : upto f 1 = fun _ => 0 := by
  funext k
  unfold upto
  split
  · rw [show k = 0 by omega, h]
  · rfl
/-- The code of lengths, as New leaves it. -/
def HCode (R : Nat → Nat → Nat) (w : World) (pc : Nat) (ls : List Nat) : Prop :=
  ∃ cs gw go ords, Blk w pc 74 cs ∧ CodeC cs (.slice (some ⟨gw, 0, none⟩) ls.length ls.length) (.slice (some ⟨go, 0, none⟩) (used ls) (used ls)) (upto (firstF ls) 16) (cz ls) (upto (startF ls) 16) (roomF ls) ∧
    OrdTo ls ls.length ords ∧ Own .i64 3 w (.slice (some ⟨go, 0, none⟩) (used ls) (used ls)) ords ∧ Blk w gw 77 (wcells (wordsTo R ls ls.length)).toArray
set_option maxRecDepth 100000 in
set_option maxHeartbeats 8000000 in
theorem new_ok (R : Nat → Nat → Nat) (hR : ∀ (a b l : Nat) (w : World), a ≤ 41943040 → b ≤ 320 → l ≤ 15 → Calls Try.prog 35 #[.int .u32 ((a : Int) + b), .int .i64 l] w fun e w' => e = .returned (.int .u32 (R (a + b) l : Nat)) ∧ w = w')
    (A : Option Addr) (c : Nat) (ls : List Nat) (w : World) (hC : (Kd.int .i64).C w A ls.length (ls.map Int.ofNat)) (hn : ls.length ≤ 320) (hl : ∀ l ∈ ls, l ≤ 15) (hr : roomF ls ≤ 32768) :
    Calls Try.prog 22 #[.slice A ls.length c] w fun e w' => ∃ pc, e = .returned (.tuple #[.pointer (some ⟨pc, 0, none⟩), .int .i64 0]) ∧ HCode R w' pc ls ∧ Kp [] w w' ∧ w.heap.size ≤ pc := by
  have HC := Lib.hid hC
  have HL := Lib.hid hl
  have HR := Lib.hid hR
  obtain ⟨room, hroom⟩ : ∃ r, roomF ls = r := ⟨_, rfl⟩
  have HRoom : Hid (∀ w, (Kd.int .i64).C w A ls.length (ls.map Int.ofNat) → Calls Try.prog 34 #[.slice A ls.length c] w fun e w' => e = .returned (.tuple #[.int .i64 (room : Nat), .bool true]) ∧ w = w') := fun w h => by rw [← hroom]; exact room_ok A c ls w h hn hl
  rw [hroom] at hr
  have HRE := Lib.hid hroom
  clear hC hl hR hroom
  obtain ⟨i0, hi0, hz0, hz1, hz2⟩ := info_parts info77
  have hmk := fun w => run_make (P := Try.prog) w 71 77 i0 _ Try.underlying71 hi0 hz0 .i64 .i64 ls.length ls.length (by omega) (by omega) (by rw [hz2]; omega) (by omega)
  simp only [hz1, Int.toNat_natCast, show (Value.agg #[Value.int .u32 0, Value.int .i64 0]).cells = #[Value.int .u32 0, Value.int .i64 0] from rfl, wcells_zero] at hmk
  clear hi0 hz0 hz1 hz2
  go_enter Try.func22, Try.ntmps22
  go_wp2_with (first
    | (go_at_call 34; refine (HRoom.out _ HC.out).mono ?_; rintro e w1 ⟨rfl, rfl⟩))
  clear HRoom
  go_loopw [33] (fun i wr => ∃ k : Nat, k ≤ ls.length ∧ i = .int .i64 k ∧ ∃ cs, Blk wr (w.heap.size + 1) 74 cs ∧ CodeC cs (.slice (some ⟨w.heap.size, 0, none⟩) ls.length ls.length) (.slice none 0 0) (fun _ => 0) (cnt (ls.take k)) (fun _ => 0) room ∧
      Blk wr w.heap.size 77 (wcells (List.replicate ls.length (0, 0))).toArray ∧ Kp [] w wr) (fun i _ => ls.length - (intOf i).toNat)
  case atStart =>
    refine ⟨0, Nat.zero_le _, rfl, code0 (.slice (some ⟨w.heap.size, 0, none⟩) ls.length ls.length) room, ?_, ?_, ?_, ?_⟩
    · exact Blk.newAt (by simp) _ _
    · exact CodeC.zero _ _
    · exact (Blk.new _ _ _).alloc _
    · exact ((Kp.refl _ _).alloc _).alloc _
  case round =>
    obtain ⟨k, hk, rfl, cs, hB, hCC, hW, hKp⟩ := hrel
    by_cases hlt : k < ls.length
    · obtain ⟨ad, e, hx⟩ := lens_at (C_kp HC.out hKp (by simp)) k hlt
      subst e
      have hl15 : ls.getD k 0 ≤ 15 := getD_le HL.out k
      have hxl : cnt (ls.take k) (ls.getD k 0) ≤ 320 := Nat.le_trans (cnt_le _ _) (by rw [List.length_take]; omega)
      have hac := at_cnt_succ ls k hlt
      obtain ⟨l, hll⟩ : ∃ l, ls.getD k 0 = l := ⟨_, rfl⟩
      rw [hll] at hx hl15 hxl hac
      have h17 := hB.cell_ (17 + l) (hCC.counts l (by omega))
      obtain ⟨x, hxx⟩ : ∃ x, cnt (ls.take k) l = x := ⟨_, rfl⟩
      rw [hxx] at hxl h17 hac
      have f17 := hB.frozen (17 + l)
      have HAC := Lib.hid hac
      have HB := Lib.hid hB
      have HCC := Lib.hid hCC
      have HW := Lib.hid hW
      clear hll hB hCC hW hxx hac
      go_wp2
      go_region
      go_wp2
      go_roundw
      case rel =>
        refine ⟨k + 1, by omega, by go_num, cs.setIfInBounds (17 + l) (.int .i64 ((x + 1 : Nat) : Int)), HB.out.set_ _ _, ?_, ?_, ?_⟩
        · rw [← HAC.out]; exact HCC.out.setCounts l (x + 1) (by omega)
        · exact HW.out.far (by simp) _
        · exact (hKp.set_ (by simp) _).drew
      case measure => simp [intOf]; omega
    · have hke : k = ls.length := by omega
      subst hke
      rw [List.take_of_length_le (Nat.le_refl _)] at hCC
      have h17 := hB.cell_ 17 (hCC.counts 0 (by omega))
      have f17 := hB.frozen 17
      have HB := Lib.hid hB
      have HCC := Lib.hid hCC
      have HW := Lib.hid hW
      clear hB hCC hW
      go_wp2
      go_loopw [9] (fun i wr => ∃ m : Nat, m ≤ 15 ∧ i = .int .i64 ((m : Int) + 1) ∧ ∃ cs, Blk wr (w.heap.size + 1) 74 cs ∧ CodeC cs (.slice (some ⟨w.heap.size, 0, none⟩) ls.length ls.length) (.slice none 0 0) (upto (firstF ls) (m + 1)) (cz ls) (upto (startF ls) (m + 1)) room ∧
          Blk wr w.heap.size 77 (wcells (List.replicate ls.length (0, 0))).toArray ∧ Kp [] w wr) (fun i _ => 16 - (intOf i).toNat)
      case atStart =>
        refine ⟨0, by omega, by go_num, _, HB.out.set_ 17 (.int .i64 (0 : Nat)), ?_, HW.out.far (by simp) _, hKp.set_ (by simp) _⟩
        rw [upto_one _ rfl, upto_one _ rfl]
        exact HCC.out.setCounts 0 0 (by omega)
      case round =>
        clear HB HCC HW hKp h17 f17
        obtain ⟨m, hm, rfl, cs, hB, hCC, hW, hKp⟩ := hrel
        by_cases hlt : m < 15
        · have hf1 := firstF_lt ls hn m (by omega)
          have hs1 := startF_sum ls m
          have hs2 : m * ls.length ≤ 15 * 320 := Nat.mul_le_mul (by omega) hn
          have hc1 := cz_le ls m
          have c1 := hB.cell_ (1 + m) (hCC.first m (by omega))
          have c17 := hB.cell_ (17 + m) (hCC.counts m (by omega))
          have c33 := hB.cell_ (33 + m) (hCC.starts m (by omega))
          have d1 := hB.cell_ (1 + (m + 1)) (hCC.first (m + 1) (by omega))
          have d33 := hB.cell_ (33 + (m + 1)) (hCC.starts (m + 1) (by omega))
          have e1 : upto (firstF ls) (m + 1) m = firstF ls m := by simp [upto]
          have e33 : upto (startF ls) (m + 1) m = startF ls m := by simp [upto]
          rw [e1] at c1
          rw [e33] at c33
          obtain ⟨x, hx⟩ : ∃ x, firstF ls m = x := ⟨_, rfl⟩
          obtain ⟨y, hy⟩ : ∃ y, startF ls m = y := ⟨_, rfl⟩
          obtain ⟨z, hz⟩ : ∃ z, cz ls m = z := ⟨_, rfl⟩
          rw [hx] at hf1 c1
          rw [hy] at hs1 c33
          rw [hz] at hc1 c17
          have g1 := hB.frozen (1 + (m + 1))
          have g33 := hB.frozen (33 + (m + 1))
          have HX := Lib.hid hx
          have HY := Lib.hid hy
          have HZ := Lib.hid hz
          have HB := Lib.hid hB
          have HCC := Lib.hid hCC
          have HW := Lib.hid hW
          clear hx hy hz hB hCC hW e1 e33
          go_wp2
          go_region
          go_wp2
          go_region
          go_wp2
          go_roundw
          case measure => simp [intOf]; omega
          case rel =>
            rw [show ((x : Int) + z) * 2 = ((2 * (x + z) : Nat) : Int) by omega, show (y : Int) + z = ((y + z : Nat) : Int) by omega]
            refine ⟨m + 1, by omega, by go_num, _, ((HB.out.set_ _ _).set_ _ _).drew.drew, ?_, ((HW.out.far (by simp) _).far (by simp) _).drew.drew, ((hKp.set_ (by simp) _).set_ (by simp) _).drew.drew⟩
            have := (HCC.out.setFirst (m + 1) (2 * (x + z)) (by omega)).setStarts (m + 1) (y + z) (by omega)
            rw [← HX.out, ← HY.out, ← HZ.out, show 2 * (firstF ls m + cz ls m) = firstF ls (m + 1) from rfl, show startF ls m + cz ls m = startF ls (m + 1) from rfl, at_upto, at_upto] at this
            rw [← HX.out, ← HY.out, ← HZ.out]
            exact this
        · have hm15 : m = 15 := by omega
          subst hm15
          rw [show (((15 : Nat) : Int) + 1) = 16 from rfl]
          have hs1 := startF_sum ls 15
          have hc1 := cz_le ls 15
          have c17 := hB.cell_ (17 + 15) (hCC.counts 15 (by omega))
          have c33 := hB.cell_ (33 + 15) (hCC.starts 15 (by omega))
          have e33 : upto (startF ls) (15 + 1) 15 = startF ls 15 := by simp [upto]
          rw [e33] at c33
          have c49 := hB.cell_ 49 hCC.order
          have g49 := hB.frozen 49
          have hus : used ls = startF ls 15 + cz ls 15 := rfl
          obtain ⟨y, hy⟩ : ∃ y, startF ls 15 = y := ⟨_, rfl⟩
          obtain ⟨z, hz⟩ : ∃ z, cz ls 15 = z := ⟨_, rfl⟩
          rw [hy] at hs1 c33 hus
          rw [hz] at hc1 c17 hus
          obtain ⟨i3, hi3, hz3, hsz3, hb3⟩ := info_parts info3
          have hmk3 := fun w => run_make (P := Try.prog) w 29 3 i3 _ Try.underlying29 hi3 hz3 .i64 .i64 ((y : Int) + z) ((y : Int) + z) (by omega) (by omega) (by rw [hb3]; omega) (by omega)
          simp only [hsz3, show ((y : Int) + z).toNat = y + z by omega, Nat.mul_one, ← hus] at hmk3
          have c49' := (hB.alloc (.cells (madeCells #[Value.int .i64 0] (used ls)) 3)).cell_ 49 hCC.order
          have g49' := (hB.alloc (.cells (madeCells #[Value.int .i64 0] (used ls)) 3)).frozen 49
          have HUS := Lib.hid hus
          have HB := Lib.hid hB
          have HCC := Lib.hid hCC
          have HW := Lib.hid hW
          clear hy hz hB hCC hW e33 hi3 hz3 hsz3 hb3 hus
          go_wp2
          go_region
          go_wp2
          have hne : w.heap.size + 2 ≤ wr.heap.size := by have := HB.out.lt; omega
          obtain ⟨w2, rfl⟩ : ∃ w2 : World, w2 = wr := ⟨_, rfl⟩
          have hne1 : ¬ w2.heap.size = w.heap.size := by omega
          have hne2 : ¬ w2.heap.size + 1 = w.heap.size := by omega
          have hne3 : ¬ w2.heap.size = w.heap.size + 1 := by omega
          have HLOOP : Hid (CodeC (cs.setIfInBounds 49 (.slice (some ⟨w2.heap.size, 0, none⟩) (used ls) (used ls))) (.slice (some ⟨w.heap.size, 0, none⟩) ls.length ls.length) (.slice (some ⟨w2.heap.size, 0, none⟩) (used ls) (used ls)) (upto (firstF ls) 16) (cz ls) (upto (startF ls) 16) room) := HCC.out.setOrder
          go_loopw [114] (fun i wr => ∃ k : Nat, k ≤ ls.length ∧ i = .int .i64 k ∧ Blk wr (w.heap.size + 1) 74 (cs.setIfInBounds 49 (.slice (some ⟨w2.heap.size, 0, none⟩) (used ls) (used ls))) ∧
              (∃ ords, OrdTo ls k ords ∧ Own .i64 3 wr (.slice (some ⟨w2.heap.size, 0, none⟩) (used ls) (used ls)) ords) ∧
              Blk wr w.heap.size 77 (wcells (wordsTo R ls k)).toArray ∧ Blk wr (w2.heap.size + 1) 72 (seenA (cz (ls.take k))) ∧ Kp [] w wr) (fun i _ => ls.length - (intOf i).toNat)
          case atStart =>
            refine ⟨0, Nat.zero_le _, rfl, ?_, ⟨_, OrdTo.zero ls, ?_⟩, ?_, ?_, ?_⟩
            · exact (((HB.out.alloc _).set_ _ _).alloc _).drew
            · have hom := own_made w2 0 3 .i64 (used ls) (Nat.zero_le _) (by rw [HUS.out]; omega)
              have := ((ownsRow_setCell_other hom (a := ⟨w.heap.size + 1, 49, none⟩) (by simp [Value.ownBlock]; omega) (.slice (some ⟨w2.heap.size, 0, none⟩) (used ls) (used ls))).alloc (.cells (seenA fun _ => 0) 72)).drew
              unfold Own
              rw [List.length_replicate]
              exact this
            · rw [wordsTo_zero]; exact (((HW.out.alloc _).far (by simp) _).alloc _).drew
            · exact Blk.newAt (by simp) _ _
            · exact (((hKp.alloc _).set_ (by simp) _).alloc _).drew
          case round =>
            clear HB HCC HW hKp c17 c33 c49 g49 c49' g49'
            obtain ⟨k, hk, rfl, hB, ⟨ords, ho, hO⟩, hW, hS, hKp⟩ := hrel
            by_cases hlt : k < ls.length
            · obtain ⟨ad, e, hx⟩ := lens_at (C_kp HC.out hKp (by simp)) k hlt
              subst e
              have hl15 : ls.getD k 0 ≤ 15 := getD_le HL.out k
              by_cases h0 : ls.getD k 0 = 0
              · rw [h0] at hx
                have HB := Lib.hid hB
                have HO := Lib.hid hO
                have HW := Lib.hid hW
                have HS := Lib.hid hS
                have H0 := Lib.hid h0
                clear hB hO hW hS h0
                go_wp2
                go_roundw
                case measure => simp [intOf]; omega
                case rel => exact ⟨k + 1, by omega, by go_num, HB.out, ⟨ords, ho.skip H0.out, HO.out⟩, by rw [wordsTo_skip R ls k hlt H0.out]; exact HW.out, by rw [cz_skip ls k hlt H0.out]; exact HS.out, hKp⟩
              · have hp := pos_lt ls k hlt h0 hl15
                have hst := startF_sum ls (ls.getD k 0)
                have hst2 : ls.getD k 0 * ls.length ≤ 15 * 320 := Nat.mul_le_mul hl15 hn
                have hrk : rank ls k ≤ 320 := Nat.le_trans (cnt_le _ _) (by rw [List.length_take]; omega)
                have hf := firstF_lt ls hn (ls.getD k 0) (by omega)
                have hac := at_cz_succ ls k hlt h0
                have hxe : cz (ls.take k) (ls.getD k 0) = rank ls k := cz_at _ _ h0
                have e1 : upto (firstF ls) 16 (ls.getD k 0) = firstF ls (ls.getD k 0) := by unfold upto; rw [if_pos (by omega)]
                have e33 : upto (startF ls) 16 (ls.getD k 0) = startF ls (ls.getD k 0) := by unfold upto; rw [if_pos (by omega)]
                have c1 := hB.cell_ (1 + ls.getD k 0) (HLOOP.out.first _ (by omega))
                have c33 := hB.cell_ (33 + ls.getD k 0) (HLOOP.out.starts _ (by omega))
                have c49 := hB.cell_ 49 HLOOP.out.order
                have c0 := hB.cell_ 0 HLOOP.out.words
                have cS := hS.cell_ (ls.getD k 0) (seenA_get _ _ (by omega))
                have fS := hS.frozen (ls.getD k 0)
                rw [e1] at c1
                rw [e33] at c33
                rw [hxe] at cS
                have hpe : pos ls k = startF ls (ls.getD k 0) + rank ls k := rfl
                obtain ⟨l, hll⟩ : ∃ l, ls.getD k 0 = l := ⟨_, rfl⟩
                obtain ⟨x, hxx⟩ : ∃ x, rank ls k = x := ⟨_, rfl⟩
                obtain ⟨st, hstt⟩ : ∃ st, startF ls l = st := ⟨_, rfl⟩
                obtain ⟨fi, hfi⟩ : ∃ fi, firstF ls l = fi := ⟨_, rfl⟩
                rw [hll] at hx hl15 h0 hst hst2 hf c1 c33 cS fS hpe
                rw [hxx] at hrk cS hpe
                rw [hstt] at hst c33 hpe
                rw [hfi] at hf c1
                rw [hpe] at hp
                have hpu : st + x < used ls := hp
                have hlz : ¬ (l : Int) = 0 := by omega
                have hO' : wr.ownsRow 0 3 1 (.slice (some ⟨w2.heap.size, 0, none⟩) (used ls) (used ls)) (used ls) (nums .i64 ords) := by
                  have := hO
                  unfold Own at this
                  rw [ho.1] at this
                  exact this
                obtain ⟨ho1, ho2⟩ := own_at hO' ((st + x : Nat) : Int) (by omega) (by omega)
                rw [Int.toNat_natCast] at ho1 ho2
                obtain ⟨hw1, hw2⟩ := wcells_get (wordsTo R ls k) k (by simp [wordsTo]; exact hlt)
                obtain ⟨q1, hq1⟩ : ∃ v, (wcells (wordsTo R ls k)).toArray[k * 2]? = some v := ⟨_, by rw [List.getElem?_toArray, Nat.mul_comm]; exact hw1⟩
                obtain ⟨q2, hq2⟩ : ∃ v, (wcells (wordsTo R ls k)).toArray[k * 2 + 1]? = some v := ⟨_, by rw [List.getElem?_toArray, Nat.mul_comm]; exact hw2⟩
                have HG1 := Lib.hid hq1
                have HG2 := Lib.hid hq2
                clear hq1 hq2
                have HB := Lib.hid hB
                have HO := Lib.hid hO'
                have HW := Lib.hid hW
                have HS := Lib.hid hS
                have HRK := Lib.hid hxx
                have HST := Lib.hid hstt
                have HFI := Lib.hid hfi
                have HLL := Lib.hid hll
                have HPE := Lib.hid hpe
                have HAC := Lib.hid hac
                have HOR := Lib.hid ho
                clear hB hO hO' hW hS hxx hstt hfi hll hpe hac hxe e1 e33 hw1 hw2 hp ho
                go_wp2
                go_region
                go_wp2_with fail
                obtain ⟨w5, hw5⟩ : ∃ w5, ((wr.setCell ⟨w2.heap.size + 1, l, none⟩ (.int .i64 ((x : Int) + 1))).setCell ⟨w2.heap.size, st + x, none⟩ (.int .i64 (k : Int))).drew = w5 := ⟨_, rfl⟩
                rw [hw5]
                have B5 : Blk w5 (w.heap.size + 1) 74 (cs.setIfInBounds 49 (.slice (some ⟨w2.heap.size, 0, none⟩) (used ls) (used ls))) := by rw [← hw5]; exact ((HB.out.far (by simp; omega) _).far (by simp; omega) _).drew
                have W5 : Blk w5 w.heap.size 77 (wcells (wordsTo R ls k)).toArray := by rw [← hw5]; exact ((HW.out.far (by simp; omega) _).far (by simp; omega) _).drew
                have S5 : Blk w5 (w2.heap.size + 1) 72 ((seenA (cz (ls.take k))).setIfInBounds l (.int .i64 ((x + 1 : Nat) : Int))) := by rw [← hw5]; exact ((HS.out.set_ l (.int .i64 ((x + 1 : Nat) : Int))).far (by simp) _).drew
                have O5 : w5.ownsRow 0 3 1 (.slice (some ⟨w2.heap.size, 0, none⟩) (used ls) (used ls)) (used ls) (nums .i64 (ords.set (st + x) (k : Int))) := by
                  rw [← hw5]
                  have h1 := ownsRow_setCell_other HO.out (a := ⟨w2.heap.size + 1, l, none⟩) (by simp [Value.ownBlock]) (.int .i64 ((x : Int) + 1))
                  have h2 := (own_store h1 ((st + x : Nat) : Int) (k : Int)).1
                  rw [Int.toNat_natCast] at h2
                  exact h2
                have K5 : Kp [] w w5 := by rw [← hw5]; exact ((hKp.set_ (by simp; omega) _).set_ (by simp; omega) _).drew
                clear c1 c33 c49 c0 cS fS ho1 ho2 hw5
                have c1 : w5.cell? ⟨w.heap.size + 1, 1 + l, none⟩ = some (.int .i64 (fi : Nat)) := B5.cell_ (1 + l) (by rw [HLOOP.out.first _ (by omega)]; unfold upto; rw [if_pos (by omega), HFI.out])
                have c0 := B5.cell_ 0 HLOOP.out.words
                have hl16 : (l : Int) < 16 := by omega
                have hwA : IntKind.i64.wrap ((fi : Int) + x) = (fi : Int) + x := by rw [IntKind.wrap_i64]; omega
                have hwB : IntKind.u32.wrap ((fi : Int) + x) = (fi : Int) + x := by rw [IntKind.wrap_u32]; omega
                have hlt' : (k : Int) < (ls.length : Int) := by omega
                have cw1 : w5.cell? ⟨w.heap.size, k * 2, none⟩ = some q1 := W5.cell_ (k * 2) HG1.out
                have cw2 : w5.cell? ⟨w.heap.size, k * 2 + 1, none⟩ = some q2 := W5.cell_ (k * 2 + 1) HG2.out
                have fw1 := W5.frozen (k * 2)
                have fw2 := W5.frozen (k * 2 + 1)
                have HB5 := Lib.hid B5
                have HW5 := Lib.hid W5
                have HS5 := Lib.hid S5
                have HO5 := Lib.hid O5
                clear B5 W5 S5 O5
                go_still_tail 19, (by kernel_rfl)
                still_call ((HR.out fi x l _ hf hrk hl15).mono fun e w' h => ⟨h.1, h.2.symm⟩)
                repeat still_step
                refine wpStill_nil ?_
                clear hwA hwB
                change wpList _ _ _ _ _ w5.drew
                go_wp2
                go_roundw
                case measure => simp [intOf]; omega
                case rel =>
                  have hol : ords.length = used ls := HOR.out.1
                  refine ⟨k + 1, by omega, by go_num, ((HB5.out.far (by simp) _).far (by simp) _).drew, ⟨ords.set (st + x) (k : Int), ?_, ?_⟩, ?_, ?_, ((K5.set_ (by simp) _).set_ (by simp) _).drew⟩
                  · rw [← HPE.out]
                    exact HOR.out.put hlt (by rw [HLL.out]; exact h0) (by rw [HLL.out]; exact hl15)
                  · unfold Own
                    rw [List.length_set, hol]
                    exact own_drew (ownsRow_setCell_other (ownsRow_setCell_other HO5.out (by simp [Value.ownBlock]; omega) _) (by simp [Value.ownBlock]; omega) _)
                  · have h1 := (HW5.out.set_ (k * 2) (.int .u32 (R (fi + x) l : Nat))).set_ (k * 2 + 1) (.int .i64 (l : Nat))
                    rw [List.setIfInBounds_toArray, List.setIfInBounds_toArray, Nat.mul_comm k 2] at h1
                    have h2 := wcells_set (wordsTo R ls k) k (R (fi + x) l, l) (by simp [wordsTo]; exact hlt)
                    have h3 : (R (fi + x) l, l) = wordF R ls k := by
                      unfold wordF
                      rw [HLL.out, if_neg h0, HFI.out, HRK.out]
                    rw [h3] at h2
                    rw [← wordsTo_set R ls k hlt, ← h2, ← h3, Nat.mul_comm k 2]
                    exact h1.drew
                  · rw [← HAC.out, ← seenA_set _ _ _ (by rw [HLL.out]; omega), HLL.out]
                    have := HS5.out
                    rw [show cnt (ls.take k) l = x by rw [← HRK.out]; unfold rank; rw [HLL.out]]
                    exact ((this.far (by simp; omega) _).far (by simp; omega) _).drew
            · have hke : k = ls.length := by omega
              subst hke
              have HB := Lib.hid hB
              have HO := Lib.hid hO
              have HW := Lib.hid hW
              clear hB hO hW hS
              go_wp2
              go_ret2
              refine ⟨_, rfl, ⟨_, _, _, ords, HB.out, HRE.out ▸ HLOOP.out, ho, HO.out, HW.out⟩, hKp, by omega⟩
end Go.Proofs.Ytoaebpjjfglnnaa

/- huff: Complete, Symbols, longer, Next -/
namespace Go.Proofs.Ytoaebpjjfglnnaa
open Go.RowKit Go.Proofs.YtoaebpjjfglnnaaW.PrintWords Go.Proofs.YtoaebpjjfglnnaaW.PrintLast Go.Proofs.YtoaebpjjfglnnaaW.PrintMore
attribute [local go_sem] max2_int min2_int max_two min_two max_three min_three max_four min_four

/-- A block of a type of its own among those that may turn. -/
def Other (w : World) (L : List Nat) : Prop := ∀ x ∈ L, ∃ t cs, Blk w x t cs ∧ t ≠ 74 ∧ t ≠ 77 ∧ t ≠ 3
theorem HCode.kp {R : Nat → Nat → Nat} {w w' : World} {pc : Nat} {ls : List Nat} {L : List Nat} (h : HCode R w pc ls) (hk : Kp L w w') (hL : Other w L) : HCode R w' pc ls := by
  obtain ⟨cs, gw, go, ords, hB, hC, ho, hO, hW⟩ := h
  have ne : ∀ {g t cs}, Blk w g t cs → (t = 74 ∨ t = 77 ∨ t = 3) → g ∉ L := by
    intro g t cs hg ht hm
    obtain ⟨t', cs', hb, h1, h2, h3⟩ := hL g hm
    rcases ht with rfl | rfl | rfl
    · exact Blk.ne_ hg hb (Ne.symm h1) rfl
    · exact Blk.ne_ hg hb (Ne.symm h2) rfl
    · exact Blk.ne_ hg hb (Ne.symm h3) rfl
  refine ⟨cs, gw, go, ords, hB.kp hk (ne hB (.inl rfl)), hC, ho, ?_, hW.kp hk (ne hW (.inr (.inl rfl)))⟩
  refine ⟨hO.1, ?_⟩
  rcases hO.2 with ⟨h, _⟩ | ⟨g, cap, cur, hv, hb, hg, r⟩
  · cases h
  · exact .inr ⟨g, cap, cur, hv, hb, Blk.kp hg hk (ne hg (.inr (.inr rfl))), r⟩
theorem HCode.kp0 {R : Nat → Nat → Nat} {w w' : World} {pc : Nat} {ls : List Nat} (h : HCode R w pc ls) (hk : Kp [] w w') : HCode R w' pc ls := h.kp hk (by intro x hx; cases hx)

theorem complete_any (R : Nat → Nat → Nat) (pc : Nat) (ls : List Nat) (w : World) (h : HCode R w pc ls) :
    Calls Try.prog 78 #[.pointer (some ⟨pc, 0, none⟩)] w fun e w' => e = .returned (.bool (decide (roomF ls = 32768))) ∧ w = w' := by
  obtain ⟨cs, gw, go, ords, hB, hC, -⟩ := h
  have h50 := hB.cell_ 50 hC.room
  clear hB hC
  by_cases hr : roomF ls = 32768
  · have hd : ((roomF ls : Nat) : Int) = 32768 := by omega
    have hd2 : (((roomF ls : Nat) : Int) == 32768) = true := by simpa using hd
    have HR := Lib.hid hr
    clear hr hd
    go_enter Try.func78, Try.ntmps78
    go_wp2
    go_ret
    exact ⟨by simp [HR.out], rfl⟩
  · have hd : ¬ ((roomF ls : Nat) : Int) = 32768 := by omega
    have hd2 : (((roomF ls : Nat) : Int) == 32768) = false := by simpa using hd
    have HR := Lib.hid hr
    clear hr hd
    go_enter Try.func78, Try.ntmps78
    go_wp2
    go_ret
    exact ⟨by simp [HR.out], rfl⟩

theorem symbols_any (R : Nat → Nat → Nat) (pc : Nat) (ls : List Nat) (w : World) (h : HCode R w pc ls) :
    Calls Try.prog 76 #[.pointer (some ⟨pc, 0, none⟩)] w fun e w' => e = .returned (.int .i64 (used ls : Nat)) ∧ w = w' := by
  obtain ⟨cs, gw, go, ords, hB, hC, -⟩ := h
  have h49 := hB.cell_ 49 hC.order
  clear hB hC
  go_enter Try.func76, Try.ntmps76
  go_wp2
  go_ret
  exact ⟨rfl, rfl⟩

theorem or_one (x : Nat) (hx : x < 4294967296) : bits .or .i64 ((x : Int) * 2) 1 = (x : Int) * 2 + 1 :=
  bits_join .i64 63 (by decide) (fun n h0 h1 => by rw [IntKind.wrap_i64]; omega) 1 _ _ (by omega) (by omega) (by omega) (by omega) (by omega) (by omega)

theorem step_no {ls : List Nat} {v n d : Nat} (h : ∀ d', 0 < d' → d' ≤ d → ¬ longAt ls v n d') (h' : ¬ longAt ls v n (d + 1)) : Hid (∀ d', 0 < d' → d' ≤ d + 1 → ¬ longAt ls v n d') := by
  intro d' h1 h2
  rcases Nat.lt_or_ge d d' with h3 | h3
  · rw [show d' = d + 1 by omega]; exact h'
  · exact h d' h1 h3
set_option maxRecDepth 100000 in
set_option maxHeartbeats 4000000 in
theorem longer_any (R : Nat → Nat → Nat) (pc : Nat) (ls : List Nat) (v n : Nat) (w : World) (h : HCode R w pc ls) (hls : ls.length ≤ 320) (hn : n ≤ 15) (h1n : 1 ≤ n) (hv : v < 2 ^ n) (b : Bool) (hb : b = true ↔ longerP ls v n) :
    Calls Try.prog 80 #[.pointer (some ⟨pc, 0, none⟩), .int .i64 v, .int .i64 n] w fun e w' => e = .returned (.bool b) ∧ Kp [] w w' := by
  obtain ⟨cs, gw, go, ords, hB, hC, -⟩ := h
  have HB := Lib.hid hB
  have HC := Lib.hid hC
  have HBB := Lib.hid hb
  clear hB hC hb
  have hv15 : v < 32768 := Nat.lt_of_lt_of_le hv (Nat.pow_le_pow_right (n := 2) (by decide) hn)
  go_enter Try.func80, Try.ntmps80
  go_wp2
  go_loopw [1, 7, 8] (fun x y z wr => ∃ d m : Nat, Hid (m = n + d) ∧ m ≤ 15 ∧ x = .int .i64 (v * 2 ^ d : Nat) ∧ y = .int .i64 ((v + 1) * 2 ^ d - 1 : Nat) ∧ z = .int .i64 ((m : Int) + 1) ∧ Hid (∀ d', 0 < d' → d' ≤ d → ¬ longAt ls v n d') ∧ Kp [] w wr) (fun _ _ z _ => 16 - (intOf z).toNat)
  case atStart => exact ⟨0, n, rfl, by omega, by simp, by simp, by simp, fun d' h1 h2 => by omega, Kp.refl _ _⟩
  case round =>
    obtain ⟨d, m, HM, hd, rfl, rfl, rfl, HNO, hKp⟩ := hrel
    have hm : m = n + d := HM
    by_cases hlt : m < 15
    · have hpd : 2 ^ (n + d) ≤ 2 ^ 15 := Nat.pow_le_pow_right (by decide) (by omega)
      have hpe : (v + 1) * 2 ^ d ≤ 2 ^ n * 2 ^ d := Nat.mul_le_mul_right _ hv
      rw [← Nat.pow_add] at hpe
      have hp0 : 0 < 2 ^ d := Nat.pow_pos (by decide)
      have hB := HB.out.kp hKp (by simp)
      have c1 := hB.cell_ (1 + (m + 1)) (HC.out.first _ (by omega))
      have c17 := hB.cell_ (17 + (m + 1)) (HC.out.counts _ (by omega))
      rw [show upto (firstF ls) 16 (m + 1) = firstF ls (m + 1) by unfold upto; rw [if_pos (by omega)]] at c1
      have hf := firstF_lt ls hls (m + 1) (by omega)
      have hc := cz_le ls (m + 1)
      have hnew : longAt ls v n (d + 1) ↔ 0 < cz ls (m + 1) ∧ v * 2 ^ d * 2 < firstF ls (m + 1) + cz ls (m + 1) ∧ firstF ls (m + 1) < (v + 1) * 2 ^ d * 2 := by
        unfold longAt
        rw [Nat.pow_succ, ← Nat.mul_assoc, ← Nat.mul_assoc, hm]
        exact Iff.rfl
      have hve : v * 2 ^ d + 1 ≤ (v + 1) * 2 ^ d := by rw [Nat.add_mul]; omega
      obtain ⟨x, hx⟩ : ∃ x, v * 2 ^ d = x := ⟨_, rfl⟩
      obtain ⟨y, hy⟩ : ∃ y, (v + 1) * 2 ^ d = y + 1 := ⟨(v + 1) * 2 ^ d - 1, by omega⟩
      obtain ⟨f, hff⟩ : ∃ f, firstF ls (m + 1) = f := ⟨_, rfl⟩
      obtain ⟨c, hcc⟩ : ∃ c, cz ls (m + 1) = c := ⟨_, rfl⟩
      rw [hx, hy] at hve
      rw [hy] at hpe
      rw [hx, hy, hff, hcc] at hnew
      rw [hff] at c1 hf
      rw [hcc] at c17 hc
      rw [hx, hy, Nat.add_sub_cancel]
      have hor := or_one y (by omega)
      have hy15 : y < 32768 := by omega
      have hx15 : x < 32768 := by omega
      have hm16 : (m : Int) + 1 < 16 := by omega
      have hm00 : (0 : Int) ≤ (m : Int) + 1 := by omega
      have hwa : IntKind.i64.wrap ((f : Int) + c) = (f : Int) + c := by rw [IntKind.wrap_i64]; omega
      have HX := Lib.hid hx
      have HY := Lib.hid hy
      have HN := Lib.hid hnew
      clear hB hx hy hff hcc hnew hpe hpd hve hm
      by_cases g1 : 0 < c
      · have e1 : decide ((0 : Int) < (c : Int)) = true := decide_eq_true (by omega)
        by_cases g2 : x * 2 < f + c
        · have e2 : decide ((x : Int) * 2 < (f : Int) + c) = true := decide_eq_true (by omega)
          by_cases g3 : f < (y + 1) * 2
          · have e3 : decide ((f : Int) ≤ (y : Int) * 2 + 1) = true := decide_eq_true (by omega)
            have hbt : b = true := HBB.out.2 ⟨d + 1, by omega, by have := HM.out; omega, HN.out.2 ⟨g1, g2, g3⟩⟩
            have HT := Lib.hid hbt
            clear hbt g2 g3
            go_wp2
            go_quiet (fail)
            go_wp2
            go_ret
            exact ⟨by rw [HT.out]; rfl, hKp.drewN _⟩
          · have e3 : decide ((f : Int) ≤ (y : Int) * 2 + 1) = false := decide_eq_false (by omega)
            have HG : Hid (¬ longAt ls v n (d + 1)) := fun h => g3 (HN.out.1 h).2.2
            clear g2 g3
            go_wp2
            go_quiet (fail)
            go_wp2
            go_roundw
            case rel => exact ⟨d + 1, m + 1, by have := HM.out; unfold Hid; omega, by omega, by rw [Nat.pow_succ, ← Nat.mul_assoc, HX.out]; simp, by rw [Nat.pow_succ, ← Nat.mul_assoc, HY.out]; go_num, by go_num, step_no HNO.out HG.out, hKp.drewN _⟩
            case measure => simp [intOf]; omega
        · have e2 : decide ((x : Int) * 2 < (f : Int) + c) = false := decide_eq_false (by omega)
          have HG : Hid (¬ longAt ls v n (d + 1)) := fun h => g2 (HN.out.1 h).2.1
          clear g2
          go_wp2
          go_quiet (fail)
          go_wp2
          go_roundw
          case rel => exact ⟨d + 1, m + 1, by have := HM.out; unfold Hid; omega, by omega, by rw [Nat.pow_succ, ← Nat.mul_assoc, HX.out]; simp, by rw [Nat.pow_succ, ← Nat.mul_assoc, HY.out]; go_num, by go_num, step_no HNO.out HG.out, hKp.drewN _⟩
          case measure => simp [intOf]; omega
      · have e1 : decide ((0 : Int) < (c : Int)) = false := decide_eq_false (by omega)
        have HG : Hid (¬ longAt ls v n (d + 1)) := fun h => g1 (HN.out.1 h).1
        obtain rfl : c = 0 := by omega
        clear g1 e1
        go_wp2
        go_quiet (fail)
        go_wp2
        go_roundw
        case rel => exact ⟨d + 1, m + 1, by have := HM.out; unfold Hid; omega, by omega, by rw [Nat.pow_succ, ← Nat.mul_assoc, HX.out]; simp, by rw [Nat.pow_succ, ← Nat.mul_assoc, HY.out]; go_num, by go_num, step_no HNO.out HG.out, hKp.drewN _⟩
        case measure => simp [intOf]; omega
    · have hbf : b = false := by
        cases hbb : b with
        | false => rfl
        | true =>
          obtain ⟨d', h1, h2, h3⟩ := HBB.out.1 hbb
          exact absurd h3 (HNO.out d' h1 (by omega))
      have HF := Lib.hid hbf
      clear hbf hm
      go_wp2
      go_ret
      exact ⟨by rw [HF.out]; rfl, hKp⟩
end Go.Proofs.Ytoaebpjjfglnnaa

/- huff: Next -/
namespace Go.Proofs.Ytoaebpjjfglnnaa
open Go.RowKit Go.Proofs.YtoaebpjjfglnnaaW.PrintWords Go.Proofs.YtoaebpjjfglnnaaW.PrintLast Go.Proofs.YtoaebpjjfglnnaaW.PrintMore
attribute [local go_sem] max2_int min2_int max_two min_two max_three min_three max_four min_four

theorem and_bit (r m : Nat) (hr : r < 32768) : bits .and .u32 ((r : Int) / 2 ^ m) 1 = ((r / 2 ^ m % 2 : Nat) : Int) := by
  have e2 : ((r : Int) / 2 ^ m) = ((r / 2 ^ m : Nat) : Int) := by simp
  have hl := Nat.div_le_self r (2 ^ m)
  rw [e2, show (1 : Int) = ((1 : Nat) : Int) from rfl, u32_and_nat _ _ (by omega) (by omega), Nat.and_one_is_mod]
theorem or_bit (x b : Nat) (hx : x < 4294967296) (hb : b < 2) : bits .or .i64 ((x : Int) * 2) (b : Int) = (x : Int) * 2 + b :=
  bits_join .i64 63 (by decide) (fun n h0 h1 => by rw [IntKind.wrap_i64]; omega) 1 _ _ (by omega) (by omega) (by omega) (by omega) (by omega) (by omega)

theorem cell_kp {L : List Nat} {w w' : World} (hk : Kp L w w') {a : Addr} {v : Value} (h : w.cell? a = some v) (hn : a.block ∉ L) : w'.cell? a = some v :=
  (World.cell?_of_block (hk.keep a.block (World.block_lt_of_cell? w a h) hn)).trans h
theorem skip_succ (bb : Nat) (A : Option Addr) (n c p m : Nat) (w : World) (hB : RdB w bb A n c p) (hn : n ≤ 140737488351232) (hp : p ≤ 8 * n) (hm : m ≤ 15) (hle : p + (m + 1) ≤ 8 * n) :
    Calls Try.prog 72 #[.pointer (some ⟨bb, 0, none⟩), .int .i64 ((m : Int) + 1)] w fun e w' => e = .returned (.bool true) ∧ Kp [bb] w w' ∧ RdB w' bb A n c (p + (m + 1)) := by
  have := skip_any bb A n c p (m + 1) w hB hn hp (by omega)
  rw [if_pos hle, decide_eq_true hle] at this
  exact this
theorem longer_succ (R : Nat → Nat → Nat) (pc : Nat) (ls : List Nat) (v m : Nat) (w : World) (h : HCode R w pc ls) (hls : ls.length ≤ 320) (hm : m < 15) (hv : v < 2 ^ (m + 1)) :
    Calls Try.prog 80 #[.pointer (some ⟨pc, 0, none⟩), .int .i64 v, .int .i64 ((m : Int) + 1)] w fun e w' => e = .returned (.bool (longerB ls v (m + 1))) ∧ Kp [] w w' :=
  longer_any R pc ls v (m + 1) w h hls (by omega) (by omega) hv _ (longerB_iff ls v (m + 1))

/-- What Next hands back, and what it leaves. -/
def NextPost (bb : Nat) (A : Option Addr) (n c p : Nat) (r : Except Nat (Nat × Nat)) (w : World) (e : Ending) (w' : World) : Prop :=
  match r with
  | .ok (s, j) => e = .returned (.tuple #[.int .i64 s, .int .i64 0]) ∧ Kp [bb] w w' ∧ RdB w' bb A n c (p + j)
  | .error k => e = .returned (.tuple #[.int .i64 0, .int .i64 k]) ∧ Kp [] w w'

set_option maxRecDepth 100000 in
set_option maxHeartbeats 4000000 in
theorem next_any (R : Nat → Nat → Nat) (pc bb : Nat) (ls : List Nat) (A : Option Addr) (c p : Nat) (bs : List Int) (w : World) (h : HCode R w pc ls) (hls : ls.length ≤ 320)
    (hB : RdB w bb A bs.length c p) (hby : Bytes bs) (hC : (Kd.int .u8).C w A bs.length bs) (hn : bs.length ≤ 140737488351232) (hc : bs.length ≤ c) (hp : p ≤ 8 * bs.length) (hA : ∀ ad, A = some ad → 0 < bs.length → ad.block ≠ bb) :
    Calls Try.prog 74 #[.pointer (some ⟨pc, 0, none⟩), .pointer (some ⟨bb, 0, none⟩)] w (NextPost bb A bs.length c p (nextM ls (lw bs) (8 * bs.length) p) w) := by
  have HH := Lib.hid h
  have HB := Lib.hid hB
  have HC := Lib.hid hC
  have HA := Lib.hid hA
  clear h hB hC hA
  obtain ⟨L, hL⟩ : ∃ L, 8 * bs.length - p = L := ⟨_, rfl⟩
  have HLE := Lib.hid hL
  obtain ⟨r, hr⟩ : ∃ r, nb (lw bs) p 15 = r := ⟨_, rfl⟩
  have HRE := Lib.hid hr
  have hr15 : r < 32768 := by rw [← hr]; exact nb_lt _ _ _
  go_enter Try.func74, Try.ntmps74
  go_wp2_with (first
    | (go_at_call 79; refine (left_any bb A bs.length c p _ HB.out hn hp).mono ?_; rintro e w' ⟨rfl, m, rfl⟩; rw [hL])
    | (go_at_call 71; refine (peek_any bb A c p 15 bs _ (HB.out.drewN m) hby (C_kp HC.out ((Kp.refl [] w).drewN m) (by simp)) hn hc hp (by decide) (by decide)).mono ?_; rintro e w1 ⟨rfl, hk1⟩; rw [hr]))
  clear hL hr
  have hk : Kp [] w w1 := ((Kp.refl [] w).drewN m).then_nil hk1
  clear hk1
  go_loopw [8, 9] (fun x y wr => ∃ v m : Nat, m ≤ 15 ∧ v < 2 ^ m ∧ x = .int .i64 (v : Nat) ∧ y = .int .i64 ((m : Int) + 1) ∧ Hid (nextR ls (lw bs) (8 * bs.length) p (15 - m) (m + 1) v = nextM ls (lw bs) (8 * bs.length) p) ∧ Kp [] w wr) (fun _ z _ => 16 - (intOf z).toNat)
  case atStart => exact ⟨0, 0, by omega, by simp, by simp, by simp, rfl, hk⟩
  case round =>
    clear hk
    obtain ⟨v, m, hm, hv, rfl, rfl, HR, hKp⟩ := hrel
    by_cases hlt : m < 15
    · have hR : nextR ls (lw bs) (8 * bs.length) p (15 - m) (m + 1) v = nextM ls (lw bs) (8 * bs.length) p := HR
      have hp2 : 2 ^ m ≤ 2 ^ 14 := Nat.pow_le_pow_right (by decide) (by omega)
      rw [show 15 - m = (14 - m) + 1 by omega, nextR, Nat.add_sub_cancel] at hR
      have hbl := bitN_lt (lw bs) (p + m)
      have hb := nb_bit (lw bs) p 15 m (by omega)
      rw [HRE.out] at hb
      obtain ⟨b, hbb⟩ : ∃ b, bitN (lw bs) (p + m) = b := ⟨_, rfl⟩
      rw [hbb] at hR hbl hb
      rw [HLE.out] at hR
      have hand := and_bit r m hr15
      rw [hb] at hand
      have hor := or_bit v b (by omega) hbl
      obtain ⟨v2, hv2⟩ : ∃ v2, v * 2 + b = v2 := ⟨_, rfl⟩
      rw [hv2] at hR
      rw [show (v : Int) * 2 + b = (v2 : Int) by omega] at hor
      have hv2l : v2 < 2 ^ (m + 1) := by rw [Nat.pow_succ]; omega
      have hv2b : v2 < 32768 := Nat.lt_of_lt_of_le hv2l (show 2 ^ (m + 1) ≤ 2 ^ 15 from Nat.pow_le_pow_right (by decide) (by omega))
      obtain ⟨cs, gw, go, ords, hHB, hHC, hord, hHO, -⟩ := HH.out.kp0 hKp
      have c1 := hHB.cell_ (1 + (m + 1)) (hHC.first _ (by omega))
      have c17 := hHB.cell_ (17 + (m + 1)) (hHC.counts _ (by omega))
      rw [show upto (firstF ls) 16 (m + 1) = firstF ls (m + 1) by unfold upto; rw [if_pos (by omega)]] at c1
      have hf := firstF_lt ls hls (m + 1) (by omega)
      have hcz := cz_le ls (m + 1)
      obtain ⟨f, hff⟩ : ∃ f, firstF ls (m + 1) = f := ⟨_, rfl⟩
      obtain ⟨z, hzz⟩ : ∃ z, cz ls (m + 1) = z := ⟨_, rfl⟩
      rw [hff] at c1 hf hR
      rw [hzz] at c17 hcz hR
      have HR2 := Lib.hid hR
      have HV2 := Lib.hid hv2l
      have HFF := Lib.hid hff
      have HZZ := Lib.hid hzz
      have hvb : v < 32768 := by omega
      clear hp2 hv
      have hm16 : (m : Int) + 1 < 16 := by omega
      have hm00 : (0 : Int) ≤ (m : Int) + 1 := by omega
      clear hR hb hbb hv2 hff hzz HR hv2l
      by_cases hend : L < m + 1
      · have hRes : nextM ls (lw bs) (8 * bs.length) p = .error 15 := by rw [← HR2.out, if_pos hend]
        rw [hRes]
        clear hRes hand hor hHB hHC hord hHO c1 c17
        go_wp2
        go_ret2
        exact ⟨rfl, hKp⟩
      · by_cases hin : f ≤ v2 ∧ v2 < f + z
        · obtain ⟨k, hk⟩ : ∃ k, v2 = f + k := ⟨v2 - f, by omega⟩
          have hRes : nextM ls (lw bs) (8 * bs.length) p = .ok (symF ls (m + 1) k, m + 1) := by rw [← HR2.out, if_neg hend, if_pos hin, show v2 - f = k by omega]
          rw [hRes]
          have c33 := hHB.cell_ (33 + (m + 1)) (hHC.starts _ (by omega))
          rw [show upto (startF ls) 16 (m + 1) = startF ls (m + 1) by unfold upto; rw [if_pos (by omega)]] at c33
          have hst := startF_sum ls (m + 1)
          have hst2 : (m + 1) * ls.length ≤ 15 * 320 := Nat.mul_le_mul (by omega) hls
          have hkz : k < cz ls (m + 1) := by rw [HZZ.out]; omega
          have hus : startF ls (m + 1) + k < used ls := by
            have := startF_mono ls (show m + 1 + 1 ≤ 16 by omega)
            rw [startF] at this
            unfold used
            omega
          have hsym := ords_sym hord (m + 1) k (by omega) hkz
          obtain ⟨st, hstt⟩ : ∃ st, startF ls (m + 1) = st := ⟨_, rfl⟩
          rw [hstt] at c33 hst hus hsym
          have hO' : wr.ownsRow 0 3 1 (.slice (some ⟨go, 0, none⟩) (used ls) (used ls)) (used ls) (nums .i64 ords) := by
            have := hHO
            unfold Own at this
            rw [hord.1] at this
            exact this
          obtain ⟨ho1, -⟩ := own_at hO' ((st + k : Nat) : Int) (by omega) (by omega)
          rw [Int.toNat_natCast, show rd ords ((st + k : Nat) : Int) = (symF ls (m + 1) k : Int) from hsym] at ho1
          have c49 := hHB.cell_ 49 hHC.order
          have hB' := HB.out.kp hKp (by simp)
          have hne1 : pc ≠ bb := Blk.ne_ hHB hB' (by decide)
          have hne2 : go ≠ bb := fun e => own_blk_ne hHO hB' (by decide) (by simp [Value.ownBlock, e])
          have hsub : (v2 : Int) - f = (k : Int) := by omega
          have hwk : IntKind.i64.wrap ((st : Int) + k) = (st : Int) + k := by rw [IntKind.wrap_i64]; omega
          have hk0 : (0 : Int) ≤ (st : Int) + k := by omega
          have hku : (st : Int) + k < (used ls : Int) := by omega
          have hkz' : k < z := by omega
          have C33 := Lib.hid c33
          have C49 := Lib.hid c49
          have HO1 := Lib.hid ho1
          have HB' := Lib.hid hB'
          have HK := Lib.hid hk
          clear hRes hHB hHC hord hHO c33 c49 ho1 hO' hsym hstt hB' hk hin hst hst2
          go_wp2_with (go_at_call 72; refine (skip_succ bb A bs.length c p m _ HB'.out hn hp (by omega) (by have := HLE.out; omega)).mono ?_; rintro e w2 ⟨rfl, hk2, hB2⟩)
          have c33 := cell_kp hk2 C33.out (by simpa using hne1)
          have c49 := cell_kp hk2 C49.out (by simpa using hne1)
          have ho1 := cell_kp hk2 HO1.out (by simpa using hne2)
          clear c1 c17 hand hor
          go_quiet (fail)
          go_wp2
          go_ret2
          exact ⟨rfl, (hKp.nil_then hk2).then_nil ((Kp.refl _ _).drewN _), hB2.drewN _⟩
        · have hk3 : Hid (∀ (h : longerB ls v2 (m + 1) = true), nextR ls (lw bs) (8 * bs.length) p (14 - m) (m + 1 + 1) v2 = nextM ls (lw bs) (8 * bs.length) p) := fun h => by rw [← HR2.out, if_neg hend, if_neg hin, if_pos h]
          have hk4 : Hid (∀ (h : longerB ls v2 (m + 1) = false), nextM ls (lw bs) (8 * bs.length) p = .error 10) := fun h => by rw [← HR2.out, if_neg hend, if_neg hin, if_neg (by rw [h]; decide)]
          have HLO : Hid (∀ (w : World), HCode R w pc ls → Calls Try.prog 80 #[.pointer (some ⟨pc, 0, none⟩), .int .i64 v2, .int .i64 ((m : Int) + 1)] w fun e w' => e = .returned (.bool (longerB ls v2 (m + 1))) ∧ Kp [] w w') := fun w h => longer_succ R pc ls v2 m w h hls hlt HV2.out
          obtain ⟨q, hq⟩ : ∃ q, longerB ls v2 (m + 1) = q := ⟨_, rfl⟩
          rw [hq] at hk3 hk4 HLO
          clear hHB hHC hord hHO hq
          by_cases hlo : f ≤ v2
          · have hhi : f + z ≤ v2 := by omega
            clear hin
            cases q with
            | true =>
              go_wp2_with (go_at_call 80; refine (HLO.out _ (HH.out.kp0 hKp)).mono ?_; rintro e w2 ⟨rfl, hk2⟩)
              go_roundw
              case rel => exact ⟨v2, m + 1, by omega, HV2.out, rfl, by go_num, by rw [show 15 - (m + 1) = 14 - m by omega]; first | exact hk3.out rfl | exact hk3.out trivial, hKp.then_nil hk2⟩
              case measure => simp [intOf]; omega
            | false =>
              go_wp2_with (go_at_call 80; refine (HLO.out _ (HH.out.kp0 hKp)).mono ?_; rintro e w2 ⟨rfl, hk2⟩)
              go_ret2
              first | rw [hk4.out rfl] | rw [hk4.out trivial]
              exact ⟨rfl, hKp.then_nil hk2⟩
          · clear hin
            cases q with
            | true =>
              go_wp2_with (go_at_call 80; refine (HLO.out _ (HH.out.kp0 hKp)).mono ?_; rintro e w2 ⟨rfl, hk2⟩)
              go_roundw
              case rel => exact ⟨v2, m + 1, by omega, HV2.out, rfl, by go_num, by rw [show 15 - (m + 1) = 14 - m by omega]; first | exact hk3.out rfl | exact hk3.out trivial, hKp.then_nil hk2⟩
              case measure => simp [intOf]; omega
            | false =>
              go_wp2_with (go_at_call 80; refine (HLO.out _ (HH.out.kp0 hKp)).mono ?_; rintro e w2 ⟨rfl, hk2⟩)
              go_ret2
              first | rw [hk4.out rfl] | rw [hk4.out trivial]
              exact ⟨rfl, hKp.then_nil hk2⟩
    · have hm15 : m = 15 := by omega
      subst hm15
      have HRes : Hid (nextM ls (lw bs) (8 * bs.length) p = .error 10) := HR.out.symm
      clear HR hv
      go_wp2
      go_ret2
      rw [HRes.out]
      exact ⟨rfl, hKp⟩
end Go.Proofs.Ytoaebpjjfglnnaa
