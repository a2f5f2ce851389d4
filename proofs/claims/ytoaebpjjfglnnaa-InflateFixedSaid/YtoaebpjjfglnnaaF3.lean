/- Symbols that are written are read (plain). -/
import Derived.Test.YtoaebpjjfglnnaaS1
set_option linter.unusedVariables false
set_option linter.unusedSimpArgs false
namespace Go.Proofs.Ytoaebpjjfglnnaa

/-- Numbers of some bits, one behind the other. -/
def catN : List (Nat × Nat) → Nat
  | [] => 0
  | (_, k) :: r => k + catN r
def catV : List (Nat × Nat) → Nat
  | [] => 0
  | (x, k) :: r => x % 2 ^ k + 2 ^ k * catV r
theorem catN_append (l r : List (Nat × Nat)) : catN (l ++ r) = catN l + catN r := by
  induction l with
  | nil => simp [catN]
  | cons a l ih => simp only [List.cons_append, catN, ih]; omega
theorem catV_append (l r : List (Nat × Nat)) : catV (l ++ r) = catV l + 2 ^ catN l * catV r := by
  induction l with
  | nil => simp [catN, catV]
  | cons a l ih =>
    obtain ⟨x, k⟩ := a
    simp only [List.cons_append, catN, catV, ih, Nat.pow_add, Nat.mul_add, Nat.mul_assoc]
    omega
theorem catV_lt (l : List (Nat × Nat)) : catV l < 2 ^ catN l := by
  induction l with
  | nil => simp [catN, catV]
  | cons a l ih =>
    obtain ⟨x, k⟩ := a
    simp only [catN, catV, Nat.pow_add]
    have h1 := Nat.mod_lt x (show 0 < 2 ^ k from Nat.pow_pos (by decide))
    have h2 : 2 ^ k * (catV l + 1) ≤ 2 ^ k * 2 ^ catN l := Nat.mul_le_mul_left _ ih
    rw [Nat.mul_add, Nat.mul_one] at h2
    omega
theorem catV_snoc (l : List (Nat × Nat)) (x k : Nat) : catV (l ++ [(x, k)]) = catV l + x % 2 ^ k * 2 ^ catN l := by
  rw [catV_append]
  simp only [catV, Nat.mul_zero, Nat.add_zero]
  rw [Nat.mul_comm]
/-- What is still to be read. -/
def At (E : IE) (p : Nat) (r : List (Nat × Nat)) : Prop := E.V / 2 ^ p = catV r ∧ p + catN r ≤ E.T
theorem At.next {E : IE} {p x k : Nat} {r : List (Nat × Nat)} (h : At E p ((x, k) :: r)) : At E (p + k) r := by
  obtain ⟨h1, h2⟩ := h
  simp only [catV, catN] at h1 h2
  refine ⟨?_, by omega⟩
  rw [Nat.pow_add, ← Nat.div_div_eq_div_mul, h1, Nat.add_mul_div_left _ _ (Nat.pow_pos (by decide)), Nat.div_eq_of_lt (Nat.mod_lt _ (Nat.pow_pos (by decide))), Nat.zero_add]
theorem At.nb {E : IE} {p x k : Nat} {r : List (Nat × Nat)} (h : At E p ((x, k) :: r)) : nb E.V p k = x % 2 ^ k := by
  obtain ⟨h1, h2⟩ := h
  unfold Ytoaebpjjfglnnaa.nb
  rw [h1, catV, Nat.add_mul_mod_self_left, Nat.mod_mod]
theorem At.number {E : IE} {s : IS} {x k : Nat} {r : List (Nat × Nat)} (h : At E s.at_ ((x, k) :: r)) (hx : x < 2 ^ k) : mNumber E k s = .ok (x, { s with at_ := s.at_ + k }) := by
  have := h.2
  simp only [catN] at this
  unfold mNumber
  rw [if_pos (by omega), h.nb, Nat.mod_eq_of_lt hx]
theorem At.bit {E : IE} {p x k i : Nat} {r : List (Nat × Nat)} (h : At E p ((x, k) :: r)) (hi : i < k) (hx : x < 2 ^ k) : bitN E.V (p + i) = bitN x i := by
  have := nb_bit E.V p k i hi
  rw [h.nb, Nat.mod_eq_of_lt hx] at this
  exact this.symm

/-! A symbol's word. -/
theorem firstF_up (ls : List Nat) (n : Nat) : ∀ d, 2 ^ (d + 1) * (firstF ls n + cz ls n) ≤ firstF ls (n + (d + 1))
  | 0 => by rw [show n + (0 + 1) = n + 1 by omega, firstF]; simp
  | d + 1 => by
    have := firstF_up ls n d
    rw [show n + (d + 1 + 1) = (n + (d + 1)) + 1 by omega, firstF, Nat.pow_succ]
    rw [Nat.mul_comm (2 ^ (d + 1)) 2, Nat.mul_assoc]
    omega
theorem rank_inj {ls : List Nat} {s t : Nat} (hs : s < ls.length) (ht : t < ls.length) (he : ls.getD s 0 = ls.getD t 0) (hr : rank ls s = rank ls t) : s = t := by
  rcases Nat.lt_trichotomy s t with h | h | h
  · have := rank_mono ls h ht he; omega
  · exact h
  · have := rank_mono ls h hs he.symm; omega
theorem nextR_word {ls : List Nat} {V T p s l c : Nat} (hs : s < ls.length) (hl : ls.getD s 0 = l) (h1 : 1 ≤ l) (hl15 : l ≤ 15) (hc : c = firstF ls l + rank ls s) (hT : p + l ≤ T) (hb : ∀ i, i < l → bitN V (p + i) = c / 2 ^ (l - 1 - i) % 2) :
    ∀ (e n d : Nat), n + e = l → 1 ≤ n → e < d → nextR ls V T p d n (c / 2 ^ (l - (n - 1))) = .ok (s, l)
  | e, n, 0, _, _, h => by omega
  | e, n, d + 1, hn, hn1, hd => by
    have hrk := rank_lt ls s hs
    rw [hl] at hrk
    have hcz : cz ls l = cnt ls l := cz_at ls l (by omega)
    have hv : c / 2 ^ (l - (n - 1)) * 2 + bitN V (p + (n - 1)) = c / 2 ^ (l - n) := by
      rw [hb (n - 1) (by omega), show l - 1 - (n - 1) = l - n by omega, show l - (n - 1) = (l - n) + 1 by omega, Nat.pow_succ, ← Nat.div_div_eq_div_mul]
      omega
    rw [nextR, if_neg (by omega), hv]
    match e with
    | 0 =>
      obtain rfl : n = l := by omega
      rw [Nat.sub_self, Nat.pow_zero, Nat.div_one, if_pos ⟨by omega, by omega⟩, hc, Nat.add_sub_cancel_left]
      obtain ⟨q1, q2, q3⟩ := symF_spec ls n (rank ls s) hrk
      rw [rank_inj q1 hs (by rw [q2, hl]) q3]
    | e + 1 =>
      have hup := firstF_up ls n e
      rw [show n + (e + 1) = l by omega] at hup
      have hle : firstF ls n + cz ls n ≤ c / 2 ^ (l - n) := by
        rw [Nat.le_div_iff_mul_le (Nat.pow_pos (by decide)), show l - n = e + 1 by omega, Nat.mul_comm]
        omega
      rw [if_neg (by omega)]
      have hlong : longerB ls (c / 2 ^ (l - n)) n = true := by
        rw [longerB_iff]
        refine ⟨l - n, by omega, by omega, ?_⟩
        unfold longAt
        rw [show n + (l - n) = l by omega]
        have h3 := Nat.div_mul_le_self c (2 ^ (l - n))
        have h4 : c < (c / 2 ^ (l - n) + 1) * 2 ^ (l - n) := by
          have := Nat.lt_div_mul_add (a := c) (show 0 < 2 ^ (l - n) from Nat.pow_pos (by decide))
          rw [Nat.add_mul, Nat.one_mul]
          exact this
        exact ⟨by omega, by omega, by omega⟩
      rw [if_pos hlong]
      exact nextR_word hs hl h1 hl15 hc hT hb e (n + 1) d (by omega) (by omega) (by omega)
/-- A symbol's word, as a number of bits. -/
def wordC (ls : List Nat) (s : Nat) : Nat × Nat := (revR (firstF ls (ls.getD s 0) + rank ls s) (ls.getD s 0), ls.getD s 0)
theorem At.symbol {E : IE} {s : IS} {ls : List Nat} {sym l c : Nat} {r : List (Nat × Nat)} (h : At E s.at_ (wordC ls sym :: r)) (hs : sym < ls.length) (hl : ls.getD sym 0 = l) (h1 : 1 ≤ l) (h15 : l ≤ 15) (hc : firstF ls l + rank ls sym = c) (hc2 : c < 2 ^ l)
    (hrev : revR c l < 2 ^ l ∧ ∀ i, i < l → bitN (revR c l) i = c / 2 ^ (l - 1 - i) % 2) : mSymbol E ls s = .ok (sym, { s with at_ := s.at_ + l }) := by
  unfold wordC at h
  rw [hl, hc] at h
  have hT := h.2
  simp only [catN] at hT
  have := nextR_word (V := E.V) (T := E.T) (p := s.at_) hs hl h1 h15 hc.symm (by omega) (fun i hi => by rw [h.bit hi hrev.1]; exact hrev.2 i hi) (l - 1) 1 15 (by omega) (Nat.le_refl _) (by omega)
  rw [Nat.sub_self, Nat.sub_zero, Nat.div_eq_of_lt hc2] at this
  unfold mSymbol nextM
  rw [this]
theorem rev_small : ∀ l ∈ [5, 7, 8, 9], ∀ c < 2 ^ l, revR c l < 2 ^ l ∧ ∀ i < l, bitN (revR c l) i = c / 2 ^ (l - 1 - i) % 2 := by decide +kernel
theorem fixF_len' : fixF.length = 288 := fixF_len
theorem fixF_codes : ∀ s < 288, fixF.getD s 0 ∈ [7, 8, 9] := by decide +kernel
theorem fixS_codes : ∀ s < 32, fixS.getD s 0 = 5 := by decide +kernel
theorem fixF_first : ∀ l ∈ [7, 8, 9], firstF fixF l + cnt fixF l ≤ 2 ^ l := by decide +kernel
theorem fixS_first : firstF fixS 5 + cnt fixS 5 ≤ 2 ^ 5 := by decide +kernel
theorem At.symF {E : IE} {s : IS} {sym : Nat} {r : List (Nat × Nat)} (h : At E s.at_ (wordC fixF sym :: r)) (hs : sym < 288) :
    mSymbol E fixF s = .ok (sym, { s with at_ := s.at_ + (wordC fixF sym).2 }) := by
  have hl := fixF_codes sym hs
  have hrk := rank_lt fixF sym (by rw [fixF_len]; exact hs)
  have hf := fixF_first _ hl
  have hm : fixF.getD sym 0 ∈ [5, 7, 8, 9] := List.mem_cons_of_mem _ hl
  have hb : 1 ≤ fixF.getD sym 0 ∧ fixF.getD sym 0 ≤ 15 := by
    simp only [List.mem_cons, List.not_mem_nil, or_false] at hl
    omega
  have hc : firstF fixF (fixF.getD sym 0) + rank fixF sym < 2 ^ fixF.getD sym 0 := by omega
  exact h.symbol (by rw [fixF_len]; exact hs) rfl hb.1 hb.2 rfl hc (rev_small _ hm _ hc)
theorem At.symS {E : IE} {s : IS} {sym : Nat} {r : List (Nat × Nat)} (h : At E s.at_ (wordC fixS sym :: r)) (hs : sym < 32) :
    mSymbol E fixS s = .ok (sym, { s with at_ := s.at_ + (wordC fixS sym).2 }) := by
  have hl := fixS_codes sym hs
  have hrk := rank_lt fixS sym (by rw [fixS_len]; exact hs)
  rw [hl] at hrk
  have hf := fixS_first
  have hc : firstF fixS 5 + rank fixS sym < 2 ^ 5 := by omega
  have := h.symbol (by rw [fixS_len]; exact hs) hl (by decide) (by decide) rfl hc (rev_small 5 (by decide) _ hc)
  rw [this]
  unfold wordC
  rw [hl]
theorem At.nextW {E : IE} {p : Nat} {w : Nat × Nat} {r : List (Nat × Nat)} (h : At E p (w :: r)) : At E (p + w.2) r := h.next (x := w.1)

/-- Bytes, as symbols. -/
def litsC (l : List Int) : List (Nat × Nat) := l.map fun b => wordC fixF b.toNat
theorem run_lits {E : IE} : ∀ (l : List Int) (s : IS) (r : List (Nat × Nat)), At E s.at_ (litsC l ++ r) → Bytes l → s.out.length + l.length ≤ E.lim →
    loopM (fun E => mSym1 E fixF fixS) E s = loopM (fun E => mSym1 E fixF fixS) E { at_ := s.at_ + catN (litsC l), out := s.out ++ l, steps := s.steps + l.length, blocks := s.blocks } ∧ At E (s.at_ + catN (litsC l)) r
  | [], s, r, h, _, _ => by simpa [litsC, catN] using h
  | b :: l, s, r, h, hb, hl => by
    have hb0 := hb b (by simp)
    have h' : At E s.at_ (wordC fixF b.toNat :: (litsC l ++ r)) := h
    have hT := h'.2
    have hsy := h'.symF (by omega)
    simp only [List.length_cons] at hl
    have hstep : mSym1 E fixF fixS s = .ok (false, { at_ := s.at_ + (wordC fixF b.toNat).2, out := s.out ++ [b], steps := s.steps + 1, blocks := s.blocks }) := by
      unfold mSym1
      rw [mBind_eq hsy, mBind_eq (show mSteps 1 _ = .ok ((), _) from rfl), if_neg (by omega), if_pos (by omega)]
      rw [mBind_eq (show mRoom E 1 _ = .ok ((), _) by unfold mRoom; rw [if_pos (by simp only; omega)])]
      rw [show ((b.toNat : Nat) : Int) = b by omega]
      rfl
    rw [loopM_step (goes_sym1 fixF fixS) E s (by omega), mBind_eq hstep]
    simp only [Bool.false_eq_true, if_false]
    obtain ⟨i1, i2⟩ := run_lits l { at_ := s.at_ + (wordC fixF b.toNat).2, out := s.out ++ [b], steps := s.steps + 1, blocks := s.blocks } r h'.nextW hb.tail (by simp only [List.length_append, List.length_cons, List.length_nil]; omega)
    rw [i1]
    refine ⟨?_, ?_⟩
    · congr 1
      simp only [litsC, List.map_cons, List.length_cons, List.append_assoc, List.cons_append, List.nil_append]
      congr 1
      · simp only [catN]; omega
      · omega
    · have e : s.at_ + catN (litsC (b :: l)) = s.at_ + (wordC fixF b.toNat).2 + catN (litsC l) := by
        simp only [litsC, List.map_cons, catN]; omega
      rw [e]
      exact i2
/-- What is written for bytes, and a length that goes back. -/
def fixC (lit : List Int) (sym n extra far m more : Nat) : List (Nat × Nat) :=
  (3, 3) :: (litsC lit ++ [wordC fixF sym, (extra, n), wordC fixS far, (more, m), wordC fixF 256])
theorem symsM_step (ls ds : List Nat) (E : IE) (s : IS) (h : s.at_ ≤ E.T) : loopM (fun E => mSym1 E ls ds) E s = mBind (mSym1 E ls ds) (fun b => if b = true then mPure () else loopM (fun E => mSym1 E ls ds) E) s := loopM_step (goes_sym1 ls ds) E s h
theorem run_fixed {E : IE} {lit : List Int} {sym extra far more base n dist m : Nat} (hV : E.V = catV (fixC lit sym n extra far m more)) (hT : catN (fixC lit sym n extra far m more) ≤ E.T) (hlit : Bytes lit)
    (hs0 : 257 ≤ sym) (hs1 : sym ≤ 285) (hL : lengthM sym = (base, n, true)) (hf : far ≤ 29) (hD : distanceM far = (dist, m, true)) (he : extra < 2 ^ n) (hm : more < 2 ^ m) (hlim : lit.length + (base + extra) ≤ E.lim) :
    infM E = if dist + more ≤ lit.length then .ok ⟨catN (fixC lit sym n extra far m more), copyM (dist + more) (base + extra) lit, lit.length + 2, 1⟩ else .error 10 := by
  obtain ⟨rest, hrest⟩ : ∃ rest, litsC lit ++ [wordC fixF sym, (extra, n), wordC fixS far, (more, m), wordC fixF 256] = rest := ⟨_, rfl⟩
  have h0 : At E 0 ((1, 1) :: (1, 2) :: rest) := by
    refine ⟨?_, ?_⟩
    · rw [Nat.pow_zero, Nat.div_one, hV, fixC, hrest]
      simp only [catV]
      omega
    · rw [fixC, hrest] at hT
      simp only [catN] at hT ⊢
      omega
  have n1 : mNumber E 1 is0 = .ok (1, ⟨1, [], 0, 0⟩) := At.number (s := is0) h0 (by decide)
  have h1 : At E 1 ((1, 2) :: rest) := by simpa using h0.next
  have n2 : mNumber E 2 ⟨1, [], 0, 0⟩ = .ok (1, ⟨3, [], 0, 0⟩) := At.number (s := ⟨1, [], 0, 0⟩) h1 (by decide)
  have h3 : At E 3 rest := by simpa using h1.next
  rw [← hrest] at h3
  obtain ⟨q, hq⟩ : ∃ q, 3 + catN (litsC lit) = q := ⟨_, rfl⟩
  obtain ⟨r1, r2⟩ := run_lits (E := E) lit ⟨3, [], 0, 1⟩ _ h3 hlit (by simp only [List.length_nil]; omega)
  simp only [List.nil_append, Nat.zero_add] at r1
  simp only [hq] at r1 r2
  have r3 := r2.nextW
  have r4 := r3.next
  have r5 := r4.nextW
  have r6 := r5.next
  have r7 := r6.nextW
  have t2 := r2.2
  simp only [catN] at t2
  have a1 := r2.symF (s := ⟨q, lit, lit.length, 1⟩) (by omega)
  simp only at a1
  obtain ⟨q1, hq1⟩ : ∃ q1, q + (wordC fixF sym).2 = q1 := ⟨_, rfl⟩
  rw [hq1] at a1 r3 r4 r5 r6 r7
  have a2 := At.number (s := ⟨q1, lit, lit.length + 1, 1⟩) r3 he
  have a3 := r4.symS (s := ⟨q1 + n, lit, lit.length + 1, 1⟩) (by omega)
  simp only at a2 a3
  obtain ⟨q2, hq2⟩ : ∃ q2, q1 + n + (wordC fixS far).2 = q2 := ⟨_, rfl⟩
  rw [hq2] at a3 r5 r6 r7
  have a4 := At.number (s := ⟨q2, lit, lit.length + 1, 1⟩) r5 hm
  simp only at a4
  have hback : mBack E sym fixS ⟨q1, lit, lit.length + 1, 1⟩ = if dist + more ≤ lit.length then .ok ((), ⟨q2 + m, copyM (dist + more) (base + extra) lit, lit.length + 1, 1⟩) else .error 10 := by
    unfold mBack
    rw [hL]
    rw [mBind_eq (show mNeed true 10 _ = .ok ((), _) from rfl), mBind_eq a2, mBind_eq a3]
    simp only [hD]
    rw [mBind_eq (show mNeed true 10 _ = .ok ((), _) from rfl), mBind_eq a4]
    by_cases hd : dist + more ≤ lit.length
    · rw [if_pos hd, mBind_eq (show mFar (dist + more) _ = .ok ((), _) by unfold mFar; rw [if_pos (by simpa using hd)])]
      rw [mBind_eq (show mRoom E (base + extra) _ = .ok ((), _) by unfold mRoom; rw [if_pos (by simpa using hlim)])]
      rfl
    · rw [if_neg hd, mBind_err (show mFar (dist + more) _ = .error 10 by unfold mFar; rw [if_neg (by simpa using hd)])]
  have hsy : mSym1 E fixF fixS ⟨q, lit, lit.length, 1⟩ = if dist + more ≤ lit.length then .ok (false, ⟨q2 + m, copyM (dist + more) (base + extra) lit, lit.length + 1, 1⟩) else .error 10 := by
    unfold mSym1
    rw [mBind_eq a1, mBind_eq (show mSteps 1 _ = .ok ((), _) from rfl), if_neg (by omega), if_neg (by omega)]
    by_cases hd : dist + more ≤ lit.length
    · rw [if_pos hd] at hback ⊢
      rw [mBind_eq hback]; rfl
    · rw [if_neg hd] at hback ⊢
      rw [mBind_err hback]
  have hqT : q ≤ E.T := by omega
  have hend : At E (q2 + m) [wordC fixF 256] := r6
  have t6 := hend.2
  simp only [catN] at t6
  have a5 := hend.symF (s := ⟨q2 + m, copyM (dist + more) (base + extra) lit, lit.length + 1, 1⟩) (by decide)
  have hfin : q2 + m + (wordC fixF 256).2 = catN (fixC lit sym n extra far m more) := by
    rw [fixC]
    simp only [catN, catN_append]
    omega
  simp only at a5
  rw [hfin] at a5
  have hsy2 : mSym1 E fixF fixS ⟨q2 + m, copyM (dist + more) (base + extra) lit, lit.length + 1, 1⟩ = .ok (true, ⟨catN (fixC lit sym n extra far m more), copyM (dist + more) (base + extra) lit, lit.length + 2, 1⟩) := by
    unfold mSym1
    rw [mBind_eq a5, mBind_eq (show mSteps 1 _ = .ok ((), _) from rfl), if_pos rfl]
    rfl
  have hloop : symsM E fixF fixS ⟨3, [], 0, 1⟩ = if dist + more ≤ lit.length then .ok ((), ⟨catN (fixC lit sym n extra far m more), copyM (dist + more) (base + extra) lit, lit.length + 2, 1⟩) else .error 10 := by
    rw [symsM_loop, r1, symsM_step fixF fixS E _ hqT]
    by_cases hd : dist + more ≤ lit.length
    · rw [if_pos hd] at hsy ⊢
      rw [mBind_eq hsy]
      simp only [Bool.false_eq_true, if_false]
      rw [symsM_step fixF fixS E _ (by simp only; omega), mBind_eq hsy2]
      rfl
    · rw [if_neg hd] at hsy ⊢
      rw [mBind_err hsy]
  have hblk : mBlk E is0 = if dist + more ≤ lit.length then .ok (true, ⟨catN (fixC lit sym n extra far m more), copyM (dist + more) (base + extra) lit, lit.length + 2, 1⟩) else .error 10 := by
    unfold mBlk
    rw [mBind_eq n1, mBind_eq n2, mBind_eq (show mBlock _ = .ok ((), ⟨3, [], 0, 1⟩) from rfl)]
    have hk : mKind E 1 ⟨3, [], 0, 1⟩ = symsM E fixF fixS ⟨3, [], 0, 1⟩ := by unfold mKind; rw [if_neg (by decide), if_pos rfl]
    by_cases hd : dist + more ≤ lit.length
    · rw [if_pos hd] at hloop ⊢
      rw [mBind_eq (hk.trans hloop)]; rfl
    · rw [if_neg hd] at hloop ⊢
      rw [mBind_err (hk.trans hloop)]
  rw [infM_loop, loopM_step goes_blk E is0 (Nat.zero_le _)]
  by_cases hd : dist + more ≤ lit.length
  · rw [if_pos hd] at hblk ⊢
    rw [mBind_eq hblk]; rfl
  · rw [if_neg hd] at hblk ⊢
    rw [mBind_err hblk]
end Go.Proofs.Ytoaebpjjfglnnaa
