/- The unpacking's plain laws: what it does on bytes that begin alike, within another limit (no program in sight). -/
import Derived.Test.YtoaebpjjfglnnaaB4
set_option linter.unusedVariables false
set_option linter.unusedSimpArgs false
namespace Go.Proofs.Ytoaebpjjfglnnaa

/-- Bytes that begin alike. -/
def Alike (E F : IE) : Prop := Bytes E.bs ∧ Bytes F.bs ∧ ∀ k, k ≤ E.bs.length → k ≤ F.bs.length → E.bs.take k = F.bs.take k

theorem nb_take {bs : List Int} (h : Bytes bs) (p n k : Nat) (hk : p + n ≤ 8 * k) : nb (lw bs) p n = nb (lw (bs.take k)) p n := by
  have e256 : 256 ^ k = 2 ^ (8 * k) := by rw [show (256 : Nat) = 2 ^ 8 from rfl, ← Nat.pow_mul]
  rw [lw_take bs h, e256]
  unfold nb
  exact (cut_bits _ p n (8 * k) hk).symm
theorem Alike.nb {E F : IE} (h : Alike E F) {p n : Nat} (h1 : p + n ≤ E.T) (h2 : p + n ≤ F.T) : nb E.V p n = nb F.V p n := by
  obtain ⟨hE, hF, ht⟩ := h
  unfold IE.T IE.V at *
  rcases Nat.le_total E.bs.length F.bs.length with hl | hl
  · rw [nb_take hE p n _ h1, nb_take hF p n _ h1, ht _ (Nat.le_refl _) hl]
  · rw [nb_take hE p n _ h2, nb_take hF p n _ h2, ht _ hl (Nat.le_refl _)]
theorem bitN_nb (V q : Nat) : bitN V q = nb V q 1 := by unfold bitN nb; rw [Nat.pow_one]
theorem Alike.bit {E F : IE} (h : Alike E F) {q : Nat} (h1 : q < E.T) (h2 : q < F.T) : bitN E.V q = bitN F.V q := by
  rw [bitN_nb, bitN_nb]
  exact h.nb (by omega) (by omega)

/-- The next symbol hangs on its own bits alone. -/
theorem nextR_same {ls : List Nat} {V V' T T' p : Nat} : ∀ {d n v s j : Nat}, nextR ls V T p d n v = .ok (s, j) → 1 ≤ n → p ≤ T → p ≤ T' → (∀ q, q < T → q < T' → bitN V q = bitN V' q) →
    nextR ls V' T' p d n v = if p + j ≤ T' then .ok (s, j) else .error 15
  | 0, n, v, s, j, h, _, _, _, _ => by simp [nextR] at h
  | d + 1, n, v, s, j, h, hn, hT, hT', hb => by
    have hj := nextR_ok h
    rw [nextR] at h ⊢
    by_cases h1 : T - p < n
    · rw [if_pos h1] at h; cases h
    · rw [if_neg h1] at h
      by_cases h2 : T' - p < n
      · rw [if_pos h2, if_neg (by omega)]
      · rw [if_neg h2, ← hb (p + (n - 1)) (by omega) (by omega)]
        by_cases h3 : firstF ls n ≤ v * 2 + bitN V (p + (n - 1)) ∧ v * 2 + bitN V (p + (n - 1)) < firstF ls n + cz ls n
        · rw [if_pos h3] at h ⊢
          cases h
          rw [if_pos (by omega)]
        · rw [if_neg h3] at h ⊢
          by_cases h4 : longerB ls (v * 2 + bitN V (p + (n - 1))) n = true
          · rw [if_pos h4] at h ⊢
            exact nextR_same h (by omega) hT hT' hb
          · rw [if_neg h4] at h; cases h

/-- The errors of bytes that are none. -/
def OkErr (k : Nat) : Prop := k = 15 ∨ k = 14 ∨ k = 10
/-- m does on E what it does on F, up to where F's bytes or its limit end. -/
structure Sim {α : Type} (m : IE → IM α) : Prop where
  mono : ∀ (E : IE) (s : IS) (a : α) (s' : IS), s.at_ ≤ E.T → m E s = .ok (a, s') → s.at_ ≤ s'.at_ ∧ s'.at_ ≤ E.T ∧ s.out.length ≤ s'.out.length ∧ s.blocks ≤ s'.blocks
  err : ∀ (E : IE) (s : IS) (k : Nat), s.at_ ≤ E.T → m E s = .error k → OkErr k
  sim : ∀ (E F : IE) (s : IS) (a : α) (s' : IS), Alike E F → s.at_ ≤ E.T → s.at_ ≤ F.T → s.out.length ≤ F.lim → m E s = .ok (a, s') →
    (s'.at_ ≤ F.T → s'.out.length ≤ F.lim → m F s = .ok (a, s')) ∧
    (F.T < s'.at_ → s'.out.length ≤ F.lim → m F s = .error 15) ∧
    (s'.at_ ≤ F.T → F.lim < s'.out.length → m F s = .error 14)

theorem mBind_err {α β : Type} {m : IM α} {f : α → IM β} {s : IS} {k : Nat} (h : m s = .error k) : mBind m f s = .error k := by unfold mBind; rw [h]
theorem mBind_eq {α β : Type} {m : IM α} {f : α → IM β} {s s' : IS} {a : α} (h : m s = .ok (a, s')) : mBind m f s = f a s' := by unfold mBind; rw [h]
theorem Sim.bind {α β : Type} {m : IE → IM α} {f : α → IE → IM β} (h : Sim m) (k : ∀ a, Sim (f a)) : Sim fun E => mBind (m E) fun a => f a E := by
  refine ⟨fun E s b s' h1 hm => ?_, fun E s k' h1 hm => ?_, fun E F s b s' hA h1 h2 h3 hm => ?_⟩
  rotate_left
  · cases g1 : m E s with
    | error e =>
      rw [mBind_err g1] at hm
      cases hm
      exact h.err E s _ h1 g1
    | ok r =>
      obtain ⟨a, s1⟩ := r
      rw [mBind_eq g1] at hm
      exact (k a).err E s1 _ (h.mono E s a s1 h1 g1).2.1 hm
  rotate_right
  · obtain ⟨a, s1, g1, g2⟩ := mBind_ok hm
    have q1 := h.mono E s a s1 h1 g1
    have q2 := (k a).mono E s1 b s' q1.2.1 g2
    exact ⟨Nat.le_trans q1.1 q2.1, q2.2.1, Nat.le_trans q1.2.2.1 q2.2.2.1, Nat.le_trans q1.2.2.2 q2.2.2.2⟩
  · obtain ⟨a, s1, g1, g2⟩ := mBind_ok hm
    have q1 := h.mono E s a s1 h1 g1
    have q2 := (k a).mono E s1 b s' q1.2.1 g2
    obtain ⟨p4, p5, p6⟩ := h.sim E F s a s1 hA h1 h2 h3 g1
    refine ⟨fun c1 c2 => ?_, fun c1 c2 => ?_, fun c1 c2 => ?_⟩
    · rw [mBind_eq (p4 (by omega) (by omega))]
      exact ((k a).sim E F s1 b s' hA q1.2.1 (by omega) (by omega) g2).1 c1 c2
    · by_cases c3 : s1.at_ ≤ F.T
      · rw [mBind_eq (p4 c3 (by omega))]
        exact ((k a).sim E F s1 b s' hA q1.2.1 c3 (by omega) g2).2.1 c1 c2
      · exact mBind_err (p5 (by omega) (by omega))
    · by_cases c3 : s1.out.length ≤ F.lim
      · rw [mBind_eq (p4 (by omega) c3)]
        exact ((k a).sim E F s1 b s' hA q1.2.1 (by omega) c3 g2).2.2 c1 c2
      · exact mBind_err (p6 (by omega) (by omega))
theorem Sim.ite {α : Type} {p : Prop} [Decidable p] {m n : IE → IM α} (h : Sim m) (k : Sim n) : Sim fun E => if p then m E else n E := by
  by_cases hp : p
  · simp only [if_pos hp]; exact h
  · simp only [if_neg hp]; exact k
/-- What turns neither place nor bytes made, and looks at no bound. -/
theorem Sim.quiet {α : Type} {m : IM α} (h : ∀ s a s', m s = .ok (a, s') → s'.at_ = s.at_ ∧ s'.out = s.out ∧ s.blocks ≤ s'.blocks) (he : ∀ s k, m s = .error k → OkErr k) : Sim fun _ => m := by
  refine ⟨fun E s a s' h1 hm => ?_, fun E s k h1 hm => he s k hm, fun E F s a s' hA h1 h2 h3 hm => ?_⟩
  · obtain ⟨e1, e2, e3⟩ := h s a s' hm
    rw [e1, e2]
    exact ⟨Nat.le_refl _, h1, Nat.le_refl _, e3⟩
  · obtain ⟨e1, e2, -⟩ := h s a s' hm
    rw [e1, e2]
    exact ⟨fun _ _ => hm, fun c _ => by omega, fun _ c => by omega⟩
theorem Sim.pure {α : Type} (a : α) : Sim fun _ => mPure a := Sim.quiet (fun s b s' h => by unfold mPure at h; cases h; exact ⟨rfl, rfl, Nat.le_refl _⟩) (fun s k h => by cases h)
theorem Sim.need (b : Bool) (k : Nat) (hk : OkErr k := by unfold OkErr; decide) : Sim fun _ => mNeed b k := Sim.quiet (fun s u s' h => by obtain ⟨_, rfl⟩ := mNeed_ok h; exact ⟨rfl, rfl, Nat.le_refl _⟩) (fun s k' h => by
  unfold mNeed at h
  split at h
  · cases h
  · cases h; exact hk)
theorem Sim.steps (n : Nat) : Sim fun _ => mSteps n := Sim.quiet (fun s u s' h => by unfold mSteps at h; cases h; exact ⟨rfl, rfl, Nat.le_refl _⟩) (fun s k h => by cases h)
theorem Sim.block : Sim fun _ => mBlock := Sim.quiet (fun s u s' h => by unfold mBlock at h; cases h; exact ⟨rfl, rfl, Nat.le_add_right _ _⟩) (fun s k h => by cases h)
theorem Sim.far (n : Nat) : Sim fun _ => mFar n := Sim.quiet (fun s u s' h => by
  unfold mFar at h
  split at h
  · cases h; exact ⟨rfl, rfl, Nat.le_refl _⟩
  · cases h) (fun s k h => by
  unfold mFar at h
  split at h
  · cases h
  · cases h; exact .inr (.inr rfl))
theorem Sim.number (n : Nat) : Sim fun E => mNumber E n := by
  refine ⟨fun E s a s' h1 hm => ?_, fun E s k h1 hm => ?_, fun E F s a s' hA h1 h2 h3 hm => ?_⟩
  rotate_left
  · unfold mNumber at hm
    split at hm
    · cases hm
    · cases hm; exact .inl rfl
  rotate_right
  · have := mNumber_ok hm
    have := Fwd.number E n s a s' h1 hm
    rw [(mNumber_ok hm).2.1, (mNumber_ok hm).2.2.2]
    exact ⟨this.1, this.2, Nat.le_refl _, Nat.le_refl _⟩
  · unfold mNumber at hm ⊢
    by_cases c : s.at_ + n ≤ E.T
    · rw [if_pos c] at hm
      cases hm
      refine ⟨fun c1 c2 => ?_, fun c1 c2 => ?_, fun c1 c2 => ?_⟩
      · rw [if_pos c1, hA.nb c c1]
      · rw [if_neg (by simp only at c1; omega)]
      · simp only at c2; omega
    · rw [if_neg c] at hm; cases hm
theorem Sim.symbol (ls : List Nat) : Sim fun E => mSymbol E ls := by
  refine ⟨fun E s a s' h1 hm => ?_, fun E s k h1 hm => ?_, fun E F s a s' hA h1 h2 h3 hm => ?_⟩
  rotate_left
  · unfold mSymbol at hm
    cases hn : nextM ls E.V E.T s.at_ with
    | ok r => rw [hn] at hm; cases hm
    | error e =>
      rw [hn] at hm
      cases hm
      rcases nextM_err hn with h | h
      · exact .inl h
      · exact .inr (.inr h)
  rotate_right
  · have q := mSymbol_ok hm h1
    have := Fwd.symbol E ls s a s' h1 hm
    have hb : s'.blocks = s.blocks := by
      unfold mSymbol at hm
      split at hm
      · cases hm; rfl
      · cases hm
    rw [q.2.2.2, hb]
    exact ⟨this.1, this.2, Nat.le_refl _, Nat.le_refl _⟩
  · unfold mSymbol at hm ⊢
    cases hn : nextM ls E.V E.T s.at_ with
    | error k => rw [hn] at hm; cases hm
    | ok r =>
      obtain ⟨x, j⟩ := r
      rw [hn] at hm
      cases hm
      have hs := nextR_same (V' := F.V) (T' := F.T) hn (Nat.le_refl _) h1 h2 (fun q q1 q2 => hA.bit q1 q2)
      refine ⟨fun c1 c2 => ?_, fun c1 c2 => ?_, fun c1 c2 => ?_⟩
      · unfold nextM
        rw [hs, if_pos c1]
      · unfold nextM
        rw [hs, if_neg (by simp only at c1; omega)]
      · simp only at c2; omega
theorem Sim.align : Sim fun _ => mAlign := by
  refine ⟨fun E s a s' h1 hm => ?_, fun E s k h1 hm => ?_, fun E F s a s' hA h1 h2 h3 hm => ?_⟩
  rotate_left
  · cases hm
  rotate_right
  · have := Fwd.align E s a s' h1 hm
    unfold mAlign at hm
    cases hm
    exact ⟨this.1, this.2, Nat.le_refl _, Nat.le_refl _⟩
  · have := Fwd.align F s a s' h2 hm
    refine ⟨fun c1 c2 => hm, fun c1 c2 => by omega, fun c1 c2 => ?_⟩
    unfold mAlign at hm
    cases hm
    simp only at c2; omega
/-- Bytes that are made: the limit is looked at first. -/
theorem Sim.make {n : Nat} {g : IS → IS} (hg : ∀ s, (g s).at_ = s.at_ ∧ (g s).out.length = s.out.length + n ∧ (g s).blocks = s.blocks) : Sim fun E => mBind (mRoom E n) fun _ => fun s => .ok ((), g s) := by
  have hr : ∀ E s, mBind (mRoom E n) (fun _ => fun s => .ok ((), g s)) s = if s.out.length + n ≤ E.lim then .ok ((), g s) else .error 14 := by
    intro E s
    unfold mBind mRoom
    by_cases c : s.out.length + n ≤ E.lim
    · rw [if_pos c, if_pos c]
    · rw [if_neg c, if_neg c]
  refine ⟨fun E s a s' h1 hm => ?_, fun E s k h1 hm => ?_, fun E F s a s' hA h1 h2 h3 hm => ?_⟩
  rotate_left
  · simp only [hr] at hm
    split at hm
    · cases hm
    · cases hm; exact .inr (.inl rfl)
  rotate_right
  · simp only [hr] at hm
    by_cases c : s.out.length + n ≤ E.lim
    · rw [if_pos c] at hm
      cases hm
      rw [(hg s).1, (hg s).2.1, (hg s).2.2]
      exact ⟨Nat.le_refl _, h1, by omega, Nat.le_refl _⟩
    · rw [if_neg c] at hm; cases hm
  · simp only [hr] at hm ⊢
    by_cases c : s.out.length + n ≤ E.lim
    · rw [if_pos c] at hm
      cases hm
      rw [(hg s).1, (hg s).2.1]
      refine ⟨fun c1 c2 => by rw [if_pos c2], fun c1 c2 => by omega, fun c1 c2 => by rw [if_neg (by omega)]⟩
    · rw [if_neg c] at hm; cases hm
theorem mBind_assoc {α β γ : Type} (m : IM α) (f : α → IM β) (g : β → IM γ) : mBind (mBind m f) g = mBind m fun a => mBind (f a) g := by
  funext s
  unfold mBind
  cases m s with
  | error k => rfl
  | ok r => rfl
theorem Sim.of_eq {α : Type} {m n : IE → IM α} (h : Sim m) (e : ∀ E, n E = m E) : Sim n := by
  have : n = m := funext e
  rw [this]; exact h
/-- Stored bytes. -/
theorem Sim.bytesPut (n : Nat) : Sim fun E => mBind (mBytes E n) fun l => mBind (mRoom E n) fun _ => mBind (mPut l) fun _ => mSteps n := by
  have hr : ∀ E s, (mBind (mBytes E n) fun l => mBind (mRoom E n) fun _ => mBind (mPut l) fun _ => mSteps n) s =
      if (s.at_ + 7) / 8 + n ≤ E.bs.length then (if s.out.length + n ≤ E.lim then .ok ((), { at_ := 8 * ((s.at_ + 7) / 8 + n), out := s.out ++ (E.bs.drop ((s.at_ + 7) / 8)).take n, steps := s.steps + n, blocks := s.blocks }) else .error 14) else .error 15 := by
    intro E s
    unfold mBind mBytes mRoom mPut mSteps
    by_cases c : (s.at_ + 7) / 8 + n ≤ E.bs.length
    · rw [if_pos c, if_pos c]
      simp only
      by_cases c2 : s.out.length + n ≤ E.lim
      · rw [if_pos c2, if_pos c2]
      · rw [if_neg c2, if_neg c2]
    · rw [if_neg c, if_neg c]
  refine ⟨fun E s a s' h1 hm => ?_, fun E s k h1 hm => ?_, fun E F s a s' hA h1 h2 h3 hm => ?_⟩
  rotate_left
  · simp only [hr] at hm
    split at hm
    · split at hm
      · cases hm
      · cases hm; exact .inr (.inl rfl)
    · cases hm; exact .inl rfl
  rotate_right
  · simp only [hr] at hm
    by_cases c : (s.at_ + 7) / 8 + n ≤ E.bs.length
    · rw [if_pos c] at hm
      by_cases c2 : s.out.length + n ≤ E.lim
      · rw [if_pos c2] at hm
        cases hm
        simp only [List.length_append]
        unfold IE.T
        omega
      · rw [if_neg c2] at hm; cases hm
    · rw [if_neg c] at hm; cases hm
  · simp only [hr] at hm ⊢
    by_cases c : (s.at_ + 7) / 8 + n ≤ E.bs.length
    · rw [if_pos c] at hm
      by_cases c2 : s.out.length + n ≤ E.lim
      · rw [if_pos c2] at hm
        cases hm
        have hl : ((E.bs.drop ((s.at_ + 7) / 8)).take n).length = n := by rw [List.length_take, List.length_drop]; omega
        simp only [List.length_append, hl]
        unfold IE.T
        refine ⟨fun q1 q2 => ?_, fun q1 q2 => ?_, fun q1 q2 => ?_⟩
        · have q3 : (s.at_ + 7) / 8 + n ≤ F.bs.length := by omega
          rw [if_pos q3, if_pos q2]
          have e := hA.2.2 _ c q3
          have e2 : (E.bs.drop ((s.at_ + 7) / 8)).take n = (F.bs.drop ((s.at_ + 7) / 8)).take n := by
            have := congrArg (List.drop ((s.at_ + 7) / 8)) e
            rwa [List.drop_take, List.drop_take, Nat.add_sub_cancel_left] at this
          rw [e2]
        · rw [if_neg (by omega)]
        · rw [if_pos (by omega), if_neg (by omega)]
      · rw [if_neg c2] at hm; cases hm
    · rw [if_neg c] at hm; cases hm
theorem Sim.stored : Sim mStored :=
  Sim.align.bind fun _ => (Sim.number 16).bind fun n => (Sim.number 16).bind fun t => (Sim.need (n ^^^ t == 65535) 10).bind fun _ => Sim.bytesPut n
theorem copyM_len (far : Nat) : ∀ (n : Nat) (out : List Int), (copyM far n out).length = out.length + n
  | 0, out => rfl
  | n + 1, out => by rw [copyM, copyM_len far n, List.length_append]; simp; omega
theorem Sim.copy (far n : Nat) : Sim fun E => mBind (mRoom E n) fun _ => mCopy far n := Sim.make (g := fun s => { s with out := copyM far n s.out }) fun s => ⟨rfl, copyM_len far n s.out, rfl⟩
theorem Sim.back (sym : Nat) (other : List Nat) : Sim fun E => mBack E sym other :=
  (Sim.need (lengthM sym).2.2 10).bind fun _ => (Sim.number (lengthM sym).2.1).bind fun x => (Sim.symbol other).bind fun d => (Sim.need (distanceM d).2.2 10).bind fun _ =>
  (Sim.number (distanceM d).2.1).bind fun y => (Sim.far ((distanceM d).1 + y)).bind fun _ => Sim.copy ((distanceM d).1 + y) ((lengthM sym).1 + x)
theorem Sim.lit (x : Int) : Sim fun E => mBind (mRoom E 1) fun _ => mBind (mPut [x]) fun _ => mPure false :=
  ((Sim.make (n := 1) (g := fun s => { s with out := s.out ++ [x] }) fun s => ⟨rfl, by simp, rfl⟩).bind fun _ => Sim.pure false).of_eq fun E => (mBind_assoc _ _ _).symm
theorem Sim.sym1 (ls ds : List Nat) : Sim fun E => mSym1 E ls ds :=
  (Sim.symbol ls).bind fun s => (Sim.steps 1).bind fun _ => (Sim.pure true).ite ((Sim.lit (s : Int)).ite ((Sim.back s ds).bind fun _ => Sim.pure false))
theorem Sim.row (cl acc : List Nat) : Sim fun E => mRow E cl acc :=
  (Sim.symbol cl).bind fun s => ((Sim.number 2).bind fun x => (Sim.need (decide (0 < acc.length)) 10).bind fun _ => Sim.pure (16, x)).ite
    (((Sim.number 3).bind fun x => Sim.pure (17, x)).ite (((Sim.number 7).bind fun x => Sim.pure (18, x)).ite (Sim.pure (s, 0))))
theorem Sim.rowsL (cl : List Nat) (total : Nat) : ∀ (k : Nat) (acc : List Nat), Sim fun E => mRowsL E cl total k acc
  | 0, acc => Sim.pure acc
  | k + 1, acc => ((Sim.row cl acc).bind fun it => Sim.rowsL cl total k (stepU acc it)).ite (Sim.pure acc)
theorem Sim.rows (cl : List Nat) (total : Nat) : Sim fun E => mRows E cl total :=
  (Sim.rowsL cl total total []).bind fun acc => (Sim.need (decide (acc.length = total)) 10).bind fun _ => Sim.pure acc
theorem Sim.lens : ∀ (is ls : List Nat), Sim fun E => mLens E is ls
  | [], ls => Sim.pure ls
  | i :: is, ls => (Sim.number 3).bind fun x => Sim.lens is (ls.set i x)
theorem Sim.codes : Sim mCodes :=
  (Sim.number 5).bind fun a => (Sim.number 5).bind fun b => (Sim.number 4).bind fun c => (Sim.need (decide (a ≤ 29) && decide (b ≤ 29)) 10).bind fun _ =>
  (Sim.lens (ordL.take (c + 4)) (List.replicate 19 0)).bind fun cl => (Sim.need (okCode cl false false) 10).bind fun _ =>
  (Sim.rows cl (a + 257 + b + 1)).bind fun ls => (Sim.need (decide (0 < ls.getD 256 0)) 10).bind fun _ =>
  (Sim.need (okCode (ls.take (a + 257)) true false) 10).bind fun _ => (Sim.need (okCode (ls.drop (a + 257)) true true) 10).bind fun _ => Sim.pure (ls.take (a + 257), ls.drop (a + 257))

/-- Rounds, up to one that says so. -/
def loopF (m : IM Bool) : Nat → IS → Option (Except Nat (Unit × IS))
  | 0, _ => none
  | k + 1, s => match m s with
    | .ok (true, s') => some (.ok ((), s'))
    | .ok (false, s') => loopF m k s'
    | .error e => some (.error e)
def loopM (m : IE → IM Bool) (E : IE) : IM Unit := fun s => (loopF (m E) (E.T + 1 - s.at_) s).getD (.error 0)
/-- Each round goes on. -/
def Goes (m : IE → IM Bool) : Prop := ∀ (E : IE) (s : IS) (b : Bool) (s' : IS), s.at_ ≤ E.T → m E s = .ok (b, s') → s.at_ < s'.at_ ∧ s'.at_ ≤ E.T
theorem loopF_more {m : IM Bool} : ∀ {k : Nat} {s : IS} {r : Except Nat (Unit × IS)}, loopF m k s = some r → ∀ d, loopF m (k + d) s = some r
  | 0, s, r, h, d => by cases h
  | k + 1, s, r, h, d => by
    rw [show k + 1 + d = (k + d) + 1 by omega]
    rw [loopF] at h ⊢
    cases hm : m s with
    | error e => rw [hm] at h; exact h
    | ok p =>
      obtain ⟨b, s1⟩ := p
      rw [hm] at h
      cases b with
      | true => exact h
      | false => exact loopF_more (k := k) h d
theorem loopF_some {m : IE → IM Bool} (hg : Goes m) (E : IE) : ∀ (k : Nat) (s : IS), s.at_ ≤ E.T → E.T < s.at_ + k → ∃ r, loopF (m E) k s = some r
  | 0, s, h, h2 => by omega
  | k + 1, s, h, h2 => by
    rw [loopF]
    cases hm : m E s with
    | error e => exact ⟨_, rfl⟩
    | ok p =>
      obtain ⟨b, s1⟩ := p
      cases b with
      | true => exact ⟨_, rfl⟩
      | false =>
        have := hg E s false s1 h hm
        exact loopF_some hg E k s1 this.2 (by omega)
theorem loopF_loopM {m : IE → IM Bool} {E : IE} {k : Nat} {s : IS} {r : Except Nat (Unit × IS)} (hg : Goes m) (h : s.at_ ≤ E.T) (hk : loopF (m E) k s = some r) : loopM m E s = r := by
  obtain ⟨r', h2⟩ := loopF_some hg E (E.T + 1 - s.at_) s h (by omega)
  unfold loopM
  rw [h2]
  rcases Nat.le_total k (E.T + 1 - s.at_) with hl | hl
  · have := loopF_more hk (E.T + 1 - s.at_ - k)
    rw [show k + (E.T + 1 - s.at_ - k) = E.T + 1 - s.at_ by omega, h2] at this
    injection this
  · have := loopF_more h2 (k - (E.T + 1 - s.at_))
    rw [show (E.T + 1 - s.at_) + (k - (E.T + 1 - s.at_)) = k by omega, hk] at this
    injection this with this
    exact this.symm
/-- One round, then the others. -/
theorem loopM_step {m : IE → IM Bool} (hg : Goes m) (E : IE) (s : IS) (h : s.at_ ≤ E.T) : loopM m E s = mBind (m E) (fun b => if b = true then mPure () else loopM m E) s := by
  unfold mBind
  cases hm : m E s with
  | error e =>
    refine loopF_loopM (k := 1) hg h ?_
    rw [loopF, hm]
  | ok p =>
    obtain ⟨b, s1⟩ := p
    cases b with
    | true =>
      simp only [if_true]
      refine loopF_loopM (k := 1) hg h ?_
      rw [loopF, hm]
      rfl
    | false =>
      have q := hg E s false s1 h hm
      obtain ⟨r, h2⟩ := loopF_some hg E (E.T + 1 - s1.at_) s1 q.2 (by omega)
      simp only [Bool.false_eq_true, if_false]
      rw [loopF_loopM hg q.2 h2]
      refine loopF_loopM (k := E.T + 1 - s1.at_ + 1) hg h ?_
      rw [loopF, hm]
      exact h2
theorem Sim.loop {m : IE → IM Bool} (h : Sim m) (hg : Goes m) : Sim (loopM m) := by
  have key : ∀ (k : Nat) (E : IE) (s : IS) (s' : IS), s.at_ ≤ E.T → loopF (m E) k s = some (.ok ((), s')) → (s.at_ ≤ s'.at_ ∧ s'.at_ ≤ E.T ∧ s.out.length ≤ s'.out.length ∧ s.blocks ≤ s'.blocks) ∧
      ∀ F, Alike E F → s.at_ ≤ F.T → s.out.length ≤ F.lim →
      (s'.at_ ≤ F.T → s'.out.length ≤ F.lim → loopM m F s = .ok ((), s')) ∧
      (F.T < s'.at_ → s'.out.length ≤ F.lim → loopM m F s = .error 15) ∧
      (s'.at_ ≤ F.T → F.lim < s'.out.length → loopM m F s = .error 14) := by
    intro k
    induction k with
    | zero => intro E s s' h1 hk; cases hk
    | succ k ih =>
      intro E s s' h1 hk
      rw [loopF] at hk
      cases hm : m E s with
      | error e => rw [hm] at hk; simp at hk
      | ok p =>
        obtain ⟨b, s1⟩ := p
        rw [hm] at hk
        have q := h.mono E s b s1 h1 hm
        cases b with
        | true =>
          simp only [Option.some.injEq, Except.ok.injEq, Prod.mk.injEq, true_and] at hk
          subst hk
          refine ⟨q, fun F hA h2 h3 => ?_⟩
          rw [loopM_step hg F s h2]
          obtain ⟨p1, p2, p3⟩ := h.sim E F s true s1 hA h1 h2 h3 hm
          exact ⟨fun c1 c2 => by rw [mBind_eq (p1 c1 c2)]; rfl, fun c1 c2 => mBind_err (p2 c1 c2), fun c1 c2 => mBind_err (p3 c1 c2)⟩
        | false =>
          obtain ⟨i1, i2⟩ := ih E s1 s' q.2.1 hk
          refine ⟨⟨by omega, i1.2.1, by omega, by omega⟩, fun F hA h2 h3 => ?_⟩
          rw [loopM_step hg F s h2]
          obtain ⟨p1, p2, p3⟩ := h.sim E F s false s1 hA h1 h2 h3 hm
          refine ⟨fun c1 c2 => ?_, fun c1 c2 => ?_, fun c1 c2 => ?_⟩
          · rw [mBind_eq (p1 (by omega) (by omega))]
            exact (i2 F hA (by omega) (by omega)).1 c1 c2
          · by_cases c3 : s1.at_ ≤ F.T
            · rw [mBind_eq (p1 c3 (by omega))]
              exact (i2 F hA c3 (by omega)).2.1 c1 c2
            · exact mBind_err (p2 (by omega) (by omega))
          · by_cases c3 : s1.out.length ≤ F.lim
            · rw [mBind_eq (p1 (by omega) c3)]
              exact (i2 F hA (by omega) c3).2.2 c1 c2
            · exact mBind_err (p3 (by omega) (by omega))
  have hok : ∀ (E : IE) (s : IS) (a : Unit) (s' : IS), s.at_ ≤ E.T → loopM m E s = .ok (a, s') → loopF (m E) (E.T + 1 - s.at_) s = some (.ok ((), s')) := by
    intro E s a s' h1 hm
    obtain ⟨r, h2⟩ := loopF_some hg E (E.T + 1 - s.at_) s h1 (by omega)
    rw [loopF_loopM hg h1 h2] at hm
    rw [h2, hm]
  have kerr : ∀ (k : Nat) (E : IE) (s : IS) (e : Nat), s.at_ ≤ E.T → loopF (m E) k s = some (.error e) → OkErr e := by
    intro k
    induction k with
    | zero => intro E s e h1 hk; cases hk
    | succ k ih =>
      intro E s e h1 hk
      rw [loopF] at hk
      cases hm : m E s with
      | error e' => rw [hm] at hk; cases hk; exact h.err E s _ h1 hm
      | ok p =>
        obtain ⟨b, s1⟩ := p
        rw [hm] at hk
        cases b with
        | true => cases hk
        | false => exact ih E s1 e (h.mono E s false s1 h1 hm).2.1 hk
  refine ⟨fun E s a s' h1 hm => (key _ E s s' h1 (hok E s a s' h1 hm)).1, fun E s e h1 hm => ?_, fun E F s a s' hA h1 h2 h3 hm => (key _ E s s' h1 (hok E s a s' h1 hm)).2 F hA h2 h3⟩
  obtain ⟨r, h2⟩ := loopF_some hg E (E.T + 1 - s.at_) s h1 (by omega)
  rw [loopF_loopM hg h1 h2] at hm
  rw [hm] at h2
  exact kerr _ E s e h1 h2

/-! The program's loops. -/
theorem goes_sym1 (ls ds : List Nat) : Goes fun E => mSym1 E ls ds := by
  intro E s b s' h hm
  obtain ⟨x, s1, h1, h2⟩ := mBind_ok (show mBind (mSymbol E ls) _ s = _ from hm)
  have q := mSymbol_ok h1 h
  have f1 := Fwd.symbol E ls s x s1 h h1
  have f2 : Fwd E (mBind (mSteps 1) fun _ => if x = 256 then mPure true else if x < 256 then mBind (mRoom E 1) fun _ => mBind (mPut [(x : Int)]) fun _ => mPure false else mBind (mBack E x ds) fun _ => mPure false) :=
    (Fwd.steps E 1).bind fun _ => (Fwd.pure E _).ite (((Fwd.room E 1).bind fun _ => (Fwd.put E _).bind fun _ => Fwd.pure E _).ite ((Fwd.back E x ds).bind fun _ => Fwd.pure E _))
  have := f2 s1 b s' f1.2 h2
  omega
theorem mSymbols_loopF (E : IE) (ls ds : List Nat) : ∀ (k : Nat) (s : IS), mSymbols E ls ds k s = loopF (mSym1 E ls ds) k s
  | 0, s => rfl
  | k + 1, s => by
    rw [mSymbols, loopF]
    cases mSym1 E ls ds s with
    | error e => rfl
    | ok r =>
      obtain ⟨b, s1⟩ := r
      cases b with
      | true => rfl
      | false => exact mSymbols_loopF E ls ds k s1
theorem symsM_loop (ls ds : List Nat) (E : IE) : symsM E ls ds = loopM (fun E => mSym1 E ls ds) E := by
  funext s
  unfold symsM loopM
  rw [mSymbols_loopF]
theorem Sim.syms (ls ds : List Nat) : Sim fun E => symsM E ls ds := ((Sim.sym1 ls ds).loop (goes_sym1 ls ds)).of_eq (symsM_loop ls ds)
theorem Sim.kind (k : Nat) : Sim fun E => mKind E k :=
  Sim.stored.ite ((Sim.syms fixF fixS).ite ((Sim.codes.bind fun p => Sim.syms p.1 p.2).ite (Sim.need false 10)))
theorem Sim.blk : Sim mBlk := (Sim.number 1).bind fun l => (Sim.number 2).bind fun k => Sim.block.bind fun _ => (Sim.kind k).bind fun _ => Sim.pure (decide (l = 1))
theorem goes_blk : Goes mBlk := fun E s b s' h hm => mBlk_at h hm
theorem mBlocks_loopF (E : IE) : ∀ (k : Nat) (s : IS), mBlocks E k s = (loopF (mBlk E) k s).map fun r => match r with | .ok (_, s') => .ok s' | .error e => .error e
  | 0, s => rfl
  | k + 1, s => by
    rw [mBlocks, loopF]
    cases mBlk E s with
    | error e => rfl
    | ok r =>
      obtain ⟨b, s1⟩ := r
      cases b with
      | true => rfl
      | false => exact mBlocks_loopF E k s1
theorem infM_loop (E : IE) : infM E = match loopM mBlk E is0 with | .ok (_, s') => .ok s' | .error e => .error e := by
  obtain ⟨r, hr⟩ := loopF_some goes_blk E (E.T + 1) is0 (Nat.zero_le _) (by simp [is0])
  rw [loopF_loopM goes_blk (Nat.zero_le _) hr]
  unfold infM
  rw [mBlocks_loopF, hr]
  rfl
theorem infM_ok {E : IE} {s : IS} (h : infM E = .ok s) : loopM mBlk E is0 = .ok ((), s) := by
  rw [infM_loop] at h
  split at h
  · rename_i u s' e
    cases h
    exact e
  · cases h
/-- Unpacking bytes that begin alike. -/
theorem inf_sim {E F : IE} {s : IS} (hA : Alike E F) (h : infM E = .ok s) :
    (s.at_ ≤ F.T → s.out.length ≤ F.lim → infM F = .ok s) ∧ (F.T < s.at_ → s.out.length ≤ F.lim → infM F = .error 15) ∧ (s.at_ ≤ F.T → F.lim < s.out.length → infM F = .error 14) := by
  obtain ⟨h1, h2, h3⟩ := (Sim.blk.loop goes_blk).sim E F is0 () s hA (Nat.zero_le _) (Nat.zero_le _) (Nat.zero_le _) (infM_ok h)
  refine ⟨fun c1 c2 => ?_, fun c1 c2 => ?_, fun c1 c2 => ?_⟩
  · rw [infM_loop, h1 c1 c2]
  · rw [infM_loop, h2 c1 c2]
  · rw [infM_loop, h3 c1 c2]
/-- There is a block. -/
theorem inf_blocks {E : IE} {s : IS} (h : infM E = .ok s) : 1 ≤ s.blocks := by
  have h2 := infM_ok h
  rw [loopM_step goes_blk E is0 (Nat.zero_le _)] at h2
  obtain ⟨b, s1, g1, g2⟩ := mBind_ok h2
  have h1 : 1 ≤ s1.blocks := by
    obtain ⟨l, t1, e1, g1⟩ := mBind_ok (show mBind (mNumber E 1) _ is0 = _ from g1)
    obtain ⟨k, t2, e2, g1⟩ := mBind_ok g1
    obtain ⟨_, t3, e3, g1⟩ := mBind_ok g1
    have f1 := Fwd.number E 1 _ _ _ (Nat.zero_le _) e1
    have f2 := Fwd.number E 2 _ _ _ f1.2 e2
    have a3 : t3.at_ = t2.at_ ∧ 1 ≤ t3.blocks := by unfold mBlock at e3; cases e3; exact ⟨rfl, Nat.le_add_left _ _⟩
    have := ((Sim.kind k).bind fun _ => Sim.pure (decide (l = 1))).mono E t3 b s1 (by rw [a3.1]; exact f2.2) g1
    omega
  cases b with
  | true =>
    simp only [if_true, mPure] at g2
    cases g2
    exact h1
  | false =>
    have q := goes_blk E is0 false s1 (Nat.zero_le _) g1
    have := (Sim.blk.loop goes_blk).mono E s1 () s q.2 g2
    omega
theorem inf_err {E : IE} {k : Nat} (h : infM E = .error k) : OkErr k := by
  rw [infM_loop] at h
  split at h
  · cases h
  · rename_i e he
    cases h
    exact (Sim.blk.loop goes_blk).err E is0 _ (Nat.zero_le _) he
theorem inf_nz {E : IE} {k : Nat} (h : infM E = .error k) : k ≠ 0 := by
  rcases inf_err h with h | h | h <;> omega
end Go.Proofs.Ytoaebpjjfglnnaa
