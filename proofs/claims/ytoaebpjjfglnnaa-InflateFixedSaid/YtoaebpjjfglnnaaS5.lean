/- Stored blocks, unpacked (plain). -/
import Derived.Test.YtoaebpjjfglnnaaS2
set_option linter.unusedVariables false
set_option linter.unusedSimpArgs false
namespace Go.Proofs.Ytoaebpjjfglnnaa

/-- A stored block's head. -/
def hdr (last n : Nat) : List Int := [(last : Int), ((n % 256 : Nat) : Int), ((n / 256 : Nat) : Int), ((255 - n % 256 : Nat) : Int), ((255 - n / 256 : Nat) : Int)]
theorem hdr_len (last n : Nat) : (hdr last n).length = 5 := rfl
theorem hdr_bytes (last n : Nat) (hl : last < 2) (hn : n < 65536) : Bytes (hdr last n) := by
  unfold hdr
  refine Bytes.cons (by omega) (by omega) (Bytes.cons (by omega) (by omega) (Bytes.cons (by omega) (by omega) (Bytes.cons (by omega) (by omega) (Bytes.cons (by omega) (by omega) Bytes.nil))))
theorem nb_drop {bs : List Int} (h : Bytes bs) (q j n : Nat) : nb (lw bs) (8 * q + j) n = nb (lw (bs.drop q)) j n := by
  rw [lw_drop bs h, show (256 : Nat) = 2 ^ 8 from rfl, ← Nat.pow_mul]
  unfold nb
  rw [Nat.div_div_eq_div_mul, ← Nat.pow_add]
theorem xor_full (n : Nat) (hn : n < 65536) : n ^^^ (65535 - n) = 65535 := by
  apply Nat.eq_of_testBit_eq
  intro i
  rw [Nat.testBit_xor, show 65535 - n = 2 ^ 16 - (n + 1) by omega, Nat.testBit_two_pow_sub_succ (by omega), show 65535 = 2 ^ 16 - 1 by rfl, Nat.testBit_two_pow_sub_one]
  by_cases hi : i < 16
  · simp [hi]
  · simp [hi]
    exact Nat.testBit_lt_two_pow (Nat.lt_of_lt_of_le (show n < 2 ^ 16 by omega) (Nat.pow_le_pow_right (by decide) (by omega)))
theorem nb_head2 (a b : Int) (r : List Int) (h : Bytes (a :: b :: r)) : nb (lw (a :: b :: r)) 0 16 = a.toNat + 256 * b.toNat := by
  have ha := h a (by simp)
  have hb := h b (by simp)
  unfold nb
  simp only [lw, Nat.pow_zero, Nat.div_one]
  omega
/-- One stored block. -/
theorem blk_stored {E : IE} {s : IS} (hby : Bytes E.bs) (q last : Nat) (r rest : List Int) (hl : last < 2) (hr : r.length < 65536) (hd : E.bs.drop q = hdr last r.length ++ (r ++ rest)) (hat : s.at_ = 8 * q) (hlim : s.out.length + r.length ≤ E.lim) :
    mBlk E s = .ok (decide (last = 1), ⟨8 * (q + 5 + r.length), s.out ++ r, s.steps + r.length, s.blocks + 1⟩) := by
  have hlen : E.bs.length = q + 5 + r.length + rest.length := by
    have := congrArg List.length hd
    rw [List.length_drop, List.length_append, hdr_len, List.length_append] at this
    have : q ≤ E.bs.length := by
      rcases Nat.lt_or_ge q E.bs.length with h | h
      · omega
      · rw [List.drop_eq_nil_of_le h] at hd; cases hd
    omega
  have hT : E.T = 8 * (q + 5 + r.length + rest.length) := by unfold IE.T; rw [hlen]
  have hdb := hby.drop q
  rw [hd] at hdb
  have d1 : E.bs.drop (q + 1) = ((r.length % 256 : Nat) : Int) :: ((r.length / 256 : Nat) : Int) :: ((255 - r.length % 256 : Nat) : Int) :: ((255 - r.length / 256 : Nat) : Int) :: (r ++ rest) := by
    rw [← List.drop_drop, hd]; rfl
  have d3 : E.bs.drop (q + 3) = ((255 - r.length % 256 : Nat) : Int) :: ((255 - r.length / 256 : Nat) : Int) :: (r ++ rest) := by
    rw [← List.drop_drop, hd]; rfl
  have d5 : E.bs.drop (q + 5) = r ++ rest := by rw [← List.drop_drop, hd]; rfl
  have n1 : mNumber E 1 s = .ok (last, { s with at_ := 8 * q + 1 }) := by
    unfold mNumber
    rw [if_pos (by omega), hat, show E.V = lw E.bs from rfl, show 8 * q = 8 * q + 0 from rfl, nb_drop hby, hd]
    congr 2
    unfold nb hdr
    simp only [List.cons_append, lw, Nat.pow_zero, Nat.div_one]
    omega
  have n2 : mNumber E 2 { s with at_ := 8 * q + 1 } = .ok (0, { s with at_ := 8 * q + 3 }) := by
    unfold mNumber
    simp only
    rw [if_pos (by omega), show E.V = lw E.bs from rfl, nb_drop hby, hd]
    congr 2
    unfold nb hdr
    simp only [List.cons_append, lw]
    omega
  have n3 : ∀ t : IS, t.at_ = 8 * (q + 1) → mNumber E 16 t = .ok (r.length, { t with at_ := 8 * (q + 3) }) := by
    intro t ht
    unfold mNumber
    rw [if_pos (by omega), ht, show E.V = lw E.bs from rfl, show 8 * (q + 1) = 8 * (q + 1) + 0 from rfl, nb_drop hby, d1, nb_head2 _ _ _ (by rw [← d1]; exact hby.drop _)]
    congr 2
    omega
  have n4 : ∀ t : IS, t.at_ = 8 * (q + 3) → mNumber E 16 t = .ok (65535 - r.length, { t with at_ := 8 * (q + 5) }) := by
    intro t ht
    unfold mNumber
    rw [if_pos (by omega), ht, show E.V = lw E.bs from rfl, show 8 * (q + 3) = 8 * (q + 3) + 0 from rfl, nb_drop hby, d3, nb_head2 _ _ _ (by rw [← d3]; exact hby.drop _)]
    congr 2
    omega
  have hst : ∀ t : IS, t.at_ = 8 * q + 3 → t.out = s.out → mStored E t = .ok ((), ⟨8 * (q + 5 + r.length), t.out ++ r, t.steps + r.length, t.blocks⟩) := by
    intro t ht ho
    unfold mStored
    rw [mBind_eq (show mAlign t = .ok ((), { t with at_ := 8 * (q + 1) }) by unfold mAlign; rw [ht]; congr 2; congr 1; omega)]
    rw [mBind_eq (n3 _ rfl), mBind_eq (n4 _ rfl)]
    rw [mBind_eq (show mNeed (r.length ^^^ (65535 - r.length) == 65535) 10 _ = .ok ((), _) by unfold mNeed; rw [xor_full _ hr]; rfl)]
    rw [mBind_eq (show mBytes E r.length _ = .ok (r, { t with at_ := 8 * (q + 5 + r.length) }) by
      unfold mBytes
      simp only
      rw [show (8 * (q + 5) + 7) / 8 = q + 5 by omega, if_pos (by omega), d5, List.take_left' rfl])]
    rw [mBind_eq (show mRoom E r.length _ = .ok ((), _) by unfold mRoom; rw [if_pos (by simp only; rw [ho]; exact hlim)])]
    rfl
  unfold mBlk
  rw [mBind_eq n1, mBind_eq n2]
  rw [mBind_eq (show mBlock _ = .ok ((), _) from rfl)]
  rw [mBind_eq (show mKind E 0 _ = .ok ((), _) by unfold mKind; rw [if_pos rfl]; exact hst _ rfl rfl)]
  rfl

/-- Stored blocks, the last one marked. -/
def encS : List (List Int) → List Int
  | [] => []
  | r :: rs => hdr (if rs = [] then 1 else 0) r.length ++ (r ++ encS rs)
theorem encS_bytes : ∀ {rows : List (List Int)}, (∀ r ∈ rows, Bytes r ∧ r.length < 65536) → Bytes (encS rows)
  | [], _ => Bytes.nil
  | r :: rs, h => (hdr_bytes _ _ (by split <;> decide) (h r (by simp)).2).append ((h r (by simp)).1.append (encS_bytes fun x hx => h x (by simp [hx])))
theorem loop_stored {E : IE} (hby : Bytes E.bs) : ∀ (rows : List (List Int)) (q : Nat) (s : IS), rows ≠ [] → (∀ r ∈ rows, r.length < 65536) → E.bs.drop q = encS rows → s.at_ = 8 * q → s.at_ ≤ E.T → s.out.length + rows.flatten.length ≤ E.lim →
    loopM mBlk E s = .ok ((), ⟨8 * E.bs.length, s.out ++ rows.flatten, s.steps + rows.flatten.length, s.blocks + rows.length⟩)
  | [], q, s, h, _, _, _, _, _ => absurd rfl h
  | r :: rs, q, s, _, hr, hd, hat, hT, hlim => by
    rw [List.flatten_cons, List.length_append] at hlim
    have hb := blk_stored hby q (if rs = [] then 1 else 0) r (encS rs) (by split <;> decide) (hr r (by simp)) hd hat (by omega)
    have hlen : E.bs.length = q + 5 + r.length + (encS rs).length := by
      have := congrArg List.length hd
      rw [List.length_drop, encS, List.length_append, hdr_len, List.length_append] at this
      unfold IE.T at hT
      omega
    rw [loopM_step goes_blk E s hT, mBind_eq hb]
    by_cases hrs : rs = []
    · subst hrs
      simp only [if_true, decide_true, mPure]
      simp only [encS, List.length_nil, Nat.add_zero] at hlen
      rw [hlen]
      simp
    · simp only [if_neg hrs, show decide ((0 : Nat) = 1) = false by decide, Bool.false_eq_true, if_false]
      rw [loop_stored hby rs (q + 5 + r.length) _ hrs (fun x hx => hr x (by simp [hx])) ?_ rfl ?_ ?_]
      · simp only [List.flatten_cons, List.length_append, List.append_assoc, List.length_cons]
        congr 2
        congr 1
        · omega
        · omega
      · rw [show q + 5 + r.length = q + (5 + r.length) by omega, ← List.drop_drop, hd, encS, ← List.append_assoc, List.drop_left' (by rw [List.length_append, hdr_len])]
      · unfold IE.T; simp only; omega
      · simp only [List.length_append]; omega
theorem inf_stored (rows : List (List Int)) (h0 : rows ≠ []) (h : ∀ r ∈ rows, Bytes r ∧ r.length < 65536) :
    infM ⟨encS rows, rows.flatten.length⟩ = .ok ⟨8 * (encS rows).length, rows.flatten, rows.flatten.length, rows.length⟩ := by
  have := loop_stored (E := ⟨encS rows, rows.flatten.length⟩) (encS_bytes h) rows 0 is0 h0 (fun r hr => (h r hr).2) rfl rfl (Nat.zero_le _) (by simp [is0])
  rw [infM_loop, this]
  simp [is0]
/-- The blocks made so far. -/
def encTo (rows : List (List Int)) (k : Nat) : List Int := ((List.range k).flatMap fun i => hdr (if i + 1 = rows.length then 1 else 0) (rows.getD i []).length ++ rows.getD i [])
theorem encTo_succ (rows : List (List Int)) (k : Nat) : encTo rows (k + 1) = (encTo rows k ++ hdr (if k + 1 = rows.length then 1 else 0) (rows.getD k []).length) ++ rows.getD k [] := by
  unfold encTo
  rw [List.range_succ, List.flatMap_append]
  simp
theorem encTo_all (rows : List (List Int)) : encTo rows rows.length = encS rows := by
  have key : ∀ (d k : Nat), k + d = rows.length → encTo rows k ++ encS (rows.drop k) = encS rows → encTo rows rows.length = encS rows := by
    intro d
    induction d with
    | zero =>
      intro k hk h
      rw [List.drop_eq_nil_of_le (by omega)] at h
      rw [← hk]
      simpa [encS] using h
    | succ d ih =>
      intro k hk h
      refine ih (k + 1) (by omega) ?_
      rw [← h, encTo_succ]
      have hk2 : k < rows.length := by omega
      rw [List.drop_eq_getElem_cons hk2]
      have e : rows.getD k [] = rows[k] := by rw [List.getD_eq_getElem?_getD, List.getElem?_eq_getElem hk2]; rfl
      simp only [encS, e, List.append_assoc]
      have e2 : (rows.drop (k + 1) = []) ↔ (k + 1 = rows.length) := by rw [List.drop_eq_nil_iff]; omega
      simp only [e2]
  exact key rows.length 0 (by omega) (by simp [encTo])
end Go.Proofs.Ytoaebpjjfglnnaa
