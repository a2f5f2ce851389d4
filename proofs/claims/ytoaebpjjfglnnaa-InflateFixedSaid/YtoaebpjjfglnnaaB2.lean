/- The unpacking reader's methods: numbers, symbols, stored blocks, lengths that go back, symbols up to a block's end (contracts, no law). -/
import Derived.Test.YtoaebpjjfglnnaaB1
import Derived.Deep.LoopGhost
import Derived.Deep.RegionLaw
import Derived.WalkSmall
set_option linter.unusedVariables false
set_option linter.unusedSimpArgs false

/- The unpacking reader: need, number, symbol, room. -/
namespace Go.Proofs.Ytoaebpjjfglnnaa
open Go.RowKit Go.Proofs.YtoaebpjjfglnnaaW.PrintWords Go.Proofs.YtoaebpjjfglnnaaW.PrintLast Go.Proofs.YtoaebpjjfglnnaaW.PrintMore
attribute [local go_sem] max2_int min2_int max_two min_two max_three min_three max_four min_four

theorem own_kp {L : List Nat} {w w' : World} {base : Nat} {e : TypeId} {size n : Nat} {v : Value} {xs : List Value} (h : w.ownsRow base e size v n xs) (hk : Kp L w w') (hn : ∀ g ∈ L, v.ownBlock ≠ some g) : w'.ownsRow base e size v n xs := by
  refine ⟨h.1, ?_⟩
  rcases h.2 with h1 | ⟨g, cap, cur, rfl, hb, hg, r⟩
  · exact .inl h1
  · exact .inr ⟨g, cap, cur, rfl, hb, Blk.kp hg hk (fun hm => hn g hm rfl), r⟩
theorem C_of_reads {k : IntKind} {w : World} {A : Option Addr} {n : Nat} {xs : List Int} (h : ReadsInt w k A n xs) : (Kd.int k).C w A n xs := Kd.C_of_reads (enc := Value.int k) (d := 0) (h1 := fun _ => rfl) h

/-- The panic of bytes that are none. -/
def faultP (k : Nat) : List PanicEntry := [{ v := .iface 66 (.agg #[.int .i64 k]), recovered := false }]

theorem need_yes (k : Nat) (w : World) : Calls Try.prog 50 #[.bool true, .int .i64 k] w fun e w' => e = .returned (.tuple #[]) ∧ w = w' := by
  go_enter Try.func50, Try.ntmps50
  go_wp2
  go_end0
  exact ⟨rfl, rfl⟩
theorem need_no (k : Nat) (w : World) : Calls Try.prog 50 #[.bool false, .int .i64 k] w fun e w' => e = .panicked (faultP k) ∧ w = w' := by
  go_enter Try.func50, Try.ntmps50
  go_wp2
  exact ⟨rfl, rfl, rfl⟩

structure IE.Ok (E : IE) : Prop where
  len : E.bs.length ≤ 1099511627776
  bytes : Bytes E.bs
  lim : E.lim ≤ 1099511627776

/-- The reader in memory. -/
structure RepI (E : IE) (br bb : Nat) (A : Option Addr) (c : Nat) (w : World) (ov : Value) (s : IS) : Prop where
  r : Blk w br 64 #[.pointer (some ⟨bb, 0, none⟩), .int .i64 E.lim, ov, .int .i64 0, .int .i64 (s.steps : Nat), .int .i64 (s.blocks : Nat)]
  b : RdB w bb A E.bs.length c s.at_
  src : Own .u8 5 w (.slice A E.bs.length c) E.bs
  own : Own .u8 5 w ov s.out
  apart : ∀ g, (Value.slice A E.bs.length c).ownBlock = some g → ov.ownBlock ≠ some g
  ok : s.Ok E

/-- The blocks that a call may turn. -/
def turns (br bb : Nat) (ov : Value) : List Nat := br :: bb :: ov.ownBlock.toList
/-- A step of the reader. -/
structure StepI (E : IE) (br bb : Nat) (A : Option Addr) (c : Nat) (w : World) (ov : Value) (w' : World) (ov' : Value) (s' : IS) : Prop where
  rep : RepI E br bb A c w' ov' s'
  kp : Kp (turns br bb ov) w w'
  new : ov'.ownBlock = ov.ownBlock ∨ ∃ g, ov'.ownBlock = some g ∧ w.heap.size ≤ g
theorem StepI.trans {E : IE} {br bb : Nat} {A : Option Addr} {c : Nat} {w w1 w2 : World} {ov ov1 ov2 : Value} {s1 s2 : IS} (h : StepI E br bb A c w ov w1 ov1 s1) (k : StepI E br bb A c w1 ov1 w2 ov2 s2) : StepI E br bb A c w ov w2 ov2 s2 := by
  refine ⟨k.rep, h.kp.trans k.kp (fun x hx => ?_), ?_⟩
  · unfold turns at hx ⊢
    simp only [List.mem_cons, Option.mem_toList] at hx ⊢
    rcases hx with e | e | e
    · exact .inl (.inl e)
    · exact .inl (.inr (.inl e))
    · rcases h.new with h1 | ⟨g, h1, h2⟩
      · exact .inl (.inr (.inr (by rw [← h1]; exact e)))
      · rw [h1] at e
        exact .inr (by have : g = x := by simpa using e
                       omega)
  · rcases k.new with h1 | ⟨g, h1, h2⟩
    · rw [h1]; exact h.new
    · exact .inr ⟨g, h1, Nat.le_trans h.kp.size h2⟩
theorem StepI.fail {E : IE} {br bb : Nat} {A : Option Addr} {c : Nat} {w w1 w2 : World} {ov ov1 : Value} {s1 : IS} (h : StepI E br bb A c w ov w1 ov1 s1) (k : Kp (turns br bb ov1) w1 w2) : Kp (turns br bb ov) w w2 := by
  refine h.kp.trans k (fun x hx => ?_)
  unfold turns at hx ⊢
  simp only [List.mem_cons, Option.mem_toList] at hx ⊢
  rcases hx with e | e | e
  · exact .inl (.inl e)
  · exact .inl (.inr (.inl e))
  · rcases h.new with h1 | ⟨g, h1, h2⟩
    · exact .inl (.inr (.inr (by rw [← h1]; exact e)))
    · rw [h1] at e
      exact .inr (by have : g = x := by simpa using e
                     omega)
/-- What a call of the reader's comes to. -/
def IPost {α : Type} (enc : α → Value) (E : IE) (br bb : Nat) (A : Option Addr) (c : Nat) (w : World) (ov : Value) (r : Except Nat (α × IS)) (e : Ending) (w' : World) : Prop :=
  match r with
  | .ok (a, s') => e = .returned (enc a) ∧ ∃ ov', StepI E br bb A c w ov w' ov' s'
  | .error k => e = .panicked (faultP k) ∧ Kp (turns br bb ov) w w'
abbrev encN (n : Nat) : Value := .int .i64 n
abbrev encU (_ : Unit) : Value := .tuple #[]
abbrev encB (b : Bool) : Value := .bool b

section
variable {E : IE} {br bb : Nat} {A : Option Addr} {c : Nat} {w w' : World} {ov : Value} {s : IS}
theorem RepI.kp0 (h : RepI E br bb A c w ov s) (hk : Kp [] w w') : RepI E br bb A c w' ov s :=
  ⟨h.r.kp hk (by simp), h.b.kp hk (by simp), pw_own_below h.src hk.below, pw_own_below h.own hk.below, h.apart, h.ok⟩
theorem RepI.refl (h : RepI E br bb A c w ov s) : StepI E br bb A c w ov w ov s := ⟨h, Kp.refl _ _, .inl rfl⟩
theorem RepI.same (h : RepI E br bb A c w ov s) (hk : Kp [] w w') : StepI E br bb A c w ov w' ov s := ⟨h.kp0 hk, hk.mono (by simp), .inl rfl⟩
theorem RepI.ne (h : RepI E br bb A c w ov s) : br ≠ bb := Blk.ne_ h.r h.b (by decide)
theorem RepI.own_br (h : RepI E br bb A c w ov s) : ov.ownBlock ≠ some br := own_blk_ne h.own h.r (by decide)
theorem RepI.own_bb (h : RepI E br bb A c w ov s) : ov.ownBlock ≠ some bb := own_blk_ne h.own h.b (by decide)
theorem RepI.src_br (h : RepI E br bb A c w ov s) : (Value.slice A E.bs.length c).ownBlock ≠ some br := own_blk_ne h.src h.r (by decide)
theorem RepI.src_bb (h : RepI E br bb A c w ov s) : (Value.slice A E.bs.length c).ownBlock ≠ some bb := own_blk_ne h.src h.b (by decide)
theorem RepI.C (h : RepI E br bb A c w ov s) : (Kd.int .u8).C w A E.bs.length E.bs ∧ E.bs.length ≤ c := by
  obtain ⟨A', c', hv, hr⟩ := own_reads h.src
  injection hv with h1 _ h2
  subst h1
  subst h2
  refine ⟨C_of_reads hr, ?_⟩
  rcases h.src.2 with ⟨h3, h4⟩ | ⟨g, cap, cur, h3, _, _, h5, _⟩
  · injection h3; omega
  · injection h3 with _ _ h6; omega
/-- The place alone has turned. -/
theorem RepI.moved (h : RepI E br bb A c w ov s) (hk : Kp [bb] w w') (p : Nat) (hb : RdB w' bb A E.bs.length c p) (hle : s.at_ ≤ p) (hp : p ≤ E.T) : StepI E br bb A c w ov w' ov { s with at_ := p } :=
  ⟨⟨h.r.kp hk (by simpa using h.ne), hb, own_kp h.src hk (by simpa using h.src_bb), own_kp h.own hk (by simpa using h.own_bb), h.apart, ⟨hp, h.ok.out_le, Nat.le_trans h.ok.steps_le hle, Nat.le_trans h.ok.blocks_le hle, h.ok.bytes⟩⟩, hk.mono (by simp [turns]), .inl rfl⟩
theorem RepI.hA (h : RepI E br bb A c w ov s) : ∀ ad, A = some ad → 0 < E.bs.length → ad.block ≠ bb := by
  intro ad e _ he
  subst e
  exact h.src_bb (by rw [← he]; rfl)
theorem RepI.cells (h : RepI E br bb A c w ov s) : w.cell? ⟨br, 0, none⟩ = some (.pointer (some ⟨bb, 0, none⟩)) ∧ w.cell? ⟨br, 1, none⟩ = some (.int .i64 E.lim) ∧ w.cell? ⟨br, 2, none⟩ = some ov ∧ w.cell? ⟨br, 4, none⟩ = some (.int .i64 (s.steps : Nat)) ∧ w.cell? ⟨br, 5, none⟩ = some (.int .i64 (s.blocks : Nat)) :=
  ⟨h.r.cell_ 0 rfl, h.r.cell_ 1 rfl, h.r.cell_ 2 rfl, h.r.cell_ 4 rfl, h.r.cell_ 5 rfl⟩
end

theorem number_any (E : IE) (hE : E.Ok) (br bb : Nat) (A : Option Addr) (c n : Nat) (w : World) (ov : Value) (s : IS) (h : RepI E br bb A c w ov s) (hn : n ≤ 32) :
    Calls Try.prog 46 #[.pointer (some ⟨br, 0, none⟩), .int .i64 n] w (IPost encN E br bb A c w ov (mNumber E n s)) := by
  obtain ⟨h0, -⟩ := h.cells
  have HH := Lib.hid h
  have HE := Lib.hid hE
  clear h hE
  have hb := fun W (hk : Kp [] w W) => bits_any bb A c s.at_ n E.bs W (HH.out.b.kp hk (by simp)) HE.out.bytes (C_kp HH.out.C.1 hk (by simp)) (by have := HE.out.len; omega) HH.out.C.2 HH.out.ok.at_le hn
  have HB := Lib.hid hb
  clear hb
  have hlt := nb_lt (lw E.bs) s.at_ n
  have hlt2 : 2 ^ n ≤ 2 ^ 32 := Nat.pow_le_pow_right (by decide) hn
  by_cases hle : s.at_ + n ≤ E.T
  · have HR : Hid (mNumber E n s = .ok (nb E.V s.at_ n, { s with at_ := s.at_ + n })) := by unfold Hid mNumber; rw [if_pos hle]
    have HV : Hid (bitsV (lw E.bs) (8 * E.bs.length) s.at_ n = .tuple #[.int .u32 (nb (lw E.bs) s.at_ n : Nat), .bool true]) := by unfold Hid bitsV; rw [if_pos (show s.at_ + n ≤ 8 * E.bs.length from hle)]
    have HP : Hid ((if s.at_ + n ≤ 8 * E.bs.length then s.at_ + n else s.at_) = s.at_ + n) := by unfold Hid; rw [if_pos (show s.at_ + n ≤ 8 * E.bs.length from hle)]
    have HLE := Lib.hid hle
    obtain ⟨x, hx⟩ : ∃ x, nb (lw E.bs) s.at_ n = x := ⟨_, rfl⟩
    rw [hx] at hlt HV
    have HX := Lib.hid hx
    clear hle hx
    go_enter Try.func46, Try.ntmps46
    go_wp2_with (first
      | (go_at_call 60; refine (HB.out _ (Kp.refl _ _)).mono ?_; rintro e w1 ⟨rfl, hk, hb1⟩; rw [HV.out])
      | (go_at_call 50; refine (need_yes 15 _).mono ?_; rintro e w2 ⟨rfl, rfl⟩))
    go_ret
    rw [HP.out] at hb1
    rw [HR.out]
    exact ⟨ret_int (by rw [show E.V = lw E.bs from rfl, HX.out]), ov, HH.out.moved hk _ hb1 (by omega) HLE.out⟩
  · have HR : Hid (mNumber E n s = .error 15) := by unfold Hid mNumber; rw [if_neg hle]
    have HV : Hid (bitsV (lw E.bs) (8 * E.bs.length) s.at_ n = .tuple #[.int .u32 0, .bool false]) := by unfold Hid bitsV; rw [if_neg (show ¬ s.at_ + n ≤ 8 * E.bs.length from hle)]
    clear hle
    go_enter Try.func46, Try.ntmps46
    go_wp2_with (first
      | (go_at_call 60; refine (HB.out _ (Kp.refl _ _)).mono ?_; rintro e w1 ⟨rfl, hk, hb1⟩; rw [HV.out])
      | (go_at_call 50; refine (need_no 15 _).mono ?_; rintro e w2 ⟨rfl, rfl⟩))
    exact ⟨rfl, by rw [HR.out]; exact ⟨rfl, hk.mono (by simp [turns])⟩⟩

theorem symbol_any (R : Nat → Nat → Nat) (E : IE) (hE : E.Ok) (br bb pc : Nat) (ls : List Nat) (A : Option Addr) (c : Nat) (w : World) (ov : Value) (s : IS) (h : RepI E br bb A c w ov s) (hc : HCode R w pc ls) (hls : ls.length ≤ 320) :
    Calls Try.prog 64 #[.pointer (some ⟨br, 0, none⟩), .pointer (some ⟨pc, 0, none⟩)] w (IPost encN E br bb A c w ov (mSymbol E ls s)) := by
  obtain ⟨h0, -⟩ := h.cells
  have HH := Lib.hid h
  have HE := Lib.hid hE
  have hb := next_any R pc bb ls A c s.at_ E.bs w hc hls h.b hE.bytes h.C.1 (by have := hE.len; omega) h.C.2 h.ok.at_le h.hA
  cases hM : nextM ls (lw E.bs) (8 * E.bs.length) s.at_ with
  | ok r =>
    obtain ⟨x, j⟩ := r
    rw [hM] at hb
    have hj := nextM_ok hM h.ok.at_le
    have HB := Lib.hid hb
    have HR : Hid (mSymbol E ls s = .ok (x, { s with at_ := s.at_ + j })) := by unfold Hid mSymbol IE.V IE.T; rw [hM]
    clear hb hM h hE hc
    go_enter Try.func64, Try.ntmps64
    go_wp2_with (first
      | (go_at_call 74; refine HB.out.mono ?_; rintro e w1 ⟨rfl, hk, hb1⟩)
      | (go_at_call 50; refine (need_yes 0 _).mono ?_; rintro e w2 ⟨rfl, rfl⟩))
    go_ret
    rw [HR.out]
    exact ⟨rfl, ov, HH.out.moved hk _ hb1 (by omega) hj.2.1⟩
  | error k =>
    rw [hM] at hb
    have hk := nextM_err hM
    have HB := Lib.hid hb
    have HR : Hid (mSymbol E ls s = .error k) := by unfold Hid mSymbol IE.V IE.T; rw [hM]
    clear hb hM h hE hc
    rcases hk with rfl | rfl
    all_goals
      go_enter Try.func64, Try.ntmps64
      go_wp2_with (first
        | (go_at_call 74; refine HB.out.mono ?_; rintro e w1 ⟨rfl, hk⟩)
        | (go_at_call 50; first | (refine (need_no 15 _).mono ?_; rintro e w2 ⟨rfl, rfl⟩) | (refine (need_no 10 _).mono ?_; rintro e w2 ⟨rfl, rfl⟩)))
      exact ⟨rfl, by rw [HR.out]; exact ⟨rfl, hk.mono (by simp)⟩⟩

set_option maxRecDepth 100000 in
theorem room_any (E : IE) (hE : E.Ok) (br bb : Nat) (A : Option Addr) (c n : Nat) (w : World) (ov : Value) (s : IS) (h : RepI E br bb A c w ov s) (hn : n ≤ 1099511627776) :
    Calls Try.prog 63 #[.pointer (some ⟨br, 0, none⟩), .int .i64 n] w (IPost encU E br bb A c w ov (mRoom E n s)) := by
  obtain ⟨h0, h1, h2, -⟩ := h.cells
  obtain ⟨A2, c2, rfl⟩ := own_slice h.own
  have hol := h.ok.out_le
  have hel := hE.lim
  have HH := Lib.hid h
  clear h hE
  have hwr : IntKind.i64.wrap ((E.lim : Int) - s.out.length) = (E.lim : Int) - s.out.length := by rw [IntKind.wrap_i64]; omega
  by_cases hle : s.out.length + n ≤ E.lim
  · have HR : Hid (mRoom E n s = .ok ((), s)) := by unfold Hid mRoom; rw [if_pos hle]
    have hd : decide ((n : Int) ≤ (E.lim : Int) - s.out.length) = true := decide_eq_true (by omega)
    clear hle
    go_enter Try.func63, Try.ntmps63
    go_still_tail 13, (by kernel_rfl)
    clear hwr
    change wpList _ _ _ _ _ w.drew
    go_wp2_with (first
      | (go_at_call 50; refine (need_yes 14 _).mono ?_; rintro e w2 ⟨rfl, rfl⟩))
    go_end0
    rw [HR.out]
    exact ⟨rfl, _, HH.out.same ((Kp.refl _ _).drew)⟩
  · have HR : Hid (mRoom E n s = .error 14) := by unfold Hid mRoom; rw [if_neg hle]
    have hd : decide ((n : Int) ≤ (E.lim : Int) - s.out.length) = false := decide_eq_false (by omega)
    clear hle
    go_enter Try.func63, Try.ntmps63
    go_still_tail 13, (by kernel_rfl)
    clear hwr
    change wpList _ _ _ _ _ w.drew
    go_wp2_with (first
      | (go_at_call 50; refine (need_no 14 _).mono ?_; rintro e w2 ⟨rfl, rfl⟩))
    exact ⟨rfl, by rw [HR.out]; exact ⟨rfl, (show Kp [] w w.drew from (Kp.refl _ _).drew).mono (by simp)⟩⟩
end Go.Proofs.Ytoaebpjjfglnnaa

/- The unpacking reader: a stored block. -/
namespace Go.Proofs.Ytoaebpjjfglnnaa
open Go.RowKit Go.Proofs.YtoaebpjjfglnnaaW.PrintWords Go.Proofs.YtoaebpjjfglnnaaW.PrintLast Go.Proofs.YtoaebpjjfglnnaaW.PrintMore
attribute [local go_sem] max2_int min2_int max_two min_two max_three min_three max_four min_four

theorem IPost.cases {α : Type} {enc : α → Value} {E : IE} {br bb : Nat} {A : Option Addr} {c : Nat} {w w' : World} {ov : Value} {r : Except Nat (α × IS)} {e : Ending} (h : IPost enc E br bb A c w ov r e w') :
    (∃ a s' ov', Hid (r = .ok (a, s')) ∧ e = .returned (enc a) ∧ StepI E br bb A c w ov w' ov' s') ∨ (∃ k, Hid (r = .error k) ∧ e = .panicked (faultP k) ∧ Kp (turns br bb ov) w w') := by
  cases r with
  | ok p => obtain ⟨a, s'⟩ := p; obtain ⟨h1, ov', h2⟩ := h; exact .inl ⟨a, s', ov', rfl, h1, h2⟩
  | error k => exact .inr ⟨k, rfl, h.1, h.2⟩
theorem IPost.ok {α : Type} {enc : α → Value} {E : IE} {br bb : Nat} {A : Option Addr} {c : Nat} {w w' : World} {ov ov' : Value} {r : Except Nat (α × IS)} {a : α} {s' : IS} (hr : r = .ok (a, s')) (h : StepI E br bb A c w ov w' ov' s') : IPost enc E br bb A c w ov r (.returned (enc a)) w' := by
  rw [hr]; exact ⟨rfl, ov', h⟩
theorem IPost.err {α : Type} {enc : α → Value} {E : IE} {br bb : Nat} {A : Option Addr} {c : Nat} {w w' : World} {ov : Value} {r : Except Nat (α × IS)} {k : Nat} (hr : r = .error k) (h : Kp (turns br bb ov) w w') : IPost enc E br bb A c w ov r (.panicked (faultP k)) w' := by
  rw [hr]; exact ⟨rfl, h⟩

theorem xor16 (n t : Nat) (hn : n < 65536) (ht : t < 65536) : bits .xor .i64 (n : Int) (t : Int) = ((n ^^^ t : Nat) : Int) := by
  have hx : n ^^^ t < 65536 := Nat.xor_lt_two_pow (n := 16) hn ht
  have h0 : bits .xor .i64 (n : Int) (t : Int) = IntKind.i64.wrap (((BitVec.ofInt 64 (n : Int) ^^^ BitVec.ofInt 64 (t : Int)).toNat : Nat) : Int) := rfl
  have h1 : BitVec.ofInt 64 (n : Int) = BitVec.ofNat 64 n := by simp
  have h2 : BitVec.ofInt 64 (t : Int) = BitVec.ofNat 64 t := by simp
  rw [h0, h1, h2, BitVec.toNat_xor, BitVec.toNat_ofNat, BitVec.toNat_ofNat, Nat.mod_eq_of_lt (by omega), Nat.mod_eq_of_lt (by omega), IntKind.wrap_i64]
  omega
theorem mNumber_lt {E : IE} {n : Nat} {s s' : IS} {x : Nat} (h : mNumber E n s = .ok (x, s')) : x < 2 ^ n := by
  unfold mNumber at h
  split at h
  · cases h; exact nb_lt _ _ _
  · cases h

theorem mRoom_ok {E : IE} {n : Nat} {s s' : IS} {u : Unit} (h : mRoom E n s = .ok (u, s')) : s' = s ∧ s.out.length + n ≤ E.lim := by
  unfold mRoom at h
  split at h
  · rename_i hle
    cases h; exact ⟨rfl, hle⟩
  · cases h
section
variable {E : IE} {br bb : Nat} {A : Option Addr} {c : Nat} {w w1 : World} {ov v1 : Value} {s : IS}
/-- The slice has got more, and is back in its field. -/
theorem RepI.appended (h : RepI E br bb A c w ov s) {l : List Int} (hown : Own .u8 5 w1 v1 (s.out ++ l)) (hg : w.grownBy w1 ov.ownBlock) (hat : v1.ownBlock = ov.ownBlock ∨ ∃ b, v1.ownBlock = some b ∧ w.heap.size ≤ b) (hl : Bytes l) (hlim : s.out.length + l.length ≤ E.lim) :
    StepI E br bb A c w ov (w1.setCell ⟨br, 2, none⟩ v1) v1 { s with out := s.out ++ l } := by
  have hk1 : Kp (turns br bb ov) w w1 := (Kp.refl _ _).grown hg (fun k hk => .inl (by simp [turns, hk]))
  have hr1 := h.r.grown hg (fun e => h.own_br e.symm)
  have hb1 := h.b.grown hg (fun e => h.own_bb e.symm)
  have hs1 := h.src.kept hg (by
    cases hv : (Value.slice A E.bs.length c).ownBlock with
    | none => exact .inl rfl
    | some g => exact .inr (fun e => h.apart g hv e.symm))
  have hv1 : v1.ownBlock ≠ some br := own_blk_ne hown hr1 (by decide)
  refine ⟨⟨hr1.set_ 2 v1, hb1.far (fun e => h.ne e.symm) _, ownsRow_setCell_other hs1 h.src_br _, ownsRow_setCell_other hown hv1 _, ?_, ?_⟩, hk1.set_ (by simp [turns]) _, hat⟩
  · intro g hg2 he
    rcases hat with e | ⟨b, e, hb⟩
    · rw [e] at he; exact h.apart g hg2 he
    · rw [e] at he
      have h1 := (h.src.lt g hg2).2
      have h2 : b = g := by simpa using he
      omega
  · exact ⟨h.ok.at_le, by rw [List.length_append]; exact hlim, h.ok.steps_le, h.ok.blocks_le, h.ok.bytes.append hl⟩
theorem RepI.setSteps (h : RepI E br bb A c w ov s) (k : Nat) (hk : s.steps + k ≤ s.at_) : StepI E br bb A c w ov (w.setCell ⟨br, 4, none⟩ (.int .i64 ((s.steps + k : Nat) : Int))) ov { s with steps := s.steps + k } :=
  ⟨⟨h.r.set_ 4 _, h.b.far (fun e => h.ne e.symm) _, ownsRow_setCell_other h.src h.src_br _, ownsRow_setCell_other h.own h.own_br _, h.apart, ⟨h.ok.at_le, h.ok.out_le, hk, h.ok.blocks_le, h.ok.bytes⟩⟩, (Kp.refl _ _).set_ (by simp [turns]) _, .inl rfl⟩
theorem RepI.setBlocks (h : RepI E br bb A c w ov s) (k : Nat) (hk : s.blocks + k ≤ s.at_) : StepI E br bb A c w ov (w.setCell ⟨br, 5, none⟩ (.int .i64 ((s.blocks + k : Nat) : Int))) ov { s with blocks := s.blocks + k } :=
  ⟨⟨h.r.set_ 5 _, h.b.far (fun e => h.ne e.symm) _, ownsRow_setCell_other h.src h.src_br _, ownsRow_setCell_other h.own h.own_br _, h.apart, ⟨h.ok.at_le, h.ok.out_le, h.ok.steps_le, hk, h.ok.bytes⟩⟩, (Kp.refl _ _).set_ (by simp [turns]) _, .inl rfl⟩
end

set_option maxRecDepth 100000 in
set_option maxHeartbeats 4000000 in
theorem stored_any (E : IE) (hE : E.Ok) (br bb : Nat) (A : Option Addr) (c : Nat) (w : World) (ov : Value) (s : IS) (h : RepI E br bb A c w ov s) :
    Calls Try.prog 47 #[.pointer (some ⟨br, 0, none⟩)] w (IPost encU E br bb A c w ov (mStored E s)) := by
  obtain ⟨h0, -⟩ := h.cells
  have HH := Lib.hid h
  have HE := Lib.hid hE
  clear h hE
  go_enter Try.func47, Try.ntmps47
  go_wp2_with fail
  refine (align_any bb A E.bs.length c s.at_ _ HH.out.b (by have := HE.out.len; omega) HH.out.ok.at_le).mono ?_
  rintro e w1 ⟨rfl, hk1, hb1⟩
  have S1 := HH.out.moved hk1 _ hb1 (by omega) (by have := HH.out.ok.at_le; unfold IE.T at this ⊢; omega)
  clear h0 hk1 hb1
  go_wp2_with fail
  refine (number_any E HE.out br bb A c 16 w1 ov _ S1.rep (by decide)).mono ?_
  intro e w2 hp
  rcases hp.cases with ⟨n, s2, ov2, HM2, rfl, S2⟩ | ⟨k, HM2, rfl, hk2⟩
  · clear hp
    have hn := mNumber_lt HM2.out
    go_wp2_with fail
    refine (number_any E HE.out br bb A c 16 w2 ov2 _ S2.rep (by decide)).mono ?_
    intro e w3 hp
    rcases hp.cases with ⟨t, s3, ov3, HM3, rfl, S3⟩ | ⟨k, HM3, rfl, hk3⟩
    · clear hp
      have ht := mNumber_lt HM3.out
      have hx := xor16 n t hn ht
      by_cases hq : n ^^^ t = 65535
      · have hq2 : (((n ^^^ t : Nat) : Int) == 65535) = true := by rw [hq]; rfl
        obtain ⟨q, hqq⟩ : ∃ q, n ^^^ t = q := ⟨_, rfl⟩
        rw [hqq] at hx hq2
        have HQ := Lib.hid hq
        clear hqq hq
        go_wp2_with fail
        refine (need_yes 10 _).mono ?_
        rintro e w4 ⟨rfl, rfl⟩
        clear hx hq2
        obtain ⟨h0, -⟩ := S3.rep.cells
        have hel := HE.out.len
        have hat := S3.rep.ok.at_le
        by_cases hb : (s3.at_ + 7) / 8 + n ≤ E.bs.length
        · have HMB : Hid (mBytes E n s3 = .ok ((E.bs.drop ((s3.at_ + 7) / 8)).take n, { s3 with at_ := 8 * ((s3.at_ + 7) / 8 + n) })) := by unfold Hid mBytes; rw [if_pos hb]
          have HB := Lib.hid hb
          clear hb
          go_wp2_with fail
          refine (bytes_yes bb A c s3.at_ n _ E.bs _ S3.rep.b S3.rep.C.1 (by omega) S3.rep.C.2 hat (by omega) S3.rep.hA rfl HB.out).mono ?_
          rintro e w5 ⟨v, rfl, hv, hk5, hb5, hg5⟩
          have S5 := S3.rep.moved hk5 _ hb5 (by omega) (by have := HB.out; unfold IE.T; omega)
          have hb := HB.out
          have hvl : ((E.bs.drop ((s3.at_ + 7) / 8)).take n).length = n := by simp; omega
          have hvb : Bytes ((E.bs.drop ((s3.at_ + 7) / 8)).take n) := (HE.out.bytes.drop _).take _
          obtain ⟨l, hll⟩ : ∃ l, (E.bs.drop ((s3.at_ + 7) / 8)).take n = l := ⟨_, rfl⟩
          rw [hll] at hv hvl hvb
          have HLL := Lib.hid hll
          clear hll hb h0
          obtain ⟨A5, c5, rfl⟩ := own_slice hv
          go_wp2_with fail
          refine (need_yes 15 _).mono ?_
          rintro e w6 ⟨rfl, rfl⟩
          go_wp2_with fail
          refine (room_any E HE.out br bb A c n _ ov3 _ S5.rep (by omega)).mono ?_
          intro e w6 hp
          rcases hp.cases with ⟨_, s6, ov6, HM6, rfl, S6⟩ | ⟨k, HM6, rfl, hk6⟩
          · clear hp
            obtain ⟨rfl, hrl⟩ := mRoom_ok HM6.out
            have hvt : ∀ g ∈ turns br bb ov3, (Value.slice A5 l.length c5).ownBlock ≠ some g := by
              intro g hg
              unfold turns at hg
              simp only [List.mem_cons, Option.mem_toList] at hg
              rcases hg with e | e | e
              · subst e; exact own_blk_ne hv S5.rep.r (by decide)
              · subst e; exact own_blk_ne hv S5.rep.b (by decide)
              · intro he
                have h1 := hg5 g he
                have h2 := (S3.rep.own.lt g e).2
                omega
            have hv6 := own_kp hv S6.kp hvt
            rw [hvl] at hv6
            obtain ⟨A6, c6, hov6⟩ := own_slice S6.rep.own
            have HRL := Lib.hid hrl
            obtain ⟨_, _, hval, HR5⟩ := own_reads hv6
            injection hval with e1 _ e3
            subst e1
            subst e3
            subst hov6
            obtain ⟨c0, c1, c2, c4, -⟩ := S6.rep.cells
            simp only at c2 c4
            have hol : s3.out.length + n ≤ 1099511627776 := by have := HE.out.lim; have := HRL.out; simp only at this; omega
            have hst := S6.rep.ok.steps_le
            have hsl := S3.rep.ok.steps_le
            simp only at hst
            have hsb : s3.steps ≤ 17592186044416 := by unfold IE.T at hat; omega
            clear hv hrl hvt hg5 hv6
            go_wp2_with (at_builtin; refine print_append_row 0 rfl (.tmp 39) (.tmp 40) 22 5 .u8 1 rfl Try.underlying22 info5 (by decide) (.slice A6 s3.out.length c6) s3.out l A5 n c5 rfl rfl S6.rep.own HR5 (Below.refl 0 _) (Nat.zero_le _) (by omega) ?_; intro v7 w7 hown7 _ hg7 hat7; obtain ⟨A7, c7, rfl⟩ := own_slice hown7; have hr7 := S6.rep.r.grown hg7 (fun e => S6.rep.own_br e.symm); have d2 := hr7.cell_ 2 rfl; have d4 := hr7.cell_ 4 rfl; have f2 := hr7.frozen 2; have f4 := hr7.frozen 4; clear hr7)
            go_end0
            have hlen : (s3.out ++ l).length = s3.out.length + n := by rw [List.length_append, hvl]
            have P := S6.rep.appended hown7 hg7 hat7 hvb (by rw [hvl]; exact HRL.out)
            rw [hlen] at P
            have Q := P.rep.setSteps n (by simp only; omega)
            refine IPost.ok (a := ()) ?_ ((((((S1.trans S2).trans S3).trans S5).trans S6).trans P).trans Q)
            simp only [mStored, mBind, mAlign, HM2.out, HM3.out, mNeed, HQ.out, beq_self_eq_true, if_true, HMB.out, HM6.out, mPut, mSteps, HLL.out]
          · clear hp
            go_wp2_with fail
            exact ⟨rfl, IPost.err (by simp only [mStored, mBind, mAlign, HM2.out, HM3.out, mNeed, HQ.out, beq_self_eq_true, if_true, HMB.out, HM6.out]) ((((S1.trans S2).trans S3).trans S5).fail hk6)⟩
        · have HMB : Hid (mBytes E n s3 = .error 15) := by unfold Hid mBytes; rw [if_neg hb]
          go_wp2_with fail
          refine (bytes_no bb A c s3.at_ n E.bs.length _ S3.rep.b (by omega) hat (by omega) (by omega)).mono ?_
          rintro e w5 ⟨rfl, rfl⟩
          go_wp2_with fail
          refine (need_no 15 _).mono ?_
          rintro e w6 ⟨rfl, rfl⟩
          go_wp2_with fail
          exact ⟨rfl, IPost.err (by simp only [mStored, mBind, mAlign, HM2.out, HM3.out, mNeed, HQ.out, beq_self_eq_true, if_true, HMB.out]) (((S1.trans S2).trans S3).fail (Kp.refl _ _))⟩
      · have hq2 : (((n ^^^ t : Nat) : Int) == 65535) = false := by simp; omega
        have HMQ : Hid ((n ^^^ t == 65535) = false) := by unfold Hid; simp [hq]
        obtain ⟨q, hqq⟩ : ∃ q, n ^^^ t = q := ⟨_, rfl⟩
        rw [hqq] at hx hq2
        clear hqq hq
        go_wp2_with fail
        refine (need_no 10 _).mono ?_
        rintro e w4 ⟨rfl, rfl⟩
        go_wp2_with fail
        exact ⟨rfl, IPost.err (by simp only [mStored, mBind, mAlign, HM2.out, HM3.out, mNeed, HMQ.out, Bool.false_eq_true, if_false]) (((S1.trans S2).trans S3).fail (Kp.refl _ _))⟩
    · clear hp
      go_wp2_with fail
      exact ⟨rfl, IPost.err (by simp only [mStored, mBind, mAlign, HM2.out, HM3.out]) ((S1.trans S2).fail hk3)⟩
  · clear hp
    go_wp2_with fail
    exact ⟨rfl, IPost.err (by simp only [mStored, mBind, mAlign, HM2.out]) (S1.fail hk2)⟩
end Go.Proofs.Ytoaebpjjfglnnaa

/- Length and Distance. -/
namespace Go.Proofs.Ytoaebpjjfglnnaa
open Go.RowKit Go.Proofs.YtoaebpjjfglnnaaW.PrintWords Go.Proofs.YtoaebpjjfglnnaaW.PrintLast Go.Proofs.YtoaebpjjfglnnaaW.PrintMore
attribute [local go_sem] max2_int min2_int max_two min_two max_three min_three max_four min_four

abbrev trip (p : Nat × Nat × Bool) : Value := .tuple #[.int .i64 (p.1 : Nat), .int .i64 (p.2.1 : Nat), .bool p.2.2]

theorem length_none (s : Int) (w : World) (h : s < 257 ∨ 285 < s) : Calls Try.prog 14 #[.int .i64 s] w fun e w' => e = .returned (trip (0, 0, false)) ∧ w = w' := by
  rcases h with h | h
  · go_enter Try.func14, Try.ntmps14
    go_wp2
    go_ret3
    exact ⟨rfl, rfl⟩
  · go_enter Try.func14, Try.ntmps14
    go_wp2
    go_ret3
    exact ⟨rfl, rfl⟩
set_option maxHeartbeats 4000000 in
theorem length_in (s : Int) (w : World) (h : 257 ≤ s) (h2 : s ≤ 285) : Calls Try.prog 14 #[.int .i64 s] w fun e w' => e = .returned (trip (lengthM s.toNat)) ∧ w = w' := by
  have hs : s = 257 ∨ s = 258 ∨ s = 259 ∨ s = 260 ∨ s = 261 ∨ s = 262 ∨ s = 263 ∨ s = 264 ∨ s = 265 ∨ s = 266 ∨ s = 267 ∨ s = 268 ∨ s = 269 ∨ s = 270 ∨ s = 271 ∨ s = 272 ∨ s = 273 ∨ s = 274 ∨ s = 275 ∨ s = 276 ∨ s = 277 ∨ s = 278 ∨ s = 279 ∨ s = 280 ∨ s = 281 ∨ s = 282 ∨ s = 283 ∨ s = 284 ∨ s = 285 := by omega
  clear h h2
  rcases hs with rfl | rfl | rfl | rfl | rfl | rfl | rfl | rfl | rfl | rfl | rfl | rfl | rfl | rfl | rfl | rfl | rfl | rfl | rfl | rfl | rfl | rfl | rfl | rfl | rfl | rfl | rfl | rfl | rfl
  all_goals
    go_enter Try.func14, Try.ntmps14
    go_wp2
    go_ret3
    exact ⟨rfl, rfl⟩
theorem length_all (s : Int) (w : World) : Calls Try.prog 14 #[.int .i64 s] w fun e w' => e = .returned (trip (lengthM s.toNat)) ∧ w = w' := by
  by_cases h : s < 257 ∨ 285 < s
  · have := length_none s w h
    unfold lengthM
    rw [if_pos (by omega)]
    exact this
  · exact length_in s w (by omega) (by omega)
theorem distance_none (s : Int) (w : World) (h : s < 0 ∨ 29 < s) : Calls Try.prog 16 #[.int .i64 s] w fun e w' => e = .returned (trip (0, 0, false)) ∧ w = w' := by
  rcases h with h | h
  · go_enter Try.func16, Try.ntmps16
    go_wp2
    go_ret3
    exact ⟨rfl, rfl⟩
  · go_enter Try.func16, Try.ntmps16
    go_wp2
    go_ret3
    exact ⟨rfl, rfl⟩
set_option maxHeartbeats 4000000 in
theorem distance_in (s : Int) (w : World) (h : 0 ≤ s) (h2 : s ≤ 29) : Calls Try.prog 16 #[.int .i64 s] w fun e w' => e = .returned (trip (distanceM s.toNat)) ∧ w = w' := by
  have hs : s = 0 ∨ s = 1 ∨ s = 2 ∨ s = 3 ∨ s = 4 ∨ s = 5 ∨ s = 6 ∨ s = 7 ∨ s = 8 ∨ s = 9 ∨ s = 10 ∨ s = 11 ∨ s = 12 ∨ s = 13 ∨ s = 14 ∨ s = 15 ∨ s = 16 ∨ s = 17 ∨ s = 18 ∨ s = 19 ∨ s = 20 ∨ s = 21 ∨ s = 22 ∨ s = 23 ∨ s = 24 ∨ s = 25 ∨ s = 26 ∨ s = 27 ∨ s = 28 ∨ s = 29 := by omega
  clear h h2
  rcases hs with rfl | rfl | rfl | rfl | rfl | rfl | rfl | rfl | rfl | rfl | rfl | rfl | rfl | rfl | rfl | rfl | rfl | rfl | rfl | rfl | rfl | rfl | rfl | rfl | rfl | rfl | rfl | rfl | rfl | rfl
  all_goals
    go_enter Try.func16, Try.ntmps16
    go_wp2
    go_ret3
    exact ⟨rfl, rfl⟩
theorem distance_nat (s : Nat) (w : World) : Calls Try.prog 16 #[.int .i64 s] w fun e w' => e = .returned (trip (distanceM s)) ∧ w = w' := by
  by_cases h : 29 < s
  · have := distance_none s w (by omega)
    unfold distanceM
    rw [if_pos h]
    exact this
  · exact distance_in s w (by omega) (by omega)
theorem length_nat (s : Nat) (w : World) : Calls Try.prog 14 #[.int .i64 s] w fun e w' => e = .returned (trip (lengthM s)) ∧ w = w' := length_all s w
theorem length_bd (s : Nat) : (lengthM s).1 ≤ 258 ∧ (lengthM s).2.1 ≤ 5 := by
  unfold lengthM
  split
  · exact ⟨by decide, by decide⟩
  · split
    · exact ⟨by decide, by decide⟩
    · split
      · exact ⟨by simp only; omega, Nat.zero_le _⟩
      · rename_i h1 h2 h3
        have h4 : s - 257 < 28 := by omega
        generalize s - 257 = k at h4
        revert k
        decide
theorem distance_bd (s : Nat) : (distanceM s).1 ≤ 24577 ∧ (distanceM s).2.1 ≤ 13 := by
  unfold distanceM
  split
  · exact ⟨by decide, by decide⟩
  · split
    · exact ⟨by simp only; omega, Nat.zero_le _⟩
    · rename_i h1 h2
      have h4 : s < 30 := by omega
      clear h1 h2
      revert s
      decide
end Go.Proofs.Ytoaebpjjfglnnaa

/- The unpacking reader: back. -/
namespace Go.Proofs.Ytoaebpjjfglnnaa
open Go.RowKit Go.Proofs.YtoaebpjjfglnnaaW.PrintWords Go.Proofs.YtoaebpjjfglnnaaW.PrintLast Go.Proofs.YtoaebpjjfglnnaaW.PrintMore
attribute [local go_sem] max2_int min2_int max_two min_two max_three min_three max_four min_four

theorem wp_of_strict {P : Program} {o : Oper} {a : Act} {w : World} {K : Act → World → Prop} {Q : Exit → Act → World → Prop} (h : o.wp P a w K (fun _ _ _ => False)) : o.wp P a w K Q := by
  unfold Oper.wp at *
  generalize (execOp a.eval o).run P w = r at *
  cases r with
  | ok n w' =>
    cases n <;> simp only [Oper.upon] at h ⊢ <;>
      first
        | exact h
        | exact h.elim
        | exact Calls.mono h (fun e w'' he => by cases e <;> first | exact he | exact he.elim | (obtain ⟨_, _, h0⟩ := he; exact h0.elim))
        | exact Rows.mono h (fun _ _ he => he)
  | halt x w' => cases x <;> simp only [Oper.upon] at h
/-- The law 'print_append_num' as one step of a region that draws its order. -/
theorem step_append_num {P : Program} {ops : Array Oper} {o : Oper} {a : Act} {W : World} {K : Act → World → Prop} {Q : Exit → Act → World → Prop} {E : Prop} {w0 : World} (base : Nat) (hgd : o.guard = none) (s x : Operand) (t e : TypeId) (k : IntKind) (bytes : Nat)
    (ho : o.op = .call { callee := .builtin .append, args := #[s, x], argTypes := #[t, t] })
    (ht : P.underlying t = some (.slice e)) (hinfo : (P.info? e).map (fun i => (i.zero, i.size, i.bytes)) = some (some (.int k 0), 1, bytes)) (hb0 : 0 < bytes)
    (v : Value) (xs : List Int) (y : Int) (hs : a.eval s = v) (hx : a.eval x = .slice (some ⟨W.heap.size, 0, none⟩) 1 1)
    (HO : W.ownsRow base e 1 v xs.length (nums k xs)) (HB : Below base w0 W) (hbase : base ≤ W.heap.size) (hl : (xs.length + 1) * bytes ≤ 140737488355328)
    (h : ∀ v1 w1, w1.ownsRow base e 1 v1 (xs ++ [y]).length (nums k (xs ++ [y])) → W.grownBy w1 v.ownBlock → (v1.ownBlock = v.ownBlock ∨ ∃ b, v1.ownBlock = some b ∧ W.heap.size ≤ b) → K (a.put o.dst v1) w1) :
    if Region.wanted o (yielded ops a.tmps) = true then Oper.wp P o a (W.alloc (.cells #[.int k y] e)) K Q else E := by
  have hw : Region.wanted o (yielded ops a.tmps) = true := by simp [Region.wanted, hgd]
  rw [if_pos hw]
  have h1 := print_append_num (P := P) (ops := ops) (Q := fun e a w => match e with | .normal => K a w | _ => False) (rest := []) base hgd s x t e k bytes ho ht hinfo hb0 v xs y hs hx HO HB hbase hl (fun v1 w1 q1 _ q3 q4 => h v1 w1 q1 q3 q4)
  unfold wpList at h1
  rw [if_pos hw] at h1
  refine wp_of_strict ?_
  rcases h1 with h1 | ⟨_, _, _, h0⟩
  · unfold Oper.wp at *
    generalize (execOp a.eval o).run P (W.alloc (.cells #[.int k y] e)) = r at *
    cases r with
    | ok n w' =>
      cases n <;> simp only [Oper.upon, wpList] at h1 ⊢ <;>
        first
          | exact h1
          | exact h1.elim
          | exact Calls.mono h1 (fun e w'' he => by cases e <;> first | exact he | exact he.elim | (obtain ⟨_, _, h0⟩ := he; exact h0.elim))
          | exact Rows.mono h1 (fun _ _ he => he)
    | halt x w' => cases x <;> simp only [Oper.upon] at h1
  · exact h0.elim

theorem distance_pos {s : Nat} (h : (distanceM s).2.2 = true) : 1 ≤ (distanceM s).1 := by
  unfold distanceM at h ⊢
  split at h
  · cases h
  · rename_i h1
    rw [if_neg h1]
    split
    · simp
    · simp
theorem need_any (b : Bool) (k : Nat) (w : World) : Calls Try.prog 50 #[.bool b, .int .i64 k] w fun e w' => e = (if b = true then .returned (.tuple #[]) else .panicked (faultP k)) ∧ w = w' := by
  cases b with
  | true => exact need_yes k w
  | false => exact need_no k w
theorem mSymbol_ok {E : IE} {ls : List Nat} {s s' : IS} {x : Nat} (h : mSymbol E ls s = .ok (x, s')) (hp : s.at_ ≤ E.T) : x < ls.length ∧ s.at_ < s'.at_ ∧ s'.steps = s.steps ∧ s'.out = s.out := by
  unfold mSymbol at h
  cases hn : nextM ls E.V E.T s.at_ with
  | ok r =>
    obtain ⟨y, j⟩ := r
    rw [hn] at h
    have := nextM_ok hn hp
    cases h
    exact ⟨this.2.2, by simp only; omega, rfl, rfl⟩
  | error k => rw [hn] at h; cases h
theorem mNumber_ok {E : IE} {n : Nat} {s s' : IS} {x : Nat} (h : mNumber E n s = .ok (x, s')) : s'.steps = s.steps ∧ s'.out = s.out ∧ s'.at_ = s.at_ + n ∧ s'.blocks = s.blocks := by
  unfold mNumber at h
  split at h
  · cases h; exact ⟨rfl, rfl, rfl, rfl⟩
  · cases h

/-- What a step may turn is none of a code's blocks. -/
theorem other_turns {E : IE} {br bb : Nat} {A : Option Addr} {c : Nat} {w : World} {ov : Value} {s : IS} (h : RepI E br bb A c w ov s) : Other w (turns br bb ov) := by
  intro x hx
  unfold turns at hx
  simp only [List.mem_cons, Option.mem_toList] at hx
  rcases hx with e | e | e
  · subst e; exact ⟨64, _, h.r, by decide, by decide, by decide⟩
  · subst e; exact ⟨93, _, h.b, by decide, by decide, by decide⟩
  · rcases h.own.2 with ⟨h1, _⟩ | ⟨g, cap, cur, h1, _, hg, _⟩
    · rw [h1] at e; simp [Value.ownBlock] at e
    · rw [h1] at e
      have : g = x := by simpa [Value.ownBlock] using e
      subst this
      exact ⟨5, _, hg, by decide, by decide, by decide⟩

set_option maxRecDepth 100000 in
set_option maxHeartbeats 4000000 in
theorem back_any (R : Nat → Nat → Nat) (E : IE) (hE : E.Ok) (br bb pc : Nat) (sym : Nat) (ls : List Nat) (A : Option Addr) (c : Nat) (w : World) (ov : Value) (s : IS) (h : RepI E br bb A c w ov s) (hc : HCode R w pc ls) (hls : ls.length ≤ 320) :
    Calls Try.prog 65 #[.pointer (some ⟨br, 0, none⟩), .int .i64 sym, .pointer (some ⟨pc, 0, none⟩)] w (IPost encU E br bb A c w ov (mBack E sym ls s)) := by
  have HH := Lib.hid h
  have HE := Lib.hid hE
  have HC := Lib.hid hc
  clear h hE hc
  obtain ⟨lb1, lb2⟩ := length_bd sym
  obtain ⟨L, hL⟩ : ∃ L, lengthM sym = L := ⟨_, rfl⟩
  rw [hL] at lb1 lb2
  have HL := Lib.hid hL
  obtain ⟨base, extra, ok⟩ := L
  simp only at lb1 lb2
  go_enter Try.func65, Try.ntmps65
  go_wp2_with fail
  refine (length_nat sym _).mono ?_
  rintro e w1 ⟨rfl, rfl⟩
  rw [hL]
  clear hL
  simp only [trip]
  cases ok with
  | false =>
    go_wp2_with fail
    refine (need_no 10 _).mono ?_
    rintro e w1 ⟨rfl, rfl⟩
    go_wp2_with fail
    exact ⟨rfl, IPost.err (by simp only [mBack, mBind, HL.out, mNeed, Bool.false_eq_true, if_false]) (Kp.refl _ _)⟩
  | true =>
    go_wp2_with fail
    refine (need_yes 10 _).mono ?_
    rintro e w1 ⟨rfl, rfl⟩
    go_wp2_with fail
    refine (number_any E HE.out br bb A c extra w ov s HH.out (by omega)).mono ?_
    intro e w2 hp
    rcases hp.cases with ⟨x, s2, ov2, HM2, rfl, S2⟩ | ⟨k, HM2, rfl, hk2⟩
    · clear hp
      have hx := mNumber_lt HM2.out
      have hx5 : 2 ^ extra ≤ 2 ^ 5 := Nat.pow_le_pow_right (by decide) lb2
      have hxb : x < 32 := by omega
      clear hx hx5
      go_wp2_with fail
      refine (symbol_any R E HE.out br bb pc ls A c w2 ov2 s2 S2.rep (HC.out.kp S2.kp (other_turns HH.out)) hls).mono ?_
      intro e w3 hp
      rcases hp.cases with ⟨d, s3, ov3, HM3, rfl, S3⟩ | ⟨k, HM3, rfl, hk3⟩
      · clear hp
        obtain ⟨n, hn⟩ : ∃ n : Nat, (base : Int) + x = (n : Int) := ⟨base + x, by simp⟩
        rw [hn]
        have HN : Hid (base + x = n) := by unfold Hid; omega
        have hnb : n ≤ 1000 := by omega
        clear hn
        obtain ⟨db1, db2⟩ := distance_bd d
        obtain ⟨D, hD⟩ : ∃ D, distanceM d = D := ⟨_, rfl⟩
        have hpos := fun h => distance_pos (s := d) h
        rw [hD] at db1 db2 hpos
        have HD := Lib.hid hD
        obtain ⟨dist, more, ok⟩ := D
        simp only at db1 db2 hpos
        go_wp2_with fail
        refine (distance_nat d _).mono ?_
        rintro e w4 ⟨rfl, rfl⟩
        rw [hD]
        clear hD
        simp only [trip]
        cases ok with
        | false =>
          clear hpos
          go_wp2_with fail
          refine (need_no 10 _).mono ?_
          rintro e w4 ⟨rfl, rfl⟩
          go_wp2_with fail
          exact ⟨rfl, IPost.err (by simp only [mBack, mBind, HL.out, mNeed, if_true, HM2.out, HM3.out, HD.out, Bool.false_eq_true, if_false]) (S2.fail (S3.fail (Kp.refl _ _)))⟩
        | true =>
          have hdp : 1 ≤ dist := hpos rfl
          clear hpos
          go_wp2_with fail
          refine (need_yes 10 _).mono ?_
          rintro e w4 ⟨rfl, rfl⟩
          go_wp2_with fail
          refine (number_any E HE.out br bb A c more w3 ov3 s3 S3.rep (by omega)).mono ?_
          intro e w5 hp
          rcases hp.cases with ⟨y, s5, ov5, HM5, rfl, S5⟩ | ⟨k, HM5, rfl, hk5⟩
          · clear hp
            have hy := mNumber_lt HM5.out
            have hy13 : 2 ^ more ≤ 2 ^ 13 := Nat.pow_le_pow_right (by decide) db2
            have hyb : y < 8192 := by omega
            clear hy hy13
            obtain ⟨A5, c5, hov5⟩ := own_slice S5.rep.own
            subst hov5
            obtain ⟨-, -, q2, -⟩ := S5.rep.cells
            have hol5 := S5.rep.ok.out_le
            have hlim := HE.out.lim
            go_wp2_with fail
            obtain ⟨far, hf⟩ : ∃ far : Nat, (dist : Int) + y = (far : Int) := ⟨dist + y, by simp⟩
            rw [hf]
            have HF : Hid (dist + y = far) := by unfold Hid; omega
            have hfb : 1 ≤ far := by omega
            clear hf
            by_cases hfl : far ≤ s5.out.length
            · have HMF : Hid (mFar far s5 = .ok ((), s5)) := by unfold Hid mFar; rw [if_pos hfl]
              rw [show decide ((far : Int) ≤ (s5.out.length : Int)) = true from decide_eq_true (by omega)]
              refine (need_yes 10 _).mono ?_
              rintro e w6 ⟨rfl, rfl⟩
              clear q2
              go_wp2_with fail
              refine (room_any E HE.out br bb A c n w5 _ s5 S5.rep (by omega)).mono ?_
              intro e w7 hp
              rcases hp.cases with ⟨_, s7, ov7, HM7, rfl, S7⟩ | ⟨k, HM7, rfl, hk7⟩
              · clear hp
                obtain ⟨rfl, hrl⟩ := mRoom_ok HM7.out
                have HCP : Hid (mBack E sym ls s = .ok ((), { s7 with out := copyM far n s7.out })) := by
                  unfold Hid
                  simp only [mBack, mBind, HL.out, mNeed, if_true, HM2.out, HM3.out, HD.out, HM5.out, HF.out, HMF.out, HN.out, HM7.out, mCopy]
                have HS := Lib.hid (((S2.trans S3).trans S5).trans S7)
                clear HMF HM7 HM5 HD HM3 HM2 HL S2 S3 S5
                go_wp2_with fail
                go_loopw [53] (fun i wr => ∃ k : Nat, k ≤ n ∧ i = .int .i64 k ∧ ∃ o ovk, o.length = s7.out.length + k ∧ Hid (copyM far (n - k) o = copyM far n s7.out) ∧ StepI E br bb A c w ov wr ovk { s7 with out := o }) (fun i _ => n - (intOf i).toNat)
                case atStart => exact ⟨0, Nat.zero_le _, rfl, s7.out, ov7, rfl, rfl, HS.out⟩
                case round =>
                  obtain ⟨k, hk, rfl, o, ovk, hol, HCK, hS⟩ := hrel
                  by_cases hlt : k < n
                  · obtain ⟨j, hj⟩ : ∃ j, o.length = far + j := ⟨o.length - far, by omega⟩
                    have hown0 : Own .u8 5 wr ovk o := hS.rep.own
                    have hone : 1 ≤ o.length := by omega
                    obtain ⟨g, cap, hvk, -, -⟩ := hown0.form (by omega)
                    clear hown0 hone
                    subst hvk
                    obtain ⟨-, -, q2, -⟩ := hS.rep.cells
                    obtain ⟨ho1, -⟩ := own_at (xs := o) (n := o.length) (g := g) (cap := cap) hS.rep.own (j : Int) (by omega) (by omega)
                    simp only [Int.toNat_natCast, rd] at ho1
                    have hbr := hS.rep.ok.bytes.get j
                    simp only at hbr
                    obtain ⟨b, hb⟩ : ∃ b, o.getD j 0 = b := ⟨_, rfl⟩
                    rw [hb] at ho1 hbr
                    have hwr : IntKind.i64.wrap ((o.length : Int) - far) = (j : Int) := by rw [IntKind.wrap_i64]; omega
                    have hjl : (j : Int) < (o.length : Int) := by omega
                    have HOL := Lib.hid hol
                    have HJ := Lib.hid hj
                    have HS' := Lib.hid hS
                    have HB := Lib.hid hb
                    have hob : o.length ≤ 1099511627776 := by omega
                    clear hol hj hS hb
                    go_wp2_with fail
                    have HD := HS'.out.rep.kp0 ((Kp.refl [] wr).drew)
                    have q2a := cell_kp ((Kp.refl [] wr).alloc (.cells #[.int .u8 b] 5)) q2 (by simp)
                    go_region_law (refine step_append_num 0 rfl (.tmp 60) (.tmp 76) 22 5 .u8 1 rfl Try.underlying22 info5 (by decide) (.slice (some ⟨g, 0, none⟩) o.length cap) o b rfl rfl HD.own (Below.refl 0 _) (Nat.zero_le _) (by omega) ?_; intro v1 w1 hown1 hg1 hat1; obtain ⟨A1, c1, rfl⟩ := own_slice hown1; have hr1 := HD.r.grown hg1 (fun e => HD.own_br e.symm); have d2 := hr1.cell_ 2 rfl; have f2 := hr1.frozen 2; clear hr1)
                    all_goals
                      clear hwr q2a
                      go_wp2_with fail
                      go_roundw
                      case measure => simp [intOf]; omega
                      case rel =>
                        have P := HD.appended hown1 hg1 hat1 (l := [b]) (Bytes.nil.cons hbr.1 hbr.2) (by simp only [List.length_cons, List.length_nil]; have := HOL.out; omega)
                        rw [show (o ++ [b]).length = o.length + 1 by rw [List.length_append]; rfl] at P
                        refine ⟨k + 1, by omega, by go_num, o ++ [b], _, by rw [List.length_append, HOL.out]; rfl, ?_, HS'.out.trans ((HS'.out.rep.same ((Kp.refl [] wr).drew)).trans P)⟩
                        unfold Hid
                        rw [← HCK.out, show n - k = (n - (k + 1)) + 1 by omega, copyM, show o.length - far = j by have := HJ.out; omega, HB.out]
                  · have hke : k = n := by omega
                    subst hke
                    rw [Nat.sub_self] at HCK
                    have HE2 : Hid (o = copyM far k s7.out) := HCK.out
                    clear HCK
                    go_wp2
                    go_end0
                    rw [HE2.out] at hS
                    exact IPost.ok (a := ()) HCP.out hS
              · clear hp
                go_wp2_with fail
                exact ⟨rfl, IPost.err (by simp only [mBack, mBind, HL.out, mNeed, if_true, HM2.out, HM3.out, HD.out, HM5.out, HF.out, HMF.out, HN.out, HM7.out]) (S2.fail (S3.fail (S5.fail hk7)))⟩
            · have HMF : Hid (mFar far s5 = .error 10) := by unfold Hid mFar; rw [if_neg hfl]
              rw [show decide ((far : Int) ≤ (s5.out.length : Int)) = false from decide_eq_false (by omega)]
              refine (need_no 10 _).mono ?_
              rintro e w6 ⟨rfl, rfl⟩
              go_wp2_with fail
              exact ⟨rfl, IPost.err (by simp only [mBack, mBind, HL.out, mNeed, if_true, HM2.out, HM3.out, HD.out, HM5.out, HF.out, HMF.out]) (S2.fail (S3.fail (S5.fail (Kp.refl _ _))))⟩
          · clear hp
            go_wp2_with fail
            exact ⟨rfl, IPost.err (by simp only [mBack, mBind, HL.out, mNeed, if_true, HM2.out, HM3.out, HD.out, HM5.out]) (S2.fail (S3.fail hk5))⟩
      · clear hp
        go_wp2_with fail
        exact ⟨rfl, IPost.err (by simp only [mBack, mBind, HL.out, mNeed, if_true, HM2.out, HM3.out]) (S2.fail hk3)⟩
    · clear hp
      go_wp2_with fail
      exact ⟨rfl, IPost.err (by simp only [mBack, mBind, HL.out, mNeed, if_true, HM2.out]) hk2⟩
end Go.Proofs.Ytoaebpjjfglnnaa

/- The unpacking reader: the symbols of a block. -/
namespace Go.Proofs.Ytoaebpjjfglnnaa
open Go.RowKit Go.Proofs.YtoaebpjjfglnnaaW.PrintWords Go.Proofs.YtoaebpjjfglnnaaW.PrintLast Go.Proofs.YtoaebpjjfglnnaaW.PrintMore
attribute [local go_sem] max2_int min2_int max_two min_two max_three min_three max_four min_four

/-- All the symbols of a block. -/
def symsM (E : IE) (first other : List Nat) (s : IS) : Except Nat (Unit × IS) := (mSymbols E first other (E.T + 1 - s.at_) s).getD (.error 0)

/-- The place does not go back. -/
def Fwd {α : Type} (E : IE) (m : IM α) : Prop := ∀ s a s', s.at_ ≤ E.T → m s = .ok (a, s') → s.at_ ≤ s'.at_ ∧ s'.at_ ≤ E.T
theorem Fwd.bind {α β : Type} {E : IE} {m : IM α} {f : α → IM β} (h : Fwd E m) (k : ∀ a, Fwd E (f a)) : Fwd E (mBind m f) := by
  intro s b s' hs hm
  unfold mBind at hm
  cases h1 : m s with
  | error e => rw [h1] at hm; cases hm
  | ok r =>
    obtain ⟨a, s1⟩ := r
    rw [h1] at hm
    obtain ⟨p1, p2⟩ := h s a s1 hs h1
    obtain ⟨q1, q2⟩ := k a s1 b s' p2 hm
    exact ⟨Nat.le_trans p1 q1, q2⟩
theorem Fwd.number (E : IE) (n : Nat) : Fwd E (mNumber E n) := by
  intro s a s' hs h
  unfold mNumber at h
  split at h
  · rename_i hle; cases h; exact ⟨by simp only; omega, hle⟩
  · cases h
theorem Fwd.symbol (E : IE) (ls : List Nat) : Fwd E (mSymbol E ls) := by
  intro s a s' hs h
  unfold mSymbol at h
  cases hn : nextM ls E.V E.T s.at_ with
  | ok r =>
    obtain ⟨y, j⟩ := r
    rw [hn] at h
    have := nextM_ok hn hs
    cases h
    exact ⟨by simp only; omega, this.2.1⟩
  | error k => rw [hn] at h; cases h
theorem Fwd.need (E : IE) (b : Bool) (k : Nat) : Fwd E (mNeed b k) := by
  intro s a s' hs h
  unfold mNeed at h
  split at h
  · cases h; exact ⟨Nat.le_refl _, hs⟩
  · cases h
theorem Fwd.room (E : IE) (n : Nat) : Fwd E (mRoom E n) := by
  intro s a s' hs h
  unfold mRoom at h
  split at h
  · cases h; exact ⟨Nat.le_refl _, hs⟩
  · cases h
theorem Fwd.far (E : IE) (n : Nat) : Fwd E (mFar n) := by
  intro s a s' hs h
  unfold mFar at h
  split at h
  · cases h; exact ⟨Nat.le_refl _, hs⟩
  · cases h
theorem Fwd.copy (E : IE) (far n : Nat) : Fwd E (mCopy far n) := by
  intro s a s' hs h
  unfold mCopy at h
  cases h
  exact ⟨Nat.le_refl _, hs⟩
theorem Fwd.put (E : IE) (l : List Int) : Fwd E (mPut l) := by
  intro s a s' hs h
  unfold mPut at h
  cases h
  exact ⟨Nat.le_refl _, hs⟩
theorem Fwd.steps (E : IE) (n : Nat) : Fwd E (mSteps n) := by
  intro s a s' hs h
  unfold mSteps at h
  cases h
  exact ⟨Nat.le_refl _, hs⟩
theorem Fwd.pure {α : Type} (E : IE) (a : α) : Fwd E (mPure a) := by
  intro s a s' hs h
  unfold mPure at h
  cases h
  exact ⟨Nat.le_refl _, hs⟩
theorem Fwd.back (E : IE) (sym : Nat) (ls : List Nat) : Fwd E (mBack E sym ls) :=
  (Fwd.need E _ _).bind fun _ => (Fwd.number E _).bind fun _ => (Fwd.symbol E _).bind fun _ => (Fwd.need E _ _).bind fun _ => (Fwd.number E _).bind fun _ => (Fwd.far E _).bind fun _ => (Fwd.room E _).bind fun _ => Fwd.copy E _ _

set_option maxRecDepth 100000 in
set_option maxHeartbeats 4000000 in
theorem syms_any (R : Nat → Nat → Nat) (E : IE) (hE : E.Ok) (br bb pc pd : Nat) (ls ds : List Nat) (A : Option Addr) (c : Nat) (w : World) (ov : Value) (s : IS) (h : RepI E br bb A c w ov s) (hc : HCode R w pc ls) (hd : HCode R w pd ds) (hls : ls.length ≤ 320) (hds : ds.length ≤ 320) :
    Calls Try.prog 48 #[.pointer (some ⟨br, 0, none⟩), .pointer (some ⟨pc, 0, none⟩), .pointer (some ⟨pd, 0, none⟩)] w (IPost encU E br bb A c w ov (symsM E ls ds s)) := by
  have HH := Lib.hid h
  have HE := Lib.hid hE
  have HC := Lib.hid hc
  have HD := Lib.hid hd
  have hT := h.ok.at_le
  clear h hE hc hd
  go_enter Try.func48, Try.ntmps48
  go_wp2_with fail
  go_loopg [6] (E.T + 1 - s.at_) (fun k _ wr => ∃ s' ov', Hid (mSymbols E ls ds k s' = mSymbols E ls ds (E.T + 1 - s.at_) s) ∧ E.T < s'.at_ + k ∧ Hid (StepI E br bb A c w ov wr ov' s'))
  case atStart => exact ⟨s, ov, rfl, by omega, HH.out.refl⟩
  case round =>
    obtain ⟨s1, ov1, HM, hk, HS⟩ := hrel
    have hT1 := HS.out.rep.ok.at_le
    obtain ⟨f, rfl⟩ : ∃ f, gk = f + 1 := ⟨gk - 1, by omega⟩
    go_wp2_with fail
    refine (symbol_any R E HE.out br bb pc ls A c wr ov1 s1 HS.out.rep (HC.out.kp HS.out.kp (other_turns HH.out)) (by omega)).mono ?_
    intro e w2 hp
    rcases hp.cases with ⟨x, s2, ov2, HM2, rfl, S2⟩ | ⟨k, HM2, rfl, hk2⟩
    · clear hp
      obtain ⟨-, ha2, hst2, ho2⟩ := mSymbol_ok HM2.out hT1
      have hstep := HS.out.rep.ok.steps_le
      obtain ⟨-, -, -, q4, -⟩ := S2.rep.cells
      have f4 := S2.rep.r.frozen 4
      have hT2 := S2.rep.ok.at_le
      have hss : s2.steps ≤ 17592186044416 := by have := HE.out.len; have := S2.rep.ok.steps_le; unfold IE.T at hT2; omega
      have S3 : StepI E br bb A c w2 ov2 (w2.setCell ⟨br, 4, none⟩ (.int .i64 ((s2.steps : Int) + 1))) ov2 { s2 with steps := s2.steps + 1 } := S2.rep.setSteps 1 (by omega)
      have HMS : Hid (mSteps 1 s2 = .ok ((), { s2 with steps := s2.steps + 1 })) := rfl
      obtain ⟨s3, hs3⟩ : ∃ s3 : IS, { s2 with steps := s2.steps + 1 } = s3 := ⟨_, rfl⟩
      rw [hs3] at S3 HMS
      have ha3 : s3.at_ = s2.at_ := by rw [← hs3]
      have ho3 : s3.out = s2.out := by rw [← hs3]
      clear hs3 hst2
      have HS3 := Lib.hid ((HS.out.trans S2).trans S3)
      clear S2 S3 ho2 hstep
      by_cases hx : x = 256
      · subst hx
        have HO := Lib.hid (And.intro ha3 ho3)
        clear ha3 ho3
        go_wp2_with fail
        refine bodyPost_ret (results_none rfl _ _ _) rfl ?_
        refine IPost.ok (a := ()) ?_ HS3.out
        unfold symsM
        rw [← HM.out, mSymbols]
        simp only [mSym1, mBind, HM2.out, HMS.out, if_true, mPure, Option.getD]
      · have hx1 : ((x : Int) == 256) = false := by simp; omega
        by_cases hx2 : x < 256
        · have hx3 : decide ((x : Int) < 256) = true := decide_eq_true (by omega)
          have hwx : IntKind.u8.wrap (x : Int) = (x : Int) := by rw [IntKind.wrap_u8]; omega
          have HX := Lib.hid (And.intro hx hx2)
          have HO := Lib.hid (And.intro ha3 ho3)
          clear hx hx2 ha3 ho3
          go_wp2_with fail
          refine (room_any E HE.out br bb A c 1 _ ov2 s3 HS3.out.rep (by decide)).mono ?_
          clear q4 f4
          intro e w4 hp
          rcases hp.cases with ⟨_, s4, ov4, HM4, rfl, S4⟩ | ⟨k, HM4, rfl, hk4⟩
          · clear hp
            obtain ⟨rfl, hrl⟩ := mRoom_ok HM4.out
            obtain ⟨A4, c4, rfl⟩ := own_slice S4.rep.own
            obtain ⟨-, -, q2, -⟩ := S4.rep.cells
            have hol := S4.rep.ok.out_le
            have hlim := HE.out.lim
            have HRL := Lib.hid hrl
            clear hrl
            go_wp2_with (at_builtin; refine print_append_num 0 rfl (.tmp 36) (.tmp 39) 22 5 .u8 1 rfl Try.underlying22 info5 (by decide) (.slice A4 s4.out.length c4) s4.out (x : Int) rfl rfl S4.rep.own (Below.refl 0 _) (Nat.zero_le _) (by omega) ?_; intro v5 w5 hown5 _ hg5 hat5; obtain ⟨A5, c5, rfl⟩ := own_slice hown5; have hr5 := S4.rep.r.grown hg5 (fun e => S4.rep.own_br e.symm); have d2 := hr5.cell_ 2 rfl; have f2 := hr5.frozen 2; clear hr5)
            go_roundg f
            case measure => omega
            case rel =>
              have P := S4.rep.appended hown5 hg5 hat5 (l := [(x : Int)]) (Bytes.nil.cons (by omega) (by have := HX.out.2; omega)) (by simpa using HRL.out)
              rw [show (s4.out ++ [(x : Int)]).length = s4.out.length + 1 by rw [List.length_append]; rfl] at P
              refine ⟨_, _, ?_, ?_, (HS3.out.trans S4).trans P⟩
              · unfold Hid
                rw [← HM.out, mSymbols]
                simp only [mSym1, mBind, HM2.out, HMS.out, HM4.out, HX.out.1, HX.out.2, if_true, if_false, mPut, mPure]
              · have := HO.out.1; simp only; omega
          · clear hp
            go_wp2_with fail
            refine ⟨rfl, IPost.err ?_ (HS3.out.fail hk4)⟩
            unfold symsM
            rw [← HM.out, mSymbols]
            simp only [mSym1, mBind, HM2.out, HMS.out, HM4.out, HX.out.1, HX.out.2, if_true, if_false, Option.getD]
        · have hx3 : decide ((x : Int) < 256) = false := decide_eq_false (by omega)
          have HX := Lib.hid (And.intro hx hx2)
          have HO := Lib.hid (And.intro ha3 ho3)
          clear hx hx2 ha3 ho3
          go_wp2_with fail
          refine (back_any R E HE.out br bb pd x ds A c _ ov2 s3 HS3.out.rep (HD.out.kp HS3.out.kp (other_turns HH.out)) (by omega)).mono ?_
          clear q4 f4
          intro e w4 hp
          rcases hp.cases with ⟨_, s4, ov4, HM4, rfl, S4⟩ | ⟨k, HM4, rfl, hk4⟩
          · clear hp
            go_wp2_with fail
            go_roundg f
            case measure => omega
            case rel =>
              refine ⟨s4, _, ?_, ?_, HS3.out.trans S4⟩
              · unfold Hid
                rw [← HM.out, mSymbols]
                simp only [mSym1, mBind, HM2.out, HMS.out, HM4.out, HX.out.1, HX.out.2, if_true, if_false, mPut, mPure]
              · have h1 := (Fwd.back E x ds _ _ _ (by rw [HO.out.1]; exact hT2) HM4.out).1
                have := HO.out.1
                omega
          · clear hp
            go_wp2_with fail
            refine ⟨rfl, IPost.err ?_ (HS3.out.fail hk4)⟩
            unfold symsM
            rw [← HM.out, mSymbols]
            simp only [mSym1, mBind, HM2.out, HMS.out, HM4.out, HX.out.1, HX.out.2, if_true, if_false, Option.getD]
    · clear hp
      go_wp2_with fail
      refine ⟨rfl, IPost.err ?_ (HS.out.fail hk2)⟩
      unfold symsM
      rw [← HM.out, mSymbols]
      simp only [mSym1, mBind, HM2.out, Option.getD]
end Go.Proofs.Ytoaebpjjfglnnaa
