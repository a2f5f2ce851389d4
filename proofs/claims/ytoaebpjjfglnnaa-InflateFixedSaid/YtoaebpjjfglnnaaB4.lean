/- A block's codes, a block, Inflate with its deferred function, Reverse; the four calls that every law makes first (contracts, no law). -/
import Derived.Test.YtoaebpjjfglnnaaB3
import Derived.Defers
import Derived.Great.BuildSlice
import Derived.Lib.SlBytesConst
import Derived.Recover
set_option linter.unusedVariables false
set_option linter.unusedSimpArgs false

/- The unpacking reader: the codes of a block. -/
namespace Go.Proofs.Ytoaebpjjfglnnaa
open Go.RowKit Go.Proofs.YtoaebpjjfglnnaaW.PrintWords Go.Proofs.YtoaebpjjfglnnaaW.PrintLast Go.Proofs.YtoaebpjjfglnnaaW.PrintMore
attribute [local go_sem] max2_int min2_int max_two min_two max_three min_three max_four min_four

/-- In which order the lengths of the lengths' code stand. -/
def ordL : List Nat := [16, 17, 18, 0, 8, 7, 9, 6, 10, 5, 11, 4, 12, 3, 13, 2, 14, 1, 15]
def ordA : Array Value := #[.int .i64 16, .int .i64 17, .int .i64 18, .int .i64 0, .int .i64 8, .int .i64 7, .int .i64 9, .int .i64 6, .int .i64 10, .int .i64 5, .int .i64 11, .int .i64 4, .int .i64 12, .int .i64 3, .int .i64 13, .int .i64 2, .int .i64 14, .int .i64 1, .int .i64 15]
theorem under121 : Try.prog.underlying 121 = some (.array 19 3) := by kernel_rfl
theorem size121 : (Try.prog.info? 121).map (·.size) = some ordA.size := by kernel_rfl

set_option maxHeartbeats 4000000 in
set_option maxRecDepth 100000 in
theorem order_any (w : World) : Calls Try.prog 66 #[] w fun e w' => e = .returned (.agg ordA) ∧ Kp [] w w' := by
  go_enter Try.func66, Try.ntmps66
  go_step
  go_step
  go_step
  go_step
  go_step
  go_step
  go_step
  go_step
  go_step
  go_step
  go_step
  refine wpList_buildFlatArrTo rfl 121 3 19 _ rfl .i64 [16, 17, 18, 0, 8, 7, 9, 6, 10, 5, 11, 4, 12, 3, 13, 2, 14, 1, 15] (some 1) rfl under121 (by kernel_rfl) (by kernel_rfl) (by rfl) ?_
  refine wpList_store_rowTo rfl 121 (.tmp 0) (.tmp 1) rfl rfl w.heap.size ordA rfl rfl 121 _ (heap_alloc_new w _) size121 rfl (by kernel_rfl) ?_
  refine wpList_nil ?_
  have hb : Blk ((w.alloc (.cells (Array.replicate 19 (.int .i64 0)) 121)).setRow w.heap.size ordA) w.heap.size 121 ordA := setRow_heap _ _ _ _ _ _ (heap_alloc_new w _)
  have hk : Kp [] w ((w.alloc (.cells (Array.replicate 19 (.int .i64 0)) 121)).setRow w.heap.size ordA) := ((Kp.refl [] w).alloc _).setRow_ (.inr (Nat.le_refl _)) _
  simp only [Exit.then]
  go_step
  go_step
  try go_step
  try go_step
  refine bodyPost_ret (results_cell_row rfl _ _ w.heap.size 121 ordA (0, 0) _ rfl hb under121 rfl size121) rfl ?_
  exact ⟨rfl, hk⟩
end Go.Proofs.Ytoaebpjjfglnnaa

/- The unpacking reader: the codes of a block. -/
namespace Go.Proofs.Ytoaebpjjfglnnaa
open Go.RowKit Go.Proofs.YtoaebpjjfglnnaaW.PrintWords Go.Proofs.YtoaebpjjfglnnaaW.PrintLast Go.Proofs.YtoaebpjjfglnnaaW.PrintMore
attribute [local go_sem] max2_int min2_int max_two min_two max_three min_three max_four min_four

/-- The lengths of the lengths' code, in their order. -/
def mLens (E : IE) : List Nat → List Nat → IM (List Nat)
  | [], ls => mPure ls
  | i :: is, ls => mBind (mNumber E 3) fun x => mLens E is (ls.set i x)
def mCodes (E : IE) : IM (List Nat × List Nat) :=
  mBind (mNumber E 5) fun a => mBind (mNumber E 5) fun b => mBind (mNumber E 4) fun c => mBind (mNeed (decide (a ≤ 29) && decide (b ≤ 29)) 10) fun _ =>
  mBind (mLens E (ordL.take (c + 4)) (List.replicate 19 0)) fun cl => mBind (mNeed (okCode cl false false) 10) fun _ =>
  mBind (mRows E cl (a + 257 + b + 1)) fun ls => mBind (mNeed (decide (0 < ls.getD 256 0)) 10) fun _ =>
  mBind (mNeed (okCode (ls.take (a + 257)) true false) 10) fun _ => mBind (mNeed (okCode (ls.drop (a + 257)) true true) 10) fun _ => mPure (ls.take (a + 257), ls.drop (a + 257))

theorem own_C {k : IntKind} {e : TypeId} {w : World} {v : Value} {xs : List Int} (h : Own k e w v xs) : ∃ A c, v = .slice A xs.length c ∧ xs.length ≤ c ∧ (Kd.int k).C w A xs.length xs := by
  obtain ⟨A, c, hv, hr⟩ := own_reads h
  refine ⟨A, c, hv, ?_, C_of_reads hr⟩
  subst hv
  rcases h.2 with ⟨h3, h4⟩ | ⟨g, cap, cur, h3, _, _, h5, _⟩
  · injection h3; omega
  · injection h3 with _ _ h6; omega
theorem len121 : Try.prog.arrayLen 121 = 19 := by kernel_rfl
theorem elem121 : Try.prog.elem 121 = 3 := by kernel_rfl
theorem cutOrd (go n : Nat) (hn : n + 4 ≤ 19) : ∀ W : World, (Instr.sliceAt 121 (.pointer (some ⟨go, 0, none⟩)) none (some (.int .i64 ((n : Int) + 4))) none).run Try.prog W = .ok (.slice (some ⟨go, 0, none⟩) (n + 4) 19) W := by
  intro W
  obtain ⟨i3, hi3, hz3, hsz3, hb3⟩ := info_parts info3
  rw [run_sliceAt_array_h W 121 ⟨go, 0, none⟩ (by rw [len121, elem121]; exact under121) .i64 ((n : Int) + 4) (by omega) (by rw [len121]; omega), elem121, len121]
  simp [sizeOf, typeInfo, hi3, slicedAt, Result.andThen, Addr.add]
  omega
/-- Bounds of what rows tells. -/
theorem mRow_ok {E : IE} {cl acc : List Nat} {s s' : IS} {it : Nat × Nat} (hcl : cl.length = 19) (hs : s.at_ ≤ E.T) (h : mRow E cl acc s = .ok (it, s')) : s'.at_ ≤ E.T ∧ (it.1 ≤ 18) ∧ (it.1 = 16 → 0 < acc.length) := by
  unfold mRow mBind at h
  cases hx : mSymbol E cl s with
  | error k => rw [hx] at h; cases h
  | ok r =>
    obtain ⟨x, s1⟩ := r
    rw [hx] at h
    have h1 := mSymbol_ok hx hs
    have h2 := (Fwd.symbol E cl) s x s1 hs hx
    simp only at h
    have hn : ∀ n, ∀ y s2, mNumber E n s1 = .ok (y, s2) → s2.at_ ≤ E.T := fun n y s2 hy => ((Fwd.number E n) s1 y s2 h2.2 hy).2
    by_cases h16 : x = 16
    · rw [if_pos h16] at h
      cases hy : mNumber E 2 s1 with
      | error k => rw [hy] at h; cases h
      | ok r =>
        obtain ⟨y, s2⟩ := r
        rw [hy] at h
        simp only [mNeed, mPure] at h
        by_cases h0 : 0 < acc.length
        · simp only [h0, decide_true, if_true] at h
          cases h
          exact ⟨hn _ _ _ hy, by simp, fun _ => h0⟩
        · simp only [h0, decide_false, Bool.false_eq_true, if_false] at h
          cases h
    · rw [if_neg h16] at h
      by_cases h17 : x = 17
      · rw [if_pos h17] at h
        simp only [mBind, mPure] at h
        cases hy : mNumber E 3 s1 with
        | error k => rw [hy] at h; cases h
        | ok r => obtain ⟨y, s2⟩ := r; rw [hy] at h; cases h; exact ⟨hn _ _ _ hy, by simp, fun h => by simp at h⟩
      · rw [if_neg h17] at h
        by_cases h18 : x = 18
        · rw [if_pos h18] at h
          simp only [mBind, mPure] at h
          cases hy : mNumber E 7 s1 with
          | error k => rw [hy] at h; cases h
          | ok r => obtain ⟨y, s2⟩ := r; rw [hy] at h; cases h; exact ⟨hn _ _ _ hy, by simp, fun h => by simp at h⟩
        · rw [if_neg h18] at h
          simp only [mPure] at h
          cases h
          exact ⟨h2.2, by simp only; omega, fun h => absurd h h16⟩
theorem stepU_15 {acc : List Nat} {it : Nat × Nat} (h : ∀ l ∈ acc, l ≤ 15) : ∀ l ∈ stepU acc it, l ≤ 15 := by
  intro l hl
  unfold stepU at hl
  rcases List.mem_append.1 hl with h1 | h1
  · exact h l h1
  · have e := List.eq_of_mem_replicate h1
    subst e
    unfold rowM
    split
    · assumption
    · split
      · simp only
        rw [List.getLastD_eq_getLast?]
        cases hg : acc.getLast? with
        | none => exact Nat.zero_le _
        | some y => exact h y (List.mem_of_getLast? hg)
      · split <;> exact Nat.zero_le _
theorem mRowsL_ok {E : IE} {cl : List Nat} {total : Nat} (hcl : cl.length = 19) : ∀ {k : Nat} {acc ls : List Nat} {s s' : IS}, s.at_ ≤ E.T → (∀ l ∈ acc, l ≤ 15) → mRowsL E cl total k acc s = .ok (ls, s') → s'.at_ ≤ E.T ∧ s.at_ ≤ s'.at_ ∧ ∀ l ∈ ls, l ≤ 15
  | 0, acc, ls, s, s', hs, ha, h => by
    simp only [mRowsL, mPure] at h
    cases h
    exact ⟨hs, Nat.le_refl _, ha⟩
  | k + 1, acc, ls, s, s', hs, ha, h => by
    rw [mRowsL] at h
    by_cases hlt : acc.length < total
    · rw [if_pos hlt] at h
      unfold mBind at h
      cases hr : mRow E cl acc s with
      | error k => rw [hr] at h; cases h
      | ok r =>
        obtain ⟨it, s1⟩ := r
        rw [hr] at h
        have h1 := mRow_ok hcl hs hr
        have h2 := mRowsL_ok hcl h1.1 (stepU_15 ha) h
        refine ⟨h2.1, ?_, h2.2.2⟩
        refine Nat.le_trans ?_ h2.2.1
        unfold mRow mBind at hr
        cases hx : mSymbol E cl s with
        | error k => rw [hx] at hr; cases hr
        | ok r =>
          obtain ⟨x, s3⟩ := r
          rw [hx] at hr
          have g1 := (Fwd.symbol E cl) s x s3 hs hx
          refine Nat.le_trans g1.1 ?_
          have hf : Fwd E (if x = 16 then mBind (mNumber E 2) fun x => mBind (mNeed (decide (0 < acc.length)) 10) fun _ => mPure (16, x) else if x = 17 then mBind (mNumber E 3) fun x => mPure (17, x) else if x = 18 then mBind (mNumber E 7) fun x => mPure (18, x) else mPure (x, 0)) := by
            split
            · exact (Fwd.number E 2).bind fun _ => (Fwd.need E _ _).bind fun _ => Fwd.pure E _
            · split
              · exact (Fwd.number E 3).bind fun _ => Fwd.pure E _
              · split
                · exact (Fwd.number E 7).bind fun _ => Fwd.pure E _
                · exact Fwd.pure E _
          exact (hf s3 it s1 g1.2 hr).1
    · rw [if_neg hlt] at h
      cases h
      exact ⟨hs, Nat.le_refl _, ha⟩
theorem mRows_ok {E : IE} {cl : List Nat} {total : Nat} {ls : List Nat} {s s' : IS} (hcl : cl.length = 19) (hs : s.at_ ≤ E.T) (h : mRows E cl total s = .ok (ls, s')) : ls.length = total ∧ ∀ l ∈ ls, l ≤ 15 := by
  unfold mRows mBind at h
  cases hr : mRowsL E cl total total [] s with
  | error k => rw [hr] at h; cases h
  | ok r =>
    obtain ⟨acc, s1⟩ := r
    rw [hr] at h
    have h1 := mRowsL_ok hcl hs (by simp) hr
    simp only [mNeed, mPure] at h
    by_cases he : acc.length = total
    · simp only [he, decide_true, if_true] at h
      cases h
      exact ⟨he, h1.2.2⟩
    · simp only [he, decide_false, Bool.false_eq_true, if_false] at h
      cases h

/-- What a call of codes comes to. -/
def CodesPost (R : Nat → Nat → Nat) (E : IE) (br bb : Nat) (A : Option Addr) (c : Nat) (w : World) (ov : Value) (r : Except Nat ((List Nat × List Nat) × IS)) (e : Ending) (w' : World) : Prop :=
  match r with
  | .ok ((ls, ds), s') => ∃ pc pd, e = .returned (.tuple #[.pointer (some ⟨pc, 0, none⟩), .pointer (some ⟨pd, 0, none⟩)]) ∧ HCode R w' pc ls ∧ HCode R w' pd ds ∧ ∃ ov', StepI E br bb A c w ov w' ov' s'
  | .error k => e = .panicked (faultP k) ∧ Kp (turns br bb ov) w w'
theorem CodesPost.err {R : Nat → Nat → Nat} {E : IE} {br bb : Nat} {A : Option Addr} {c : Nat} {w w' : World} {ov : Value} {r : Except Nat ((List Nat × List Nat) × IS)} {k : Nat} (hr : r = .error k) (h : Kp (turns br bb ov) w w') : CodesPost R E br bb A c w ov r (.panicked (faultP k)) w' := by
  rw [hr]; exact ⟨rfl, h⟩
theorem CodesPost.ok {R : Nat → Nat → Nat} {E : IE} {br bb : Nat} {A : Option Addr} {c : Nat} {w w' : World} {ov ov' : Value} {r : Except Nat ((List Nat × List Nat) × IS)} {ls ds : List Nat} {s' : IS} {pc pd : Nat} (hr : r = .ok ((ls, ds), s')) (h1 : HCode R w' pc ls) (h2 : HCode R w' pd ds) (h : StepI E br bb A c w ov w' ov' s') :
    CodesPost R E br bb A c w ov r (.returned (.tuple #[.pointer (some ⟨pc, 0, none⟩), .pointer (some ⟨pd, 0, none⟩)])) w' := by
  rw [hr]; exact ⟨pc, pd, rfl, h1, h2, ov', h⟩
theorem CodesPost.cases {R : Nat → Nat → Nat} {E : IE} {br bb : Nat} {A : Option Addr} {c : Nat} {w w' : World} {ov : Value} {r : Except Nat ((List Nat × List Nat) × IS)} {e : Ending} (h : CodesPost R E br bb A c w ov r e w') :
    (∃ ls ds s' pc pd ov', Hid (r = .ok ((ls, ds), s')) ∧ e = .returned (.tuple #[.pointer (some ⟨pc, 0, none⟩), .pointer (some ⟨pd, 0, none⟩)]) ∧ HCode R w' pc ls ∧ HCode R w' pd ds ∧ StepI E br bb A c w ov w' ov' s') ∨ (∃ k, Hid (r = .error k) ∧ e = .panicked (faultP k) ∧ Kp (turns br bb ov) w w') := by
  cases r with
  | ok p => obtain ⟨⟨ls, ds⟩, s'⟩ := p; obtain ⟨pc, pd, h1, h2, h3, ov', h4⟩ := h; exact .inl ⟨ls, ds, s', pc, pd, ov', rfl, h1, h2, h3, h4⟩
  | error k => exact .inr ⟨k, rfl, h.1, h.2⟩

set_option maxHeartbeats 8000000 in
set_option maxRecDepth 100000 in
theorem codes_any (R : Nat → Nat → Nat) (hR : RevC R) (E : IE) (hE : E.Ok) (br bb : Nat) (A : Option Addr) (c : Nat) (w : World) (ov : Value) (s : IS) (h : RepI E br bb A c w ov s) :
    Calls Try.prog 49 #[.pointer (some ⟨br, 0, none⟩)] w (CodesPost R E br bb A c w ov (mCodes E s)) := by
  have HH := Lib.hid h
  have HE := Lib.hid hE
  have HR := Lib.hid hR
  clear h hE hR
  have hmk : ∀ W : World, (Instr.makeSlice 29 (.int .i64 19) (.int .i64 19)).run Try.prog W = .ok (.slice (some ⟨W.heap.size, 0, none⟩) 19 19) (W.alloc (.cells (madeCells #[.int .i64 0] 19) 3)) := print_make (P := Try.prog) 29 3 .i64 8 Try.underlying29 info3 (by decide) 19 (by omega)
  go_enter Try.func49, Try.ntmps49
  go_wp2_with fail
  refine (number_any E HE.out br bb A c 5 w ov s HH.out (by decide)).mono ?_
  intro e w1 hp
  rcases hp.cases with ⟨a, s1, ov1, HM1, rfl, S1⟩ | ⟨k, HM1, rfl, hk1⟩
  · clear hp
    have ha := mNumber_lt HM1.out
    go_wp2_with fail
    refine (number_any E HE.out br bb A c 5 w1 ov1 s1 S1.rep (by decide)).mono ?_
    intro e w2 hp
    rcases hp.cases with ⟨b, s2, ov2, HM2, rfl, S2⟩ | ⟨k, HM2, rfl, hk2⟩
    · clear hp
      have hb := mNumber_lt HM2.out
      go_wp2_with fail
      refine (number_any E HE.out br bb A c 4 w2 ov2 s2 S2.rep (by decide)).mono ?_
      intro e w3 hp
      rcases hp.cases with ⟨n, s3, ov3, HM3, rfl, S3⟩ | ⟨k, HM3, rfl, hk3⟩
      · clear hp
        have hn := mNumber_lt HM3.out
        by_cases hab : a ≤ 29 ∧ b ≤ 29
        · have d1 : decide ((a : Int) ≤ 29) = true := decide_eq_true (by omega)
          have d2 : decide ((b : Int) ≤ 29) = true := decide_eq_true (by omega)
          have HAB : Hid ((decide (a ≤ 29) && decide (b ≤ 29)) = true) := by unfold Hid; simp [hab]
          obtain ⟨hab1, hab2⟩ := hab
          go_wp2_with fail
          refine (need_yes 10 _).mono ?_
          rintro e w4 ⟨rfl, rfl⟩
          go_wp2_with fail
          refine (order_any _).mono ?_
          rintro e w5 ⟨rfl, hk5⟩
          dsimp only
          iterate 4 go_step
          refine wpList_store_rowTo rfl 121 (.tmp 8) (.tmp 26) rfl rfl w5.heap.size ordA rfl rfl 121 _ (heap_alloc_new w5 _) size121 rfl (by kernel_rfl) ?_
          generalize hw6 : World.setRow _ w5.heap.size ordA = w6
          have bo : Blk w6 w5.heap.size 121 ordA := by rw [← hw6]; exact setRow_heap _ _ _ _ _ _ (heap_alloc_new w5 _)
          have ko : Kp [] w5 w6 := by rw [← hw6]; exact ((Kp.refl [] w5).alloc _).setRow_ (.inr (Nat.le_refl _)) _
          clear hw6
          have kl : Kp [] w3 (w3.alloc (.cells (madeCells #[.int .i64 0] 19) 3)) := (Kp.refl [] w3).alloc _
          have bl : Blk w6 w3.heap.size 3 (nums .i64 ((List.replicate 19 0).map Int.ofNat)).toArray := by
            have b0 : Blk (w3.alloc (.cells (madeCells #[Value.int .i64 0] 19) 3)) w3.heap.size 3 (List.replicate 19 (Value.int .i64 0)).toArray := by
              have := Blk.new w3 3 (madeCells #[Value.int .i64 0] 19)
              rwa [← made_rep]
            exact (b0.kp hk5 (by simp)).kp ko (by simp)
          have S6 := (((S1.trans S2).trans S3).off ((kl.then_ hk5).then_ ko) (by simp) (by simp))
          have hg3 := S3.kp.size
          have hgl : w.heap.size ≤ w3.heap.size := ((S1.trans S2).trans S3).kp.size
          have hgo : w.heap.size ≤ w5.heap.size := Nat.le_trans hgl (kl.then_ hk5).size
          have hne : w3.heap.size ≠ w5.heap.size := by have := hk5.size; simp at this; omega
          obtain ⟨gl, hgl0⟩ : ∃ gl, w3.heap.size = gl := ⟨_, rfl⟩
          obtain ⟨go, hgo0⟩ : ∃ go, w5.heap.size = go := ⟨_, rfl⟩
          rw [hgl0] at bl hgl hne ⊢
          rw [hgo0] at bo hgo hne ⊢
          clear ko kl hk5 hg3 hgl0 hgo0
          have hn4 : n + 4 ≤ 19 := by have : n < 16 := hn; omega
          have hcut := cutOrd go n hn4
          clear hmk
          go_wp2_with fail
          clear hcut
          have HZ : Hid (∀ l ∈ List.replicate 19 0, l ≤ 15) := by intro l hl; have := List.eq_of_mem_replicate hl; omega
          go_loopw [10, 31] (fun _ i wr => ∃ (k : Nat) (ls : List Nat) (s' : IS) (ov' : Value), k ≤ n + 4 ∧ i = .int .i64 k ∧ ls.length = 19 ∧ Hid (Blk wr gl 3 (nums .i64 (ls.map Int.ofNat)).toArray) ∧ Hid (Blk wr go 121 ordA) ∧ Hid (∀ l ∈ ls, l ≤ 15) ∧
              Hid (mLens E ((ordL.take (n + 4)).drop k) ls s' = mLens E (ordL.take (n + 4)) (List.replicate 19 0) s3) ∧ Hid (StepI E br bb A c w ov wr ov' s')) (fun _ i _ => n + 4 - (intOf i).toNat)
          case atStart => exact ⟨0, List.replicate 19 0, s3, ov3, Nat.zero_le _, rfl, by simp, bl, bo, HZ.out, rfl, S6⟩
          case round =>
            obtain ⟨k, ls, s7, ov7, hk, rfl, hll, HBL, HBO, HLS, HM, HS7⟩ := hrel
            clear bl bo S6
            by_cases hlt : k < n + 4
            · have hkl : (k : Int) < (n : Int) + 4 := by omega
              obtain ⟨o, ho⟩ : ∃ o, ordL[k]? = some o := ⟨_, List.getElem?_eq_getElem (by show k < 19; omega)⟩
              have ho19 : o < 19 := by
                have : ∀ j < 19, ∀ o, ordL[j]? = some o → o < 19 := by decide
                exact this k (by omega) o ho
              have co : wr.cell? ⟨go, k, none⟩ = some (.int .i64 (o : Nat)) := HBO.out.cell_ k (by rw [show ordA = (ordL.map fun x : Nat => Value.int .i64 (x : Int)).toArray from rfl]; simp [ho])
              have hol : (o : Int) < 19 := by omega
              have HDR : Hid ((ordL.take (n + 4)).drop k = o :: (ordL.take (n + 4)).drop (k + 1)) := by
                unfold Hid
                have h1 : (ordL.take (n + 4))[k]? = some o := by rw [List.getElem?_take_of_lt hlt]; exact ho
                have h2 : k < (ordL.take (n + 4)).length := (List.getElem?_eq_some_iff.1 h1).1
                rw [List.drop_eq_getElem_cons h2]
                congr 1
                exact (List.getElem?_eq_some_iff.1 h1).2
              go_wp2_with fail
              refine (number_any E HE.out br bb A c 3 wr ov7 s7 HS7.out.rep (by decide)).mono ?_
              intro e w8 hp
              rcases hp.cases with ⟨x, s8, ov8, HM8, rfl, S8⟩ | ⟨k8, HM8, rfl, hk8⟩
              · clear hp
                have hx := mNumber_lt HM8.out
                have hx8 : x < 8 := hx
                clear hx
                have bl8 := HBL.out.kp S8.kp (HS7.out.rep.turn_ne HBL.out (by decide) (by decide) (by decide))
                have bo8 := HBO.out.kp S8.kp (HS7.out.rep.turn_ne HBO.out (by decide) (by decide) (by decide))
                have cl8 : (w8.cell? ⟨gl, o, none⟩).isSome = true := by
                  rw [Blk.cell bl8 o]; simp [nums]; omega
                obtain ⟨old, hold⟩ := Option.isSome_iff_exists.1 cl8
                have fl8 := bl8.frozen o
                clear cl8
                go_wp2_with fail
                have k9 : Kp [gl] w8 (w8.setCell ⟨gl, o, none⟩ (.int .i64 (x : Nat))) := (Kp.refl _ _).set_ (by simp) _
                have S9 := (HS7.out.trans S8).off1 k9 bl8 (by decide) (by decide) (by decide) hgl
                have bl9 : Blk (w8.setCell ⟨gl, o, none⟩ (.int .i64 (x : Nat))) gl 3 (nums .i64 ((ls.set o x).map Int.ofNat)).toArray := by
                  have := bl8.set_ o (.int .i64 (x : Nat))
                  rwa [show ((nums .i64 (ls.map Int.ofNat)).toArray.setIfInBounds o (.int .i64 (x : Nat))) = (nums .i64 ((ls.set o x).map Int.ofNat)).toArray by simp [nums, List.map_set]] at this
                have bo9 := bo8.kp k9 (by simp; exact fun e => hne e.symm)
                refine ⟨⟨k + 1, ls.set o x, s8, ov8, by omega, by go_num, by rw [List.length_set]; exact hll, bl9, bo9, ?_, ?_, S9⟩, by simp [intOf]; omega⟩
                · intro l hl
                  rcases List.mem_or_eq_of_mem_set hl with h | h
                  · exact HLS.out l h
                  · omega
                · unfold Hid
                  rw [← HM.out, HDR.out, mLens, mBind, HM8.out]
              · clear hp
                have HME : Hid (mLens E (ordL.take (n + 4)) (List.replicate 19 0) s3 = .error k8) := by
                  unfold Hid
                  rw [← HM.out, HDR.out, mLens, mBind, HM8.out]
                go_wp2_with fail
                exact ⟨rfl, CodesPost.err (by simp only [mCodes, mBind, HM1.out, HM2.out, HM3.out, mNeed, HAB.out, if_true, HME.out]) (HS7.out.fail hk8)⟩
            · obtain rfl : k = n + 4 := by omega
              have HML : Hid (mLens E (ordL.take (n + 4)) (List.replicate 19 0) s3 = .ok (ls, s7)) := by
                unfold Hid
                rw [← HM.out, List.drop_eq_nil_of_le (by rw [List.length_take]; omega)]
                rfl
              have hO := Blk.own HBL.out (by rw [List.length_map]; omega)
              obtain ⟨A1, q1, hv1, HRD⟩ := own_reads hO
              rw [List.length_map] at hv1 HRD hO
              injection hv1 with hv1 _ hv2
              subst hv1
              have HCC := C_of_reads HRD
              rw [hll] at hO hv2
              subst hv2
              clear HRD hO
              have hkl : decide ((n : Int) + 4 < (n : Int) + 4) = false := by simp
              have hcd := code_any R HR.out (some ⟨gl, 0, none⟩) 19 ls false false wr HCC (by omega) HLS.out
              rw [hll] at hcd
              have HCD := Lib.hid hcd
              clear hcd HCC
              go_wp2_with fail
              refine HCD.out.mono ?_
              rintro e w9 ⟨hk9, hok9⟩
              by_cases hok : okCode ls false false = true
              · rw [if_pos hok] at hok9
                obtain ⟨pc, rfl, hh9, hp9⟩ := hok9
                have HOK := Lib.hid hok
                have S9 := HS7.out.off hk9 (by simp) (by simp)
                clear hok
                go_wp2_with fail
                obtain ⟨tot, htot⟩ : ∃ tot : Nat, ((a : Int) + 257 + b + 1) = tot := ⟨a + 257 + b + 1, by omega⟩
                have ht2 : a + 257 + b + 1 = tot := by omega
                rw [htot]
                have HT := Lib.hid htot
                have HT2 := Lib.hid ht2
                have ht3 : tot ≤ 320 := by omega
                clear htot ht2
                refine (rows_any R E HE.out br bb pc ls tot A c w9 ov7 s7 S9.rep hh9 hll ht3).mono ?_
                intro e w10 hp
                rcases hp.cases with ⟨all, s10, v10, ov10, HMA, rfl, hv10, hf10, S10⟩ | ⟨k10, HMA, rfl, hk10⟩
                · clear hp
                  obtain ⟨hal, ha15⟩ := mRows_ok hll S9.rep.ok.at_le HMA.out
                  obtain ⟨A2, c2, rfl, c2le, hC2⟩ := own_C hv10
                  rw [List.length_map] at c2le
                  simp only [List.length_map] at hC2
                  rw [show (List.map Int.ofNat all).length = tot by rw [List.length_map]; exact hal]
                  have h256 : 256 < all.length := by rw [hal]; have := HT2.out; omega
                  obtain ⟨ad, had, hcell⟩ := lens_at hC2 256 h256
                  subst had
                  rw [hal] at h256
                  have h256i : (256 : Int) < (tot : Int) := by omega
                  obtain ⟨x, hx⟩ : ∃ x, all.getD 256 0 = x := ⟨_, rfl⟩
                  rw [hx] at hcell
                  have HX := Lib.hid hx
                  rw [Addr.add_succ' ad 255] at hcell
                  replace hcell : w10.cell? ⟨ad.block, ad.off + 256, none⟩ = some (.int .i64 (x : Nat)) := hcell
                  have HCC := Lib.hid hC2
                  have HLL := Lib.hid hal
                  have HV10 := Lib.hid hv10
                  have HF10 := Lib.hid hf10
                  have HC2L := Lib.hid c2le
                  have HA15 := Lib.hid ha15
                  clear hx hC2 hv10 hf10 c2le ha15
                  have S10' := S9.trans S10
                  obtain ⟨j, hj⟩ : ∃ j, a + 257 = j := ⟨_, rfl⟩
                  have hji : ((a : Int) + 257) = (j : Int) := by omega
                  obtain ⟨i3, hi3, hz3, hsz3, hb3⟩ := info_parts info3
                  have hcutT := cut_to (P := Try.prog) 29 3 .i64 Try.underlying29 hi3 (some ad) tot c2 ((a : Int) + 257) (by omega) (by have := HT2.out; omega) (by have := HC2L.out; omega)
                  have hcutF := cut_from (P := Try.prog) 29 3 .i64 Try.underlying29 hi3 1 hsz3 (some ad) tot c2 ((a : Int) + 257) (by omega) (by have := HT2.out; omega)
                  rw [show ((a : Int) + 257).toNat = j by omega] at hcutT hcutF
                  obtain ⟨A3, hA3⟩ : ∃ A3, (if c2 = j then some ad else (some ad).map (·.add (j * 1))) = A3 := ⟨_, rfl⟩
                  rw [hA3] at hcutF
                  have HA3 := Lib.hid hA3
                  clear hA3
                  have HJ := Lib.hid hj
                  have HJI := Lib.hid hji
                  clear hj hji hi3 hz3 hsz3 hb3 hal
                  by_cases hx0 : 0 < x
                  · have dx : decide ((0 : Int) < (x : Int)) = true := decide_eq_true (by omega)
                    go_wp2_with fail
                    refine (need_yes 10 _).mono ?_
                    rintro e w11 ⟨rfl, rfl⟩
                    have HT2J : Hid (j + b + 1 = tot) := by unfold Hid; have := HJ.out; have := HT2.out; omega
                    have hjt : j ≤ all.length := by have := HJ.out; have := HT2.out; have := HLL.out; omega
                    have hCT : (Kd.int .i64).C w10 (some ad) (all.take j).length ((all.take j).map Int.ofNat) := by
                      have := Kd.C_take (k := Kd.int .i64) (m := j) (xs := all.map Int.ofNat) (by rw [List.length_map]; exact HCC.out) (by rw [List.length_map]; exact hjt)
                      rwa [← List.map_take, List.length_map] at this
                    have hCD : (Kd.int .i64).C w10 A3 (all.drop j).length ((all.drop j).map Int.ofNat) := by
                      have := Kd.C_drop (k := Kd.int .i64) (m := j) (c := c2) (xs := all.map Int.ofNat) (by rw [List.length_map]; exact HCC.out) (by rw [List.length_map]; exact hjt) (by rw [List.length_map]; exact HC2L.out)
                      rw [← List.map_drop, List.length_map] at this
                      rw [← HA3.out]
                      exact this
                    have hj320 : j ≤ 320 := by have := HJ.out; omega
                    have hlt1 : (all.take j).length = j := by rw [List.length_take]; omega
                    have hlt2 : (all.drop j).length = tot - j := by rw [List.length_drop, HLL.out]
                    have hb1 : ∀ l ∈ all.take j, l ≤ 15 := fun l hl => HA15.out l (List.mem_of_mem_take hl)
                    have hb2 : ∀ l ∈ all.drop j, l ≤ 15 := fun l hl => HA15.out l (List.mem_of_mem_drop hl)
                    have c1 := code_any R HR.out (some ad) c2 (all.take j) true false w10 hCT (by omega) hb1
                    rw [hlt1] at c1
                    have HC1 := Lib.hid c1
                    have HC2 : Hid (∀ w11, Kp [] w10 w11 → Calls Try.prog 68 #[.slice A3 (tot - j) (c2 - j), .bool true, .bool true] w11 (CodePost R (okCode (all.drop j) true true) (all.drop j) w11)) := fun w11 hk => by
                      have := code_any R HR.out A3 (c2 - j) (all.drop j) true true w11 (C_kp hCD hk (by simp)) (by omega) hb2
                      rwa [hlt2] at this
                    clear hCT hCD hlt1 hlt2 hb1 hb2 c1 hj320
                    go_wp2_with fail
                    refine HC1.out.mono ?_
                    rintro e w12 ⟨hk12, hok12⟩
                    by_cases hok1 : okCode (all.take j) true false = true
                    · rw [if_pos hok1] at hok12
                      obtain ⟨pl, rfl, hh12, hp12⟩ := hok12
                      have HOK1 := Lib.hid hok1
                      clear hok1
                      go_wp2_with fail
                      refine (HC2.out _ hk12).mono ?_
                      rintro e w13 ⟨hk13, hok13⟩
                      by_cases hok2 : okCode (all.drop j) true true = true
                      · rw [if_pos hok2] at hok13
                        obtain ⟨pd, rfl, hh13, hp13⟩ := hok13
                        have HOK2 := Lib.hid hok2
                        clear hok2
                        have hh12' := hh12.kp0 hk13
                        have S13 := S10'.off (hk12.then_ hk13) (by simp) (by simp)
                        go_wp2_with fail
                        go_ret2
                        refine CodesPost.ok (ls := all.take j) (ds := all.drop j) (s' := s10) ?_ hh12' hh13 S13
                        simp only [mCodes, mBind, HM1.out, HM2.out, HM3.out, mNeed, HAB.out, if_true, HML.out, HOK.out, HJ.out, HT2J.out, HMA.out, HX.out, hx0, decide_true, HOK1.out, HOK2.out, mPure]
                      · rw [if_neg hok2] at hok13
                        subst hok13
                        have HOK2 : Hid (okCode (all.drop j) true true = false) := by unfold Hid; simpa using hok2
                        clear hok2
                        go_wp2_with fail
                        exact ⟨rfl, CodesPost.err (by simp only [mCodes, mBind, HM1.out, HM2.out, HM3.out, mNeed, HAB.out, if_true, HML.out, HOK.out, HJ.out, HT2J.out, HMA.out, HX.out, hx0, decide_true, HOK1.out, HOK2.out, Bool.false_eq_true, if_false]) (S10'.kp.then_nil (hk12.then_ hk13))⟩
                    · rw [if_neg hok1] at hok12
                      subst hok12
                      have HOK1 : Hid (okCode (all.take j) true false = false) := by unfold Hid; simpa using hok1
                      clear hok1
                      go_wp2_with fail
                      exact ⟨rfl, CodesPost.err (by simp only [mCodes, mBind, HM1.out, HM2.out, HM3.out, mNeed, HAB.out, if_true, HML.out, HOK.out, HJ.out, HT2J.out, HMA.out, HX.out, hx0, decide_true, HOK1.out, Bool.false_eq_true, if_false]) (S10'.kp.then_nil hk12)⟩
                  · have dx : decide ((0 : Int) < (x : Int)) = false := decide_eq_false (by omega)
                    go_wp2_with fail
                    refine (need_no 10 _).mono ?_
                    rintro e w11 ⟨rfl, rfl⟩
                    go_wp2_with fail
                    exact ⟨rfl, CodesPost.err (by simp only [mCodes, mBind, HM1.out, HM2.out, HM3.out, mNeed, HAB.out, if_true, HML.out, HOK.out, HT2.out, HMA.out, HX.out, hx0, decide_false, Bool.false_eq_true, if_false]) S10'.kp⟩
                · clear hp
                  go_wp2_with fail
                  exact ⟨rfl, CodesPost.err (by simp only [mCodes, mBind, HM1.out, HM2.out, HM3.out, mNeed, HAB.out, if_true, HML.out, HOK.out, HT2.out, HMA.out]) (S9.fail hk10)⟩
              · rw [if_neg hok] at hok9
                subst hok9
                have HOK : Hid (okCode ls false false = false) := by unfold Hid; simpa using hok
                clear hok
                go_wp2_with fail
                exact ⟨rfl, CodesPost.err (by simp only [mCodes, mBind, HM1.out, HM2.out, HM3.out, mNeed, HAB.out, if_true, HML.out, HOK.out, Bool.false_eq_true, if_false]) (HS7.out.fail (hk9.mono (by simp)))⟩
        · have HAB : Hid ((decide (a ≤ 29) && decide (b ≤ 29)) = false) := by unfold Hid; simp; omega
          by_cases h1 : a ≤ 29
          · have d1 : decide ((a : Int) ≤ 29) = true := decide_eq_true (by omega)
            have d2 : decide ((b : Int) ≤ 29) = false := decide_eq_false (by omega)
            clear hab
            go_wp2_with fail
            refine (need_no 10 _).mono ?_
            rintro e w4 ⟨rfl, rfl⟩
            go_wp2_with fail
            exact ⟨rfl, CodesPost.err (by simp only [mCodes, mBind, HM1.out, HM2.out, HM3.out, mNeed, HAB.out, Bool.false_eq_true, if_false]) ((S1.trans S2).trans S3).kp⟩
          · have d1 : decide ((a : Int) ≤ 29) = false := decide_eq_false (by omega)
            clear hab
            go_wp2_with fail
            refine (need_no 10 _).mono ?_
            rintro e w4 ⟨rfl, rfl⟩
            go_wp2_with fail
            exact ⟨rfl, CodesPost.err (by simp only [mCodes, mBind, HM1.out, HM2.out, HM3.out, mNeed, HAB.out, Bool.false_eq_true, if_false]) ((S1.trans S2).trans S3).kp⟩
      · clear hp
        go_wp2_with fail
        exact ⟨rfl, CodesPost.err (by simp only [mCodes, mBind, HM1.out, HM2.out, HM3.out]) ((S1.trans S2).fail hk3)⟩
    · clear hp
      go_wp2_with fail
      exact ⟨rfl, CodesPost.err (by simp only [mCodes, mBind, HM1.out, HM2.out]) (S1.fail hk2)⟩
  · clear hp
    go_wp2_with fail
    exact ⟨rfl, CodesPost.err (by simp only [mCodes, mBind, HM1.out]) hk1⟩
end Go.Proofs.Ytoaebpjjfglnnaa

/- The unpacking reader: a block. -/
namespace Go.Proofs.Ytoaebpjjfglnnaa
open Go.RowKit Go.Proofs.YtoaebpjjfglnnaaW.PrintWords Go.Proofs.YtoaebpjjfglnnaaW.PrintLast Go.Proofs.YtoaebpjjfglnnaaW.PrintMore
attribute [local go_sem] max2_int min2_int max_two min_two max_three min_three max_four min_four

/-- What a block of some kind does. -/
def mKind (E : IE) (k : Nat) : IM Unit :=
  if k = 0 then mStored E
  else if k = 1 then symsM E fixF fixS
  else if k = 2 then mBind (mCodes E) fun p => symsM E p.1 p.2
  else mNeed false 10
/-- A block: is it the last one? -/
def mBlk (E : IE) : IM Bool :=
  mBind (mNumber E 1) fun l => mBind (mNumber E 2) fun k => mBind mBlock fun _ => mBind (mKind E k) fun _ => mPure (decide (l = 1))

theorem fixF_len : fixF.length = 288 := by decide +kernel
theorem fixS_len : fixS.length = 32 := by decide +kernel
theorem fixF_15 : ∀ l ∈ fixF, l ≤ 15 := by decide +kernel
theorem fixS_15 : ∀ l ∈ fixS, l ≤ 15 := by decide +kernel
theorem fixF_room : roomF fixF ≤ 32768 := by decide +kernel
theorem fixS_room : roomF fixS ≤ 32768 := by decide +kernel
theorem mBind_ok {α β : Type} {m : IM α} {f : α → IM β} {s s' : IS} {b : β} (h : mBind m f s = .ok (b, s')) : ∃ a s1, m s = .ok (a, s1) ∧ f a s1 = .ok (b, s') := by
  unfold mBind at h
  cases hm : m s with
  | error k => rw [hm] at h; cases h
  | ok r => obtain ⟨a, s1⟩ := r; rw [hm] at h; exact ⟨a, s1, rfl, h⟩
theorem mNeed_ok {b : Bool} {k : Nat} {s s' : IS} {u : Unit} (h : mNeed b k s = .ok (u, s')) : b = true ∧ s' = s := by
  unfold mNeed at h
  by_cases hb : b = true
  · rw [if_pos hb] at h; cases h; exact ⟨hb, rfl⟩
  · rw [if_neg hb] at h; cases h
theorem mLens_len {E : IE} : ∀ {is ls ls' : List Nat} {s s' : IS}, mLens E is ls s = .ok (ls', s') → s.at_ ≤ E.T → ls'.length = ls.length ∧ s'.at_ ≤ E.T
  | [], ls, ls', s, s', h, hs => by
    simp only [mLens, mPure] at h
    cases h
    exact ⟨rfl, hs⟩
  | i :: is, ls, ls', s, s', h, hs => by
    rw [mLens] at h
    obtain ⟨x, s1, h1, h2⟩ := mBind_ok h
    have := mLens_len h2 (Fwd.number E 3 s x s1 hs h1).2
    rw [List.length_set] at this
    exact this
theorem mCodes_len {E : IE} {s s' : IS} {ls ds : List Nat} (hs : s.at_ ≤ E.T) (h : mCodes E s = .ok ((ls, ds), s')) : ls.length ≤ 320 ∧ ds.length ≤ 320 := by
  unfold mCodes at h
  obtain ⟨a, s1, h1, h⟩ := mBind_ok h
  obtain ⟨b, s2, h2, h⟩ := mBind_ok h
  obtain ⟨c, s3, h3, h⟩ := mBind_ok h
  obtain ⟨_, s4, h4, h⟩ := mBind_ok h
  obtain ⟨cl, s5, h5, h⟩ := mBind_ok h
  obtain ⟨_, s6, h6, h⟩ := mBind_ok h
  obtain ⟨all, s7, h7, h⟩ := mBind_ok h
  obtain ⟨_, s8, h8, h⟩ := mBind_ok h
  obtain ⟨_, s9, h9, h⟩ := mBind_ok h
  obtain ⟨_, s10, h10, h⟩ := mBind_ok h
  unfold mPure at h
  injection h with h
  injection h with h _
  injection h with ha hb
  have b1 := (Fwd.number E 5 _ _ _ hs h1).2
  have b2 := (Fwd.number E 5 _ _ _ b1 h2).2
  have b3 := (Fwd.number E 4 _ _ _ b2 h3).2
  obtain ⟨e4, rfl⟩ := mNeed_ok h4
  have b5 := mLens_len h5 b3
  obtain ⟨_, rfl⟩ := mNeed_ok h6
  have b7 := mRows_ok (by rw [b5.1]; simp) b5.2 h7
  simp only [Bool.and_eq_true, decide_eq_true_eq] at e4
  rw [← ha, ← hb, List.length_take, List.length_drop, b7.1]
  omega
set_option maxHeartbeats 8000000 in
set_option maxRecDepth 100000 in
theorem block_any (R : Nat → Nat → Nat) (hR : RevC R) (E : IE) (hE : E.Ok) (br bb : Nat) (A : Option Addr) (c : Nat) (w : World) (ov : Value) (s : IS) (h : RepI E br bb A c w ov s) :
    Calls Try.prog 32 #[.pointer (some ⟨br, 0, none⟩)] w (IPost encB E br bb A c w ov (mBlk E s)) := by
  have HH := Lib.hid h
  have HE := Lib.hid hE
  have HR := Lib.hid hR
  clear h hE hR
  go_enter Try.func32, Try.ntmps32
  go_wp2_with fail
  refine (number_any E HE.out br bb A c 1 w ov s HH.out (by decide)).mono ?_
  intro e w1 hp
  rcases hp.cases with ⟨a, s1, ov1, HM1, rfl, S1⟩ | ⟨k, HM1, rfl, hk1⟩
  · clear hp
    have HA1 := Lib.hid (mNumber_ok HM1.out)
    obtain ⟨q, hq⟩ : ∃ q : Bool, ((a : Int) == 1) = q := ⟨_, rfl⟩
    have HQ : Hid (decide (a = 1) = q) := by unfold Hid; rw [← hq]; by_cases h : a = 1 <;> simp [h]; omega
    go_wp2_with fail
    refine (number_any E HE.out br bb A c 2 w1 ov1 s1 S1.rep (by decide)).mono ?_
    intro e w2 hp
    rcases hp.cases with ⟨b, s2, ov2, HM2, rfl, S2⟩ | ⟨k, HM2, rfl, hk2⟩
    · clear hp hq
      have HA2 := Lib.hid (mNumber_ok HM2.out)
      have hb4 := mNumber_lt HM2.out
      have hb : b < 4 := hb4
      clear hb4
      have S12 := S1.trans S2
      obtain ⟨-, -, -, -, c5⟩ := S12.rep.cells
      have f5 := S12.rep.r.frozen 5
      have hbl : s2.blocks + 1 ≤ s2.at_ := by
        have h1 := HA1.out; have h2 := HA2.out; have h3 := HH.out.ok.blocks_le; omega
      have hbl2 : s2.at_ ≤ 8 * E.bs.length := S12.rep.ok.at_le
      have hbl3 := HE.out.len
      have S3 := S12.trans (S12.rep.setBlocks 1 hbl)
      rw [show ((s2.blocks + 1 : Nat) : Int) = (s2.blocks : Int) + 1 by omega] at S3
      obtain ⟨s3, hs3⟩ : ∃ s3 : IS, s3 = { s2 with blocks := s2.blocks + 1 } := ⟨_, rfl⟩
      rw [← hs3] at S3
      have HM3 : Hid (mBlock s2 = .ok ((), s3)) := by unfold Hid mBlock; rw [hs3]
      clear hs3
      obtain ⟨w3, hw3⟩ : ∃ w3, w3 = w2.setCell ⟨br, 5, none⟩ (.int .i64 ((s2.blocks : Int) + 1)) := ⟨_, rfl⟩
      rw [← hw3] at S3
      have HW3 := Lib.hid hw3
      clear hw3
      by_cases h0 : b = 0
      · subst h0
        go_wp2_with fail
        rw [← HW3.out]
        refine (stored_any E HE.out br bb A c w3 ov2 s3 S3.rep).mono ?_
        intro e w4 hp
        rcases hp.cases with ⟨u, s4, ov4, HM4, rfl, S4⟩ | ⟨k, HM4, rfl, hk4⟩
        · clear hp
          go_wp2_with fail
          go_ret
          exact IPost.ok (enc := encB) (a := q) (by simp only [mBlk, mBind, HM1.out, HM2.out, HM3.out, mKind, if_true, HM4.out, mPure, HQ.out]) (S3.trans S4)
        · clear hp
          go_wp2_with fail
          exact ⟨rfl, IPost.err (by simp only [mBlk, mBind, HM1.out, HM2.out, HM3.out, mKind, if_true, HM4.out]) (S3.fail hk4)⟩
      · by_cases h1 : b = 1
        · subst h1
          clear h0
          go_wp2_with fail
          rw [← HW3.out]
          refine (fixed_any w3).mono ?_
          rintro e w4 ⟨v1, v2, rfl, o1, o2, hk4, hf1, hf2⟩
          obtain ⟨A1, c1, rfl, hc1, hC1⟩ := own_C o1
          obtain ⟨A2, c2, rfl, hc2, hC2⟩ := own_C o2
          have hn1 := new_ok R HR.out A1 c1 fixF w4 (by rw [List.length_map] at hC1; exact hC1) (by rw [fixF_len]; decide) fixF_15 fixF_room
          have HN2 : Hid (∀ w5, Kp [] w4 w5 → Calls Try.prog 22 #[.slice A2 32 c2] w5 fun e w' => ∃ pc, e = .returned (.tuple #[.pointer (some ⟨pc, 0, none⟩), .int .i64 0]) ∧ HCode R w' pc fixS ∧ Kp [] w5 w' ∧ w5.heap.size ≤ pc) := fun w5 hk => by
            have := new_ok R HR.out A2 c2 fixS w5 (C_kp (by rw [List.length_map] at hC2; exact hC2) hk (by simp)) (by rw [fixS_len]; decide) fixS_15 fixS_room
            rwa [fixS_len] at this
          rw [fixF_len] at hn1
          have HN1 := Lib.hid hn1
          have e1 : (fixF.map Int.ofNat).length = 288 := by rw [List.length_map, fixF_len]
          have e2 : (fixS.map Int.ofNat).length = 32 := by rw [List.length_map, fixS_len]
          rw [e1, e2]
          clear hn1 hC1 hC2 o1 o2 hf1 hf2 hc1 hc2 e1 e2
          have S4 := S3.off hk4 (by simp) (by simp)
          go_wp2_with fail
          refine HN1.out.mono ?_
          rintro e w5 ⟨p1, rfl, hh1, hk5, hp1⟩
          go_wp2_with fail
          refine (HN2.out _ hk5).mono ?_
          rintro e w6 ⟨p2, rfl, hh2, hk6, hp2⟩
          have hh1' := hh1.kp0 hk6
          have S6 := S4.off (hk5.then_ hk6) (by simp) (by simp)
          go_wp2_with fail
          refine (syms_any R E HE.out br bb p1 p2 fixF fixS A c w6 ov2 s3 S6.rep hh1' hh2 (by rw [fixF_len]; decide) (by rw [fixS_len]; decide)).mono ?_
          intro e w7 hp
          rcases hp.cases with ⟨u, s7, ov7, HM7, rfl, S7⟩ | ⟨k, HM7, rfl, hk7⟩
          · clear hp
            go_wp2_with fail
            go_ret
            exact IPost.ok (enc := encB) (a := q) (by simp only [mBlk, mBind, HM1.out, HM2.out, HM3.out, mKind, show ¬ (1 : Nat) = 0 by decide, if_false, if_true, HM7.out, mPure, HQ.out]) (S6.trans S7)
          · clear hp
            go_wp2_with fail
            exact ⟨rfl, IPost.err (by simp only [mBlk, mBind, HM1.out, HM2.out, HM3.out, mKind, show ¬ (1 : Nat) = 0 by decide, if_false, if_true, HM7.out]) (S6.fail hk7)⟩
        · by_cases h2 : b = 2
          · subst h2
            clear h0 h1
            go_wp2_with fail
            rw [← HW3.out]
            refine (codes_any R HR.out E HE.out br bb A c w3 ov2 s3 S3.rep).mono ?_
            intro e w4 hp
            rcases hp.cases with ⟨ls, ds, s4, p1, p2, ov4, HM4, rfl, hh1, hh2, S4⟩ | ⟨k, HM4, rfl, hk4⟩
            · clear hp
              obtain ⟨hl1, hl2⟩ := mCodes_len S3.rep.ok.at_le HM4.out
              have S34 := S3.trans S4
              go_wp2_with fail
              refine (syms_any R E HE.out br bb p1 p2 ls ds A c w4 ov4 s4 S34.rep hh1 hh2 hl1 hl2).mono ?_
              intro e w7 hp
              rcases hp.cases with ⟨u, s7, ov7, HM7, rfl, S7⟩ | ⟨k, HM7, rfl, hk7⟩
              · clear hp
                go_wp2_with fail
                go_ret
                exact IPost.ok (enc := encB) (a := q) (by simp only [mBlk, mBind, HM1.out, HM2.out, HM3.out, mKind, show ¬ (2 : Nat) = 0 by decide, show ¬ (2 : Nat) = 1 by decide, if_false, if_true, HM4.out, HM7.out, mPure, HQ.out]) (S34.trans S7)
              · clear hp
                go_wp2_with fail
                exact ⟨rfl, IPost.err (by simp only [mBlk, mBind, HM1.out, HM2.out, HM3.out, mKind, show ¬ (2 : Nat) = 0 by decide, show ¬ (2 : Nat) = 1 by decide, if_false, if_true, HM4.out, HM7.out]) (S34.fail hk7)⟩
            · clear hp
              go_wp2_with fail
              exact ⟨rfl, IPost.err (by simp only [mBlk, mBind, HM1.out, HM2.out, HM3.out, mKind, show ¬ (2 : Nat) = 0 by decide, show ¬ (2 : Nat) = 1 by decide, if_false, if_true, HM4.out]) (S3.fail hk4)⟩
          · obtain rfl : b = 3 := by omega
            clear h0 h1 h2
            go_wp2_with fail
            rw [← HW3.out]
            refine (need_no 10 _).mono ?_
            rintro e w4 ⟨rfl, rfl⟩
            go_wp2_with fail
            exact ⟨rfl, IPost.err (by simp only [mBlk, mBind, HM1.out, HM2.out, HM3.out, mKind, show ¬ (3 : Nat) = 0 by decide, show ¬ (3 : Nat) = 1 by decide, show ¬ (3 : Nat) = 2 by decide, if_false, mNeed, Bool.false_eq_true]) S3.kp⟩
    · clear hp
      go_wp2_with fail
      exact ⟨rfl, IPost.err (by simp only [mBlk, mBind, HM1.out, HM2.out]) (S1.fail hk2)⟩
  · clear hp
    go_wp2_with fail
    exact ⟨rfl, IPost.err (by simp only [mBlk, mBind, HM1.out]) hk1⟩
end Go.Proofs.Ytoaebpjjfglnnaa

/- inflate.Inflate: the deferred function, that takes the panic. -/
namespace Go.Proofs.Ytoaebpjjfglnnaa
open Go.RowKit Go.Proofs.YtoaebpjjfglnnaaW.PrintWords Go.Proofs.YtoaebpjjfglnnaaW.PrintLast Go.Proofs.YtoaebpjjfglnnaaW.PrintMore
attribute [local go_sem] max2_int min2_int max_two min_two max_three min_three max_four min_four

theorem catch_idle (ro re : Addr) (w : World) :
    CallsD Try.prog 31 #[.pointer (some ro), .pointer (some re)] .returning w fun e u' w' => e = .returned (.tuple #[]) ∧ u' = .returning ∧ w' = w := by
  refine callsD_of_wpS Try.func31 rfl fun c₀ cs hu => ?_
  apply wpS_seq
  apply wpS_region
  simp [wpOpsS, go_sem, recoverD, hu, Try.ntmps31, Exit.thenS]
  apply wpS_seq
  apply wpS_seq
  apply wpS_region
  simp [wpOpsS, go_sem, Exit.thenS]
  refine wpS_cond (t := true) (by simp [Act.eval, Array.replicate]) ?_
  simp only [if_true]
  refine wpS_of_wp (wp_ret ?_)
  cases c₀
  simp_all [bodyPostS, results, Try.results31, Exit.thenS]

theorem wpS_of_wp_any {P : Program} {c : Code} {Q : Exit → Act → List Frame → World → Prop} {a : Act} {cs : List Frame} {w : World} (Q0 : Exit → Act → World → Prop) (h : c.wp P Q0 a w) (hq : ∀ e a' w', Q0 e a' w' → Q e a' cs w') : c.wpS P Q a cs w :=
  fun b k _ _ => let ⟨e, a', w', q, r⟩ := h b k cs; ⟨e, a', cs, w', hq e a' w' q, r⟩

/-- The empty result. -/
abbrev res0 : Array Value := #[.slice none 0 0, .int .i64 0, .int .i64 0, .int .i64 0]
def EndsK (ro re k : Nat) (w : World) (e : Exit) (a : Act) (w' : World) : Prop := e = .normal ∧ a.defers = [] ∧ Kp [ro, re] w w' ∧ Blk w' ro 35 res0 ∧ Blk w' re 36 #[.int .i64 k]

set_option maxRecDepth 100000 in
theorem catch_panicking (ro re : Nat) (k : Nat) (older : List PanicEntry) (w : World) (hro : Blk w ro 35 res0) (hre : Blk w re 36 #[.int .i64 0]) :
    CallsD Try.prog 31 #[.pointer (some ⟨ro, 0, none⟩), .pointer (some ⟨re, 0, none⟩)] (.panicking ({ v := .iface 66 (.agg #[.int .i64 k]), recovered := false } :: older)) w fun e u' w' =>
      e = .returned (.tuple #[]) ∧ u' = .panicking ({ v := .iface 66 (.agg #[.int .i64 k]), recovered := true } :: older) ∧ Kp [ro, re] w w' ∧ Blk w' ro 35 res0 ∧ Blk w' re 36 #[.int .i64 k] := by
  refine callsD_of_wpS Try.func31 rfl fun c₀ cs hu => ?_
  apply wpS_seq
  apply wpS_region
  simp [wpOpsS, go_sem, recoverD, hu, Try.ntmps31, Exit.thenS]
  apply wpS_seq
  apply wpS_seq
  apply wpS_region
  simp [wpOpsS, go_sem, Exit.thenS]
  refine wpS_cond (t := false) (by simp [Act.eval, Array.replicate]) ?_
  simp only [Bool.false_eq_true, if_false]
  refine wpS_of_wp (wp_skip ?_)
  clear hu
  simp only [Exit.thenS]
  rw [show ∀ x y z : Value, (#[x, y] ++ ((((Array.replicate 17 undef).setIfInBounds 3 z).setIfInBounds 0 z).setIfInBounds 4 z).setIfInBounds 5 (.bool false)) = #[x, y, z, undef, undef, z, z, .bool false, undef, undef, undef, undef, undef, undef, undef, undef, undef, undef, undef] from fun _ _ _ => by kernel_rfl]
  have hne : ro ≠ re := Blk.ne_ hro hre (by decide)
  refine wpS_of_wp_any (EndsK ro re k w) ?_ ?_
  · have hta : ∀ (v : Value) (w : World), (Instr.typeAssert (.iface 66 v) 20 66 true).run Try.prog w = .ok (.tuple #[v, .bool true]) w := fun _ _ => by kernel_rfl
    go_wp2_with fail
    have b1 := Blk.new w 66 #[.int .i64 k]
    have bo := hro.alloc (.cells #[.int .i64 k] 66)
    have be := hre.alloc (.cells #[.int .i64 k] 66)
    have k1 : Kp [ro, re] w (w.alloc (.cells #[.int .i64 k] 66)) := (Kp.refl _ _).alloc _
    obtain ⟨g, hg⟩ : ∃ g, w.heap.size = g := ⟨_, rfl⟩
    rw [hg] at b1 ⊢
    have hgo : g ≠ ro := Blk.ne_ b1 bo (by decide)
    have hge : g ≠ re := Blk.ne_ b1 be (by decide)
    generalize w.alloc (.cells #[.int .i64 k] 66) = w1 at *
    have d0 : w1.cell? ⟨g, 0, none⟩ = some (.int .i64 k) := b1.cell_ 0 rfl
    have o0 : w1.cell? ⟨ro, 0, none⟩ = some (.slice none 0 0) := bo.cell_ 0 rfl
    have o1 : w1.cell? ⟨ro, 1, none⟩ = some (.int .i64 0) := bo.cell_ 1 rfl
    have o2 : w1.cell? ⟨ro, 2, none⟩ = some (.int .i64 0) := bo.cell_ 2 rfl
    have o3 : w1.cell? ⟨ro, 3, none⟩ = some (.int .i64 0) := bo.cell_ 3 rfl
    have e0 : w1.cell? ⟨re, 0, none⟩ = some (.int .i64 0) := be.cell_ 0 rfl
    have fo := bo.frozen
    have fe := be.frozen 0
    have HK1 := Lib.hid k1
    have HBO := Lib.hid bo
    have HBE := Lib.hid be
    clear b1 bo be k1 hg hro hre
    go_region
    refine ⟨rfl, rfl, (((((HK1.out.set_ (by simp) _).set_ (by simp) _).set_ (by simp) _).set_ (by simp) _).set_ (by simp) _).drew, ?_, ?_⟩
    · have := (((((HBO.out.set_ 0 (.slice none 0 0)).set_ 1 (.int .i64 0)).set_ 2 (.int .i64 0)).set_ 3 (.int .i64 0)).far (p := ⟨re, 0, none⟩) hne (.int .i64 k)).drew
      simpa [res0] using this
    · have := ((((HBE.out.far (p := ⟨ro, 0, none⟩) hne.symm (.slice none 0 0)).far (p := ⟨ro, 1, none⟩) hne.symm (.int .i64 0)).far (p := ⟨ro, 2, none⟩) hne.symm (.int .i64 0)).far (p := ⟨ro, 3, none⟩) hne.symm (.int .i64 0)).set_ 0 (.int .i64 k) |>.drew
      simpa using this
  · rintro e a' w' ⟨rfl, ha, hk, hb, hb2⟩
    refine ⟨ha, _, rfl, .tuple #[], by simp [results, Try.results31], ?_⟩
    exact ⟨rfl, rfl, hk, hb, hb2⟩

/-- Blocks, up to the last one. -/
def mBlocks (E : IE) : Nat → IS → Option (Except Nat IS)
  | 0, _ => none
  | k + 1, s => match mBlk E s with
    | .ok (true, s') => some (.ok s')
    | .ok (false, s') => mBlocks E k s'
    | .error e => some (.error e)
def is0 : IS := ⟨0, [], 0, 0⟩
/-- What Inflate answers. -/
def infM (E : IE) : Except Nat IS := (mBlocks E (E.T + 1) is0).getD (.error 0)
/-- What the call of Inflate comes to. -/
def InfPost (E : IE) (r : Except Nat IS) (w : World) (e : Ending) (w' : World) : Prop :=
  Kp [] w w' ∧ match r with
  | .ok s => ∃ ov, e = .returned (.tuple #[.agg #[ov, .int .i64 ((s.at_ + 7) / 8 : Nat), .int .i64 (s.steps : Nat), .int .i64 (s.blocks : Nat)], .int .i64 0]) ∧ Own .u8 5 w' ov s.out ∧ (∀ g, ov.ownBlock = some g → w.heap.size ≤ g) ∧ s.Ok E
  | .error k => e = .returned (.tuple #[.agg #[.slice none 0 0, .int .i64 0, .int .i64 0, .int .i64 0], .int .i64 k])

theorem Fwd.align (E : IE) : Fwd E mAlign := by
  intro s a s' h h2
  unfold mAlign at h2
  cases h2
  simp only
  unfold IE.T at *
  omega
theorem Fwd.bytes (E : IE) (n : Nat) : Fwd E (mBytes E n) := by
  intro s a s' h h2
  unfold mBytes at h2
  split at h2
  · cases h2
    simp only
    unfold IE.T at *
    omega
  · cases h2
theorem Fwd.stored (E : IE) : Fwd E (mStored E) :=
  (Fwd.align E).bind fun _ => (Fwd.number E 16).bind fun _ => (Fwd.number E 16).bind fun _ => (Fwd.need E _ _).bind fun _ => (Fwd.bytes E _).bind fun _ => (Fwd.room E _).bind fun _ => (Fwd.put E _).bind fun _ => Fwd.steps E _
end Go.Proofs.Ytoaebpjjfglnnaa

/- inflate.Inflate. -/
namespace Go.Proofs.Ytoaebpjjfglnnaa
open Go.RowKit Go.Proofs.YtoaebpjjfglnnaaW.PrintWords Go.Proofs.YtoaebpjjfglnnaaW.PrintLast Go.Proofs.YtoaebpjjfglnnaaW.PrintMore
attribute [local go_sem] max2_int min2_int max_two min_two max_three min_three max_four min_four

theorem Fwd.ite {α : Type} {E : IE} {p : Prop} [Decidable p] {m n : IM α} (h : Fwd E m) (k : Fwd E n) : Fwd E (if p then m else n) := by
  split
  · exact h
  · exact k
theorem Fwd.sym1 (E : IE) (ls ds : List Nat) : Fwd E (mSym1 E ls ds) :=
  (Fwd.symbol E ls).bind fun s => (Fwd.steps E 1).bind fun _ => (Fwd.pure E _).ite (((Fwd.room E 1).bind fun _ => (Fwd.put E _).bind fun _ => Fwd.pure E _).ite ((Fwd.back E s ds).bind fun _ => Fwd.pure E _))
theorem Fwd.symbols (E : IE) (ls ds : List Nat) : ∀ (k : Nat) (s s' : IS), s.at_ ≤ E.T → mSymbols E ls ds k s = some (.ok ((), s')) → s.at_ ≤ s'.at_ ∧ s'.at_ ≤ E.T
  | 0, s, s', _, h => by simp [mSymbols] at h
  | k + 1, s, s', hs, h => by
    rw [mSymbols] at h
    cases hm : mSym1 E ls ds s with
    | error e => rw [hm] at h; simp at h
    | ok r =>
      obtain ⟨b, s1⟩ := r
      rw [hm] at h
      have h1 := Fwd.sym1 E ls ds s b s1 hs hm
      cases b with
      | true =>
        simp only [Option.some.injEq, Except.ok.injEq, Prod.mk.injEq, true_and] at h
        subst h
        exact h1
      | false =>
        have h2 := Fwd.symbols E ls ds k s1 s' h1.2 h
        exact ⟨Nat.le_trans h1.1 h2.1, h2.2⟩
theorem Fwd.syms (E : IE) (ls ds : List Nat) : Fwd E (symsM E ls ds) := by
  intro s a s' hs h
  unfold symsM at h
  cases hm : mSymbols E ls ds (E.T + 1 - s.at_) s with
  | none => rw [hm] at h; cases h
  | some r => rw [hm] at h; subst h; exact Fwd.symbols E ls ds _ s s' hs hm
theorem Fwd.row (E : IE) (cl acc : List Nat) : Fwd E (mRow E cl acc) :=
  (Fwd.symbol E cl).bind fun _ => ((Fwd.number E 2).bind fun _ => (Fwd.need E _ _).bind fun _ => Fwd.pure E _).ite (((Fwd.number E 3).bind fun _ => Fwd.pure E _).ite (((Fwd.number E 7).bind fun _ => Fwd.pure E _).ite (Fwd.pure E _)))
theorem Fwd.rowsL (E : IE) (cl : List Nat) (total : Nat) : ∀ (k : Nat) (acc : List Nat), Fwd E (mRowsL E cl total k acc)
  | 0, acc => Fwd.pure E acc
  | k + 1, acc => ((Fwd.row E cl acc).bind fun _ => Fwd.rowsL E cl total k _).ite (Fwd.pure E acc)
theorem Fwd.rows (E : IE) (cl : List Nat) (total : Nat) : Fwd E (mRows E cl total) := (Fwd.rowsL E cl total total []).bind fun _ => (Fwd.need E _ _).bind fun _ => Fwd.pure E _
theorem Fwd.lens (E : IE) : ∀ (is ls : List Nat), Fwd E (mLens E is ls)
  | [], ls => Fwd.pure E ls
  | i :: is, ls => (Fwd.number E 3).bind fun x => Fwd.lens E is (ls.set i x)
theorem Fwd.codes (E : IE) : Fwd E (mCodes E) :=
  (Fwd.number E 5).bind fun _ => (Fwd.number E 5).bind fun _ => (Fwd.number E 4).bind fun _ => (Fwd.need E _ _).bind fun _ => (Fwd.lens E _ _).bind fun cl => (Fwd.need E _ _).bind fun _ => (Fwd.rows E cl _).bind fun _ =>
  (Fwd.need E _ _).bind fun _ => (Fwd.need E _ _).bind fun _ => (Fwd.need E _ _).bind fun _ => Fwd.pure E _
theorem Fwd.kind (E : IE) (k : Nat) : Fwd E (mKind E k) := (Fwd.stored E).ite ((Fwd.syms E _ _).ite (((Fwd.codes E).bind fun _ => Fwd.syms E _ _).ite (Fwd.need E _ _)))
theorem mBlk_at {E : IE} {s s' : IS} {b : Bool} (hs : s.at_ ≤ E.T) (h : mBlk E s = .ok (b, s')) : s.at_ < s'.at_ ∧ s'.at_ ≤ E.T := by
  unfold mBlk at h
  obtain ⟨l, s1, h1, h⟩ := mBind_ok h
  obtain ⟨k, s2, h2, h⟩ := mBind_ok h
  obtain ⟨_, s3, h3, h⟩ := mBind_ok h
  obtain ⟨_, s4, h4, h⟩ := mBind_ok h
  have e1 := mNumber_ok h1
  have f1 := Fwd.number E 1 _ _ _ hs h1
  have f2 := Fwd.number E 2 _ _ _ f1.2 h2
  have e3 : s3.at_ = s2.at_ := by unfold mBlock at h3; cases h3; rfl
  have f4 := Fwd.kind E k _ _ _ (by rw [e3]; exact f2.2) h4
  unfold mPure at h
  cases h
  omega

theorem InfPost.ok {E : IE} {r : Except Nat IS} {w w' : World} {s : IS} {ov : Value} (hr : r = .ok s) (hk : Kp [] w w') (ho : Own .u8 5 w' ov s.out) (hf : ∀ g, ov.ownBlock = some g → w.heap.size ≤ g) (hk2 : s.Ok E) :
    InfPost E r w (.returned (.tuple #[.agg #[ov, .int .i64 ((s.at_ + 7) / 8 : Nat), .int .i64 (s.steps : Nat), .int .i64 (s.blocks : Nat)], .int .i64 0])) w' := by
  subst hr
  exact ⟨hk, ov, rfl, ho, hf, hk2⟩
theorem InfPost.err {E : IE} {r : Except Nat IS} {w w' : World} {k : Nat} (hr : r = .error k) (hk : Kp [] w w') :
    InfPost E r w (.returned (.tuple #[.agg #[.slice none 0 0, .int .i64 0, .int .i64 0, .int .i64 0], .int .i64 k])) w' := by
  subst hr
  exact ⟨hk, rfl⟩
set_option maxHeartbeats 8000000 in
set_option maxRecDepth 100000 in
theorem inflate_any (R : Nat → Nat → Nat) (hR : RevC R) (A : Option Addr) (n c : Nat) (xs : List Int) (limit : Int) (w : World) (hC : (Kd.int .u8).C w A n xs) (hby : Bytes xs) (hn : n ≤ 1099511627776) (hl : limit ≤ 1099511627776) :
    Calls Try.prog 21 #[.slice A n c, .int .i64 limit] w (InfPost ⟨xs, limit.toNat⟩ (infM ⟨xs, limit.toNat⟩) w) := by
  have HC := Lib.hid hC
  have HR := Lib.hid hR
  have HBY := Lib.hid hby
  have hxn : xs.length = n := hC.1
  have HXN := Lib.hid hxn
  obtain ⟨lim, hlim⟩ : ∃ lim : Nat, limit.toNat = lim := ⟨_, rfl⟩
  have hll : lim ≤ 1099511627776 := by omega
  have hmx : (if limit < 0 then (0 : Int) else limit) = (lim : Int) := by split <;> omega
  rw [hlim]
  clear hC hR hby hxn
  have hmf : ∀ (fn : Fn) (first cap : Array Value) (w : World), (Instr.makeFunc fn first cap).run Try.prog w = .ok (.func fn first cap) w := fun _ _ _ _ => rfl
  go_enter_defers Try.func21, Try.ntmps21
  go_wp2_with fail
  have bo := (Blk.new w 35 res0).alloc (.cells #[.int .i64 0] 36)
  have be := Blk.new (w.alloc (.cells res0 35)) 36 #[.int .i64 0]
  have k0 : Kp [] w ((w.alloc (.cells res0 35)).alloc (.cells #[.int .i64 0] 36)) := ((Kp.refl _ _).alloc _).alloc _
  rw [show (w.alloc (.cells res0 35)).heap.size = w.heap.size + 1 by simp] at be
  obtain ⟨ro, hro⟩ : ∃ ro, w.heap.size = ro := ⟨_, rfl⟩
  obtain ⟨re, hre⟩ : ∃ re, w.heap.size + 1 = re := ⟨_, rfl⟩
  have hroe : re = ro + 1 := by omega
  have HRO := Lib.hid hro
  have HRE := Lib.hid hroe
  rw [hre] at be ⊢
  rw [hro] at bo ⊢
  clear hro hre hroe
  generalize ((w.alloc (.cells res0 35)).alloc (.cells #[.int .i64 0] 36)) = w1 at *
  refine (newReader_any A n c xs w1 (C_kp HC.out k0 (by simp)) (by omega)).mono ?_
  rintro e w2 ⟨bb, A2, c2, rfl, hrd, hown, hk2, hbb, hA2⟩
  have bo2 := bo.kp hk2 (by simp)
  have be2 := be.kp hk2 (by simp)
  have hszro := HRO.out
  have hw1 := be.lt
  go_wp2_with fail
  obtain ⟨E, hE⟩ : ∃ E : IE, E = ⟨xs, lim⟩ := ⟨_, rfl⟩
  have hEok : E.Ok := by subst hE; exact ⟨by have := HXN.out; simp only; omega, HBY.out, hll⟩
  have hbs : E.bs = xs := by rw [hE]
  have hlm : E.lim = lim := by rw [hE]
  rw [← hE]
  rw [← hlm]
  rw [← hbs] at hrd hown
  have hR0 : RepI E w2.heap.size bb A2 c2 (w2.alloc (.cells #[.pointer (some ⟨bb, 0, none⟩), .int .i64 E.lim, .slice none 0 0, .int .i64 0, .int .i64 0, .int .i64 0] 64)) (.slice none 0 0) is0 :=
    ⟨Blk.new _ _ _, hrd.alloc _, hown.alloc _, World.ownsRow_nil _ _ _ _, fun g _ => by simp [Value.ownBlock], ⟨Nat.zero_le _, Nat.zero_le _, Nat.zero_le _, Nat.zero_le _, Bytes.nil⟩⟩
  have bo3 := bo2.alloc (.cells #[.pointer (some ⟨bb, 0, none⟩), .int .i64 E.lim, .slice none 0 0, .int .i64 0, .int .i64 0, .int .i64 0] 64)
  have be3 := be2.alloc (.cells #[.pointer (some ⟨bb, 0, none⟩), .int .i64 E.lim, .slice none 0 0, .int .i64 0, .int .i64 0, .int .i64 0] 64)
  have k3 : Kp [] w (w2.alloc (.cells #[.pointer (some ⟨bb, 0, none⟩), .int .i64 E.lim, .slice none 0 0, .int .i64 0, .int .i64 0, .int .i64 0] 64)) := (k0.then_ hk2).alloc _
  obtain ⟨br, hbr⟩ : ∃ br, w2.heap.size = br := ⟨_, rfl⟩
  have hbr2 : w.heap.size ≤ br := by have := hk2.size; have := HRO.out; have := HRE.out; omega
  have hbb2 : w.heap.size ≤ bb := by have := HRO.out; have := HRE.out; omega
  rw [hbr] at hR0 ⊢
  generalize (w2.alloc (.cells #[.pointer (some ⟨bb, 0, none⟩), .int .i64 E.lim, .slice none 0 0, .int .i64 0, .int .i64 0, .int .i64 0] 64)) = w3 at *
  have HE := Lib.hid hE
  have HEok := Lib.hid hEok
  have HR0 := Lib.hid hR0
  have HBO := Lib.hid bo3
  have HBE := Lib.hid be3
  have HK3 := Lib.hid k3
  have hbsl : E.bs.length ≤ 1099511627776 := hEok.len
  clear hE hEok hR0 bo3 be3 k3 bo be bo2 be2 k0 hk2 hrd hown hbb hA2 hbs hlm hbr hmx hszro hw1
  go_loopg [15] (E.T + 1) (fun k _ wr => ∃ s' ov', Hid (mBlocks E k s' = mBlocks E (E.T + 1) is0) ∧ E.T < s'.at_ + k ∧ Hid (StepI E br bb A2 c2 w3 (.slice none 0 0) wr ov' s'))
  case atStart => exact ⟨is0, _, rfl, by simp [is0], HR0.out.refl⟩
  case round =>
    obtain ⟨s1, ov1, HM, hk, HS⟩ := hrel
    have hT1 := HS.out.rep.ok.at_le
    obtain ⟨f, rfl⟩ : ∃ f, gk = f + 1 := ⟨gk - 1, by omega⟩
    go_wp2_with fail
    refine (block_any R HR.out E HEok.out br bb A2 c2 wr ov1 s1 HS.out.rep).mono ?_
    intro e w4 hp
    rcases hp.cases with ⟨b, s4, ov4, HM4, rfl, S4⟩ | ⟨k4, HM4, rfl, hk4⟩
    · clear hp
      have hat := mBlk_at hT1 HM4.out
      obtain ⟨A4, c4, rfl⟩ := own_slice S4.rep.own
      have HS4 := Lib.hid (HS.out.trans S4)
      clear S4
      cases b with
      | false =>
        go_wp2_with fail
        go_roundg f
        case measure => omega
        case rel =>
          refine ⟨s4, _, ?_, by omega, HS4.out⟩
          unfold Hid
          rw [← HM.out, mBlocks, HM4.out]
      | true =>
        have HINF : Hid (infM E = .ok s4) := by
          unfold Hid infM
          rw [← HM.out, mBlocks, HM4.out]
          rfl
        have bo4 := HBO.out.kp HS4.out.kp (HR0.out.turn_ne HBO.out (by decide) (by decide) (by decide))
        have be4 := HBE.out.kp HS4.out.kp (HR0.out.turn_ne HBE.out (by decide) (by decide) (by decide))
        have br4 := HS4.out.rep.r
        have hb4 := HS4.out.rep.b
        have q0 : w4.cell? ⟨br, 0, none⟩ = some (.pointer (some ⟨bb, 0, none⟩)) := br4.cell_ 0 rfl
        have q2 : w4.cell? ⟨br, 2, none⟩ = some (.slice A4 s4.out.length c4) := br4.cell_ 2 rfl
        have q3 : w4.cell? ⟨br, 3, none⟩ = some (.int .i64 0) := br4.cell_ 3 rfl
        have q4 : w4.cell? ⟨br, 4, none⟩ = some (.int .i64 (s4.steps : Nat)) := br4.cell_ 4 rfl
        have q5 : w4.cell? ⟨br, 5, none⟩ = some (.int .i64 (s4.blocks : Nat)) := br4.cell_ 5 rfl
        have o0 : w4.cell? ⟨ro, 0, none⟩ = some (.slice none 0 0) := bo4.cell_ 0 rfl
        have o1 : w4.cell? ⟨ro, 1, none⟩ = some (.int .i64 0) := bo4.cell_ 1 rfl
        have o2 : w4.cell? ⟨ro, 2, none⟩ = some (.int .i64 0) := bo4.cell_ 2 rfl
        have o3 : w4.cell? ⟨ro, 3, none⟩ = some (.int .i64 0) := bo4.cell_ 3 rfl
        have p0 : w4.cell? ⟨re, 0, none⟩ = some (.int .i64 0) := be4.cell_ 0 rfl
        have fr := br4.frozen
        have fo := bo4.frozen
        have fe := be4.frozen
        have hn1 : br ≠ ro := Blk.ne_ br4 bo4 (by decide)
        have hn2 : br ≠ re := Blk.ne_ br4 be4 (by decide)
        have hn3 : ro ≠ re := Blk.ne_ bo4 be4 (by decide)
        have HBO4 := Lib.hid bo4
        have HBE4 := Lib.hid be4
        have hat4 : s4.at_ ≤ 8 * E.bs.length := hat.2
        clear bo4 be4 br4 HM hat
        go_wp2_with fail
        refine (at_any bb A2 E.bs.length c2 s4.at_ w4 hb4).mono ?_
        rintro e w5 ⟨rfl, rfl⟩
        clear hb4
        go_wp2_with fail
        rw [← HE.out]
        have hat5 : ((s4.at_ : Int) + 7) / 8 = (((s4.at_ + 7) / 8 : Nat) : Int) := by omega
        rw [hat5]
        obtain ⟨u, hu⟩ : ∃ u : Nat, (s4.at_ + 7) / 8 = u := ⟨_, rfl⟩
        rw [hu]
        have bo5 := (((((HBO4.out.far (p := ⟨br, 3, none⟩) hn1.symm (.int .i64 u)).set_ 0 (.slice A4 s4.out.length c4)).set_ 1 (.int .i64 u)).set_ 2 (.int .i64 (s4.steps : Nat))).set_ 3 (.int .i64 (s4.blocks : Nat))).far (p := ⟨re, 0, none⟩) hn3 (.int .i64 0)
        have be5 := (((((HBE4.out.far (p := ⟨br, 3, none⟩) hn2.symm (.int .i64 u)).far (p := ⟨ro, 0, none⟩) hn3.symm (.slice A4 s4.out.length c4)).far (p := ⟨ro, 1, none⟩) hn3.symm (.int .i64 u)).far (p := ⟨ro, 2, none⟩) hn3.symm (.int .i64 (s4.steps : Nat))).far (p := ⟨ro, 3, none⟩) hn3.symm (.int .i64 (s4.blocks : Nat))).set_ 0 (.int .i64 0)
        have k5 : Kp [br, ro, re] w4 ((((((w4.setCell ⟨br, 3, none⟩ (.int .i64 u)).setCell ⟨ro, 0, none⟩ (.slice A4 s4.out.length c4)).setCell ⟨ro, 1, none⟩ (.int .i64 u)).setCell ⟨ro, 2, none⟩ (.int .i64 (s4.steps : Nat))).setCell ⟨ro, 3, none⟩ (.int .i64 (s4.blocks : Nat))).setCell ⟨re, 0, none⟩ (.int .i64 0)) :=
          ((((((Kp.refl _ _).set_ (by simp) _).set_ (by simp) _).set_ (by simp) _).set_ (by simp) _).set_ (by simp) _).set_ (by simp) _
        generalize ((((((w4.setCell ⟨br, 3, none⟩ (.int .i64 u)).setCell ⟨ro, 0, none⟩ (.slice A4 s4.out.length c4)).setCell ⟨ro, 1, none⟩ (.int .i64 u)).setCell ⟨ro, 2, none⟩ (.int .i64 (s4.steps : Nat))).setCell ⟨ro, 3, none⟩ (.int .i64 (s4.blocks : Nat))).setCell ⟨re, 0, none⟩ (.int .i64 0)) = w6 at *
        have c0 : w6.cell? ⟨ro, 0, none⟩ = some (.slice A4 s4.out.length c4) := bo5.cell_ 0 (by simp)
        have c1 : w6.cell? ⟨ro, 1, none⟩ = some (.int .i64 u) := bo5.cell_ 1 (by simp)
        have c2' : w6.cell? ⟨ro, 2, none⟩ = some (.int .i64 (s4.steps : Nat)) := bo5.cell_ 2 (by simp)
        have c3 : w6.cell? ⟨ro, 3, none⟩ = some (.int .i64 (s4.blocks : Nat)) := bo5.cell_ 3 (by simp)
        have d0 : w6.cell? ⟨re, 0, none⟩ = some (.int .i64 0) := be5.cell_ 0 (by simp)
        refine leaves_cons (f := 31) (args := #[.pointer (some ⟨ro, 0, none⟩), .pointer (some ⟨re, 0, none⟩)]) (by simp) (by simp [go_sem]) ?_
        refine (catch_idle ⟨ro, 0, none⟩ ⟨re, 0, none⟩ w6).mono ?_
        rintro e u' w'' ⟨rfl, rfl, rfl⟩
        simp [Leaves, settle, results, Try.results21, go_sem, c0, c1, c2', c3, d0]
        rw [← hu]
        refine InfPost.ok HINF.out ((HK3.out.trans HS4.out.kp (fun x hx => .inr ?_)).trans k5 (fun x hx => .inr ?_)) (own_kp HS4.out.rep.own k5 ?_) ?_ HS4.out.rep.ok
        · simp only [turns, Value.ownBlock, Option.map_none, Option.toList_none, List.mem_cons, List.not_mem_nil, or_false] at hx
          omega
        · have h1 := HRO.out
          have h2 := HRE.out
          simp only [List.mem_cons, List.not_mem_nil, or_false] at hx
          omega
        · intro g hg he
          simp only [List.mem_cons, List.not_mem_nil, or_false] at hg
          rcases hg with rfl | rfl | rfl
          · exact HS4.out.rep.own_br he
          · exact own_blk_ne HS4.out.rep.own HBO4.out (by decide) he
          · exact own_blk_ne HS4.out.rep.own HBE4.out (by decide) he
        · intro g hg
          rcases HS4.out.new with h | ⟨g', h, hge⟩
          · rw [h] at hg; simp [Value.ownBlock] at hg
          · rw [h] at hg
            have := HK3.out.size
            have : g' = g := by simpa using hg
            omega
    · clear hp
      have HINF : Hid (infM E = .error k4) := by
        unfold Hid infM
        rw [← HM.out, mBlocks, HM4.out]
        rfl
      go_wp2_with fail
      have bo4 := (HBO.out.kp HS.out.kp (HR0.out.turn_ne HBO.out (by decide) (by decide) (by decide))).kp hk4 (HS.out.rep.turn_ne (HBO.out.kp HS.out.kp (HR0.out.turn_ne HBO.out (by decide) (by decide) (by decide))) (by decide) (by decide) (by decide))
      have be4 := (HBE.out.kp HS.out.kp (HR0.out.turn_ne HBE.out (by decide) (by decide) (by decide))).kp hk4 (HS.out.rep.turn_ne (HBE.out.kp HS.out.kp (HR0.out.turn_ne HBE.out (by decide) (by decide) (by decide))) (by decide) (by decide) (by decide))
      have k4' := HS.out.fail hk4
      refine leaves_cons (f := 31) (args := #[.pointer (some ⟨ro, 0, none⟩), .pointer (some ⟨re, 0, none⟩)]) (by simp) (by simp [go_sem]) ?_
      refine (catch_panicking ro re k4 [] w4 bo4 be4).mono ?_
      rintro e u' w'' ⟨rfl, rfl, k5, bo5, be5⟩
      have c0 : w''.cell? ⟨ro, 0, none⟩ = some (.slice none 0 0) := bo5.cell_ 0 rfl
      have c1 : w''.cell? ⟨ro, 1, none⟩ = some (.int .i64 0) := bo5.cell_ 1 rfl
      have c2 : w''.cell? ⟨ro, 2, none⟩ = some (.int .i64 0) := bo5.cell_ 2 rfl
      have c3 : w''.cell? ⟨ro, 3, none⟩ = some (.int .i64 0) := bo5.cell_ 3 rfl
      have d0 : w''.cell? ⟨re, 0, none⟩ = some (.int .i64 k4) := be5.cell_ 0 rfl
      simp [Leaves, settle, results, Try.results21, go_sem, c0, c1, c2, c3, d0]
      refine InfPost.err HINF.out ((HK3.out.trans k4' (fun x hx => .inr ?_)).trans k5 (fun x hx => .inr ?_))
      · simp only [turns, Value.ownBlock, Option.map_none, Option.toList_none, List.mem_cons, List.not_mem_nil, or_false] at hx
        omega
      · have h1 := HRO.out
        have h2 := HRE.out
        simp only [List.mem_cons, List.not_mem_nil, or_false] at hx
        omega
end Go.Proofs.Ytoaebpjjfglnnaa

/- bits.Reverse. -/
namespace Go.Proofs.Ytoaebpjjfglnnaa
open Go.RowKit Go.Proofs.YtoaebpjjfglnnaaW.PrintWords Go.Proofs.YtoaebpjjfglnnaaW.PrintLast Go.Proofs.YtoaebpjjfglnnaaW.PrintMore
attribute [local go_sem] max2_int min2_int max_two min_two max_three min_three max_four min_four

def swapB (a : Int) : Int := bits .or .u32 ((bits .or .u32 (bits .and .u32 (a / 256) 16711935) (((bits .and .u32 a 16711935) * 256) % 4294967296)) / 65536) (((bits .or .u32 (bits .and .u32 (a / 256) 16711935) (((bits .and .u32 a 16711935) * 256) % 4294967296)) * 65536) % 4294967296)
def half1 (a : Int) : Int := bits .or .u32 (bits .and .u32 (a / 2) 1431655765) (((bits .and .u32 a 1431655765) * 2) % 4294967296)
def half2 (a : Int) : Int := bits .or .u32 (bits .and .u32 (a / 4) 858993459) (((bits .and .u32 a 858993459) * 4) % 4294967296)
def half4 (a : Int) : Int := bits .or .u32 (bits .and .u32 (a / 16) 252645135) (((bits .and .u32 a 252645135) * 16) % 4294967296)
def rev32 (a : Int) : Int := swapB (half4 (half2 (half1 a)))
def revI (a : Int) (l : Nat) : Int := if l = 0 then 0 else rev32 a / 2 ^ (32 - l)
/-- The bits of a number, turned around. -/
def revR (v l : Nat) : Nat := (revI v l).toNat

theorem swapB_any (a : Int) (w : World) : Calls Try.prog 69 #[.int .u32 a] w fun e w' => e = .returned (.int .u32 (swapB a)) ∧ w = w' := by
  go_enter Try.func69, Try.ntmps69
  go_wp2
  go_ret
  exact ⟨rfl, rfl⟩
set_option maxHeartbeats 8000000 in
set_option maxRecDepth 100000 in
theorem rev32_any (a : Int) (w : World) : Calls Try.prog 51 #[.int .u32 a] w fun e w' => e = .returned (.int .u32 (rev32 a)) ∧ w = w' := by
  go_enter Try.func51, Try.ntmps51
  go_wp2_with fail
  refine (swapB_any _ _).mono ?_
  rintro e w' ⟨rfl, rfl⟩
  go_wp2_with fail
  go_ret
  exact ⟨rfl, rfl⟩
theorem or_nonneg (a b : Int) : 0 ≤ bits .or .u32 a b := by
  have h0 : bits .or .u32 a b = IntKind.u32.wrap (((BitVec.ofInt 32 a ||| BitVec.ofInt 32 b).toNat : Nat) : Int) := rfl
  rw [h0, IntKind.wrap_u32]
  omega
theorem revI_nonneg (a : Int) (l : Nat) : 0 ≤ revI a l := by
  unfold revI
  split
  · exact Int.le_refl _
  · exact Int.ediv_nonneg (or_nonneg _ _) (by exact Int.le_of_lt (Int.pow_pos (by decide)))
set_option maxHeartbeats 8000000 in
set_option maxRecDepth 100000 in
theorem rev_any (a : Int) (l : Nat) (w : World) (hl : l ≤ 15) : Calls Try.prog 35 #[.int .u32 a, .int .i64 l] w fun e w' => e = .returned (.int .u32 (revI a l)) ∧ w = w' := by
  rcases Nat.eq_zero_or_pos l with rfl | h0
  · go_enter Try.func35, Try.ntmps35
    go_wp2
    go_ret
    exact ⟨rfl, rfl⟩
  · have HR : Hid (revI a l = rev32 a / 2 ^ (32 - l)) := by unfold Hid revI; rw [if_neg (by omega)]
    obtain ⟨k, hk⟩ : ∃ k : Nat, (32 : Int) - l = k := ⟨32 - l, by omega⟩
    have hk2 : 32 - l = k := by omega
    have hk3 : k ≤ 31 := by omega
    rw [hk2] at HR
    have hkw : IntKind.i64.wrap (32 - (l : Int)) = (k : Int) := by rw [hk, IntKind.wrap_i64]; omega
    clear hk hk2
    go_enter Try.func35, Try.ntmps35
    go_wp2_with fail
    refine (rev32_any _ _).mono ?_
    rintro e w' ⟨rfl, rfl⟩
    go_wp2_with fail
    go_ret
    rw [HR.out]
    exact ⟨rfl, rfl⟩
theorem revC : RevC revR := by
  intro a b l w ha hb hl
  refine (rev_any _ l w hl).mono ?_
  rintro e w' ⟨rfl, rfl⟩
  refine ⟨ret_int ?_, rfl⟩
  unfold revR
  rw [Int.toNat_of_nonneg (revI_nonneg _ _)]
  simp
end Go.Proofs.Ytoaebpjjfglnnaa

/- alive; SameBytes. -/
namespace Go.Proofs.Ytoaebpjjfglnnaa
open Go.RowKit Go.Proofs.YtoaebpjjfglnnaaW.PrintWords Go.Proofs.YtoaebpjjfglnnaaW.PrintLast Go.Proofs.YtoaebpjjfglnnaaW.PrintMore
attribute [local go_sem] max2_int min2_int max_two min_two max_three min_three max_four min_four

theorem inf1 : infM ⟨[75, 4, 0], 9⟩ = .ok ⟨18, [97], 2, 1⟩ := by kernel_rfl
theorem inf2 : infM ⟨[1, 2, 0, 253, 255, 7, 8, 99], 2⟩ = .ok ⟨56, [7, 8], 2, 1⟩ := by kernel_rfl
theorem inf3 : infM ⟨[1, 2, 0, 253, 255, 7, 8], 1⟩ = .error 14 := by kernel_rfl
theorem inf4 : infM ⟨[7], 1⟩ = .error 10 := by kernel_rfl

/-- SameBytes: are two rows of bytes the same? -/
theorem same_l0 (a b : List Int) (hl : a.length = b.length) (hm : a.length ≤ 9223372036854775807) : ∀ d i k, a.length - i = d → d < k → a.take i = b.take i → PInflateAnswers.etuiref00_SameBytes.l0 k a b (i : Nat) = some (decide (a = b))
  | 0, i, 0, _, h, _ => by omega
  | 0, i, k + 1, h1, _, h3 => by
    rw [PInflateAnswers.etuiref00_SameBytes.l0, if_neg (by omega)]
    rw [List.take_of_length_le (by omega), List.take_of_length_le (by omega)] at h3
    simp [h3]
  | d + 1, i, 0, _, h, _ => by omega
  | d + 1, i, k + 1, h1, h2, h3 => by
    have hi : i < a.length := by omega
    have hi2 : i < b.length := by omega
    rw [PInflateAnswers.etuiref00_SameBytes.l0, if_pos (by omega), if_pos (by omega), if_pos (by omega)]
    have e1 : rd a (i : Nat) = a[i] := by simp [rd, List.getD_eq_getElem?_getD, hi]
    have e2 : rd b (i : Nat) = b[i] := by simp [rd, List.getD_eq_getElem?_getD, hi2]
    rw [e1, e2]
    by_cases he : a[i] = b[i]
    · rw [if_pos he, show wrap64 ((i : Int) + 1) = ((i + 1 : Nat) : Int) by unfold wrap64; omega]
      refine same_l0 a b hl hm d (i + 1) k (by omega) (by omega) ?_
      rw [List.take_succ_eq_append_getElem hi, List.take_succ_eq_append_getElem hi2, h3, he]
    · rw [if_neg he]
      have : a ≠ b := by
        rintro rfl
        exact he rfl
      simp [this]
theorem same_f (a b : List Int) (hm : a.length ≤ 9223372036854775807) : PInflateAnswers.etuiref00_SameBytes.f (a.length + 1) a b = some (decide (a = b)) := by
  unfold PInflateAnswers.etuiref00_SameBytes.f
  by_cases h : a.length = b.length
  · rw [if_pos (by omega)]
    exact same_l0 a b h hm a.length 0 _ (by omega) (by omega) (by simp)
  · rw [if_neg (by omega)]
    have : a ≠ b := fun e => h (by rw [e])
    simp [this]
theorem kp_drawn {w w' : World} (h : Drawn0 w w') : Kp [] w w' := by
  obtain ⟨n, rfl⟩ := h
  exact (Kp.refl _ _).drewN n
theorem same_any (A0 A1 : Option Addr) (c0 c1 : Nat) (a b : List Int) (w : World) (h0 : (Kd.int .u8).C w A0 a.length a) (g0 : a.length ≤ c0) (h1 : (Kd.int .u8).C w A1 b.length b) (g1 : b.length ≤ c1) :
    Calls Try.prog 13 #[.slice A0 a.length c0, .slice A1 b.length c1] w fun e w' => e = .returned (.bool (decide (a = b))) ∧ Kp [] w w' := by
  refine (PInflateAnswers.etuiref00_SameBytes.calls _ A0 c0 a A1 c1 b _ w h0 g0 h1 g1 (same_f a b h0.2.1)).mono ?_
  rintro e w' ⟨rfl, hd⟩
  exact ⟨rfl, kp_drawn hd⟩
/-- The same, of a row that one owns and a block of numbers. -/
theorem own_blk {w : World} {g n : Nat} {xs : List Int} (h : Blk w g 5 (nums .u8 xs).toArray) (hn : xs.length = n) (hm : n ≤ 1000000) : (Kd.int .u8).C w (some ⟨g, 0, none⟩) n xs := by
  subst hn
  exact C_of_reads (own_reads' (h.own (by omega)))
theorem Bytes.of {l : List Int} (h : l.all (fun b => decide (0 ≤ b) && decide (b < 256)) = true) : Bytes l := by
  intro b hb
  have := List.all_eq_true.1 h b hb
  simpa using this
theorem inf_call (xs : List Int) (lim : Nat) (g : Nat) (w : World) {r : Except Nat IS} (hr : infM ⟨xs, lim⟩ = r) (hb : Blk w g 5 (nums .u8 xs).toArray) (hby : xs.all (fun b => decide (0 ≤ b) && decide (b < 256)) = true) (hn : xs.length ≤ 1000000) (hl : lim ≤ 1099511627776) :
    Calls Try.prog 21 #[.slice (some ⟨g, 0, none⟩) xs.length xs.length, .int .i64 lim] w (InfPost ⟨xs, lim⟩ r w) := by
  have := inflate_any revR revC (some ⟨g, 0, none⟩) xs.length xs.length xs lim w (own_blk hb rfl hn) (Bytes.of hby) (by omega) (by omega)
  rw [Int.toNat_natCast, hr] at this
  exact this
theorem InfPost.okC {E : IE} {r : Except Nat IS} {s : IS} {w w' : World} {e : Ending} (h : InfPost E r w e w') (hr : r = .ok s) : Kp [] w w' ∧ ∃ A c, e = .returned (.tuple #[.agg #[.slice A s.out.length c, .int .i64 ((s.at_ + 7) / 8 : Nat), .int .i64 (s.steps : Nat), .int .i64 (s.blocks : Nat)], .int .i64 0]) ∧ s.out.length ≤ c ∧ (Kd.int .u8).C w' A s.out.length s.out ∧ (∀ g, (Value.slice A s.out.length c).ownBlock = some g → w.heap.size ≤ g) ∧ s.Ok E := by
  subst hr
  obtain ⟨hk, ov, rfl, ho, hf, hOk⟩ := h
  obtain ⟨A, c, rfl, hc, hC⟩ := own_C ho
  exact ⟨hk, A, c, rfl, hc, hC, hf, hOk⟩
theorem InfPost.errC {E : IE} {r : Except Nat IS} {k : Nat} {w w' : World} {e : Ending} (h : InfPost E r w e w') (hr : r = .error k) : Kp [] w w' ∧ e = .returned (.tuple #[.agg #[.slice none 0 0, .int .i64 0, .int .i64 0, .int .i64 0], .int .i64 k]) := by
  subst hr
  exact h
theorem C_cells {k : IntKind} {w w' : World} {A : Option Addr} {n : Nat} {xs : List Int} (h : (Kd.int k).C w A n xs) (hk : ∀ a, w'.cell? a = w.cell? a) : (Kd.int k).C w' A n xs := by
  refine ⟨h.1, h.2.1, fun hn => ?_⟩
  obtain ⟨ad, e, hc⟩ := h.2.2 hn
  refine ⟨ad, e, fun j p hj => ?_⟩
  obtain ⟨c, hs, hr, hcell⟩ := hc j p hj
  exact ⟨c, hs, hr, fun i u hu => (hk _).trans (hcell i u hu)⟩
theorem mark_C (w : World) (xs : List Int) (fr : Nat × Nat) (hn : xs.length ≤ 1000000) : (Kd.int .u8).C (w.alloc (.cells (nums .u8 xs).toArray 5 fr)) (some ⟨w.heap.size, 0, none⟩) xs.length xs := by
  refine C_cells (own_blk (Blk.new w 5 _) rfl hn) (fun a => ?_)
  unfold World.cell?
  have e : ∀ k : Nat, k ≠ w.heap.size → (w.alloc (.cells (nums .u8 xs).toArray 5 fr)).heap[k]? = (w.alloc (.cells (nums .u8 xs).toArray 5)).heap[k]? := fun k hk => by
    show (w.heap.push _)[k]? = (w.heap.push _)[k]?
    rw [Array.getElem?_push, Array.getElem?_push, if_neg hk, if_neg hk]
  by_cases h : a.block = w.heap.size
  · rw [h, heap_alloc_new, heap_alloc_new]
  · rw [e _ h]

set_option maxHeartbeats 8000000 in
set_option maxRecDepth 100000 in
theorem alive_any (w : World) : Calls Try.prog 10 #[] w fun e w' => e = .returned (.bool true) ∧ Kp [] w w' := by
  go_enter Try.func10, Try.ntmps10
  go_wp2_with fail
  refine (inf_call [75, 4, 0] 9 _ _ inf1 (Blk.new _ _ _) (by decide) (by decide) (by decide)).mono ?_
  intro e w1 hp
  obtain ⟨hk1, A1, c1, rfl, hc1, hC1, ho1, -⟩ := hp.okC rfl
  replace hk1 := (Kp.refl [] w).alloc (.cells #[.int .u8 75, .int .u8 4, .int .u8 0] 5) |>.then_ hk1
  clear hp ho1
  go_wp2_with fail
  have B1 := (Blk.new w1 35 #[.slice A1 1 c1, .int .i64 3, .int .i64 2, .int .i64 1]).alloc (.cells #[.int .u8 1, .int .u8 2, .int .u8 0, .int .u8 253, .int .u8 255, .int .u8 7, .int .u8 8, .int .u8 99] 5)
  have k2 := (((Kp.refl [] w1).alloc (.cells #[.slice A1 1 c1, .int .i64 3, .int .i64 2, .int .i64 1] 35)).alloc (.cells #[.int .u8 1, .int .u8 2, .int .u8 0, .int .u8 253, .int .u8 255, .int .u8 7, .int .u8 8, .int .u8 99] 5))
  refine (inf_call [1, 2, 0, 253, 255, 7, 8, 99] 2 _ _ inf2 (Blk.newAt (by simp) _ _) (by decide) (by decide) (by decide)).mono ?_
  intro e w2 hp
  obtain ⟨hk2, A2, c2, rfl, hc2, hC2, -, -⟩ := hp.okC rfl
  replace k2 := k2.then_ hk2
  replace B1 := B1.kp hk2 (by simp)
  obtain ⟨g1, hg1⟩ : ∃ g, w1.heap.size = g := ⟨_, rfl⟩
  rw [hg1] at B1 ⊢
  clear hp hg1 hk2
  go_wp2_with fail
  have B2 := (Blk.new w2 35 #[.slice A2 2 c2, .int .i64 7, .int .i64 2, .int .i64 1]).alloc (.cells #[.int .u8 1, .int .u8 2, .int .u8 0, .int .u8 253, .int .u8 255, .int .u8 7, .int .u8 8] 5)
  have k3 := (((Kp.refl [] w2).alloc (.cells #[.slice A2 2 c2, .int .i64 7, .int .i64 2, .int .i64 1] 35)).alloc (.cells #[.int .u8 1, .int .u8 2, .int .u8 0, .int .u8 253, .int .u8 255, .int .u8 7, .int .u8 8] 5))
  refine (inf_call [1, 2, 0, 253, 255, 7, 8] 1 _ _ inf3 (Blk.newAt (by simp) _ _) (by decide) (by decide) (by decide)).mono ?_
  intro e w3 hp
  obtain ⟨hk3, rfl⟩ := hp.errC rfl
  replace k3 := k3.then_ hk3
  replace B2 := B2.kp hk3 (by simp)
  obtain ⟨g2, hg2⟩ : ∃ g, w2.heap.size = g := ⟨_, rfl⟩
  rw [hg2] at B2 ⊢
  clear hp hg2 hk3
  go_wp2_with fail
  have k4 := (((Kp.refl [] w3).alloc (.cells #[.slice none 0 0, .int .i64 0, .int .i64 0, .int .i64 0] 35)).alloc (.cells #[.int .u8 7] 5))
  refine (inf_call [7] 1 _ _ inf4 (Blk.newAt (by simp) _ _) (by decide) (by decide) (by decide)).mono ?_
  intro e w4 hp
  obtain ⟨hk4, rfl⟩ := hp.errC rfl
  replace k4 := k4.then_ hk4
  clear hp hk4
  go_wp2_with fail
  have k5 : Kp [] w4 (w4.alloc (.cells #[.slice none 0 0, .int .i64 0, .int .i64 0, .int .i64 0] 35)) := (Kp.refl _ _).alloc _
  generalize w4.alloc (.cells #[.slice none 0 0, .int .i64 0, .int .i64 0, .int .i64 0] 35) = w5 at *
  have l270 : lengthM 270 = (23, 2, true) := by decide
  have d29 : distanceM 29 = (24577, 13, true) := by decide
  have HL := length_nat 270 w5
  have HD := distance_nat 29 w5
  rw [l270] at HL
  rw [d29] at HD
  have K15 := ((hk1.then_ k2).then_ k3).then_ (k4.then_ k5)
  replace B1 := (B1.kp k3 (by simp)).kp (k4.then_ k5) (by simp)
  replace B2 := B2.kp (k4.then_ k5) (by simp)
  replace hC1 := C_kp hC1 ((k2.then_ k3).then_ (k4.then_ k5)) (by simp)
  replace hC2 := C_kp hC2 (k3.then_ (k4.then_ k5)) (by simp)
  clear k2 k3 k4 k5 hk1 l270 d29
  have HL' := Lib.hid HL
  have HD' := Lib.hid HD
  clear HL HD
  go_wp2_with fail
  refine HL'.out.mono ?_
  rintro e w' ⟨rfl, rfl⟩
  go_wp2_with fail
  refine HD'.out.mono ?_
  rintro e w' ⟨rfl, rfl⟩
  have a0 : w5.cell? ⟨g1, 0, none⟩ = some (.slice A1 1 c1) := B1.cell_ 0 rfl
  have kc := fun (w : World) (C : Array Value) (n c : Nat) => Lib.run_convert_bytes_const (P := Try.prog) w 22 5 C n c Try.underlying22 Try.underlying5
  go_wp2_with fail
  have S1 := same_any A1 (some ⟨w5.heap.size, 0, none⟩) c1 1 [97] [97] (w5.alloc (.cells #[.int .u8 97] 5 (1, 2))) (C_kp hC1 ((Kp.refl [] w5).alloc _) (by simp)) hc1 (mark_C w5 [97] (1, 2) (by decide)) (by decide)
  refine S1.mono ?_
  rintro e w6 ⟨rfl, hk6⟩
  have k6 := ((Kp.refl [] w5).alloc (.cells #[.int .u8 97] 5 (1, 2))).then_ hk6
  replace B1 := B1.kp k6 (by simp)
  replace B2 := B2.kp k6 (by simp)
  replace hC2 := C_kp hC2 k6 (by simp)
  replace K15 := K15.then_ k6
  clear a0 hk6 k6 S1
  have a1 : w6.cell? ⟨g1, 1, none⟩ = some (.int .i64 3) := B1.cell_ 1 rfl
  have b0 : w6.cell? ⟨g2, 0, none⟩ = some (.slice A2 2 c2) := B2.cell_ 0 rfl
  go_wp2_with fail
  have S2 := same_any A2 (some ⟨w6.heap.size, 0, none⟩) c2 2 [7, 8] [7, 8] (w6.alloc (.cells #[.int .u8 7, .int .u8 8] 5)) (C_kp hC2 ((Kp.refl [] w6).alloc _) (by simp)) hc2 (own_blk (Blk.newAt rfl _ _) rfl (by decide)) (by decide)
  refine S2.mono ?_
  rintro e w7 ⟨rfl, hk7⟩
  have k7 := ((Kp.refl [] w6).alloc (.cells #[.int .u8 7, .int .u8 8] 5)).then_ hk7
  replace B2 := B2.kp k7 (by simp)
  replace K15 := K15.then_ k7
  clear a1 b0 hk7 k7 S2
  have b1 : w7.cell? ⟨g2, 1, none⟩ = some (.int .i64 7) := B2.cell_ 1 rfl
  have b2 : w7.cell? ⟨g2, 2, none⟩ = some (.int .i64 2) := B2.cell_ 2 rfl
  have b3 : w7.cell? ⟨g2, 3, none⟩ = some (.int .i64 1) := B2.cell_ 3 rfl
  go_wp2_with fail
  go_ret
  exact ⟨rfl, K15⟩
end Go.Proofs.Ytoaebpjjfglnnaa
