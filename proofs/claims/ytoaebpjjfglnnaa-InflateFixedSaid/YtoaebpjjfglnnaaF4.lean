/- Bytes and a length that goes back, by the fixed codes: the law's walk. -/
import Derived.Test.YtoaebpjjfglnnaaF2
import Derived.Test.YtoaebpjjfglnnaaF3
import Derived.Test.YtoaebpjjfglnnaaS6
set_option linter.unusedVariables false
set_option linter.unusedSimpArgs false
namespace Go.Proofs.Ytoaebpjjfglnnaa
open Go.RowKit Go.Proofs.YtoaebpjjfglnnaaW.PrintWords Go.Proofs.YtoaebpjjfglnnaaW.PrintLast Go.Proofs.YtoaebpjjfglnnaaW.PrintMore
attribute [local go_sem] max2_int min2_int max_two min_two max_three min_three max_four min_four

/-- The writer and the codes in memory, and a row of bytes beside them. -/
def WI (w wr : World) (gw p1 p2 : Nat) (l : List (Nat × Nat)) (u : Value) (xs : List Int) : Prop :=
  ∃ v, WrB wr gw v (catV l) (catN l) ∧ Kp [] w wr ∧ w.heap.size ≤ gw ∧ (∀ g, v.ownBlock = some g → w.heap.size ≤ g ∧ u.ownBlock ≠ some g) ∧ HCode revR wr p1 fixF ∧ HCode revR wr p2 fixS ∧ Own .u8 5 wr u xs ∧ (∀ g, u.ownBlock = some g → w.heap.size ≤ g)
theorem own_lt {w : World} {base : Nat} {e : TypeId} {size n : Nat} {v : Value} {xs : List Value} (h : w.ownsRow base e size v n xs) {g : Nat} (hg : v.ownBlock = some g) : ∃ cs, Blk w g e cs := by
  rcases h.2 with ⟨rfl, _⟩ | ⟨g', cap, cur, rfl, _, hh, _⟩
  · simp [Value.ownBlock] at hg
  · have : g' = g := by simpa [Value.ownBlock] using hg
    subst this
    exact ⟨cur, hh⟩
theorem WI.step {w wr w' : World} {gw p1 p2 : Nat} {l : List (Nat × Nat)} {u : Value} {xs : List Int} {v v' : Value} {x k : Nat} (hw : WrB wr gw v (catV l) (catN l)) (hk : Kp [] w wr) (hg : w.heap.size ≤ gw) (hv : ∀ g, v.ownBlock = some g → w.heap.size ≤ g ∧ u.ownBlock ≠ some g) (h1 : HCode revR wr p1 fixF) (h2 : HCode revR wr p2 fixS) (ho : Own .u8 5 wr u xs) (hu : ∀ g, u.ownBlock = some g → w.heap.size ≤ g)
    (hw' : WrB w' gw v' (catV l + x % 2 ^ k * 2 ^ catN l) (catN l + k)) (hk' : Kp (gw :: v.ownBlock.toList) wr w') (hf : v'.ownBlock = v.ownBlock ∨ ∃ g, v'.ownBlock = some g ∧ wr.heap.size ≤ g) : WI w w' gw p1 p2 (l ++ [(x, k)]) u xs := by
  have hoth : Other wr (gw :: v.ownBlock.toList) := by
    intro y hy
    rcases List.mem_cons.1 hy with rfl | hy
    · exact ⟨80, _, hw.blk, by decide, by decide, by decide⟩
    · obtain ⟨cs, hb⟩ := own_lt hw.own (show v.ownBlock = some y by simpa using hy)
      exact ⟨5, cs, hb, by decide, by decide, by decide⟩
  refine ⟨v', ?_, hk.trans hk' (fun y hy => .inr ?_), hg, fun g hg' => ?_, h1.kp hk' hoth, h2.kp hk' hoth, own_kp ho hk' (fun g hg' => ?_), hu⟩
  · rw [catV_snoc, catN_append]
    simpa [catN] using hw'
  · rcases List.mem_cons.1 hy with rfl | hy
    · exact hg
    · exact (hv y (by simpa using hy)).1
  · rcases hf with e | ⟨g2, e, hge⟩
    · rw [e] at hg'; exact hv g hg'
    · rw [e] at hg'
      have hgg : g2 = g := by simpa using hg'
      have hs := hk.size
      refine ⟨by omega, fun hu2 => ?_⟩
      obtain ⟨cs, hb⟩ := own_lt ho hu2
      have := hb.lt
      omega
  · rcases List.mem_cons.1 hg' with rfl | hg'
    · exact own_blk_ne ho hw.blk (by decide)
    · exact (hv g (by simpa using hg')).2
theorem wi_put {w wr : World} {gw p1 p2 : Nat} {l : List (Nat × Nat)} {u : Value} {xs : List Int} (x k : Nat) (h : WI w wr gw p1 p2 l u xs) (hx : x < 4294967296) (hk : k ≤ 32) (hN : catN l ≤ 1000000) :
    Calls Try.prog 24 #[.pointer (some ⟨gw, 0, none⟩), .int .u32 x, .int .i64 k] wr fun e w' => e = .returned (.tuple #[]) ∧ WI w w' gw p1 p2 (l ++ [(x, k)]) u xs := by
  obtain ⟨v, a1, a2, a3, a4, a5, a6, a7, a8⟩ := h
  refine (put_any gw v _ _ x k wr a1 hx hk hN).mono ?_
  rintro e w' ⟨rfl, v', b1, b2, b3⟩
  exact ⟨rfl, WI.step a1 a2 a3 a4 a5 a6 a7 a8 b1 b2 b3⟩
theorem rev32_lt (c l : Nat) (hl : l ∈ [5, 7, 8, 9]) (hc : c < 2 ^ l) : revR c l < 2 ^ l := (rev_small l hl c hc).1
theorem wi_hput1 {w wr : World} {gw p1 p2 : Nat} {l : List (Nat × Nat)} {u : Value} {xs : List Int} (s : Nat) (h : WI w wr gw p1 p2 l u xs) (hs : s < 288) (hN : catN l ≤ 1000000) :
    Calls Try.prog 25 #[.pointer (some ⟨p1, 0, none⟩), .pointer (some ⟨gw, 0, none⟩), .int .i64 s] wr fun e w' => e = .returned (.bool true) ∧ WI w w' gw p1 p2 (l ++ [wordC fixF s]) u xs := by
  obtain ⟨v, a1, a2, a3, a4, a5, a6, a7, a8⟩ := h
  have hl := fixF_codes s hs
  have hrk := rank_lt fixF s (by rw [fixF_len]; exact hs)
  have hf := fixF_first _ hl
  have hb : 1 ≤ fixF.getD s 0 ∧ fixF.getD s 0 ≤ 9 := by
    simp only [List.mem_cons, List.not_mem_nil, or_false] at hl
    omega
  have hc : firstF fixF (fixF.getD s 0) + rank fixF s < 2 ^ fixF.getD s 0 := by omega
  have hr := rev32_lt _ _ (List.mem_cons_of_mem _ hl) hc
  have h9 : (2 : Nat) ^ fixF.getD s 0 ≤ 2 ^ 9 := Nat.pow_le_pow_right (by decide) hb.2
  refine (hput_any revR p1 gw fixF s _ _ _ _ v wr a5 a1 (by rw [fixF_len]; exact hs) rfl (by omega) (by omega) (by rw [fixF_len]; decide) rfl (by omega) hN).mono ?_
  rintro e w' ⟨rfl, v', b1, b2, b3⟩
  exact ⟨rfl, WI.step a1 a2 a3 a4 a5 a6 a7 a8 b1 b2 b3⟩
theorem wi_hput2 {w wr : World} {gw p1 p2 : Nat} {l : List (Nat × Nat)} {u : Value} {xs : List Int} (s : Nat) (h : WI w wr gw p1 p2 l u xs) (hs : s < 32) (hN : catN l ≤ 1000000) :
    Calls Try.prog 25 #[.pointer (some ⟨p2, 0, none⟩), .pointer (some ⟨gw, 0, none⟩), .int .i64 s] wr fun e w' => e = .returned (.bool true) ∧ WI w w' gw p1 p2 (l ++ [wordC fixS s]) u xs := by
  obtain ⟨v, a1, a2, a3, a4, a5, a6, a7, a8⟩ := h
  have hl := fixS_codes s hs
  have hrk := rank_lt fixS s (by rw [fixS_len]; exact hs)
  have hf := fixS_first
  rw [hl] at hrk
  have hc : firstF fixS 5 + rank fixS s < 2 ^ 5 := by omega
  have hr := rev32_lt _ 5 (by decide) hc
  have hx : revR (firstF fixS (fixS.getD s 0) + rank fixS s) (fixS.getD s 0) < 4294967296 := by rw [hl]; omega
  refine (hput_any revR p2 gw fixS s _ _ _ _ v wr a6 a1 (by rw [fixS_len]; exact hs) rfl (by omega) (by omega) (by rw [fixS_len]; decide) rfl hx hN).mono ?_
  rintro e w' ⟨rfl, v', b1, b2, b3⟩
  exact ⟨rfl, WI.step a1 a2 a3 a4 a5 a6 a7 a8 b1 b2 b3⟩
theorem WI.app {w wr W w' : World} {gw p1 p2 : Nat} {l : List (Nat × Nat)} {u u' : Value} {xs ys : List Int} (h : WI w wr gw p1 p2 l u xs) (hkW : Kp [] wr W) (ho : Own .u8 5 w' u' ys) (hg : W.grownBy w' u.ownBlock) (hat : u'.ownBlock = u.ownBlock ∨ ∃ b, u'.ownBlock = some b ∧ W.heap.size ≤ b) : WI w w' gw p1 p2 l u' ys := by
  obtain ⟨v, a1, a2, a3, a4, a5, a6, a7, a8⟩ := h
  have a7W := own_kp a7 hkW (by simp)
  have a1W := a1.kp0 hkW
  have kv : Kp u.ownBlock.toList W w' := (Kp.refl _ _).grown hg (fun k hk => .inl (by simp [hk]))
  have hoth : Other W u.ownBlock.toList := by
    intro y hy
    obtain ⟨cs, hb⟩ := own_lt a7W (show u.ownBlock = some y by simpa using hy)
    exact ⟨5, cs, hb, by decide, by decide, by decide⟩
  have hvu : ∀ g ∈ u.ownBlock.toList, v.ownBlock ≠ some g := fun g hgm hv => (a4 g hv).2 (by simpa using hgm)
  have kW := a2.then_ hkW
  refine ⟨v, ⟨a1W.blk.kp kv (fun hm => own_blk_ne a7W a1W.blk (by decide) (by simpa using hm)), own_kp a1W.own kv hvu, a1W.lt⟩, kW.trans kv (fun y hy => .inr (a8 y (by simpa using hy))), a3, fun g hgv => ⟨(a4 g hgv).1, fun hu => ?_⟩, (a5.kp0 hkW).kp kv hoth, (a6.kp0 hkW).kp kv hoth, ho, fun g hgu => ?_⟩
  · rcases hat with e | ⟨b, e, hb⟩
    · rw [e] at hu; exact (a4 g hgv).2 hu
    · rw [e] at hu
      have hbg : b = g := by simpa using hu
      obtain ⟨cs, hb2⟩ := own_lt a1W.own hgv
      have := hb2.lt
      omega
  · rcases hat with e | ⟨b, e, hb⟩
    · rw [e] at hgu; exact a8 g hgu
    · rw [e] at hgu
      have hbg : b = g := by simpa using hgu
      have := kW.size
      omega
theorem WI.kp {w wr : World} {gw p1 p2 : Nat} {l : List (Nat × Nat)} {u : Value} {xs : List Int} (h : WI w wr gw p1 p2 l u xs) : Kp [] w wr := by
  obtain ⟨v, a1, a2, a3, a4, a5, a6, a7, a8⟩ := h
  exact a2
theorem WI.own {w wr : World} {gw p1 p2 : Nat} {l : List (Nat × Nat)} {u : Value} {xs : List Int} (h : WI w wr gw p1 p2 l u xs) : Own .u8 5 wr u xs := by
  obtain ⟨v, a1, a2, a3, a4, a5, a6, a7, a8⟩ := h
  exact a7
theorem WI.wr {w wr : World} {gw p1 p2 : Nat} {l : List (Nat × Nat)} {u : Value} {xs : List Int} (h : WI w wr gw p1 p2 l u xs) : ∃ v, WrB wr gw v (catV l) (catN l) := by
  obtain ⟨v, a1, a2, a3, a4, a5, a6, a7, a8⟩ := h
  exact ⟨v, a1⟩
theorem WI.fresh {w wr : World} {gw p1 p2 : Nat} {l : List (Nat × Nat)} {u : Value} {xs : List Int} (h : WI w wr gw p1 p2 l u xs) : ∀ g, u.ownBlock = some g → w.heap.size ≤ g := by
  obtain ⟨v, a1, a2, a3, a4, a5, a6, a7, a8⟩ := h
  exact a8
theorem WI.empty {w wr : World} {gw p1 p2 : Nat} {l : List (Nat × Nat)} {u : Value} {xs : List Int} (h : WI w wr gw p1 p2 l u xs) : WI w (wr.alloc (.cells #[] 5)) gw p1 p2 l (.slice (some ⟨wr.heap.size, 0, none⟩) 0 0) [] := by
  obtain ⟨v, a1, a2, a3, a4, a5, a6, a7, a8⟩ := h
  have k : Kp [] wr (wr.alloc (.cells #[] 5)) := (Kp.refl _ _).alloc _
  refine ⟨v, a1.kp0 k, a2.then_ k, a3, fun g hg => ⟨(a4 g hg).1, fun hu => ?_⟩, a5.kp0 k, a6.kp0 k, World.ownsRow_made wr #[] 0 (Nat.zero_le _) (by simp [maxLen]) rfl, fun g hg => ?_⟩
  · obtain ⟨cs, hb⟩ := own_lt a1.own hg
    have hl := hb.lt
    simp [Value.ownBlock] at hu
    omega
  · simp [Value.ownBlock] at hg
    have := a2.size
    omega
theorem catN_lits : ∀ (l : List Int), Bytes l → catN (litsC l) ≤ 9 * l.length
  | [], _ => by simp [litsC, catN]
  | b :: l, h => by
    have ih := catN_lits l h.tail
    have hb := h b (by simp)
    have hc := fixF_codes b.toNat (by omega)
    simp only [List.mem_cons, List.not_mem_nil, or_false] at hc
    have e : (wordC fixF b.toNat).2 = fixF.getD b.toNat 0 := rfl
    simp only [litsC, List.map_cons, catN, List.length_cons] at ih ⊢
    omega
theorem catN_take (l : List Int) (h : Bytes l) (k : Nat) (hn : l.length ≤ 600) : catN ((3, 3) :: litsC (l.take k)) ≤ 6000 := by
  have := catN_lits (l.take k) (h.take k)
  rw [List.length_take] at this
  simp only [catN]
  omega
theorem litsC_snoc (l : List Int) (k : Nat) (hk : k < l.length) : (3, 3) :: litsC (l.take (k + 1)) = ((3, 3) :: litsC (l.take k)) ++ [wordC fixF (l.getD k 0).toNat] := by
  have e : l.getD k 0 = l[k] := by simp [List.getD_eq_getElem?_getD, List.getElem?_eq_getElem hk]
  rw [e, List.take_succ_eq_append_getElem hk]
  unfold litsC
  rw [List.map_append]
  rfl
theorem copyM_snoc (far : Nat) : ∀ (k : Nat) (out : List Int), copyM far (k + 1) out = copyM far k out ++ [(copyM far k out).getD ((copyM far k out).length - far) 0]
  | 0, out => rfl
  | k + 1, out => by
    rw [copyM, copyM_snoc far k]
    rfl
/-- A call of Inflate, its bytes one's own. -/
theorem inf_own {xs : List Int} {lim : Nat} {s : IS} (A : Option Addr) (n c : Nat) (w : World) (hr : infM ⟨xs, lim⟩ = .ok s) (hC : (Kd.int .u8).C w A n xs) (hby : Bytes xs) (hn : n ≤ 1099511627776) (hl : lim ≤ 1099511627776) {u st bl : Nat} (hu : (s.at_ + 7) / 8 = u) (hst : s.steps = st) (hbl : s.blocks = bl) :
    Calls Try.prog 21 #[.slice A n c, .int .i64 lim] w fun e w' => ∃ ov, e = .returned (.tuple #[.agg #[ov, .int .i64 u, .int .i64 st, .int .i64 bl], .int .i64 0]) ∧ Own .u8 5 w' ov s.out ∧ Kp [] w w' ∧ (∀ g, ov.ownBlock = some g → w.heap.size ≤ g) := by
  subst hu hst hbl
  have := inflate_any revR revC A n c xs lim w hC hby hn (by omega)
  rw [Int.toNat_natCast] at this
  refine this.mono ?_
  intro e w' hp
  rw [hr] at hp
  obtain ⟨hk, ov, rfl, ho, hf, hOk⟩ := hp
  exact ⟨ov, rfl, ho, hk, hf⟩

set_option maxHeartbeats 8000000 in
set_option maxRecDepth 100000 in
theorem fixed_in (A : Option Addr) (n c : Nat) (lit : List Int) (sym extra far more base nn dist m : Nat) (w : World) (hln : lit.length = n) (hC : (Kd.int .u8).C w A n lit) (hc : n ≤ c) (hby : Bytes lit) (hn : n ≤ 600) (hs0 : 257 ≤ sym) (hs1 : sym ≤ 285) (hL : lengthM sym = (base, nn, true)) (hf : far ≤ 29) (hD : distanceM far = (dist, m, true)) (he : extra < 2 ^ nn) (hm : more < 2 ^ m) :
    Calls Try.prog 9 #[.slice A n c, .int .i64 sym, .int .i64 extra, .int .i64 far, .int .i64 more] w fun e w' => e = .returned (.bool true) ∧ Below w.heap.size w w' := by
  have hlb := length_bd sym
  have hdb := distance_bd far
  rw [hL] at hlb
  rw [hD] at hdb
  simp only at hlb hdb
  have H1 := Lib.hid (fun w => length_nat sym w)
  have H2 := Lib.hid (fun w => distance_nat far w)
  rw [hL] at H1
  rw [hD] at H2
  have h32 : 2 ^ nn ≤ 2 ^ 5 := Nat.pow_le_pow_right (by decide) hlb.2
  have h32m : 2 ^ m ≤ 2 ^ 13 := Nat.pow_le_pow_right (by decide) hdb.2
  have q1 : decide ((600 : Int) < (n : Int)) = false := decide_eq_false (by omega)
  have q2 : decide ((extra : Int) < 0) = false := decide_eq_false (by omega)
  have q3 : decide ((more : Int) < 0) = false := decide_eq_false (by omega)
  obtain ⟨P1, hP1⟩ : ∃ P1 : Nat, wrap64 (2 ^ nn) = P1 := ⟨2 ^ nn, by rw [show (2 : Int) ^ nn = ((2 ^ nn : Nat) : Int) by simp]; unfold wrap64; omega⟩
  obtain ⟨P2, hP2⟩ : ∃ P2 : Nat, wrap64 (2 ^ m) = P2 := ⟨2 ^ m, by rw [show (2 : Int) ^ m = ((2 ^ m : Nat) : Int) by simp]; unfold wrap64; omega⟩
  have hx1 : 2 ^ nn = P1 := by rw [show (2 : Int) ^ nn = ((2 ^ nn : Nat) : Int) by simp] at hP1; unfold wrap64 at hP1; omega
  have hx2 : 2 ^ m = P2 := by rw [show (2 : Int) ^ m = ((2 ^ m : Nat) : Int) by simp] at hP2; unfold wrap64 at hP2; omega
  have hp1 : IntKind.i64.wrap (2 ^ nn) = (P1 : Int) := by rw [i64_w]; exact hP1
  have hp2 : IntKind.i64.wrap (2 ^ m) = (P2 : Int) := by rw [i64_w]; exact hP2
  have q4 : decide (P1 ≤ extra) = false := decide_eq_false (by omega)
  have q5 : decide (P2 ≤ more) = false := decide_eq_false (by omega)
  clear hx1 hx2
  have HLN := Lib.hid hln
  have HC := Lib.hid hC
  have HBY := Lib.hid hby
  have HL := Lib.hid hL
  have HD := Lib.hid hD
  have HE := Lib.hid he
  have HM := Lib.hid hm
  have H32 := Lib.hid h32
  have H32M := Lib.hid h32m
  obtain ⟨hlb1, hlb2⟩ := hlb
  obtain ⟨hdb1, hdb2⟩ := hdb
  clear hln hC hby hL hD he hm h32 h32m
  go_enter Try.func9, Try.ntmps9
  go_wp2_with fail
  refine (alive_any w).mono ?_
  rintro e w1 ⟨rfl, k1⟩
  go_wp2_with fail
  refine (H1.out w1).mono ?_
  rintro e w' ⟨rfl, rfl⟩
  go_wp2_with fail
  refine (H2.out w1).mono ?_
  rintro e w' ⟨rfl, rfl⟩
  go_wp2_with fail
  refine (fixed_any w1).mono ?_
  rintro e w4 ⟨v1, v2, rfl, o1, o2, hk4, hf1, hf2⟩
  obtain ⟨A1, c1, rfl, hc1, hC1⟩ := own_C o1
  obtain ⟨A2, c2, rfl, hc2, hC2⟩ := own_C o2
  have hn1 := new_ok revR revC A1 c1 fixF w4 (by rw [List.length_map] at hC1; exact hC1) (by rw [fixF_len]; decide) fixF_15 fixF_room
  have HN2 : Hid (∀ w5, Kp [] w4 w5 → Calls Try.prog 22 #[.slice A2 32 c2] w5 fun e w' => ∃ pc, e = .returned (.tuple #[.pointer (some ⟨pc, 0, none⟩), .int .i64 0]) ∧ HCode revR w' pc fixS ∧ Kp [] w5 w' ∧ w5.heap.size ≤ pc) := fun w5 hk => by
    have := new_ok revR revC A2 c2 fixS w5 (C_kp (by rw [List.length_map] at hC2; exact hC2) hk (by simp)) (by rw [fixS_len]; decide) fixS_15 fixS_room
    rwa [fixS_len] at this
  rw [fixF_len] at hn1
  have HN1 := Lib.hid hn1
  have e1 : (fixF.map Int.ofNat).length = 288 := by rw [List.length_map, fixF_len]
  have e2 : (fixS.map Int.ofNat).length = 32 := by rw [List.length_map, fixS_len]
  rw [e1, e2]
  have k4 := k1.then_ hk4
  clear hn1 hC1 hC2 o1 o2 hf1 hf2 hc1 hc2 e1 e2 k1 hk4 hP1 hP2 hp1 hp2 q1 q2 q3 q4 q5 H1 H2
  go_wp2_with fail
  refine HN1.out.mono ?_
  rintro e w5 ⟨p1, rfl, hh1, hk5, hp1⟩
  go_wp2_with fail
  refine (HN2.out _ hk5).mono ?_
  rintro e w6 ⟨p2, rfl, hh2, hk6, hp2⟩
  have hh1' := hh1.kp0 hk6
  have k6 := k4.then_ (hk5.then_ hk6)
  clear HN1 HN2 hk5 hk6 hp1 hp2 k4
  go_wp2_with fail
  refine (newWriter_any w6).mono ?_
  rintro e w7 ⟨rfl, hw7, k7⟩
  obtain ⟨gw, hgw⟩ : ∃ gw, w6.heap.size = gw := ⟨_, rfl⟩
  rw [hgw] at hw7 ⊢
  have hgs : w.heap.size ≤ gw := by have := k6.size; omega
  have hWI : WI w w7 gw p1 p2 [] (.slice none 0 0) [] := ⟨_, hw7, k6.then_ k7, hgs, by simp [Value.ownBlock], hh1'.kp0 k7, hh2.kp0 k7, World.ownsRow_nil _ _ _ _, by simp [Value.ownBlock]⟩
  have HWI := Lib.hid hWI
  clear hWI hw7 k6 k7 hh1 hh1' hh2 hgw hgs
  go_wp2_with fail
  refine (wi_put 3 3 HWI.out (by decide) (by decide) (by simp [catN])).mono ?_
  rintro e w8 ⟨rfl, hWI8⟩
  rw [List.nil_append] at hWI8
  have HWI8 := Lib.hid hWI8
  clear hWI8 HWI
  go_wp2_with fail
  have HWE := Lib.hid HWI8.out.empty
  go_loopw [24, 25] (fun u i wr => ∃ k : Nat, k ≤ n ∧ i = .int .i64 k ∧ Hid (WI w wr gw p1 p2 ((3, 3) :: litsC (lit.take k)) u (lit.take k))) (fun _ i _ => n - (intOf i).toNat)
  case atStart => exact ⟨0, Nat.zero_le _, rfl, HWE.out⟩
  case round =>
    obtain ⟨k, hk, rfl, HW⟩ := hrel
    clear HWE HWI8
    by_cases hlt : k < n
    · have hkl : k < lit.length := by rw [HLN.out]; exact hlt
      have hcr : (Kd.int .u8).C wr A n lit := C_kp HC.out HW.out.kp (by simp)
      obtain ⟨ad, ha, hcell⟩ := Kd.at_int hcr k (by omega) (by omega)
      rw [Int.toNat_natCast] at hcell
      have hb := HBY.out.get k
      obtain ⟨b, hbb⟩ : ∃ b : Nat, lit.getD k 0 = (b : Int) := ⟨(lit.getD k 0).toNat, by omega⟩
      have hrd : rd lit (k : Int) = (b : Int) := by rw [← hbb]; simp [rd]
      rw [hrd] at hcell
      subst ha
      have hb256 : b < 256 := by omega
      have hcat := catN_take lit HBY.out k (by rw [HLN.out]; exact hn)
      have HB := Lib.hid hbb
      have HCR := Lib.hid hcr
      clear hcr hb hbb hrd
      go_wp2_with fail
      refine (wi_hput1 b HW.out (by omega) (by omega)).mono ?_
      rintro e w9 ⟨rfl, hW9⟩
      have HCELL : w9.cell? (ad.add k) = some (.int .u8 (b : Nat)) := by
        obtain ⟨ad', ha', hcell'⟩ := Kd.at_int (C_kp HC.out hW9.kp (by simp)) k (by omega) (by omega)
        rw [Int.toNat_natCast] at hcell'
        cases ha'
        rw [hcell', show rd lit (k : Int) = (b : Int) by rw [← HB.out]; simp [rd]]
      have HW9 := Lib.hid hW9
      clear hW9 hcell
      have hlk : (lit.take k).length ≤ 600 := by rw [List.length_take, HLN.out]; omega
      go_wp2_with (at_builtin; refine print_append_row 0 rfl (.tmp 123) (.tmp 128) 22 5 .u8 1 rfl Try.underlying22 info5 (by decide) u24 (lit.take k) [(b : Int)] (some ⟨w9.heap.size, 0, none⟩) 1 1 rfl rfl (HW9.out.own.alloc _) (Kd.reads_of_C (own_blk (xs := [(b : Int)]) (Blk.new w9 5 _) rfl (by decide))) (Below.refl 0 _) (Nat.zero_le _) (by omega) ?_; intro v1 w10 hown1 _ hg1 hat1)
      have hW10 := WI.app HW9.out ((Kp.refl _ _).alloc _) hown1 hg1 hat1
      refine ⟨⟨k + 1, by omega, by go_num, ?_⟩, by simp [intOf]; omega⟩
      unfold Hid
      rw [litsC_snoc lit k hkl, List.take_succ_eq_append_getElem hkl]
      have e : lit[k] = (b : Int) := by rw [← HB.out]; simp [List.getD_eq_getElem?_getD, List.getElem?_eq_getElem hkl]
      rw [HB.out, Int.toNat_natCast, e]
      exact hW10
    · obtain rfl : k = n := by omega
      have hlt' : decide ((k : Int) < (k : Int)) = false := by simp
      have hW0 := HW.out
      rw [List.take_of_length_le (by rw [HLN.out]; exact Nat.le_refl _)] at hW0
      have hc1 := catN_lits lit HBY.out
      rw [HLN.out] at hc1
      obtain ⟨c0, hc0⟩ : ∃ c0, catN (litsC lit) = c0 := ⟨_, rfl⟩
      rw [hc0] at hc1
      have HC0 := Lib.hid hc0
      have HW0 := Lib.hid hW0
      have hex : extra < 32 := by have := HE.out; have := H32.out; omega
      have hmo : more < 8192 := by have := HM.out; have := H32M.out; omega
      have hdpos : 1 ≤ dist := by have := distance_pos (s := far) (by rw [HD.out]); rw [HD.out] at this; exact this
      have hexi : (extra : Int) < 4294967296 := by omega
      have hmoi : (more : Int) < 4294967296 := by omega
      have hs9 := fixF_codes sym (by omega)
      have hs9' : (wordC fixF sym).2 ≤ 9 := by
        have e : (wordC fixF sym).2 = fixF.getD sym 0 := rfl
        simp only [List.mem_cons, List.not_mem_nil, or_false] at hs9
        omega
      have hs5 : (wordC fixS far).2 = 5 := by
        have e : (wordC fixS far).2 = fixS.getD far 0 := rfl
        rw [e, fixS_codes far (by omega)]
      have HS9 := Lib.hid hs9'
      have HS5 := Lib.hid hs5
      clear hW0 hc0 HW hlt hk hs9 hs9' hs5
      go_wp2_with fail
      refine (wi_hput1 sym HW0.out (by omega) (by simp only [catN]; have := HC0.out; omega)).mono ?_
      rintro e x1 ⟨rfl, hX1⟩
      have HX1 := Lib.hid hX1
      clear hX1
      go_wp2_with fail
      refine (wi_put extra nn HX1.out (by omega) (by omega) (by simp only [catN, catN_append]; have := HC0.out; have := HS9.out; omega)).mono ?_
      rintro e x2 ⟨rfl, hX2⟩
      have HX2 := Lib.hid hX2
      clear hX2 HX1
      go_wp2_with fail
      refine (wi_hput2 far HX2.out (by omega) (by simp only [catN, catN_append]; have := HC0.out; have := HS9.out; omega)).mono ?_
      rintro e x3 ⟨rfl, hX3⟩
      have HX3 := Lib.hid hX3
      clear hX3 HX2
      go_wp2_with fail
      refine (wi_put more m HX3.out (by omega) (by omega) (by simp only [catN, catN_append]; have := HC0.out; have := HS9.out; have := HS5.out; omega)).mono ?_
      rintro e x4 ⟨rfl, hX4⟩
      have HX4 := Lib.hid hX4
      clear hX4 HX3
      go_wp2_with fail
      refine (wi_hput1 256 HX4.out (by decide) (by simp only [catN, catN_append]; have := HC0.out; have := HS9.out; have := HS5.out; omega)).mono ?_
      rintro e x5 ⟨rfl, hX5⟩
      have el : (((((3, 3) :: litsC lit) ++ [wordC fixF sym]) ++ [(extra, nn)]) ++ [wordC fixS far]) ++ [(more, m)] ++ [wordC fixF 256] = fixC lit sym nn extra far m more := by
        unfold fixC; simp
      rw [el] at hX5
      have hcN : catN (fixC lit sym nn extra far m more) ≤ 20000 := by
        rw [← el]
        have e6 : (wordC fixF 256).2 ≤ 9 := by decide +kernel
        simp only [catN, catN_append]
        have := HC0.out; have := HS9.out; have := HS5.out
        omega
      have HX5 := Lib.hid hX5
      have HCN := Lib.hid hcN
      clear hX5 HX4 el hcN HS9 HS5 HW0
      obtain ⟨v, hwr⟩ := HX5.out.wr
      go_wp2_with fail
      refine (out_any gw v _ _ x5 hwr (by have := HCN.out; omega)).mono ?_
      rintro e x6 ⟨v6, rfl, ho6, k6⟩
      obtain ⟨A6, c6, rfl, hc6, hC6⟩ := own_C ho6
      rw [bytesTo_len] at hC6 hc6 ⊢
      have hVlt := hwr.lt
      obtain ⟨V, hV⟩ : ∃ V, catV (fixC lit sym nn extra far m more) = V := ⟨_, rfl⟩
      obtain ⟨N, hN⟩ : ∃ N, catN (fixC lit sym nn extra far m more) = N := ⟨_, rfl⟩
      have hNb : N ≤ 20000 := by rw [← hN]; exact HCN.out
      rw [hV, hN] at hVlt hC6
      rw [hN] at hc6 ⊢
      have hlwV : lw (bytesTo V ((N + 7) / 8)) = V := by
        rw [lw_bytesTo, Nat.mod_eq_of_lt]
        refine Nat.lt_of_lt_of_le hVlt ?_
        rw [show (256 : Nat) = 2 ^ 8 from rfl, ← Nat.pow_mul]
        exact Nat.pow_le_pow_right (by decide) (by omega)
      have hrun := run_fixed (E := ⟨bytesTo V ((N + 7) / 8), 5000⟩) (lit := lit) (sym := sym) (extra := extra) (far := far) (more := more) (by rw [hV]; exact hlwV) (by rw [hN]; unfold IE.T; simp only [bytesTo_len]; omega) HBY.out hs0 hs1 HL.out hf HD.out HE.out HM.out (by simp only; rw [HLN.out]; omega)
      obtain ⟨nb8, hnb8⟩ : ∃ nb8, (N + 7) / 8 = nb8 := ⟨_, rfl⟩
      rw [hnb8] at hC6 hc6 hrun ⊢
      have hnb : nb8 ≤ 3000 := by omega
      have HC6 := Lib.hid hC6
      have HRUN := Lib.hid hrun
      have K06 := HX5.out.kp.then_ k6
      have hO6 : Own .u8 5 x6 u24 lit := own_kp HX5.out.own k6 (by simp)
      have HO6 := Lib.hid hO6
      have HFR := Lib.hid HX5.out.fresh
      have HK6 := Lib.hid K06
      clear hwr ho6 hVlt hV hN hNb hlwV hrun hnb8 hC6 k6 HX5 hO6 K06
      by_cases hd : dist + more ≤ lit.length
      · have hr := HRUN.out
        rw [if_pos hd] at hr
        have HR := Lib.hid hr
        rw [HLN.out] at hd hr
        have dd : decide ((k : Int) < (dist : Int) + more) = false := decide_eq_false (by omega)
        have HR := Lib.hid hr
        clear hr
        obtain ⟨uu, huu⟩ : ∃ u, (catN (fixC lit sym nn extra far m more) + 7) / 8 = u := ⟨_, rfl⟩
        have HUU := Lib.hid huu
        clear huu
        go_wp2_with fail
        refine (inf_own A6 nb8 c6 x6 HR.out HC6.out (bytesTo_bytes _ _) (by omega) (by decide) (u := uu) (st := k + 2) (bl := 1) HUU.out rfl rfl).mono ?_
        rintro e x7 ⟨ov, rfl, hov, k7, hf7⟩
        obtain ⟨Ao, co, rfl⟩ := own_slice hov
        obtain ⟨cnt, hcnt⟩ : ∃ cnt, base + extra = cnt := ⟨_, rfl⟩
        obtain ⟨dm, hdm⟩ : ∃ dm, dist + more = dm := ⟨_, rfl⟩
        have hci : (base : Int) + extra = (cnt : Int) := by omega
        have hdi : (dist : Int) + more = (dm : Int) := by omega
        have hcb : cnt ≤ 300 := by omega
        have hd1 : 1 ≤ dm := by omega
        have hdk : dm ≤ k := by omega
        simp only [hcnt, hdm] at hov hf7 ⊢
        rw [copyM_len, HLN.out] at hov hf7 ⊢
        have hO7 := own_kp HO6.out k7 (by simp)
        have hK7 := HK6.out.then_ k7
        have hap : ∀ g, u24.ownBlock = some g → w.heap.size ≤ g ∧ (Value.slice Ao (k + cnt) co).ownBlock ≠ some g := fun g hg => ⟨HFR.out g hg, fun h => by
          obtain ⟨cs, hb⟩ := own_lt HO6.out hg
          have h1 := hb.lt
          have h2 := hf7 g h
          omega⟩
        have HOV := Lib.hid hov
        have HO7 := Lib.hid hO7
        have HK7 := Lib.hid hK7
        have HAP := Lib.hid hap
        have HCI := Lib.hid hci
        have HDI := Lib.hid hdi
        have HHD := Lib.hid hd
        have dd2 : decide (k < dm) = false := decide_eq_false (by omega)
        clear hov k7 hf7 hcnt hdm hci hO7 hK7 hap HO6 HK6 HFR HC6 HRUN HR hd dd
        go_wp2_with fail
        have BR := Blk.new x7 35 #[.slice Ao (k + cnt) co, .int .i64 uu, .int .i64 ((k : Int) + 2), .int .i64 1]
        have k8 : Kp [] x7 (x7.alloc (.cells #[.slice Ao (k + cnt) co, .int .i64 uu, .int .i64 ((k : Int) + 2), .int .i64 1] 35)) := (Kp.refl _ _).alloc _
        obtain ⟨gr, hgr⟩ : ∃ g, x7.heap.size = g := ⟨_, rfl⟩
        rw [hgr] at BR ⊢
        generalize (x7.alloc (.cells #[.slice Ao (k + cnt) co, .int .i64 uu, .int .i64 ((k : Int) + 2), .int .i64 1] 35)) = x8 at *
        have HBR := Lib.hid BR
        have HOV8 := Lib.hid (own_kp HOV.out k8 (by simp))
        have HO8 := Lib.hid (own_kp HO7.out k8 (by simp))
        have HK8 := Lib.hid (HK7.out.then_ k8)
        have hci := HCI.out
        clear BR k8 hgr HOV HO7 HK7 HDI
        go_loopw [24, 29] (fun u i xr => ∃ j : Nat, j ≤ cnt ∧ i = .int .i64 j ∧ Hid (Own .u8 5 xr u (copyM dm j lit)) ∧ Hid (Own .u8 5 xr (.slice Ao (k + cnt) co) (copyM dm cnt lit)) ∧ Hid (Kp [] w xr) ∧
          Hid (Blk xr gr 35 #[.slice Ao (k + cnt) co, .int .i64 uu, .int .i64 ((k : Int) + 2), .int .i64 1]) ∧ Hid (∀ g, u.ownBlock = some g → w.heap.size ≤ g ∧ (Value.slice Ao (k + cnt) co).ownBlock ≠ some g)) (fun _ i _ => cnt - (intOf i).toNat)
        case atStart => exact ⟨0, Nat.zero_le _, rfl, HO8.out, HOV8.out, HK8.out, HBR.out, HAP.out⟩
        case round =>
          obtain ⟨j, hj, rfl, HO, HOVr, HKr, HBr, HAr⟩ := hrel
          clear HO8 HOV8 HK8 HBR HAP
          by_cases hjc : j < cnt
          · obtain ⟨o, ho⟩ : ∃ o, copyM dm j lit = o := ⟨_, rfl⟩
            have hol : o.length = k + j := by rw [← ho, copyM_len, HLN.out]
            have hO := HO.out
            rw [ho] at hO
            obtain ⟨g, cap, hvk, -, -⟩ := (show Own .u8 5 wr u24 o from hO).form (by omega)
            subst hvk
            obtain ⟨b, hb⟩ : ∃ b : Int, o.getD (o.length - dm) 0 = b := ⟨_, rfl⟩
            obtain ⟨ho1, -⟩ := own_at (xs := o) (n := o.length) (g := g) (cap := cap) hO ((k + j - dm : Nat) : Int) (by omega) (by omega)
            simp only [Int.toNat_natCast] at ho1
            have hrd : rd o ((k + j - dm : Nat) : Int) = b := by rw [← hb, hol]; simp [rd]
            rw [hrd] at ho1
            rw [hol] at hO hb ⊢
            obtain ⟨t, ht⟩ : ∃ t, k + j - dm = t := ⟨_, rfl⟩
            rw [ht] at ho1
            have hti : ((k + j : Nat) : Int) - dm = (t : Int) := by omega
            have hti2 : ((k : Int) + j) - dm = (t : Int) := by omega
            have htw : IntKind.i64.wrap ((k : Int) + j - dm) = (t : Int) := by rw [IntKind.wrap_i64]; omega
            have htl : (t : Int) < (k : Int) + j := by omega
            have HOO := Lib.hid hO
            have HHO := Lib.hid ho
            have HOL := Lib.hid hol
            have HBB := Lib.hid hb
            clear hO ho hol hb hrd ht
            go_wp2_with (at_builtin; refine print_append_row 0 rfl (.tmp 173) (.tmp 181) 22 5 .u8 1 rfl Try.underlying22 info5 (by decide) (.slice (some ⟨g, 0, none⟩) (k + j) cap) o [b] (some ⟨wr.heap.size, 0, none⟩) 1 1 rfl rfl (HOO.out.alloc _) (Kd.reads_of_C (own_blk (xs := [b]) (Blk.new wr 5 _) rfl (by decide))) (Below.refl 0 _) (Nat.zero_le _) (by rw [HOL.out]; omega) ?_; intro v1 x9 hown1 _ hg1 hat1)
            have hv : ∀ g', (Value.slice (some ⟨g, 0, none⟩) (k + j) cap).ownBlock = some g' → w.heap.size ≤ g' := fun g' hg' => (HAr.out g' hg').1
            have hap2 := app_apart (HOVr.out.alloc _) hg1 hat1 (fun g' hg' => (HAr.out g' hg').2)
            have hK9 := app_kp' (HKr.out.alloc (.cells #[.int .u8 b] 5)) hg1 hv
            have hF9 := app_fresh (HKr.out.alloc (.cells #[.int .u8 b] 5)) hat1 hv
            have hB9 : Blk x9 gr 35 #[.slice Ao (k + cnt) co, .int .i64 uu, .int .i64 ((k : Int) + 2), .int .i64 1] := by
              have kv : Kp (Value.slice (some ⟨g, 0, none⟩) (k + j) cap).ownBlock.toList (wr.alloc (.cells #[.int .u8 b] 5)) x9 := (Kp.refl _ _).grown hg1 (fun k hk => .inl (by simp [hk]))
              exact (HBr.out.alloc _).kp kv (fun hm => own_blk_ne HOO.out HBr.out (by decide) (by simpa using hm))
            have hfin : copyM dm (j + 1) lit = o ++ [b] := by rw [copyM_snoc, HHO.out, HOL.out, HBB.out]
            refine ⟨?_, by simp [intOf]; omega⟩
            refine ⟨v1, .int .i64 ((j : Int) + 1), _, _, _, _, _, _, _, _, _, _, _, _, _, _, _, _, _, ⟨j + 1, by omega, by go_num, ?_, hap2.1, hK9, hB9, fun g' hg' => ⟨hF9 g' hg', hap2.2 g' hg'⟩⟩, rfl⟩
            unfold Hid
            rw [hfin]
            exact hown1
          · obtain rfl : j = cnt := by omega
            have hjj : decide (j < j) = false := by simp
            obtain ⟨Au, cu, rfl, hcu, hCu⟩ := own_C HO.out
            obtain ⟨Ao', co', hve, hco, hCo⟩ := own_C HOVr.out
            injection hve with hve1 hve2 hve3
            subst hve1 hve3
            clear hve2
            rw [copyM_len, HLN.out] at hcu hCu hco hCo ⊢
            have c0r : wr.cell? ⟨gr, 0, none⟩ = some (.slice Ao (k + j) co) := HBr.out.cell_ 0 rfl
            have c2r : wr.cell? ⟨gr, 2, none⟩ = some (.int .i64 ((k : Int) + 2)) := HBr.out.cell_ 2 rfl
            have S := same_any Ao Au co cu (copyM dm j lit) (copyM dm j lit) wr (by rw [copyM_len, HLN.out]; exact hCo) (by rw [copyM_len, HLN.out]; exact hco) (by rw [copyM_len, HLN.out]; exact hCu) (by rw [copyM_len, HLN.out]; exact hcu)
            rw [copyM_len, HLN.out, show decide (copyM dm j lit = copyM dm j lit) = true by simp] at S
            have HS := Lib.hid S
            clear S hCo hCu HO HOVr HAr
            go_wp2_with fail
            refine HS.out.mono ?_
            rintro e x9 ⟨rfl, k9⟩
            have c2r' : x9.cell? ⟨gr, 2, none⟩ = some (.int .i64 ((k : Int) + 2)) := (HBr.out.kp k9 (by simp)).cell_ 2 rfl
            clear c0r c2r
            go_wp2_with fail
            go_ret
            exact ⟨by simp, (HKr.out.then_ k9).below⟩
      · have hr := HRUN.out
        rw [if_neg hd] at hr
        have HR := Lib.hid hr
        rw [HLN.out] at hd
        have dd : decide ((k : Int) < (dist : Int) + more) = true := decide_eq_true (by omega)
        clear hr
        go_wp2_with fail
        refine (inf_bad A6 nb8 c6 x6 HR.out HC6.out (bytesTo_bytes _ _) (by omega) (by decide)).mono ?_
        rintro e x7 ⟨rfl, k7⟩
        go_wp2_with fail
        go_ret
        exact ⟨rfl, ((HK6.out.then_ k7).alloc _).below⟩

end Go.Proofs.Ytoaebpjjfglnnaa
