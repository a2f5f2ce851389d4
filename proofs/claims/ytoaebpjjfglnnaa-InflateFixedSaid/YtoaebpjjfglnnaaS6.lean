/- Bytes in stored blocks: the law's walk. -/
import Derived.Test.YtoaebpjjfglnnaaS5
set_option linter.unusedVariables false
set_option linter.unusedSimpArgs false
namespace Go.Proofs.Ytoaebpjjfglnnaa
open Go.RowKit Go.Proofs.YtoaebpjjfglnnaaW.PrintWords Go.Proofs.YtoaebpjjfglnnaaW.PrintLast Go.Proofs.YtoaebpjjfglnnaaW.PrintMore
attribute [local go_sem] max2_int min2_int max_two min_two max_three min_three max_four min_four

/-- A row of rows of bytes. -/
structure RowsAt (w : World) (A : Option Addr) (n : Nat) (rows : List (List Int)) : Prop where
  len : rows.length = n
  at_ : ∀ k, k < n → ∃ ad Ak ck, A = some ad ∧ w.cell? (ad.add k) = some (.slice Ak (rows.getD k []).length ck) ∧ (rows.getD k []).length ≤ ck ∧ (Kd.int .u8).C w Ak (rows.getD k []).length (rows.getD k []) ∧ Bytes (rows.getD k [])
theorem RowsAt.kp {w w' : World} {A : Option Addr} {n : Nat} {rows : List (List Int)} (h : RowsAt w A n rows) (hk : Kp [] w w') : RowsAt w' A n rows := by
  refine ⟨h.len, fun k hkn => ?_⟩
  obtain ⟨ad, Ak, ck, h1, h2, h3, h4, h5⟩ := h.at_ k hkn
  exact ⟨ad, Ak, ck, h1, cell_kp hk h2 (by simp), h3, C_kp h4 hk (by simp), h5⟩
theorem under40 : Try.prog.underlying 40 = some (.slice 22) := by kernel_rfl
theorem stored_out (A : Option Addr) (n c : Nat) (w : World) (hn : n ≤ 9223372036854775807) (hg : 20 < n ∨ n = 0) :
    Calls Try.prog 7 #[.slice A n c] w fun e w' => e = .returned (.bool true) ∧ Below w.heap.size w w' := by
  by_cases h : 20 < n
  · have d1 : decide ((20 : Int) < (n : Int)) = true := decide_eq_true (by omega)
    clear hg
    go_enter Try.func7, Try.ntmps7
    go_wp2_with fail
    refine (alive_any w).mono ?_
    rintro e w1 ⟨rfl, k1⟩
    go_wp2_with fail
    go_ret
    exact ⟨rfl, k1.below⟩
  · obtain rfl : n = 0 := by omega
    clear hg h
    go_enter Try.func7, Try.ntmps7
    go_wp2_with fail
    refine (alive_any w).mono ?_
    rintro e w1 ⟨rfl, k1⟩
    go_wp2_with fail
    go_ret
    exact ⟨rfl, k1.below⟩
theorem not_u8 (x : Nat) (hx : x < 256) : bits .xor .u8 IntKind.u8.max (x : Int) = ((255 - x : Nat) : Int) := by
  have : ∀ m : Nat, m < 256 → bits .xor .u8 IntKind.u8.max (m : Int) = ((255 - m : Nat) : Int) := by decide +kernel
  exact this x hx
theorem hdr_reads (last L : Nat) (hL : L < 65536) (W : World) :
    ReadsInt (W.alloc (.cells #[.int .u8 last, .int .u8 ((L : Int) % 256), .int .u8 ((L : Int) / 256), .int .u8 (bits .xor .u8 IntKind.u8.max ((L : Int) % 256)), .int .u8 (bits .xor .u8 IntKind.u8.max ((L : Int) / 256))] 5)) .u8 (some ⟨W.heap.size, 0, none⟩) 5 (hdr last L) := by
  have e : (nums .u8 (hdr last L)).toArray = #[.int .u8 last, .int .u8 ((L : Int) % 256), .int .u8 ((L : Int) / 256), .int .u8 (bits .xor .u8 IntKind.u8.max ((L : Int) % 256)), .int .u8 (bits .xor .u8 IntKind.u8.max ((L : Int) / 256))] := by
    have e1 : ((L : Int) % 256) = ((L % 256 : Nat) : Int) := by omega
    have e2 : ((L : Int) / 256) = ((L / 256 : Nat) : Int) := by omega
    rw [e1, e2, not_u8 _ (by omega), not_u8 _ (by omega)]
    rfl
  rw [← e]
  exact Kd.reads_of_C (own_blk (Blk.new W 5 _) (hdr_len _ _) (by decide))
/-- An append to a row that is one's own. -/
theorem app_kp {w0 W w' : World} {v v1 : Value} (hk : Kp [] w0 W) (hg : W.grownBy w' v.ownBlock) (hf : ∀ g, v.ownBlock = some g → w0.heap.size ≤ g) : Kp [] w0 w' := by
  have kv : Kp v.ownBlock.toList W w' := (Kp.refl _ _).grown hg (fun k hk => .inl (by simp [hk]))
  exact hk.trans kv (fun x hx => .inr (hf x (by simpa using hx)))
theorem app_fresh {w0 W : World} {v v1 : Value} (hk : Kp [] w0 W) (hat : v1.ownBlock = v.ownBlock ∨ ∃ b, v1.ownBlock = some b ∧ W.heap.size ≤ b) (hf : ∀ g, v.ownBlock = some g → w0.heap.size ≤ g) : ∀ g, v1.ownBlock = some g → w0.heap.size ≤ g := by
  intro g hg
  rcases hat with e | ⟨b, e, hb⟩
  · rw [e] at hg; exact hf g hg
  · rw [e] at hg
    have : b = g := by simpa using hg
    have := hk.size
    omega
theorem app_apart {W w' : World} {v v1 u : Value} {n : Nat} {xs : List Value} {e : TypeId} (ho : W.ownsRow 0 e 1 u n xs) (hg : W.grownBy w' v.ownBlock) (hat : v1.ownBlock = v.ownBlock ∨ ∃ b, v1.ownBlock = some b ∧ W.heap.size ≤ b) (ha : ∀ g, v.ownBlock = some g → u.ownBlock ≠ some g) :
    w'.ownsRow 0 e 1 u n xs ∧ ∀ g, v1.ownBlock = some g → u.ownBlock ≠ some g := by
  have kv : Kp v.ownBlock.toList W w' := (Kp.refl _ _).grown hg (fun k hk => .inl (by simp [hk]))
  refine ⟨own_kp ho kv (fun g hg he => ha g (by simpa using hg) he), fun g h1 h2 => ?_⟩
  rcases hat with e1 | ⟨b, e1, hb⟩
  · rw [e1] at h1; exact ha g h1 h2
  · rw [e1] at h1
    have hbg : b = g := by simpa using h1
    rcases ho.2 with ⟨rfl, _⟩ | ⟨g', cap, cur, rfl, _, hh, _⟩
    · simp [Value.ownBlock] at h2
    · have hg' : g' = g := by simpa [Value.ownBlock] using h2
      have hlt : g' < W.heap.size := Blk.lt (show Blk W g' e cur from hh)
      omega
theorem encTo_len (rows : List (List Int)) : ∀ k, (∀ j, j < k → (rows.getD j []).length ≤ 3000) → (encTo rows k).length ≤ 3005 * k
  | 0, _ => by simp [encTo]
  | k + 1, h => by
    have h1 := encTo_len rows k fun j hj => h j (by omega)
    have h2 := h k (by omega)
    rw [encTo_succ, List.length_append, List.length_append, hdr_len]
    omega
theorem flat_succ (rows : List (List Int)) (k : Nat) (hk : k < rows.length) : (rows.take (k + 1)).flatten = (rows.take k).flatten ++ rows.getD k [] := by
  rw [List.take_succ_eq_append_getElem hk, List.flatten_append]
  simp [List.getD_eq_getElem?_getD, List.getElem?_eq_getElem hk]
theorem flat_len (rows : List (List Int)) : ∀ k, k ≤ rows.length → (∀ j, j < k → (rows.getD j []).length ≤ 3000) → (rows.take k).flatten.length ≤ 3000 * k
  | 0, _, _ => by simp
  | k + 1, hk, h => by
    have h1 := flat_len rows k (by omega) fun j hj => h j (by omega)
    have h2 := h k (by omega)
    rw [flat_succ rows k (by omega), List.length_append]
    omega
set_option maxHeartbeats 8000000 in
set_option maxRecDepth 100000 in
theorem stored_in (A : Option Addr) (n c : Nat) (rows : List (List Int)) (w : World) (h : RowsAt w A n rows) (hn : n ≤ 20) (h1 : 1 ≤ n) :
    Calls Try.prog 7 #[.slice A n c] w fun e w' => e = .returned (.bool true) ∧ Below w.heap.size w w' := by
  have d1 : decide ((20 : Int) < (n : Int)) = false := decide_eq_false (by omega)
  have d2 : ((n : Int) == 0) = false := by simp; omega
  have HH := Lib.hid h
  clear h
  go_enter Try.func7, Try.ntmps7
  go_wp2_with fail
  refine (alive_any w).mono ?_
  rintro e w1 ⟨rfl, k1⟩
  go_wp2_with fail
  have HE3 : Own .u8 5 ((w1.alloc (.cells #[] 5)).alloc (.cells #[] 5)) (.slice (some ⟨w1.heap.size, 0, none⟩) 0 0) [] := (World.ownsRow_made w1 #[] 0 (Nat.zero_le _) (by simp [maxLen]) rfl).alloc _
  have HE4 : Own .u8 5 ((w1.alloc (.cells #[] 5)).alloc (.cells #[] 5)) (.slice (some ⟨w1.heap.size + 1, 0, none⟩) 0 0) [] := by
    have : Own .u8 5 ((w1.alloc (.cells #[] 5)).alloc (.cells #[] 5)) (.slice (some ⟨(w1.alloc (.cells #[] 5)).heap.size, 0, none⟩) 0 0) [] := World.ownsRow_made (w1.alloc (.cells #[] 5)) #[] 0 (Nat.zero_le _) (by simp [maxLen]) rfl
    simpa using this
  have hsz : w.heap.size ≤ w1.heap.size := k1.size
  go_loopw [3, 4, 5] (fun v3 v4 i wr => ∃ k : Nat, k ≤ n ∧ i = .int .i64 k ∧ Hid (Kp [] w wr) ∧ Hid (Own .u8 5 wr v3 (encTo rows k)) ∧ Hid (Own .u8 5 wr v4 (rows.take k).flatten) ∧
    Hid (∀ j, j < k → (rows.getD j []).length ≤ 3000) ∧ Hid (∀ g, v3.ownBlock = some g → w.heap.size ≤ g ∧ v4.ownBlock ≠ some g) ∧ Hid (∀ g, v4.ownBlock = some g → w.heap.size ≤ g)) (fun _ _ i _ => n - (intOf i).toNat)
  case atStart =>
    refine ⟨0, Nat.zero_le _, rfl, (k1.alloc _).alloc _, HE3, HE4, ?_, ?_, ?_⟩
    · intro j hj; omega
    · intro g hg
      simp [Value.ownBlock] at hg ⊢
      omega
    · intro g hg
      simp [Value.ownBlock] at hg
      omega
  case round =>
    obtain ⟨k, hk, rfl, HK, H3, H4, HL, HF3, HF4⟩ := hrel
    clear HE3 HE4
    by_cases hlt : k < n
    · obtain ⟨ad, Ak, ck, rfl, hc0, hle, hC0, hbk⟩ := HH.out.at_ k hlt
      have hcell := cell_kp HK.out hc0 (by simp)
      have hCk := C_kp hC0 HK.out (by simp)
      have HCELL := Lib.hid (fun (W : World) (hk : Kp [] w W) => cell_kp hk hc0 (by simp))
      have HCW := Lib.hid (fun (W : World) (hk : Kp [] w W) => C_kp hC0 hk (by simp))
      clear hc0 hC0
      obtain ⟨r, hr⟩ : ∃ r, rows.getD k [] = r := ⟨_, rfl⟩
      rw [hr] at hcell hle hCk hbk HCELL HCW
      obtain ⟨L, hLL⟩ : ∃ L, r.length = L := ⟨_, rfl⟩
      rw [hLL] at hcell hle hCk HCELL HCW
      by_cases hL : L ≤ 3000
      · have e1 : decide ((3000 : Int) < (L : Int)) = false := decide_eq_false (by omega)
        have e2 : ((k : Int) == (n : Int) - 1) = decide (k + 1 = n) := by by_cases h : k + 1 = n <;> simp [h] <;> omega
        have HLA : (((k : Int) == (n : Int) - 1) = true ∧ Hid (∀ W : World, ReadsInt (W.alloc (.cells #[.int .u8 1, .int .u8 ((L : Int) % 256), .int .u8 ((L : Int) / 256), .int .u8 (bits .xor .u8 IntKind.u8.max ((L : Int) % 256)), .int .u8 (bits .xor .u8 IntKind.u8.max ((L : Int) / 256))] 5)) .u8 (some ⟨W.heap.size, 0, none⟩) 5 (hdr (if k + 1 = rows.length then 1 else 0) (rows.getD k []).length))) ∨
            (((k : Int) == (n : Int) - 1) = false ∧ Hid (∀ W : World, ReadsInt (W.alloc (.cells #[.int .u8 0, .int .u8 ((L : Int) % 256), .int .u8 ((L : Int) / 256), .int .u8 (bits .xor .u8 IntKind.u8.max ((L : Int) % 256)), .int .u8 (bits .xor .u8 IntKind.u8.max ((L : Int) / 256))] 5)) .u8 (some ⟨W.heap.size, 0, none⟩) 5 (hdr (if k + 1 = rows.length then 1 else 0) (rows.getD k []).length))) := by
          have hlen := HH.out.len
          rw [hr, hLL, hlen, e2]
          by_cases hlast : k + 1 = n
          · exact .inl ⟨by simp [hlast], fun W => by rw [if_pos hlast]; exact hdr_reads 1 L (by omega) W⟩
          · exact .inr ⟨by simp [hlast], fun W => by rw [if_neg hlast]; exact hdr_reads 0 L (by omega) W⟩
        clear e2
        have hb3 := encTo_len rows k HL.out
        have hb4 := flat_len rows k (by rw [HH.out.len]; exact hk) HL.out
        obtain ⟨l3, hl3⟩ : ∃ l, (encTo rows k).length = l := ⟨_, rfl⟩
        obtain ⟨l4, hl4⟩ : ∃ l, (rows.take k).flatten.length = l := ⟨_, rfl⟩
        rw [hl3] at hb3
        rw [hl4] at hb4
        have HL3 := Lib.hid hl3
        have HL4 := Lib.hid hl4
        have HCK := Lib.hid hCk
        have HBK := Lib.hid hbk
        have HR := Lib.hid hr
        have HLL := Lib.hid hLL
        have HAp := Lib.hid (fun g (hg : u3.ownBlock = some g) => (HF3.out g hg).2)
        have HF3' := Lib.hid (fun g (hg : u3.ownBlock = some g) => (HF3.out g hg).1)
        clear hCk hbk hr hLL hl3 hl4
        rcases HLA with ⟨e2, HRD⟩ | ⟨e2, HRD⟩
        all_goals
          go_wp2_with (at_builtin; first
            | (refine print_append_row 0 rfl (.tmp 40) (.tmp 54) 22 5 .u8 1 rfl Try.underlying22 info5 (by decide) u3 (encTo rows k) (hdr (if k + 1 = rows.length then 1 else 0) (rows.getD k []).length) (some ⟨wr.heap.size, 0, none⟩) 5 5 rfl rfl (H3.out.alloc _) (HRD.out wr) (Below.refl 0 _) (Nat.zero_le _) (by rw [HL3.out]; omega) ?_
               intro v1 w2 hown1 _ hg1 hat1
               have K2 := Lib.hid (app_kp (v1 := v1) (HK.out.alloc _) hg1 HF3'.out)
               have F1 := Lib.hid (app_fresh (HK.out.alloc _) hat1 HF3'.out)
               have P1 := app_apart (H4.out.alloc _) hg1 hat1 HAp.out
               have O41 := Lib.hid P1.1
               have A1 := Lib.hid P1.2
               have O1 := Lib.hid hown1
               have hcell2 := HCELL.out w2 K2.out
               clear P1 hown1 hg1 hat1 hcell)
            | (refine print_append_row 0 rfl (.tmp 56) (.tmp 60) 22 5 .u8 1 rfl Try.underlying22 info5 (by decide) v1 (encTo rows k ++ hdr (if k + 1 = rows.length then 1 else 0) (rows.getD k []).length) r Ak L ck rfl rfl O1.out (Kd.reads_of_C (HCW.out w2 K2.out)) (Below.refl 0 _) (Nat.zero_le _) (by rw [List.length_append, HL3.out, hdr_len]; omega) ?_
               intro v2 w3 hown2 _ hg2 hat2
               have K3 := Lib.hid (app_kp (v1 := v2) K2.out hg2 F1.out)
               have F2 := Lib.hid (app_fresh K2.out hat2 F1.out)
               have P2 := app_apart O41.out hg2 hat2 A1.out
               have O42 := Lib.hid P2.1
               have A2 := Lib.hid P2.2
               have O2 := Lib.hid hown2
               have hcell3 := HCELL.out w3 K3.out
               clear P2 hown2 hg2 hat2 hcell2)
            | (refine print_append_row 0 rfl (.tmp 62) (.tmp 66) 22 5 .u8 1 rfl Try.underlying22 info5 (by decide) u4 (rows.take k).flatten r Ak L ck rfl rfl O42.out (Kd.reads_of_C (HCW.out w3 K3.out)) (Below.refl 0 _) (Nat.zero_le _) (by rw [HL4.out]; omega) ?_
               intro v3 w4 hown3 _ hg3 hat3
               have K4 := Lib.hid (app_kp (v1 := v3) K3.out hg3 HF4.out)
               have F3 := Lib.hid (app_fresh K3.out hat3 HF4.out)
               have P3 := app_apart O2.out hg3 hat3 (fun g h4 h2 => A2.out g h2 h4)
               have O22 := Lib.hid P3.1
               have A3 := Lib.hid P3.2
               have O3 := Lib.hid hown3
               clear P3 hown3 hg3 hat3 hcell3))
          refine ⟨⟨k + 1, by omega, by go_num, K4, ?_, ?_, ?_, ?_, F3⟩, by simp [intOf]; omega⟩
          · have := O22.out
            unfold Hid Own
            rw [encTo_succ, HR.out] at *
            exact this
          · have := O3.out
            unfold Hid Own
            rw [flat_succ rows k (by rw [HH.out.len]; exact hlt), HR.out]
            exact this
          · intro j hj
            by_cases hjk : j < k
            · exact HL.out j hjk
            · obtain rfl : j = k := by omega
              rw [HR.out, HLL.out]; exact hL
          · exact fun g hg => ⟨F2.out g hg, fun h4 => A3.out g h4 hg⟩
      · have e1 : decide ((3000 : Int) < (L : Int)) = true := decide_eq_true (by omega)
        clear hCk hbk hr hLL
        go_wp2_with fail
        go_ret
        exact ⟨rfl, HK.out.below⟩
    · obtain rfl : k = n := by omega
      have hkr := HH.out.len
      have hb3 := encTo_len rows k HL.out
      have hb4 := flat_len rows k (by omega) HL.out
      have e3 : encTo rows k = encS rows := by rw [← hkr]; exact encTo_all rows
      have e4 : (rows.take k).flatten = rows.flatten := by rw [List.take_of_length_le (by omega)]
      have hall : ∀ r ∈ rows, Bytes r ∧ r.length < 65536 := by
        intro r hr
        obtain ⟨j, hj, rfl⟩ := List.mem_iff_getElem.1 hr
        have h5 := HL.out j (by omega)
        obtain ⟨_, _, _, _, _, _, _, h6⟩ := HH.out.at_ j (by omega)
        rw [List.getD_eq_getElem?_getD, List.getElem?_eq_getElem hj] at h5 h6
        simp only [Option.getD_some] at h5 h6
        exact ⟨h6, by omega⟩
      have hinf := inf_stored rows (by rintro rfl; simp at hkr; omega) hall
      have hby := encS_bytes hall
      have h3 := H3.out
      have h4 := H4.out
      rw [e3] at h3 hb3
      rw [e4] at h4 hb4
      obtain ⟨A3, c3, rfl, hc3, hC3⟩ := own_C h3
      obtain ⟨A4, c4, rfl, hc4, hC4⟩ := own_C h4
      obtain ⟨tl, htl⟩ : ∃ t, (encS rows).length = t := ⟨_, rfl⟩
      obtain ⟨tot, htot⟩ : ∃ t, rows.flatten.length = t := ⟨_, rfl⟩
      rw [htl] at hC3 hc3 hb3 hinf ⊢
      rw [htot] at hC4 hc4 hb4 hinf ⊢
      rw [hkr] at hinf
      have HINF := Lib.hid hinf
      have HTL := Lib.hid htl
      have HTOT := Lib.hid htot
      have HBY := Lib.hid hby
      have HC3 := Lib.hid hC3
      have HC4 := Lib.hid hC4
      clear hkr e3 e4 hall hinf hby h3 h4 hC3 hC4 htl htot H3 H4 hlt HF3 HF4 hk
      have hlt : decide ((k : Int) < (k : Int)) = false := by simp
      go_wp2_with fail
      refine (inf_ok A3 tl c3 wr HINF.out HC3.out HBY.out (by omega) (by omega) (m := tot) (u := tl) (st := tot) (bl := k) HTOT.out (by simp only; omega) rfl rfl).mono ?_
      rintro e w5 ⟨A5, c5, rfl, hc5, hC5, k5, -⟩
      have HC5 := Lib.hid hC5
      have K5 := HK.out.then_ k5
      have hC45 := C_kp HC4.out k5 (by simp)
      have HC45 := Lib.hid hC45
      clear hC5 k5 hC45
      go_wp2_with fail
      have B5 := Blk.new w5 35 #[.slice A5 tot c5, .int .i64 tl, .int .i64 tot, .int .i64 k]
      have k6 : Kp [] w5 (w5.alloc (.cells #[.slice A5 tot c5, .int .i64 tl, .int .i64 tot, .int .i64 k] 35)) := (Kp.refl _ _).alloc _
      obtain ⟨g, hg⟩ : ∃ g, w5.heap.size = g := ⟨_, rfl⟩
      rw [hg] at B5 ⊢
      generalize (w5.alloc (.cells #[.slice A5 tot c5, .int .i64 tl, .int .i64 tot, .int .i64 k] 35)) = w6 at *
      have S := same_any A5 A4 c5 c4 rows.flatten rows.flatten w6 (by have := C_kp HC5.out k6 (by simp); rw [← HTOT.out] at this; exact this) (by rw [HTOT.out]; exact hc5) (by have := C_kp HC45.out k6 (by simp); rw [← HTOT.out] at this; exact this) (by rw [HTOT.out]; exact hc4)
      rw [HTOT.out, show decide (rows.flatten = rows.flatten) = true by simp] at S
      have K6 := K5.then_ k6
      have HS := Lib.hid S
      clear S hg k6
      refine HS.out.mono ?_
      rintro e w7 ⟨rfl, k7⟩
      have B7 := B5.kp k7 (by simp)
      have b1 : w7.cell? ⟨g, 1, none⟩ = some (.int .i64 tl) := B7.cell_ 1 rfl
      have b2 : w7.cell? ⟨g, 2, none⟩ = some (.int .i64 tot) := B7.cell_ 2 rfl
      have b3 : w7.cell? ⟨g, 3, none⟩ = some (.int .i64 k) := B7.cell_ 3 rfl
      go_wp2_with fail
      go_ret
      exact ⟨by simp, (K6.then_ k7).below⟩
theorem stored_any7 (A : Option Addr) (n c : Nat) (rows : List (List Int)) (w : World) (h : n ≤ 20 → RowsAt w A n rows) (hn : n ≤ 9223372036854775807) :
    Calls Try.prog 7 #[.slice A n c] w fun e w' => e = .returned (.bool true) ∧ Below w.heap.size w w' := by
  by_cases hg : 20 < n ∨ n = 0
  · exact stored_out A n c w hn hg
  · exact stored_in A n c rows w (h (by omega)) (by omega) (by omega)
theorem rows_at {w : World} {a : Addr} {n cap base : Nat} {A : Nat → Option Addr} {L C : Nat → Nat} {Z : Nat → List Int} (hn : n ≤ cap)
    (h : ∀ r, r < cap → w.cell? (a.add r) = some (.slice (A r) (L r) (C r)) ∧ L r ≤ C r ∧ C r ≤ maxLen ∧ (Z r).length = C r ∧ (∀ n ∈ Z r, (Lit.int .u8 n).wf = true) ∧ (A r = none → C r = 0) ∧
        ∀ a', A r = some a' → base ≤ a'.block ∧ ∀ c, c < C r → w.cell? (a'.add c) = some (.int .u8 ((Z r).getD c 0))) :
    RowsAt w (some a) n ((List.range n).map fun r => (Z r).take (L r)) := by
  refine ⟨by simp, fun k hk => ?_⟩
  obtain ⟨h1, h2, h3, h4, h5, h6, h7⟩ := h k (by omega)
  have hg : ((List.range n).map fun r => (Z r).take (L r)).getD k [] = (Z k).take (L k) := by simp [List.getD_eq_getElem?_getD, hk]
  rw [hg]
  have hl : ((Z k).take (L k)).length = L k := by rw [List.length_take]; omega
  rw [hl]
  have hrow : IsRow .u8 w (A k) (L k) (C k) (Z k) := by
    cases hA : A k with
    | none =>
      have := h6 hA
      refine .inl ⟨rfl, by omega, this, ?_⟩
      rw [this] at h4
      exact List.eq_nil_of_length_eq_zero h4
    | some a' =>
      obtain ⟨_, h9⟩ := h7 a' hA
      exact .inr ⟨a', rfl, h2, h3, h4, fun i hi => h9 i (by omega), h5⟩
  have hC : (Kd.int .u8).C w (A k) (L k) ((Z k).take (L k)) := by
    obtain ⟨l, hll, hr, _, hw, _⟩ := ReadsInt.ofRowC hrow
    have : l = (Z k).take (L k) := by
      apply List.ext_getElem
      · omega
      · intro i h8 h9
        have hiL : i < L k := by omega
        cases hA : A k with
        | none => have := h6 hA; omega
        | some a' =>
          rw [hA] at hr
          obtain ⟨ad, e, hc⟩ := hr.2.2 (by omega)
          cases e
          have q1 := hc i h8
          have q2 := (h7 a' hA).2 i (by omega)
          rw [q2] at q1
          simp only [Option.some.injEq, Value.int.injEq, true_and] at q1
          rw [List.getD_eq_getElem?_getD, List.getD_eq_getElem?_getD, List.getElem?_eq_getElem h8, List.getElem?_eq_getElem (show i < (Z k).length by omega)] at q1
          simp only [Option.getD_some] at q1
          rw [List.getElem_take]
          exact q1.symm
    subst this
    rw [← hll] at hr
    exact C_of_reads hr
  exact ⟨a, A k, C k, rfl, h1, h2, hC, (bytes_wf h5).take _⟩
end Go.Proofs.Ytoaebpjjfglnnaa
