/- The walk of the reference's Encode. -/
import Derived.Test.YthkncfenhfieoaaJEncW
namespace Go.Proofs.Ythkncfenhfieoaa
open Go.RowKit
set_option linter.unusedVariables false
set_option linter.unusedSimpArgs false
theorem own_lit (w : World) (C : Array Value) (e : TypeId) (n : Nat) (hn : n = C.size) (hm : n ≤ maxLen) : (w.alloc (.cells C e)).ownsRow w.heap.size e 1 (.slice (some ⟨w.heap.size, 0, none⟩) n n) n C.toList := by
  subst hn
  exact ⟨by simp, .inr ⟨w.heap.size, C.size, C, rfl, Nat.le_refl _, heap_alloc_new w _, Nat.le_refl _, hm, by simp, by rw [Nat.mul_one]; exact List.take_of_length_le (by simp)⟩⟩
set_option maxRecDepth 100000 in
theorem four_any (x : Int) (nn : Nat) (w : World) (hx : x = nn) (hn : nn < 4294967296) :
    Calls Try.prog 32 #[.int .u32 x] w fun e w' => e = .returned (.string (bstr (be4L nn))) ∧ Below w.heap.size w w' := by
  subst hx
  obtain ⟨c3, c2, c1, c0, hbe, b0, b1, b2, b3⟩ := be4_parts nn hn
  have HBE := hide hbe
  have hone := run_bytes_str (P := Try.prog) (w.alloc (.cells #[.int .u8 (c3.toNat : Int), .int .u8 (c2.toNat : Int), .int .u8 (c1.toNat : Int), .int .u8 (c0.toNat : Int)] 5)) 39 9 5 _ 4 4 [c3, c2, c1, c0] Try.underlying39 Try.underlying5 Try.underlying9 rfl (rd_lit w #[.int .u8 (c3.toNat : Int), .int .u8 (c2.toNat : Int), .int .u8 (c1.toNat : Int), .int .u8 (c0.toNat : Int)] 5 (0, 0))
  rw [hbe]
  clear hbe
  go_enter Try.func32, Try.ntmps32
  go_wp2
  go_ret
  exact ⟨rfl, bl_alloc (bl_refl w) _⟩
set_option maxRecDepth 100000 in
theorem rsum40_any (k : Int) (kk : UInt8) (S : ByteArray) (p : List UInt8) (w : World) (hk : k = (kk.toNat : Int)) (hS : S = bstr p) (hp : p.length ≤ 900000) :
    Calls Try.prog 33 #[.agg #[.int .i64 k, .string S]] w fun e w' => e = .returned (.string (bstr (be4L (crcN (kk :: p))))) ∧ Below w.heap.size w w' := by
  obtain ⟨i0, hi0, hz0, hz1, hz2⟩ := info_parts info_u8
  have hkl : k % 256 = k := by have := kk.toNat_lt; omega
  have HK := hide hk
  have hsz := str_size hS
  obtain ⟨n, hn⟩ : ∃ n, n = p.length := ⟨_, rfl⟩
  have HS := hide hS
  have HN := hide hn
  have HSZ := hide hsz
  rw [← hn] at hp
  clear hk hS hn hsz
  go_enter Try.func33, Try.ntmps33
  go_wp2_with (at_builtin; go_loud (refine Lib.wpList_append_own_string _ rfl (.tmp 6) (.tmp 8) 39 9 rfl (w.heap.size + 1) 5 i0 Try.underlying39 Try.underlying9 hi0 hz0 hz1 hz2 (.slice (some ⟨w.heap.size + 1, 0, none⟩) 1 1) 1 [.int .u8 k] rfl (by have := own_lit (w.alloc (.cells #[.int .i64 k, .string S] 37)) #[.int .u8 k] 5 1 rfl (by decide); rwa [World.size_alloc] at this) S rfl (by rw [HSZ.out, ← HN.out]; simp only [maxLen]; omega) (by rw [HSZ.out, ← HN.out]; omega) (by simp) ?_); intro v2 w2 hown2 hg2 hnil2)
  obtain ⟨hx1, a, c, rfl, hx2, hrd, hx3⟩ := own_form hown2
  have hbw : Below w.heap.size w w2 := bl_grown (bl_alloc (bl_alloc (bl_refl w) _) _) hg2 (fun j h => by simp [Value.ownBlock] at h; omega)
  have hrd2 : BRd w2 a (kk :: p) := by
    have : (kk :: p).map u8v = [.int .u8 k] ++ Lib.strCells S := by rw [HS.out, str_cells, HK.out]; rfl
    unfold BRd
    rw [this]; exact hrd
  have hl2 : 1 + S.size = (kk :: p).length := by rw [HSZ.out, List.length_cons]; omega
  have HRD2 := hide hrd2
  have HL2 := hide hl2
  clear hx1 hx2 hx3 hrd hrd2 hown2 hl2 hnil2 hg2
  refine (rsum_any _ _ _ (kk :: p) _ HL2.out (by rw [HL2.out, List.length_cons, ← HN.out]; omega) HRD2.out).mono ?_
  rintro e w3 ⟨rfl, rfl⟩
  go_wp2_with fail
  refine (four_any _ (crcN (kk :: p)) _ rfl (crcN_lt _)).mono ?_
  rintro e w4 ⟨rfl, hb4⟩
  go_wp2_with fail
  go_ret
  exact ⟨rfl, bl_trans hbw hb4⟩
set_option maxHeartbeats 1000000 in
set_option maxRecDepth 100000 in
theorem renc_any (k : Int) (S : ByteArray) (p : List UInt8) (w : World) (hS : S = bstr p) (hp : p.length ≤ 900000) :
    Calls Try.prog 21 #[.agg #[.int .i64 k, .string S]] w fun e w' => e = encV (k, p) ∧ Below w.heap.size w w' := by
  by_cases hk : k = 1 ∨ k = 2
  · have hv : encV (k, p) = .returned (.tuple #[.string (bstr (encR (k, p))), .int .i64 0]) := by
      have h : okR (k, p) := ⟨hk, by show p.length ≤ 1048576; omega⟩
      unfold encV
      rw [encO_ok h, encE_ok h]; rfl
    rw [hv]
    have HV := hide hS
    have hsz := str_size hS
    obtain ⟨n, hn⟩ : ∃ n, n = p.length := ⟨_, rfl⟩
    rw [← hn] at hsz hp
    have HN := hide hn
    have hn2 : ¬ (1048576 : Int) < (n : Int) := by omega
    have hn3 : (n : Int) % 4294967296 = (n : Int) := by omega
    have hn4 : IntKind.u32.wrap (n : Int) = (n : Int) := by rw [IntKind.wrap_u32]; omega
    clear hn hS hv
    rcases hk with rfl | rfl
    · go_enter Try.func21, Try.ntmps21
      go_wp2_with fail
      obtain ⟨W, hW⟩ : ∃ W, W = w.alloc (.cells #[.int .i64 1, .string S] 37) := ⟨_, rfl⟩
      have hbW : Below w.heap.size w W := by rw [hW]; exact bl_alloc (bl_refl w) _
      have hsW : w.heap.size ≤ W.heap.size := hbW.size
      have hqW : W.heap[w.heap.size]? = some (.cells #[.int .i64 1, .string S] 37 (0, 0)) := by rw [hW]; exact heap_alloc_new w _
      have d0 : W.cell? ⟨w.heap.size, 0, none⟩ = some (.int .i64 1) := cell_of_row W _ 0 _ _ _ hqW
      have d1 : W.cell? ⟨w.heap.size, 1, none⟩ = some (.string S) := cell_of_row W _ 1 _ _ _ hqW
      rw [← hW]
      clear hW hqW
      refine wp_region_K 17 (by kernel_rfl) (by kernel_rfl) (fun Q HQ => ?_)
      simp only [List.take_succ_cons, List.take_zero, List.map_cons, List.map_nil]
      have f0 : ∀ wx, CB W.drew wx → wx.cell? ⟨w.heap.size, 0, none⟩ = some (.int .i64 1) := fun wx h => h.cell d0
      have f1 : ∀ wx, CB W.drew wx → wx.cell? ⟨w.heap.size, 1, none⟩ = some (.string S) := fun wx h => h.cell d1
      obtain ⟨A, hA⟩ : ∃ A, A = be4L n := ⟨_, rfl⟩
      obtain ⟨B, hB⟩ : ∃ B, B = be4L (crcN (1 :: p)) := ⟨_, rfl⟩
      have hal : A.length = 4 := by rw [hA]; rfl
      have hbl : B.length = 4 := by rw [hB]; rfl
      obtain ⟨C, hC⟩ : ∃ C, C = A ++ B := ⟨_, rfl⟩
      obtain ⟨D, hD⟩ : ∃ D, D = C ++ [1] := ⟨_, rfl⟩
      obtain ⟨E, hE⟩ : ∃ E, E = D ++ p := ⟨_, rfl⟩
      have hcl : C.length = 8 := by rw [hC, List.length_append]; omega
      have hdl : D.length = 9 := by rw [hD, List.length_append, hcl]; rfl
      have add1 := fun (w : World) => add_str (P := Try.prog) (rfl : bstr A = bstr A) (rfl : bstr B = bstr B) (by omega) w
      have add2 := fun (w : World) => add_str (P := Try.prog) (rfl : bstr C = bstr C) (rfl : bstr [1] = bstr [1]) (by rw [hcl]; decide) w
      have add3 := fun (w : World) => add_str (P := Try.prog) (rfl : bstr D = bstr D) HV.out (by rw [← HN.out, hdl]; omega) w
      rw [← hC] at add1
      rw [← hD] at add2
      rw [← hE] at add3
      have HE := hide (And.intro hC (And.intro hD hE))
      clear hC hD hE hcl hdl
      have HA := hide hA
      have HB := hide hB
      clear hA hB hal hbl
      repeat
        first | apply wpS_c rfl | apply wpS_gc rfl (guard_mk rfl rfl)
        focus
          intro ev wx hC hx
          (try simp [Op.operands, Call.operands, opndS, Slot.holds] at hx)
          go_simp
          try (first | exact rfl | exact ⟨Below.refl _ _, rfl⟩ | (go_at_call 32; refine (four_any _ n _ rfl (by omega)).mono ?_; rintro e w' ⟨rfl, hb⟩; rw [← HA.out]; exact ⟨rfl, hb⟩) | (go_at_call 33; refine (rsum40_any 1 1 S p _ (by decide) HV.out (by rw [← HN.out]; exact hp)).mono ?_; rintro e w' ⟨rfl, hb⟩; rw [← HB.out]; exact ⟨rfl, hb⟩))
          done
        dsimp only [setS, List.set]
      refine wpS_p (R := FreshRow w.heap.size 5 1 ([1].map u8v)) rfl (stab_fresh _ _ _ _) ?_ ?_
      focus
        intro ev wx hC hx
        (try simp [Op.operands, Call.operands, opndS, Slot.holds] at hx)
        go_simp
        have hl := own_base (own_lit wx #[.int .u8 1] 5 1 rfl (by decide)) (base' := w.heap.size) (by have := hC.below.size; omega)
        exact ⟨bl_alloc (bl_refl wx) _, by have := hC.below.size; simp; omega, hl⟩
      dsimp only [setS, List.set]
      refine wpS_c rfl (opS_str_fresh (.tmp 27) 39 9 5 rfl Try.underlying39 Try.underlying5 Try.underlying9 w.heap.size 1 [1] rfl) ?_
      dsimp only [setS, List.set]
      repeat
        first | apply wpS_c rfl | apply wpS_gc rfl (guard_mk rfl rfl)
        focus
          intro ev wx hC hx
          (try simp [Op.operands, Call.operands, opndS, Slot.holds] at hx)
          go_simp
          try (first | exact rfl | exact ⟨Below.refl _ _, rfl⟩)
          done
        dsimp only [setS, List.set]
      refine wpS_nil (HQ _ fun w3 hC3 => ?_)
      simp only [closeS, List.drop_succ_cons, List.drop_zero, List.drop_nil]
      clear HQ f0 f1
      rintro v0 -
      have hb3 : Below w.heap.size w w3 := hbW.trans (hC3.below.mono hsW)
      clear hn2 hn3 hn4 add1 add2 add3
      go_wp2_with fail
      go_ret2
      refine ⟨?_, hb3⟩
      obtain ⟨hC, hD, hE⟩ := HE.out
      rw [hE, hD, hC, HA.out, HB.out, HN.out]
      unfold encR
      rw [List.append_assoc, List.append_assoc]
      rfl
    · go_enter Try.func21, Try.ntmps21
      go_wp2_with fail
      obtain ⟨W, hW⟩ : ∃ W, W = w.alloc (.cells #[.int .i64 2, .string S] 37) := ⟨_, rfl⟩
      have hbW : Below w.heap.size w W := by rw [hW]; exact bl_alloc (bl_refl w) _
      have hsW : w.heap.size ≤ W.heap.size := hbW.size
      have hqW : W.heap[w.heap.size]? = some (.cells #[.int .i64 2, .string S] 37 (0, 0)) := by rw [hW]; exact heap_alloc_new w _
      have d0 : W.cell? ⟨w.heap.size, 0, none⟩ = some (.int .i64 2) := cell_of_row W _ 0 _ _ _ hqW
      have d1 : W.cell? ⟨w.heap.size, 1, none⟩ = some (.string S) := cell_of_row W _ 1 _ _ _ hqW
      rw [← hW]
      clear hW hqW
      refine wp_region_K 17 (by kernel_rfl) (by kernel_rfl) (fun Q HQ => ?_)
      simp only [List.take_succ_cons, List.take_zero, List.map_cons, List.map_nil]
      have f0 : ∀ wx, CB W.drew wx → wx.cell? ⟨w.heap.size, 0, none⟩ = some (.int .i64 2) := fun wx h => h.cell d0
      have f1 : ∀ wx, CB W.drew wx → wx.cell? ⟨w.heap.size, 1, none⟩ = some (.string S) := fun wx h => h.cell d1
      obtain ⟨A, hA⟩ : ∃ A, A = be4L n := ⟨_, rfl⟩
      obtain ⟨B, hB⟩ : ∃ B, B = be4L (crcN (2 :: p)) := ⟨_, rfl⟩
      have hal : A.length = 4 := by rw [hA]; rfl
      have hbl : B.length = 4 := by rw [hB]; rfl
      obtain ⟨C, hC⟩ : ∃ C, C = A ++ B := ⟨_, rfl⟩
      obtain ⟨D, hD⟩ : ∃ D, D = C ++ [2] := ⟨_, rfl⟩
      obtain ⟨E, hE⟩ : ∃ E, E = D ++ p := ⟨_, rfl⟩
      have hcl : C.length = 8 := by rw [hC, List.length_append]; omega
      have hdl : D.length = 9 := by rw [hD, List.length_append, hcl]; rfl
      have add1 := fun (w : World) => add_str (P := Try.prog) (rfl : bstr A = bstr A) (rfl : bstr B = bstr B) (by omega) w
      have add2 := fun (w : World) => add_str (P := Try.prog) (rfl : bstr C = bstr C) (rfl : bstr [2] = bstr [2]) (by rw [hcl]; decide) w
      have add3 := fun (w : World) => add_str (P := Try.prog) (rfl : bstr D = bstr D) HV.out (by rw [← HN.out, hdl]; omega) w
      rw [← hC] at add1
      rw [← hD] at add2
      rw [← hE] at add3
      have HE := hide (And.intro hC (And.intro hD hE))
      clear hC hD hE hcl hdl
      have HA := hide hA
      have HB := hide hB
      clear hA hB hal hbl
      repeat
        first | apply wpS_c rfl | apply wpS_gc rfl (guard_mk rfl rfl)
        focus
          intro ev wx hC hx
          (try simp [Op.operands, Call.operands, opndS, Slot.holds] at hx)
          go_simp
          try (first | exact rfl | exact ⟨Below.refl _ _, rfl⟩ | (go_at_call 32; refine (four_any _ n _ rfl (by omega)).mono ?_; rintro e w' ⟨rfl, hb⟩; rw [← HA.out]; exact ⟨rfl, hb⟩) | (go_at_call 33; refine (rsum40_any 2 2 S p _ (by decide) HV.out (by rw [← HN.out]; exact hp)).mono ?_; rintro e w' ⟨rfl, hb⟩; rw [← HB.out]; exact ⟨rfl, hb⟩))
          done
        dsimp only [setS, List.set]
      refine wpS_p (R := FreshRow w.heap.size 5 1 ([2].map u8v)) rfl (stab_fresh _ _ _ _) ?_ ?_
      focus
        intro ev wx hC hx
        (try simp [Op.operands, Call.operands, opndS, Slot.holds] at hx)
        go_simp
        have hl := own_base (own_lit wx #[.int .u8 2] 5 1 rfl (by decide)) (base' := w.heap.size) (by have := hC.below.size; omega)
        exact ⟨bl_alloc (bl_refl wx) _, by have := hC.below.size; simp; omega, hl⟩
      dsimp only [setS, List.set]
      refine wpS_c rfl (opS_str_fresh (.tmp 27) 39 9 5 rfl Try.underlying39 Try.underlying5 Try.underlying9 w.heap.size 1 [2] rfl) ?_
      dsimp only [setS, List.set]
      repeat
        first | apply wpS_c rfl | apply wpS_gc rfl (guard_mk rfl rfl)
        focus
          intro ev wx hC hx
          (try simp [Op.operands, Call.operands, opndS, Slot.holds] at hx)
          go_simp
          try (first | exact rfl | exact ⟨Below.refl _ _, rfl⟩)
          done
        dsimp only [setS, List.set]
      refine wpS_nil (HQ _ fun w3 hC3 => ?_)
      simp only [closeS, List.drop_succ_cons, List.drop_zero, List.drop_nil]
      clear HQ f0 f1
      rintro v0 -
      have hb3 : Below w.heap.size w w3 := hbW.trans (hC3.below.mono hsW)
      clear hn2 hn3 hn4 add1 add2 add3
      go_wp2_with fail
      go_ret2
      refine ⟨?_, hb3⟩
      obtain ⟨hC, hD, hE⟩ := HE.out
      rw [hE, hD, hC, HA.out, HB.out, HN.out]
      unfold encR
      rw [List.append_assoc, List.append_assoc]
      rfl
  · have h1 : ¬ k = 1 := fun h => hk (.inl h)
    have h2 : ¬ k = 2 := fun h => hk (.inr h)
    have h1' : (k != 1) = true := by simpa using h1
    have h2' : (k != 2) = true := by simpa using h2
    have hv : encV (k, p) = .returned (.tuple #[.string (bstr []), .int .i64 1]) := by
      have h : encE (k, p) = 1 := by unfold encE; rw [if_neg hk]
      unfold encV encO
      rw [h]; rfl
    rw [hv]
    clear hv hk hS
    go_enter Try.func21, Try.ntmps21
    go_wp2
    go_ret2
    exact ⟨rfl, bl_alloc (bl_refl w) _⟩
end Go.Proofs.Ythkncfenhfieoaa
