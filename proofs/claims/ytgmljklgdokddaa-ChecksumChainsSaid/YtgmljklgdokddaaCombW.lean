/- The walks of checksum.Combine and its parts, of corporaref03.Zeros, and of the laws on Combine. -/
import Derived.Test.YtgmljklgdokddaaSumsW
import Derived.Test.YtgmljklgdokddaaApp
import Derived.Test.YtgmljklgdokddaaCombM
namespace Go.Proofs.Ytgmljklgdokddaa
open Go.RowKit
set_option linter.unusedVariables false
set_option linter.unusedSimpArgs false

theorem mat_cell {w : World} {g : Nat} {f : BitVec 32 → BitVec 32} {k : Nat} {fr : Nat × Nat} {t : TypeId} (hg : w.heap[g]? = some (.cells (mat f k) t fr)) (j : Nat) (hj : j < 32) :
    w.cell? ⟨g, j, none⟩ = some (if j < k then Value.int .u32 ((f (BitVec.twoPow 32 j)).toNat : Int) else .int .u32 0) := by
  rw [cell_of_row w g j _ t fr hg, mat_get f k j hj]

theorem of_any (f : BitVec 32 → BitVec 32) (hf : Lin f) (g : Nat) (a : Int) (v : BitVec 32) (w : World) (ha : a = v.toNat) (hg : w.heap[g]? = some (.cells (mat f 32) 48 (0, 0))) :
    Calls Try.prog 23 #[.pointer (some ⟨g, 0, none⟩), .int .u32 a] w fun e w' => e = .returned (.int .u32 ((f v).toNat : Int)) ∧ w = w' := by
  subst ha
  have HC := hide (fun j hj => mat_cell hg j hj)
  have HF := hide hf
  clear hg hf
  go_enter Try.func23, Try.ntmps23
  go_wp2
  go_loop [1, 5, 6] (fun y x i => ∃ k : Nat, k ≤ 32 ∧ i = .int .i64 k ∧ y = .int .u32 ((v >>> k).toNat : Int) ∧ x = .int .u32 ((f (low k v)).toNat : Int)) (fun _ _ i => 32 - (intOf i).toNat)
  case atStart => exact ⟨0, Nat.zero_le _, rfl, by simp, by rw [show low 0 v = 0#32 from rfl, HF.out.1]; rfl⟩
  case round =>
    obtain ⟨k, hk, rfl, rfl, rfl⟩ := hrel
    by_cases hz : v >>> k = 0#32
    · have h0 := low_all v k hz
      rw [hz, h0]
      clear hz h0
      go_wp2
      go_ret
      exact ⟨rfl, rfl⟩
    · have hk32 : k < 32 := by
        rcases Nat.lt_or_ge k 32 with h | h
        · exact h
        · obtain rfl : k = 32 := by omega
          exact absurd (shr_32 v) hz
      have hc := HC.out k hk32
      rw [if_pos hk32] at hc
      have hne : (((v >>> k).toNat : Int) != 0) = true := by
        rw [bne_iff_ne]
        intro h
        exact hz (BitVec.eq_of_toNat_eq (by rw [show (v >>> k).toNat = 0 by omega]; rfl))
      have HL := hide (lin_low f HF.out k v)
      have hsh := shr_half v k
      have hand := bv_and1 (v >>> k)
      have hx := bv_xor (f (low k v)) (f (BitVec.twoPow 32 k))
      generalize f (low k v) ^^^ f (BitVec.twoPow 32 k) = z at hx HL
      generalize f (low k v) = x at hx HL
      generalize f (BitVec.twoPow 32 k) = m at hx hc
      generalize hyk' : v >>> (k + 1) = y' at hsh
      have HY := hide hyk'
      clear hyk'
      generalize hyk : v >>> k = y at hsh hand hne HL
      by_cases hb : y &&& 1#32 = 1#32
      · have ht : (((y &&& 1#32).toNat : Int) == 1) = true := by rw [hb]; rfl
        rw [← hand] at ht
        have HB := hide hb
        clear hb hand hyk
        go_wp2
        go_round
        case rel => exact ⟨k + 1, by omega, by go_num, by rw [HY.out], by rw [HL.out, if_pos HB.out]⟩
        case measure => simp [intOf]; omega
      · have ht : (((y &&& 1#32).toNat : Int) == 1) = false := by
          rw [beq_eq_false_iff_ne]
          intro h
          exact hb (BitVec.eq_of_toNat_eq (by rw [show (y &&& 1#32).toNat = 1 by omega]; rfl))
        rw [← hand] at ht
        have HB := hide hb
        clear hb hand hyk hx
        go_wp2
        go_round
        case rel => exact ⟨k + 1, by omega, by go_num, by rw [HY.out], by rw [HL.out, if_neg HB.out]⟩
        case measure => simp [intOf]; omega

theorem twice_any (f : BitVec 32 → BitVec 32) (hf : Lin f) (g : Nat) (w : World) (hg : w.heap[g]? = some (.cells (mat f 32) 48 (0, 0))) :
    Calls Try.prog 24 #[.pointer (some ⟨g, 0, none⟩)] w fun e w' => e = .returned (.agg (mat (fun v => f (f v)) 32)) ∧ Below w.heap.size w w' := by
  have HG := hide hg
  have HF := hide hf
  have hgl : g < w.heap.size := (Array.getElem?_eq_some_iff.1 hg).1
  clear hg hf
  go_enter Try.func24, Try.ntmps24
  go_wp2
  go_loopw [5] (fun i wr => ∃ k : Nat, k ≤ 32 ∧ i = .int .i64 k ∧ wr = (w.alloc (.cells (mat f 0) 48)).alloc (.cells (mat (fun v => f (f v)) k) 48)) (fun i _ => 32 - (intOf i).toNat)
  case atStart => exact ⟨0, Nat.zero_le _, rfl, rfl⟩
  case round =>
    obtain ⟨k, hk, rfl, rfl⟩ := hrel
    generalize hW1 : w.alloc (.cells (mat f 0) 48) = W1
    have hs1 : W1.heap.size = w.heap.size + 1 := by rw [← hW1]; simp
    have HG1 : Hid (W1.heap[g]? = some (.cells (mat f 32) 48 (0, 0))) := by rw [← hW1]; exact (Below.heap_alloc w _ g hgl).trans HG.out
    have hb1 : Below w.heap.size w W1 := by rw [← hW1]; exact bl_alloc (bl_refl w) _
    have HZ : Hid (W1.heap[w.heap.size]? = some (.cells (mat f 0) 48 (0, 0))) := by rw [← hW1]; exact heap_alloc_new w _
    clear hW1
    have HS := hide hs1
    by_cases hlt : k < 32
    · have hc : (W1.alloc (.cells (mat (fun v => f (f v)) k) 48)).cell? ⟨g, k, none⟩ = some (.int .u32 ((f (BitVec.twoPow 32 k)).toNat : Int)) := by
        have := mat_cell (f := f) ((Below.heap_alloc W1 (.cells (mat (fun v => f (f v)) k) 48) g (by omega)).trans HG1.out) k hlt
        rwa [if_pos hlt] at this
      have hc2 : (W1.alloc (.cells (mat (fun v => f (f v)) k) 48)).cell? ⟨W1.heap.size, k, none⟩ = some (.int .u32 0) := by
        have := mat_cell (heap_alloc_new W1 (.cells (mat (fun v => f (f v)) k) 48)) k hlt
        rwa [if_neg (Nat.lt_irrefl k)] at this
      rw [← HS.out]
      clear hs1
      go_wp2_with (go_at_call 23; refine (of_any f HF.out g _ (f (BitVec.twoPow 32 k)) _ rfl ((Below.heap_alloc W1 (.cells (mat (fun v => f (f v)) k) 48) g (by have := HS.out; omega)).trans HG1.out)).mono ?_; rintro e w' ⟨rfl, rfl⟩)
      go_roundw
      case rel => exact ⟨k + 1, by omega, by go_num, by rw [← mat_set]⟩
      case measure => simp [intOf]; omega
    · obtain rfl : k = 32 := by omega
      have hg2 : (W1.alloc (.cells (mat (fun v => f (f v)) 32) 48)).heap[w.heap.size]? = some (.cells (mat f 0) 48 (0, 0)) := (Below.heap_alloc W1 _ w.heap.size (by omega)).trans HZ.out
      have hg3 := heap_alloc_new W1 (.cells (mat (fun v => f (f v)) 32) 48)
      have hb2 := bl_alloc hb1 (.cells (mat (fun v => f (f v)) 32) 48)
      rw [← HS.out]
      generalize W1.alloc (.cells (mat (fun v => f (f v)) 32) 48) = W2 at hg2 hg3 hb2
      have HG2 := hide hg2
      have HG3 := hide hg3
      clear hg2 hg3 hs1
      go_wp2_with (first
        | (refine wpList_load_row rfl 48 (.tmp 3) rfl W1.heap.size rfl 48 (mat (fun v => f (f v)) 32) (0, 0) _ HG3.out Try.underlying48 rfl (by rw [mat_size]; kernel_rfl) ?_)
        | (refine wpList_store_row rfl 48 (.tmp 2) (.tmp 18) rfl w.heap.size (mat (fun v => f (f v)) 32) rfl rfl 48 (mat f 0) HG2.out (by rw [mat_size]; kernel_rfl) (by rw [mat_size, mat_size]) (by rw [Array.all_eq_true_iff_forall_mem]; intro u hu; exact mat_one _ _ u (by simpa using hu)) ?_))
      exact bodyPost_ret (results_cell_row Try.results24 _ _ w.heap.size 48 (mat (fun v => f (f v)) 32) (0, 0) _ rfl (setRow_heap _ _ _ _ _ _ HG2.out) Try.underlying48 rfl (by rw [mat_size]; kernel_rfl)) rfl ⟨rfl, bl_setRow hb2 (Nat.le_refl _) _⟩

theorem comb_neg (x y n : Int) (w : World) (hn : n < 0) :
    Calls Try.prog 18 #[.int .u32 x, .int .u32 y, .int .i64 n] w fun e w' => e = .returned (.int .u32 0) ∧ w = w' := by
  go_enter Try.func18, Try.ntmps18
  go_wp2
  go_ret
  exact ⟨rfl, rfl⟩

theorem comb_any (x y : BitVec 32) (a b c : Int) (n : Nat) (w : World) (ha : a = x.toNat) (hb : b = y.toNat) (hc : c = n) (hn : n < 1000000) :
    Calls Try.prog 18 #[.int .u32 a, .int .u32 b, .int .i64 c] w fun e w' => e = .returned (.int .u32 ((comb x y n).toNat : Int)) ∧ Below w.heap.size w w' := by
  subst ha hb hc
  have hn0 : ¬ (n : Int) < 0 := by omega
  have hn1 : decide ((n : Int) < 0) = false := by simp
  go_enter Try.func18, Try.ntmps18
  go_wp2
  go_loopw [11] (fun i wr => ∃ k : Nat, k ≤ 32 ∧ i = .int .i64 k ∧ wr = w.alloc (.cells (mat (stpN 8) k) 48)) (fun i _ => 32 - (intOf i).toNat)
  case atStart => exact ⟨0, Nat.zero_le _, rfl, rfl⟩
  case round =>
    obtain ⟨k, hk, rfl, rfl⟩ := hrel
    by_cases hlt : k < 32
    · have hc2 := mat_cell (heap_alloc_new w (.cells (mat (stpN 8) k) 48)) k hlt
      rw [if_neg (Nat.lt_irrefl k)] at hc2
      have e2 := twoPow_int k
      generalize ht : BitVec.twoPow 32 k = t at e2
      have HT := hide ht
      clear ht
      go_wp2_with (go_at_call 20; refine (step_any _ _ t 8 _ (by first | rfl | exact e2) (by omega) (by omega)).mono ?_; rintro e w' ⟨rfl, rfl⟩)
      go_roundw
      case rel => exact ⟨k + 1, by omega, by go_num, by rw [← mat_set, HT.out]⟩
      case measure => simp [intOf]; omega
    · obtain rfl : k = 32 := by omega
      have hg := heap_alloc_new w (.cells (mat (stpN 8) 32) 48)
      have hb := bl_alloc (bl_refl w) (.cells (mat (stpN 8) 32) 48)
      generalize w.alloc (.cells (mat (stpN 8) 32) 48) = W1 at hg hb
      have HG := hide hg
      clear hg
      rw [show ((32 : Nat) : Int) = 32 from rfl]
      go_wp2
      go_loopw [0, 2] (fun s m wr => ∃ j : Nat, m = .int .i64 ((n / 2 ^ j : Nat) : Int) ∧ s = .int .u32 ((zeros (n % 2 ^ j) x).toNat : Int) ∧ wr.heap[w.heap.size]? = some (.cells (mat (stpN (8 * 2 ^ j)) 32) 48 (0, 0)) ∧ Below w.heap.size w wr) (fun _ m _ => (intOf m).toNat)
      case atStart => exact ⟨0, by simp, by simp [zeros, stpN, Nat.mod_one], by simpa using HG.out, hb⟩
      case round =>
        obtain ⟨j, rfl, rfl, hgj, hbj⟩ := hrel
        have HGJ := hide hgj
        clear hgj
        have hle : n / 2 ^ j ≤ n := Nat.div_le_self _ _
        have HH := hide (half_pow n j)
        by_cases hz : n / 2 ^ j = 0
        · have hlt : n < 2 ^ j := (Nat.div_eq_zero_iff_lt (Nat.two_pow_pos j)).1 hz
          have hmod : n % 2 ^ j = n := Nat.mod_eq_of_lt hlt
          rw [hz, hmod]
          have hx := bv_xor (zeros n x) y
          clear hz hlt hmod hle
          generalize hx' : zeros n x = x' at hx
          have HX := hide hx'
          clear hx'
          go_wp2
          go_ret
          exact ⟨ret_int (by rw [comb, HX.out, BitVec.toNat_xor]), hbj⟩
        · generalize hm : n / 2 ^ j = m at hle hz
          have HM := hide hm
          have hodd := i64_odd m (by omega)
          have hm0 : (0 : Int) < m := by omega
          clear hm
          by_cases hbit : m % 2 = 1
          · have HZ : Hid (zeros (n % 2 ^ (j + 1)) x = stpN (8 * 2 ^ j) (zeros (n % 2 ^ j) x)) := zeros_bit n j x (by rw [HM.out]; exact hbit)
            have ht : (bits .and .i64 (m : Int) 1 == 1) = true := by rw [hodd, hbit]; rfl
            clear hodd hbit
            go_wp2_with (first
              | (go_at_call 23; refine (of_any (stpN (8 * 2 ^ j)) (lin_stpN _) w.heap.size _ (zeros (n % 2 ^ j) x) _ rfl HGJ.out).mono ?_; rintro e w' ⟨rfl, rfl⟩)
              | (go_at_call 24; refine (twice_any (stpN (8 * 2 ^ j)) (lin_stpN _) w.heap.size _ HGJ.out).mono ?_; rintro e w2 ⟨rfl, hb2⟩)
              | (refine wpList_store_row rfl 48 (.tmp 7) (.tmp 29) rfl w.heap.size (mat (fun v => stpN (8 * 2 ^ j) (stpN (8 * 2 ^ j) v)) 32) rfl rfl 48 (mat (stpN (8 * 2 ^ j)) 32) (by have := (Array.getElem?_eq_some_iff.1 HGJ.out).1; exact (hb2.block _ this).trans HGJ.out) (by rw [mat_size]; kernel_rfl) (by rw [mat_size, mat_size]) (by rw [Array.all_eq_true_iff_forall_mem]; intro u hu; exact mat_one _ _ u (by simpa using hu)) ?_))
            go_roundw
            case rel => exact ⟨j + 1, by rw [← HH.out, HM.out]; simp, by rw [HZ.out], by
              have := (Array.getElem?_eq_some_iff.1 HGJ.out).1
              rw [← stpN_twice]
              exact setRow_heap _ _ _ _ _ _ ((hb2.block _ this).trans HGJ.out), bl_setRow (bl_trans hbj hb2) (Nat.le_refl _) _⟩
            case measure => simp [intOf]; omega
          · have HZ : Hid (zeros (n % 2 ^ (j + 1)) x = zeros (n % 2 ^ j) x) := zeros_nobit n j x (by rw [HM.out]; omega)
            have ht : (bits .and .i64 (m : Int) 1 == 1) = false := by rw [hodd, show m % 2 = 0 by omega]; rfl
            clear hodd hbit
            go_wp2_with (first
              | (go_at_call 24; refine (twice_any (stpN (8 * 2 ^ j)) (lin_stpN _) w.heap.size _ HGJ.out).mono ?_; rintro e w2 ⟨rfl, hb2⟩)
              | (refine wpList_store_row rfl 48 (.tmp 7) (.tmp 29) rfl w.heap.size (mat (fun v => stpN (8 * 2 ^ j) (stpN (8 * 2 ^ j) v)) 32) rfl rfl 48 (mat (stpN (8 * 2 ^ j)) 32) (by have := (Array.getElem?_eq_some_iff.1 HGJ.out).1; exact (hb2.block _ this).trans HGJ.out) (by rw [mat_size]; kernel_rfl) (by rw [mat_size, mat_size]) (by rw [Array.all_eq_true_iff_forall_mem]; intro u hu; exact mat_one _ _ u (by simpa using hu)) ?_))
            go_roundw
            case rel => exact ⟨j + 1, by rw [← HH.out, HM.out]; simp, by rw [HZ.out], by
              have := (Array.getElem?_eq_some_iff.1 HGJ.out).1
              rw [← stpN_twice]
              exact setRow_heap _ _ _ _ _ _ ((hb2.block _ this).trans HGJ.out), bl_setRow (bl_trans hbj hb2) (Nat.le_refl _) _⟩
            case measure => simp [intOf]; omega

theorem zeros_any (x : BitVec 32) (a c : Int) (n : Nat) (w : World) (ha : a = x.toNat) (hc : c = n) (hn : n < 1000000) :
    Calls Try.prog 19 #[.int .u32 a, .int .i64 c] w fun e w' => e = .returned (.int .u32 ((zeros n x).toNat : Int)) ∧ w = w' := by
  subst ha hc
  go_enter Try.func19, Try.ntmps19
  go_wp2
  go_loop [0, 5] (fun s i => ∃ k : Nat, k ≤ n ∧ i = .int .i64 k ∧ s = .int .u32 ((zeros k x).toNat : Int)) (fun _ i => n - (intOf i).toNat)
  case atStart => exact ⟨0, Nat.zero_le _, rfl, rfl⟩
  case round =>
    obtain ⟨k, hk, rfl, rfl⟩ := hrel
    by_cases hlt : k < n
    · go_wp2_with (go_at_call 21; refine (rstep_any _ _ _ (by rfl)).mono ?_; rintro e w' ⟨rfl, rfl⟩)
      go_round
      case rel => exact ⟨k + 1, by omega, by go_num, by rw [zeros_succ]⟩
      case measure => simp [intOf]; omega
    · go_wp2
      go_ret
      obtain rfl : k = n := by omega
      exact ⟨rfl, rfl⟩

theorem u32_bv {a : Int} (h : (Lit.int .u32 a).wf = true) : ∃ v : BitVec 32, a = v.toNat := by
  have hb := bounds_u32 h
  refine ⟨BitVec.ofNat 32 a.toNat, ?_⟩
  rw [BitVec.toNat_ofNat]
  omega

namespace checksumCombined
set_option maxRecDepth 100000 in
theorem walk (a0 a1 a2 : Int) (w : World) (w0 : (Lit.int .u32 a0).wf = true) (w1 : (Lit.int .u32 a1).wf = true) (w2 : (Lit.int .i64 a2).wf = true) :
    Calls Try.prog 9 #[.int .u32 a0, .int .u32 a1, .int .i64 a2] w fun e w' => e = .returned (.bool true) ∧ Below w.heap.size w w' := by
  obtain ⟨x, rfl⟩ := u32_bv w0
  obtain ⟨y, rfl⟩ := u32_bv w1
  clear w0 w1
  have hb2 := bounds_i64 w2
  clear w2
  by_cases h1 : 3000 < a2
  · go_enter Try.func9, Try.ntmps9
    go_wp2
    go_ret
    exact ⟨rfl, bl_refl _⟩
  · by_cases h2 : a2 < 0
    · go_enter Try.func9, Try.ntmps9
      go_wp2_with fail
      refine (comb_neg _ _ _ _ h2).mono ?_
      rintro e w' ⟨rfl, rfl⟩
      go_wp2_with fail
      refine (awake_any _).mono ?_
      rintro e w3 ⟨rfl, hb3⟩
      go_wp2_with fail
      go_ret
      exact ⟨rfl, hb3⟩
    · obtain ⟨n, rfl⟩ := Int.eq_ofNat_of_zero_le (show 0 ≤ a2 by omega)
      have hx := bv_xor (zeros n x) y
      have hc : zeros n x ^^^ y = comb x y n := rfl
      rw [hc] at hx
      clear hc
      go_enter Try.func9, Try.ntmps9
      go_wp2_with fail
      refine (comb_any x y _ _ _ n _ rfl rfl rfl (by omega)).mono ?_
      rintro e w' ⟨rfl, hb1⟩
      go_wp2_with fail
      refine (zeros_any x _ _ n _ rfl rfl (by omega)).mono ?_
      rintro e w' ⟨rfl, rfl⟩
      go_wp2_with fail
      refine (awake_any _).mono ?_
      rintro e w3 ⟨rfl, hb3⟩
      go_wp2_with fail
      go_ret
      exact ⟨rfl, bl_trans hb1 hb3⟩
end checksumCombined

namespace checksumCombines
set_option maxRecDepth 100000 in
theorem walk (a0 : Option Addr) (len0 cap0 : Nat) (z0 : List Int) (a1 : Option Addr) (len1 cap1 : Nat) (z1 : List Int) (w : World) (w0 : IsRow .u8 w a0 len0 cap0 z0) (w1 : IsRow .u8 w a1 len1 cap1 z1) :
    Calls Try.prog 8 #[.slice a0 len0 cap0, .slice a1 len1 cap1] w fun e w' => e = .returned (.bool true) ∧ Below w.heap.size w w' := by
  obtain ⟨l0, hl0, hr0, hc0, hm0, hn0⟩ := w0.bytes
  obtain ⟨l1, hl1, hr1, hc1, hm1, hn1⟩ := w1.bytes
  have HL := hide (And.intro hl0.symm hl1.symm)
  have HR := hide (And.intro hr0 hr1)
  unfold maxLen at hm0 hm1
  clear hl0 hl1 hr0 hr1 hn0 hn1 w0 w1
  obtain ⟨i0, hi0, hz0, hz1, hz2⟩ := info_parts info_u8
  by_cases h1 : 1000 < len0
  · go_enter Try.func8, Try.ntmps8
    go_wp2
    go_ret
    exact ⟨rfl, bl_refl _⟩
  · have h1' : ¬ (1000 : Int) < len0 := by omega
    by_cases h2 : 1000 < len1
    · go_enter Try.func8, Try.ntmps8
      go_wp2
      go_ret
      exact ⟨rfl, bl_refl _⟩
    · have h2' : ¬ (1000 : Int) < len1 := by omega
      go_enter Try.func8, Try.ntmps8
      go_wp2_with (first
        | (at_builtin; refine wpList_append_rd _ rfl (.const (.slice none 0 0)) (.tmp 14) 22 rfl w.heap.size 5 i0 _ 1 1 Try.underlying22 hi0 hz0 hz1 hz2 rfl (by omega) (.slice none 0 0) 0 [] rfl (World.ownsRow_nil _ _ _ _) a0 len0 cap0 (l0.map u8v) rfl (by simpa using HL.out.1.symm) HR.out.1 (u8s_one _) (by simp only [maxLen]; omega) (by omega) (Nat.le_refl _) ?_; intro v1 w1 hown1 hg1 hat1; have hb1 : Below w.heap.size w w1 := bl_grown (bl_refl _) hg1 (fun k h => by simp [Value.ownBlock] at h))
        | (at_builtin; refine wpList_append_rd _ rfl (.tmp 15) (.tmp 16) 22 rfl w.heap.size 5 i0 _ 1 1 Try.underlying22 hi0 hz0 hz1 hz2 rfl (by omega) v1 (0 + len0) ([] ++ l0.map u8v) rfl hown1 a1 len1 cap1 (l1.map u8v) rfl (by simpa using HL.out.2.symm) (HR.out.2.below hb1) (u8s_one _) (by simp only [maxLen]; omega) (by omega) hb1.size ?_; intro v2 w2 hown2 hg2 hat2))
      have hb2 : Below w.heap.size w w2 := bl_grown hb1 hg2 (fun k h => (hown1.lt k h).1)
      obtain ⟨hx1, a3, c3, rfl, hc3, hrd3, hx3⟩ := own_form hown2
      have HRD : Hid (BRd w2 a3 (l0 ++ l1)) := by
        show Rd w2 a3 ((l0 ++ l1).map u8v)
        rw [List.map_append]; simpa using hrd3
      have HA := hide (crc_append l0 l1)
      clear hx1 hc3 hrd3 hx3 hown1 hown2 hg1 hg2 hat1 hat2
      go_wp2_with fail
      refine (sum_any _ _ _ l0 _ HL.out.1 (by omega) (HR.out.1.below hb2)).mono ?_
      rintro e w3 ⟨rfl, hb3⟩
      go_wp2_with fail
      refine (sum_any _ _ _ l1 _ HL.out.2 (by omega) ((HR.out.2.below hb2).below hb3)).mono ?_
      rintro e w4 ⟨rfl, hb4⟩
      go_wp2_with fail
      refine (comb_any (crc l0) (crc l1) _ _ _ len1 _ rfl rfl rfl (by omega)).mono ?_
      rintro e w5 ⟨rfl, hb5⟩
      rw [show comb (crc l0) (crc l1) len1 = crc (l0 ++ l1) by rw [HA.out, HL.out.2]]
      go_wp2_with fail
      refine (sum_any _ _ _ (l0 ++ l1) _ (by rw [List.length_append, ← HL.out.1, ← HL.out.2]) (by omega) (((HRD.out.below hb3).below hb4).below hb5)).mono ?_
      rintro e w6 ⟨rfl, hb6⟩
      go_wp2_with fail
      refine (awake_any _).mono ?_
      rintro e w7 ⟨rfl, hb7⟩
      go_wp2_with fail
      go_ret
      exact ⟨rfl, bl_trans hb2 (bl_trans hb3 (bl_trans hb4 (bl_trans hb5 (bl_trans hb6 hb7))))⟩
end checksumCombines

end Go.Proofs.Ytgmljklgdokddaa
