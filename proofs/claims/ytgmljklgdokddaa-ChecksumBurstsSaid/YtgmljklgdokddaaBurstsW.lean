/- The walk of the law ChecksumBursts. -/
import Derived.Test.YtgmljklgdokddaaUnsealW
import Derived.Test.YtgmljklgdokddaaBurstM
namespace Go.Proofs.Ytgmljklgdokddaa
open Go.RowKit
set_option linter.unusedVariables false
set_option linter.unusedSimpArgs false
theorem own_some {w : World} {base : Nat} {e : TypeId} {v : Value} {n : Nat} {xs : List Value} (h : w.ownsRow base e 1 v n xs) (hn : 0 < n) :
    ∃ g cap, v = .slice (some ⟨g, 0, none⟩) n cap ∧ base ≤ g ∧ n ≤ cap := by
  rcases h.2 with ⟨rfl, rfl⟩ | ⟨g, cap, cur, rfl, hb, _, hn, _⟩
  · omega
  · exact ⟨g, cap, rfl, hb, hn⟩
theorem bit_walk (x : BitVec 32) (k : Nat) : (bits .and .u32 ((x.toNat : Int) / 2 ^ k) 1 == 1) = x.getLsbD k := by
  rw [bv_shr, bv_and1, Bool.eq_iff_iff, beq_iff_eq]
  have : (x >>> k) &&& 1#32 = 1#32 ↔ x.getLsbD k = true := by
    rw [← BitVec.toNat_inj, BitVec.toNat_and]
    simp [BitVec.getLsbD, Nat.testBit, Nat.and_comm]
  rw [← this, ← BitVec.toNat_inj]
  constructor
  · intro h
    have h2 : (x >>> k &&& 1#32).toNat = 1 := by omega
    rw [h2]; rfl
  · intro h; rw [h]; rfl
theorem one8_int (s : Nat) : (2 : Int) ^ s % 256 = ((one8 s).toNat : Int) := by
  unfold one8
  rw [UInt8.toNat_ofNat']
  simp
theorem own_rd {w : World} {base g n c : Nat} {e : TypeId} {xs : List Value} (h : w.ownsRow base e 1 (.slice (some ⟨g, 0, none⟩) n c) n xs) : Rd w (some ⟨g, 0, none⟩) xs := by
  obtain ⟨_, a, c', hv, _, hr, _⟩ := own_form h
  injection hv with h1 h2 h3
  subst h1
  exact hr
theorem tail_of {len0 t k c : Nat} {p S l : List UInt8} {pat : BitVec 32} (hl : len0 = p.length) (hS : S = p ++ le32 (crc p)) (hc : c = 0 ↔ low k pat = 0#32) (ht : Turned S l t k pat) (hk : k ≤ 32) (hT : t + k ≤ 8 * (len0 + 4)) (hc0 : ¬ c = 0) :
    ∃ p' q0 q1 q2 q3, l = p' ++ [q0, q1, q2, q3] ∧ len0 = p'.length ∧ le32 (crc p') ≠ [q0, q1, q2, q3] := by
  subst hS
  have h1 : l.length = len0 + 4 := by rw [ht.1, hl]; simp [le32]
  have h3 : (l.drop len0).length = 4 := by simp; omega
  match hd : l.drop len0, h3 with
  | [q0, q1, q2, q3], _ =>
    have hp : (l.take len0).length = len0 := by simp; omega
    have he : l = l.take len0 ++ [q0, q1, q2, q3] := by rw [← hd, List.take_append_drop]
    refine ⟨l.take len0, q0, q1, q2, q3, he, hp.symm, ?_⟩
    rw [he] at ht
    exact burst_law p _ _ t k pat hk (by omega) (by omega) rfl ht (fun h => hc0 (hc.2 h))
namespace checksumBursts
set_option maxHeartbeats 1000000 in
set_option maxRecDepth 100000 in
theorem walk (a0 : Option Addr) (len0 cap0 : Nat) (z0 : List Int) (x y : Int) (w : World) (w0 : IsRow .u8 w a0 len0 cap0 z0) (w1 : (Lit.int .i64 x).wf = true) (w2 : (Lit.int .u32 y).wf = true) :
    Calls Try.prog 7 #[.slice a0 len0 cap0, .int .i64 x, .int .u32 y] w fun e w' => e = .returned (.bool true) ∧ Below w.heap.size w w' := by
  obtain ⟨p, hl, hr, hc, hm, hn⟩ := w0.bytes
  have HL := hide hl.symm
  have HR := hide hr
  have HN := hide hn
  unfold maxLen at hm
  have hy := bounds_u32 w2
  obtain ⟨pat, rfl⟩ : ∃ pat : BitVec 32, y = (pat.toNat : Int) := ⟨BitVec.ofNat 32 y.toNat, by simp; omega⟩
  clear hl hr hn w0 hy w1 w2
  by_cases h1 : 1000 < len0
  · go_enter Try.func7, Try.ntmps7
    go_wp2
    go_ret
    exact ⟨rfl, bl_refl _⟩
  by_cases h2 : (pat.toNat : Int) = 0
  · go_enter Try.func7, Try.ntmps7
    go_wp2
    go_ret
    exact ⟨rfl, bl_refl _⟩
  by_cases h3 : x < 0
  · go_enter Try.func7, Try.ntmps7
    go_wp2
    go_ret
    exact ⟨rfl, bl_refl _⟩
  obtain ⟨t, rfl⟩ := Int.eq_ofNat_of_zero_le (show 0 ≤ x by omega)
  by_cases h4 : 8 * (len0 : Int) + 32 ≤ (t : Int)
  · go_enter Try.func7, Try.ntmps7
    go_wp2
    go_ret
    exact ⟨rfl, bl_refl _⟩
  have h1' : ¬ (1000 : Int) < len0 := by omega
  have h2' : ((pat.toNat : Int) == 0) = false := by rw [beq_eq_false_iff_ne]; exact h2
  clear h2
  go_enter Try.func7, Try.ntmps7
  go_wp2_with fail
  refine (seal_any a0 len0 cap0 p w HL.out (by omega) hc HN.out HR.out).mono ?_
  rintro e w1 ⟨v1, rfl, hown1, hb1⟩
  obtain ⟨g, c1, rfl, hg1, hc1⟩ := own_some hown1 (by omega)
  obtain ⟨S, hS⟩ : ∃ S, S = p ++ le32 (crc p) := ⟨_, rfl⟩
  rw [← hS] at hown1
  have HS := hide hS
  have HO1 := hide hown1
  clear hS hown1
  obtain ⟨T, hT⟩ : ∃ T, T = 8 * (len0 + 4) := ⟨_, rfl⟩
  have hT' : 8 * ((len0 : Int) + 4) = (T : Int) := by omega
  have htT : t < T := by omega
  have hTl : T ≤ 8032 := by omega
  have HT := hide hT
  clear hT
  go_wp2_with fail
  go_loopw [8, 9] (fun m i wr => ∃ (k c : Nat) (l : List UInt8), i = .int .i64 (k : Int) ∧ m = .int .i64 (c : Int) ∧ k ≤ 32 ∧ t + k ≤ T ∧ c ≤ k ∧ Hid (c = 0 ↔ low k pat = 0#32) ∧ Hid (Turned S l t k pat) ∧
    Hid (wr.ownsRow w.heap.size 5 1 (.slice (some ⟨g, 0, none⟩) (len0 + 4) c1) (len0 + 4) (l.map u8v)) ∧ Below w.heap.size w wr) (fun _ i _ => 32 - (intOf i).toNat)
  case atStart => exact ⟨0, 0, S, rfl, rfl, by omega, by omega, by omega, hide ⟨fun _ => rfl, fun _ => rfl⟩, hide (Turned.zero S t pat), HO1, hb1⟩
  case round =>
    obtain ⟨k, c, l, rfl, rfl, hk, htk, hck, HC, HTU, HO, hb⟩ := hrel
    by_cases hlt : k < 32 ∧ t + k < T
    · obtain ⟨q, hq⟩ : ∃ q, q = (t + k) / 8 := ⟨_, rfl⟩
      obtain ⟨s, hs⟩ : ∃ s, s = (t + k) % 8 := ⟨_, rfl⟩
      have hql : q < len0 + 4 := by have := HT.out; omega
      have e1 : ((t : Int) + k) / 8 = (q : Int) := by omega
      have e2 : ((t : Int) + k) % 8 = (s : Int) := by omega
      have hs8 : s < 8 := by omega
      have h5 : (k : Int) < 32 := by omega
      have h6 : (t : Int) + k < T := by omega
      obtain ⟨⟨u, hu, hcell⟩, hfr⟩ := own_at HO.out hql
      obtain ⟨b, hb0, rfl⟩ : ∃ b, l[q]? = some b ∧ u = u8v b := by
        rw [List.getElem?_map] at hu
        cases h : l[q]? with
        | none => rw [h] at hu; simp at hu
        | some b => rw [h] at hu; exact ⟨b, rfl, by simpa using hu.symm⟩
      unfold u8v at hcell
      have hbw := bit_walk pat k
      have HQ := hide (And.intro hq (And.intro hs hb0))
      clear hq hs hb0 hu hlt
      cases hbit : pat.getLsbD k
      · rw [hbit] at hbw
        have HB := hide hbit
        clear hbit
        go_wp2
        go_roundw
        case rel => exact ⟨k + 1, c, l, by go_num, rfl, by omega, by omega, by omega, hide (by rw [low_no HB.out]; exact HC.out), hide (HTU.out.no HB.out), HO, hb⟩
        case measure => simp [intOf]; omega
      · rw [hbit] at hbw
        have HB := hide hbit
        clear hbit
        have hset := own_set HO.out hql (u8v (b ^^^ one8 s))
        have hcv : u8v (b ^^^ one8 s) = .int .u8 (bits .xor .u8 (b.toNat : Int) ((2 : Int) ^ s % 256)) := by
          unfold u8v
          rw [← u8_bxor, one8_int s]
        rw [← List.map_set] at hset
        have HSET := hide hset
        have HCV := hide hcv
        clear hset hcv
        go_wp2
        go_roundw
        case rel =>
          obtain ⟨e5, e6, e7⟩ := HQ.out
          have hy := Turned.yes HTU.out HB.out (x := b) (by rw [← e5]; exact e7)
          rw [← e5, ← e6] at hy
          refine ⟨k + 1, c + 1, l.set q (b ^^^ one8 s), by go_num, by go_num, by omega, by omega, by omega, hide ⟨fun h => by omega, fun h => absurd h (low_yes (by omega) HB.out)⟩, hide hy, hide ?_, bl_set hb hg1 _⟩
          rw [← HCV.out]
          exact HSET.out
        case measure => simp [intOf]; omega
    · have h5 : ¬ (k < 32 ∧ t + k < T) := hlt
      by_cases hk32 : (k : Int) < 32
      · have h6 : ¬ (t : Int) + k < T := by omega
        clear hlt
        by_cases hc0 : c = 0
        · subst hc0
          go_wp2_with fail
          refine (awake_any _).mono ?_
          rintro e w3 ⟨rfl, hb3⟩
          go_wp2_with fail
          go_ret
          exact ⟨rfl, bl_trans hb hb3⟩
        · have hci : ((c : Int) == 0) = false := by rw [beq_eq_false_iff_ne]; omega
          obtain ⟨p', q0, q1, q2, q3, rfl, hpl, hlaw⟩ := tail_of HL.out HS.out HC.out HTU.out hk (by have := HT.out; omega) hc0
          have HPL := hide hpl
          clear hpl
          go_wp2_with fail
          refine (unseal_any (some ⟨g, 0, none⟩) len0 c1 p' q0 q1 q2 q3 wr HPL.out (by omega) hc1 (own_rd HO.out)).mono ?_
          rintro e w3 ⟨hb3, ⟨hq, _⟩ | ⟨hq, rfl⟩⟩
          · exact absurd hq hlaw
          go_wp2_with fail
          refine (awake_any _).mono ?_
          rintro e w4 ⟨rfl, hb4⟩
          go_wp2_with fail
          go_ret
          exact ⟨rfl, bl_trans hb (bl_trans hb3 hb4)⟩
      · clear hlt
        by_cases hc0 : c = 0
        · subst hc0
          go_wp2_with fail
          refine (awake_any _).mono ?_
          rintro e w3 ⟨rfl, hb3⟩
          go_wp2_with fail
          go_ret
          exact ⟨rfl, bl_trans hb hb3⟩
        · have hci : ((c : Int) == 0) = false := by rw [beq_eq_false_iff_ne]; omega
          obtain ⟨p', q0, q1, q2, q3, rfl, hpl, hlaw⟩ := tail_of HL.out HS.out HC.out HTU.out hk (by have := HT.out; omega) hc0
          have HPL := hide hpl
          clear hpl
          go_wp2_with fail
          refine (unseal_any (some ⟨g, 0, none⟩) len0 c1 p' q0 q1 q2 q3 wr HPL.out (by omega) hc1 (own_rd HO.out)).mono ?_
          rintro e w3 ⟨hb3, ⟨hq, _⟩ | ⟨hq, rfl⟩⟩
          · exact absurd hq hlaw
          go_wp2_with fail
          refine (awake_any _).mono ?_
          rintro e w4 ⟨rfl, hb4⟩
          go_wp2_with fail
          go_ret
          exact ⟨rfl, bl_trans hb (bl_trans hb3 hb4)⟩
end checksumBursts
end Go.Proofs.Ytgmljklgdokddaa
