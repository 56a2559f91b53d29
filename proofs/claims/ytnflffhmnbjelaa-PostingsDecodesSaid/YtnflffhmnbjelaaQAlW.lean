/- The walk of All. -/
import Derived.Test.YtnflffhmnbjelaaQSkW
namespace Go.Proofs.Ytnflffhmnbjelaa
open Go.RowKit
set_option linter.unusedVariables false
set_option linter.unusedSimpArgs false
theorem own_blk {w : World} {base : Nat} {e : TypeId} {v : Value} {n : Nat} {xs : List Value} (h : w.ownsRow base e 1 v n xs) {k : Nat} (hk : v.ownBlock = some k) : base ≤ k := by
  rcases h.2 with ⟨rfl, h2⟩ | ⟨g, cap, cur, rfl, hb, _⟩
  · simp [Value.ownBlock] at hk
  · simp [Value.ownBlock] at hk; omega
theorem chunkQ_take (l : List Nat) (k : Nat) : l.take (16 * k) ++ chunkQ l k (min l.length (16 * (k + 1))) = l.take (16 * (k + 1)) := by
  unfold chunkQ
  have h1 : l.take (min l.length (16 * (k + 1))) = l.take (16 * (k + 1)) := by
    by_cases h : l.length ≤ 16 * (k + 1)
    · rw [Nat.min_eq_left h, List.take_of_length_le h, List.take_of_length_le (Nat.le_refl _)]
    · rw [Nat.min_eq_right (by omega)]
  rw [h1]
  have h2 : (l.take (16 * (k + 1))).take (16 * k) = l.take (16 * k) := by rw [List.take_take, Nat.min_eq_left (by omega)]
  conv => lhs; lhs; rw [← h2]
  exact List.take_append_drop _ _
set_option maxHeartbeats 2000000 in
set_option maxRecDepth 100000 in
theorem all_any (g : Nat) (l : List Nat) (w : World) (h : LstS w g l) (hok : okQ l) (hl : szQ l) :
    Calls Try.prog 19 #[.pointer (some ⟨g, 0, none⟩)] w fun e w' => ∃ v, e = .returned v ∧ w'.ownsRow w.heap.size 3 1 v l.length (l.map nv) ∧ Below w.heap.size w w' := by
  have HL := hide h
  have HOK := hide hok
  obtain ⟨n, hn⟩ : ∃ n, n = l.length := ⟨_, rfl⟩
  have HN := hide hn
  have hn3 : n ≤ 5000 := by rw [hn]; exact hl.1
  have HSZ := hide hl
  obtain ⟨ks, hks⟩ : ∃ ks, ks = (n + 15) / 16 := ⟨_, rfl⟩
  have HKS := hide hks
  have hks20 : ks ≤ 320 := by omega
  obtain ⟨B, d, c3⟩ : ∃ B d, w.cell? ⟨g, 3, none⟩ = some (.slice B ks d) := by
    obtain ⟨A, m, c, B, ks', d, hg, hm, hmc, hr, hk', hkd, hsk⟩ := h
    rw [skQ_length, ← hn, ← hks] at hk'
    exact ⟨B, d, by rw [← hk']; exact cell_of_row w g 3 _ _ _ hg⟩
  obtain ⟨i2, hi2, hz0, hz1, hz2⟩ := info_parts info_int
  clear h hok hl hn hks
  go_enter Try.func19, Try.ntmps19
  go_wp2_with fail
  have HO0 := hide (show w.ownsRow w.heap.size 3 1 (.slice none 0 0) (min n (16 * 0)) ((l.take (16 * 0)).map nv) by
    rw [show min n (16 * 0) = 0 by omega, show l.take (16 * 0) = [] by simp]
    exact ⟨rfl, .inl ⟨rfl, rfl⟩⟩)
  have HB0 := hide (bl_refl w)
  go_loopw [3, 10] (fun ov kv wr => ∃ k : Nat, kv = .int .i64 (k : Int) ∧ k ≤ ks ∧ Hid (wr.ownsRow w.heap.size 3 1 ov (min n (16 * k)) ((l.take (16 * k)).map nv)) ∧ Hid (Below w.heap.size w wr)) (fun _ kv _ => ks - (intOf kv).toNat)
  case atStart => exact ⟨0, rfl, by omega, HO0, HB0⟩
  case round =>
    obtain ⟨k, rfl, hk, HO, HB⟩ := hrel
    by_cases hkk : k < ks
    · obtain ⟨mm, hmm⟩ : ∃ mm, mm = min l.length (16 * (k + 1)) - 16 * k := ⟨_, rfl⟩
      have HP := hide (part_any g k l (k : Int) wr (HL.out.below HB.out) HOK.out HSZ.out rfl (by have := HN.out; have := HKS.out; omega))
      rw [← hmm] at HP
      obtain ⟨m0, hm0⟩ : ∃ m0, m0 = min n (16 * k) := ⟨_, rfl⟩
      have hm16 : m0 = 16 * k := by have := HKS.out; omega
      have hsum : min n (16 * (k + 1)) = m0 + mm := by have := HKS.out; have := HN.out; omega
      rw [← hm0] at HO
      have HSUM := hide hsum
      have hmm16 : mm ≤ 16 := by omega
      have hm3 : m0 ≤ 5000 := by omega
      have hki : (k : Int) < (ks : Int) := by omega
      clear hmm hm0 hm16 hsum
      go_wp2_with fail
      refine HP.out.mono ?_
      rintro e W2 ⟨v2, rfl, ho2, hb2⟩
      obtain ⟨hlen2, A2, c2, rfl, hc2, hr2, -⟩ := own_form ho2
      have HO2 := hide (own_below HO.out hb2)
      have HB2 := hide (HB.out.trans (hb2.mono HB.out.size))
      have HR2 := hide hr2
      have HLEN := hide hlen2
      clear ho2 hb2 hr2 hlen2
      go_wp2_with (at_builtin; go_loud (refine wpList_append_rd _ rfl (.tmp 13) (.tmp 16) 22 rfl w.heap.size 3 i2 _ 1 8 Try.underlying22 hi2 hz0 hz1 hz2 rfl (by omega) _ _ _ rfl HO2.out _ mm _ _ rfl (by rw [← HLEN.out]; omega) HR2.out (by intro u hu; obtain ⟨y, -, rfl⟩ := List.mem_map.1 hu; rfl) (by simp only [maxLen]; omega) (by omega) HB2.out.size ?_); intro v7 w7 ho7 hg7 hat7)
      have HO7 : Hid (w7.ownsRow w.heap.size 3 1 v7 (min n (16 * (k + 1))) ((l.take (16 * (k + 1))).map nv)) := hide (by
        rw [HSUM.out, ← chunkQ_take, List.map_append]
        exact ho7)
      have HB7 := hide (bl_grown HB2.out hg7 (fun q hq => own_blk HO2.out hq))
      clear ho7 hg7 hat7
      go_roundw
      case rel => exact ⟨k + 1, by go_num, by omega, HO7, HB7⟩
      case measure => simp [intOf]; omega
    · obtain rfl : k = ks := by omega
      have HO3 : Hid (wr.ownsRow w.heap.size 3 1 u3 l.length (l.map nv)) := hide (by
        have := HO.out
        rwa [show min n (16 * k) = l.length by have := HKS.out; have := HN.out; omega, List.take_of_length_le (by have := HKS.out; have := HN.out; omega)] at this)
      go_wp2
      go_ret
      exact ⟨_, rfl, HO3.out, HB.out⟩
end Go.Proofs.Ytnflffhmnbjelaa
