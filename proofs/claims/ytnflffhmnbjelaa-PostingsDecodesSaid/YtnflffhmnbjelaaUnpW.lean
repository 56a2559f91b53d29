/- Bits read from bytes; the walk of the reference's Unpack. -/
import Derived.Test.YtnflffhmnbjelaaPackW
namespace Go.Proofs.Ytnflffhmnbjelaa
open Go.RowKit
set_option linter.unusedVariables false
set_option linter.unusedSimpArgs false
def bitAt (p : List UInt8) (i : Nat) : Bool := (p.getD (i / 8) 0 &&& bitv (i % 8)) != 0
theorem B8_and (x : Nat → Bool) (k : Nat) (hk : k < 8) : ((B8 x &&& bitv k) != 0) = x k := by
  have h : ∀ b0 b1 b2 b3 b4 b5 b6 b7 : Bool, ∀ k : Fin 8, ((UInt8.ofNat (b0.toNat * 128 + b1.toNat * 64 + b2.toNat * 32 + b3.toNat * 16 + b4.toNat * 8 + b5.toNat * 4 + b6.toNat * 2 + b7.toNat) &&& bitv k.val) != 0) = [b0, b1, b2, b3, b4, b5, b6, b7].getD k.val false := by decide +kernel
  have := h (x 0) (x 1) (x 2) (x 3) (x 4) (x 5) (x 6) (x 7) ⟨k, hk⟩
  unfold B8
  rw [this]
  match k, hk with
  | 0, _ => rfl
  | 1, _ => rfl
  | 2, _ => rfl
  | 3, _ => rfl
  | 4, _ => rfl
  | 5, _ => rfl
  | 6, _ => rfl
  | 7, _ => rfl
def unpackL (p : List UInt8) (n : Nat) : List Bool := (List.range n).map (bitAt p)
theorem unpackL_length (p : List UInt8) (n : Nat) : (unpackL p n).length = n := by simp [unpackL]
theorem unpackL_get (p : List UInt8) (n i : Nat) (h : i < n) : (unpackL p n)[i]? = some (bitAt p i) := by simp [unpackL, h]
theorem unpackL_succ (p : List UInt8) (n : Nat) : unpackL p (n + 1) = unpackL p n ++ [bitAt p n] := by simp [unpackL, List.range_succ]
theorem unpack_pack (l : List Bool) : unpackL (packL l) l.length = l := by
  apply List.ext_getElem?
  intro i
  rcases Nat.lt_or_ge i l.length with h | h
  · rw [unpackL_get _ _ _ h]
    have hq : i / 8 < nby l.length := by unfold nby; omega
    unfold bitAt
    rw [show (packL l).getD (i / 8) 0 = byteAt l (i / 8) by simp [packL, List.getD, hq]]
    unfold byteAt
    rw [B8_and _ _ (by omega), show 8 * (i / 8) + i % 8 = i by omega]
    simp [List.getD, List.getElem?_eq_getElem h]
  · rw [List.getElem?_eq_none (by simpa [unpackL] using h), List.getElem?_eq_none h]
set_option maxHeartbeats 1000000 in
set_option maxRecDepth 100000 in
theorem unpack_ref (a : Option Addr) (len c : Nat) (p : List UInt8) (n : Int) (nn : Nat) (w : World) (hn : n = nn) (hl : len = p.length) (hm : len ≤ 100000000) (hnl : nn ≤ 8 * len) (hr : BRd w a p) :
    Calls Try.prog 44 #[.slice a len c, .int .i64 n] w fun e w' => ∃ r, e = .returned r ∧ w'.ownsRow w.heap.size 4 1 r nn ((unpackL p nn).map Value.bool) ∧ Below w.heap.size w w' := by
  subst hn
  have HL := hide hl
  have HR := hide hr
  clear hl hr
  obtain ⟨i0, hi0, hz0, hz1, hz2⟩ := info_parts info_bool
  go_enter Try.func44, Try.ntmps44
  go_wp2_with fail
  go_loopw [5, 6] (fun s i wr => ∃ (k : Nat), i = .int .i64 (k : Int) ∧ k ≤ nn ∧ wr.ownsRow w.heap.size 4 1 s k ((unpackL p k).map Value.bool) ∧ Below w.heap.size w wr) (fun _ i _ => nn - (intOf i).toNat)
  case atStart => exact ⟨0, rfl, Nat.zero_le _, ⟨rfl, .inl ⟨rfl, rfl⟩⟩, bl_refl w⟩
  case round =>
    obtain ⟨k, rfl, hk, hown, hb⟩ := hrel
    have HO := hide hown
    clear hown
    by_cases hlt : k < nn
    · obtain ⟨q, hq⟩ : ∃ q, q = k / 8 := ⟨_, rfl⟩
      obtain ⟨s, hs⟩ : ∃ s, s = k % 8 := ⟨_, rfl⟩
      have hql : q < len := by omega
      have hqi : (q : Int) < len := by omega
      have eq8 : (k : Int) / 8 = (q : Int) := by omega
      have er8 : (k : Int) % 8 = (s : Int) := by omega
      have hs8 : s < 8 := by omega
      obtain ⟨b, o, cc, rfl, hbl, hcc, hcell⟩ := (HR.out.below hb).at_ (k := q) (by rw [← HL.out]; exact hql)
      have eb := bitv_shr s hs8
      have ea := u8_band cc (bitv s)
      have hbit : bitAt p k = ((cc &&& bitv s) != 0) := by
        unfold bitAt
        rw [← hq, ← hs]
        simp [List.getD, hcc]
      have HQ := hide hbit
      clear hq hs hcc hbit
      generalize bitv s = bv at *
      generalize hx : cc &&& bv = x at *
      obtain ⟨y, hy⟩ : ∃ y, y = (x != 0) := ⟨_, rfl⟩
      have t1 : ((x.toNat : Int) != 0) = y := by
        rw [hy, bne]
        by_cases h : x = 0
        · subst h; rfl
        · have : x.toNat ≠ 0 := fun h0 => h (UInt8.toNat_inj.1 (by simpa using h0))
          have h1 : ((x.toNat : Int) == 0) = false := by rw [beq_eq_false_iff_ne]; omega
          rw [h1]; simp [h]
      rw [← hy] at HQ
      clear hx hy
      go_wp2_with (at_builtin; go_loud (refine wpList_append_rd _ rfl (.tmp 12) (.tmp 24) 70 rfl w.heap.size 4 i0 _ 1 1 Try.underlying70 hi0 hz0 hz1 hz2 rfl (by omega) u5 k ((unpackL p k).map Value.bool) rfl (HO.out.alloc _) _ 1 1 [.bool y] rfl rfl (rd_lit _ _ _ _) (by intro u hu; simp at hu; subst hu; rfl) (by simp only [maxLen]; omega) (by omega) (by have := hb.size; simp; omega) ?_); intro r2 w3 hown3 hg3 hat3)
      go_roundw
      case rel =>
        refine ⟨k + 1, by go_num, by omega, ?_, bl_grown (bl_alloc hb _) hg3 (fun j h => (HO.out.lt j h).1)⟩
        rw [unpackL_succ, HQ.out, List.map_append]
        exact hown3
      case measure => simp [intOf]; omega
    · obtain rfl : k = nn := by omega
      go_wp2
      go_ret
      exact ⟨u5, rfl, HO.out, hb⟩
end Go.Proofs.Ytnflffhmnbjelaa
