/- The walk of the journal's Encode. -/
import Derived.Test.YthkncfenhfieoaaJByW
namespace Go.Proofs.Ythkncfenhfieoaa
open Go.RowKit
set_option linter.unusedVariables false
set_option linter.unusedSimpArgs false
def encE (r : Rec) : Nat := if r.1 = 1 ∨ r.1 = 2 then (if r.2.length ≤ 1048576 then 0 else 2) else 1
def encO (r : Rec) : List UInt8 := if encE r = 0 then encR r else []
theorem encE_ok {r : Rec} (h : okR r) : encE r = 0 := by unfold encE; rw [if_pos h.1, if_pos h.2]
theorem encO_ok {r : Rec} (h : okR r) : encO r = encR r := by unfold encO; rw [encE_ok h]; rfl
theorem encE_zero {r : Rec} (h : encE r = 0) : okR r := by
  unfold encE at h
  by_cases h1 : r.1 = 1 ∨ r.1 = 2
  · rw [if_pos h1] at h
    by_cases h2 : r.2.length ≤ 1048576
    · exact ⟨h1, h2⟩
    · rw [if_neg h2] at h; cases h
  · rw [if_neg h1] at h; cases h
theorem encO_err {r : Rec} (h : ¬ encE r = 0) : encO r = [] := by unfold encO; rw [if_neg h]
/-- What both Encode answer. -/
def encV (r : Rec) : Ending := .returned (.tuple #[.string (bstr (encO r)), .int .i64 ((encE r : Nat) : Int)])
set_option maxHeartbeats 1000000 in
set_option maxRecDepth 100000 in
theorem enc_any (k : Int) (S : ByteArray) (p : List UInt8) (w : World) (hS : S = bstr p) (hp : p.length ≤ 900000) :
    Calls Try.prog 20 #[.agg #[.int .i64 k, .string S]] w fun e w' => e = encV (k, p) ∧ Below w.heap.size w w' := by
  by_cases hk : k = 1 ∨ k = 2
  · have hv : encV (k, p) = .returned (.tuple #[.string (bstr (encR (k, p))), .int .i64 0]) := by
      have h : okR (k, p) := ⟨hk, by show p.length ≤ 1048576; omega⟩
      unfold encV
      rw [encO_ok h, encE_ok h]; rfl
    rw [hv]
    have HV := hide hS
    have hsz := str_size hS
    obtain ⟨n, hn⟩ : ∃ n, n = p.length := ⟨_, rfl⟩
    rw [← hn] at hsz hp
    have HN := hide hn
    have hn2 : ¬ (1048576 : Int) < (n : Int) := by omega
    have hn3 : (n : Int) % 4294967296 = (n : Int) := by omega
    have hone : ∀ (w : World) (g : Nat) (c : UInt8), g = w.heap.size → (convert 39 9 (.slice (some ⟨g, 0, none⟩) 1 1)).run Try.prog (w.alloc (.cells #[.int .u8 (c.toNat : Int)] 5)) = .ok (.string (bstr [c])) (w.alloc (.cells #[.int .u8 (c.toNat : Int)] 5)) := fun w g c hg => by
      subst hg
      exact run_bytes_str (P := Try.prog) _ 39 9 5 _ 1 1 [c] Try.underlying39 Try.underlying5 Try.underlying9 rfl (rd_lit w #[.int .u8 (c.toNat : Int)] 5 (0, 0))
    have hone1 := fun (w : World) (g : Nat) => hone w g 1
    have hone2 := fun (w : World) (g : Nat) => hone w g 2
    rw [show (((1 : UInt8).toNat : Nat) : Int) = 1 by decide] at hone1
    rw [show (((2 : UInt8).toNat : Nat) : Int) = 2 by decide] at hone2
    have add1 := fun (w : World) => add_str (P := Try.prog) (rfl : bstr [1] = bstr [1]) HV.out (by rw [← HN.out]; simp; omega) w
    have add2 := fun (w : World) => add_str (P := Try.prog) (rfl : bstr [2] = bstr [2]) HV.out (by rw [← HN.out]; simp; omega) w
    have HO1 := hide hone1
    have HO2 := hide hone2
    have HA1 := hide add1
    have HA2 := hide add2
    clear hn hS hv hone hone1 hone2 add1 add2
    rcases hk with rfl | rfl
    · have hone1 := HO1.out
      have add1 := HA1.out
      go_enter Try.func20, Try.ntmps20
      go_wp2_with fail
      obtain ⟨W, hW⟩ : ∃ W, W = (w.alloc (.cells #[.int .i64 1, .string S] 37)).alloc (.cells #[.int .u8 1] 5) := ⟨_, rfl⟩
      have hbW : Below w.heap.size w W := by rw [hW]; exact bl_alloc (bl_alloc (bl_refl w) _) _
      rw [← hW]
      clear hW hone1 add1 hn2 hn3
      refine (put_any W.heap.size (.slice none 0 0) 0 [] _ n W rfl (by omega) (World.ownsRow_nil _ _ _ _) (Nat.le_refl _) (by omega)).mono ?_
      rintro e w1 ⟨v1, m1, rfl, hm1, hown1, hg1⟩
      have HN1 := hide hown1
      have hb1 : Below w.heap.size w w1 := hbW.trans ((bl_grown (bl_refl W) hg1 (fun k h => by simp [Value.ownBlock] at h)).mono hbW.size)
      have hs1 := hg1.size
      clear hown1 hg1
      go_wp2_with fail
      refine (jsum_any (bstr (1 :: p)) (1 :: p) w1 rfl (by rw [List.length_cons, ← HN.out]; omega)).mono ?_
      rintro e w2 ⟨rfl, hb2⟩
      go_wp2_with fail
      refine (put_any W.heap.size v1 m1 _ _ (crcN (1 :: p)) w2 rfl (crcN_lt _) (own_below HN1.out hb2) (Nat.le_trans hs1 hb2.size) (by omega)).mono ?_
      rintro e w3 ⟨v2, m2, rfl, hm2, hown2, hg2⟩
      have hb3 : Below w.heap.size w w3 := bl_grown (hb1.trans (hb2.mono hb1.size)) hg2 (fun k h => by have := (HN1.out.lt k h).1; have := hbW.size; omega)
      obtain ⟨hx1, a, c, rfl, hx2, hrd, hx3⟩ := own_form hown2
      rw [List.nil_append, ← List.map_append] at hrd
      obtain ⟨L, hL⟩ : ∃ L, L = be4L n ++ be4L (crcN (1 :: p)) := ⟨_, rfl⟩
      rw [← hL] at hrd
      have hLl : m2 = L.length := by rw [hL, hm2, hm1]; rfl
      have k1 := run_bytes_str (P := Try.prog) w3 39 9 5 a m2 c L Try.underlying39 Try.underlying5 Try.underlying9 hLl hrd
      have add3 := add_str (P := Try.prog) (rfl : bstr L = bstr L) (rfl : bstr (1 :: p) = bstr (1 :: p)) (by rw [← hLl, List.length_cons, ← HN.out]; omega) w3
      have HL := hide hL
      clear hL hLl hm1 hm2 hx1 hx2 hx3 hrd hown2 hg2
      go_wp2_with fail
      go_ret2
      refine ⟨?_, hb3⟩
      rw [HL.out, HN.out]
      unfold encR
      rw [List.append_assoc]
      rfl
    · have hone1 := HO2.out
      have add1 := HA2.out
      go_enter Try.func20, Try.ntmps20
      go_wp2_with fail
      obtain ⟨W, hW⟩ : ∃ W, W = (w.alloc (.cells #[.int .i64 2, .string S] 37)).alloc (.cells #[.int .u8 2] 5) := ⟨_, rfl⟩
      have hbW : Below w.heap.size w W := by rw [hW]; exact bl_alloc (bl_alloc (bl_refl w) _) _
      rw [← hW]
      clear hW hone1 add1 hn2 hn3
      refine (put_any W.heap.size (.slice none 0 0) 0 [] _ n W rfl (by omega) (World.ownsRow_nil _ _ _ _) (Nat.le_refl _) (by omega)).mono ?_
      rintro e w1 ⟨v1, m1, rfl, hm1, hown1, hg1⟩
      have HN1 := hide hown1
      have hb1 : Below w.heap.size w w1 := hbW.trans ((bl_grown (bl_refl W) hg1 (fun k h => by simp [Value.ownBlock] at h)).mono hbW.size)
      have hs1 := hg1.size
      clear hown1 hg1
      go_wp2_with fail
      refine (jsum_any (bstr (2 :: p)) (2 :: p) w1 rfl (by rw [List.length_cons, ← HN.out]; omega)).mono ?_
      rintro e w2 ⟨rfl, hb2⟩
      go_wp2_with fail
      refine (put_any W.heap.size v1 m1 _ _ (crcN (2 :: p)) w2 rfl (crcN_lt _) (own_below HN1.out hb2) (Nat.le_trans hs1 hb2.size) (by omega)).mono ?_
      rintro e w3 ⟨v2, m2, rfl, hm2, hown2, hg2⟩
      have hb3 : Below w.heap.size w w3 := bl_grown (hb1.trans (hb2.mono hb1.size)) hg2 (fun k h => by have := (HN1.out.lt k h).1; have := hbW.size; omega)
      obtain ⟨hx1, a, c, rfl, hx2, hrd, hx3⟩ := own_form hown2
      rw [List.nil_append, ← List.map_append] at hrd
      obtain ⟨L, hL⟩ : ∃ L, L = be4L n ++ be4L (crcN (2 :: p)) := ⟨_, rfl⟩
      rw [← hL] at hrd
      have hLl : m2 = L.length := by rw [hL, hm2, hm1]; rfl
      have k1 := run_bytes_str (P := Try.prog) w3 39 9 5 a m2 c L Try.underlying39 Try.underlying5 Try.underlying9 hLl hrd
      have add3 := add_str (P := Try.prog) (rfl : bstr L = bstr L) (rfl : bstr (2 :: p) = bstr (2 :: p)) (by rw [← hLl, List.length_cons, ← HN.out]; omega) w3
      have HL := hide hL
      clear hL hLl hm1 hm2 hx1 hx2 hx3 hrd hown2 hg2
      go_wp2_with fail
      go_ret2
      refine ⟨?_, hb3⟩
      rw [HL.out, HN.out]
      unfold encR
      rw [List.append_assoc]
      rfl
  · by_cases h2 : True
    · have h1 : ¬ k = 1 := fun h => hk (.inl h)
      have h2 : ¬ k = 2 := fun h => hk (.inr h)
      have h1' : (k != 1) = true := by simpa using h1
      have h2' : (k != 2) = true := by simpa using h2
      have hv : encV (k, p) = .returned (.tuple #[.string (bstr []), .int .i64 1]) := by
        have h : encE (k, p) = 1 := by unfold encE; rw [if_neg hk]
        unfold encV encO
        rw [h]; rfl
      rw [hv]
      clear hv hk hS
      go_enter Try.func20, Try.ntmps20
      go_wp2
      go_ret2
      exact ⟨rfl, bl_alloc (bl_refl w) _⟩
    · exact absurd trivial h2
end Go.Proofs.Ythkncfenhfieoaa
