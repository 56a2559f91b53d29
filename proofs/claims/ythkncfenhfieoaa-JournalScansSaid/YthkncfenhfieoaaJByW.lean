/- The walks of the journal's bytes: get, put, sum. -/
import Derived.Test.YthkncfenhfieoaaCrcW
import Derived.Test.YthkncfenhfieoaaJM
import Derived.Test.YthkncfenhfieoaaStr
import Derived.Test.YthkncfenhfieoaaKeep
namespace Go.Proofs.Ythkncfenhfieoaa
open Go.RowKit
set_option linter.unusedVariables false
set_option linter.unusedSimpArgs false
theorem info_u8 : (Try.prog.info? 5).map (fun i => (i.zero, i.size, i.bytes)) = some (some (.int .u8 0), 1, 1) := by kernel_rfl
theorem u32_bor (a b : Nat) (ha : a < 4294967296) (hb : b < 4294967296) : bits .or .u32 (a : Int) (b : Int) = ((a ||| b : Nat) : Int) := by
  have hx : a ||| b < 2 ^ 32 := Nat.or_lt_two_pow (by omega) (by omega)
  have h : ∀ c : Nat, c < 4294967296 → (BitVec.ofInt 32 (c : Int)).toNat = c := fun c hc => by
    rw [BitVec.ofInt_natCast, BitVec.toNat_ofNat]; exact Nat.mod_eq_of_lt (by omega)
  show IntKind.u32.wrap ((BitVec.ofInt 32 (a : Int) ||| BitVec.ofInt 32 (b : Int)).toNat : Int) = _
  rw [BitVec.toNat_or, h a ha, h b hb, IntKind.wrap_u32]
  omega
theorem or_add (a b k : Nat) (hb : b < 2 ^ k) : (a * 2 ^ k) ||| b = a * 2 ^ k + b := by
  rw [Nat.mul_comm, Nat.two_pow_add_eq_or_of_lt hb]
theorem be4_bits (a b c d : UInt8) : bits .or .u32 (bits .or .u32 (bits .or .u32 ((a.toNat : Int) * 16777216) ((b.toNat : Int) * 65536)) ((c.toNat : Int) * 256)) (d.toNat : Int) = (be4 a b c d : Int) := by
  have ha := a.toNat_lt
  have hb := b.toNat_lt
  have hc := c.toNat_lt
  have hd := d.toNat_lt
  have e1 := u32_bor (a.toNat * 16777216) (b.toNat * 65536) (by omega) (by omega)
  rw [show a.toNat * 16777216 = (a.toNat) * 2 ^ 24 by rfl, or_add _ _ 24 (by omega)] at e1
  have e2 := u32_bor (a.toNat * 2 ^ 24 + b.toNat * 65536) (c.toNat * 256) (by omega) (by omega)
  rw [show a.toNat * 2 ^ 24 + b.toNat * 65536 = (a.toNat * 256 + b.toNat) * 2 ^ 16 by omega, or_add _ _ 16 (by omega)] at e2
  have e3 := u32_bor ((a.toNat * 256 + b.toNat) * 2 ^ 16 + c.toNat * 256) d.toNat (by omega) (by omega)
  rw [show (a.toNat * 256 + b.toNat) * 2 ^ 16 + c.toNat * 256 = (a.toNat * 65536 + b.toNat * 256 + c.toNat) * 2 ^ 8 by omega, or_add _ _ 8 (by omega)] at e3
  unfold be4
  rw [show ((a.toNat : Int) * 16777216) = ((a.toNat * 2 ^ 24 : Nat) : Int) by omega, show ((b.toNat : Int) * 65536) = ((b.toNat * 65536 : Nat) : Int) by omega, e1]
  rw [show ((c.toNat : Int) * 256) = ((c.toNat * 256 : Nat) : Int) by omega, show ((a.toNat * 2 ^ 24 + b.toNat * 65536 : Nat) : Int) = (((a.toNat * 256 + b.toNat) * 2 ^ 16 : Nat) : Int) by omega, e2]
  rw [show (((a.toNat * 256 + b.toNat) * 2 ^ 16 + c.toNat * 256 : Nat) : Int) = (((a.toNat * 65536 + b.toNat * 256 + c.toNat) * 2 ^ 8 : Nat) : Int) by omega, e3]
  omega
set_option maxRecDepth 100000 in
theorem get_any (S : ByteArray) (l : List UInt8) (a b c d : UInt8) (w : World) (hS : S = bstr l) (h0 : l[0]? = some a) (h1 : l[1]? = some b) (h2 : l[2]? = some c) (h3 : l[3]? = some d) :
    Calls Try.prog 28 #[.string S] w fun e w' => e = .returned (.int .u32 ((be4 a b c d : Nat) : Int)) ∧ Below w.heap.size w w' := by
  have g0 := str_get hS h0
  have g1 := str_get hS h1
  have g2 := str_get hS h2
  have g3 := str_get hS h3
  obtain ⟨m, hm⟩ : ∃ m, m = S.size := ⟨_, rfl⟩
  have hl : 3 < m := by rw [hm, str_size hS]; exact (List.getElem?_eq_some_iff.1 h3).1
  have l0 : 0 < m := by omega
  have l1 : (1 : Int) < m := by omega
  have l2 : (2 : Int) < m := by omega
  have l3 : (3 : Int) < m := by omega
  have hm' := hm.symm
  clear hm hS h0 h1 h2 h3
  have hbe := be4_bits a b c d
  have ha := a.toNat_lt
  have hb := b.toNat_lt
  have hc := c.toNat_lt
  have hd := d.toNat_lt
  go_enter Try.func28, Try.ntmps28
  go_wp2_with fail
  refine wp_region_K 17 (by kernel_rfl) (by kernel_rfl) (fun Q HQ => ?_)
  simp only [List.take_succ_cons, List.take_zero, List.map_cons, List.map_nil]
  repeat
    first | apply wpS_c rfl | apply wpS_gc rfl (guard_mk rfl rfl)
    focus
      intro ev wx hC hx
      (try simp [Op.operands, Call.operands, opndS, Slot.holds] at hx)
      go_simp
      try (first | exact rfl | exact ⟨Below.refl _ _, rfl⟩)
      done
    dsimp only [setS, List.set]
  refine wpS_nil (HQ _ fun w3 hC3 => ?_)
  simp only [closeS, List.drop_succ_cons, List.drop_zero, List.drop_nil]
  clear HQ
  go_wp2
  go_ret
  exact ⟨by rw [← hbe]; rfl, hC3.below⟩
theorem be4_parts (n : Nat) (h : n < 4294967296) : ∃ c3 c2 c1 c0 : UInt8, be4L n = [c3, c2, c1, c0] ∧ (n : Int) % 256 = (c0.toNat : Int) ∧ (n : Int) / 256 % 256 = (c1.toNat : Int) ∧ (n : Int) / 65536 % 256 = (c2.toNat : Int) ∧ (n : Int) / 16777216 = (c3.toNat : Int) := by
  refine ⟨_, _, _, _, rfl, ?_⟩
  simp only [UInt8.toNat_ofNat']
  omega
set_option maxRecDepth 100000 in
theorem put_any (base : Nat) (v : Value) (n : Nat) (xs : List Value) (x : Int) (nn : Nat) (w : World) (hx : x = nn) (hn : nn < 4294967296) (hown : w.ownsRow base 5 1 v n xs) (hb : base ≤ w.heap.size) (hnl : n ≤ 100000000) :
    Calls Try.prog 30 #[v, .int .u32 x] w fun e w' => ∃ v' m, e = .returned v' ∧ m = n + 4 ∧ w'.ownsRow base 5 1 v' m (xs ++ (be4L nn).map u8v) ∧ w.grownBy w' v.ownBlock := by
  subst hx
  have HO := hide hown
  obtain ⟨c3, c2, c1, c0, hbe, b0, b1, b2, b3⟩ := be4_parts nn hn
  have HBE := hide hbe
  clear hown hbe
  obtain ⟨i0, hi0, hz0, hz1, hz2⟩ := info_parts info_u8
  go_enter Try.func30, Try.ntmps30
  go_wp2_with (at_builtin; go_loud (refine wpList_append_rd _ rfl (.tmp 5) (.tmp 17) 39 rfl base 5 i0 _ 1 1 Try.underlying39 hi0 hz0 hz1 hz2 rfl (by omega) v n xs rfl (HO.out.alloc _) _ 4 4 ([c3, c2, c1, c0].map u8v) rfl rfl (rd_lit _ _ _ _) (u8s_one _) (by simp only [maxLen]; omega) (by omega) (by simp; omega) ?_); intro v2 w2 hown2 hg2 hat2)
  go_ret
  exact ⟨v2, _, rfl, rfl, by rw [HBE.out]; exact hown2, (World.grownBy_alloc w _ _).trans hg2⟩
set_option maxRecDepth 100000 in
theorem jsum_any (S : ByteArray) (l : List UInt8) (w : World) (hS : S = bstr l) (hl : l.length ≤ 1000000) :
    Calls Try.prog 31 #[.string S] w fun e w' => e = .returned (.int .u32 ((crcN l : Nat) : Int)) ∧ Below w.heap.size w w' := by
  have k1 := fun (w : World) => run_bytes_of_string (P := Try.prog) w 9 39 5 S Try.underlying9 Try.underlying39 Try.underlying5
  have hrd := rd_str (w := w) hS (grownCap w S.size 0 5) 5 ((bytesRow S (grownCap w S.size 0 5)).size, (bytesRow S (grownCap w S.size 0 5)).size + 1)
  have hsz := str_size hS
  have HRD := hide hrd
  have HSZ := hide hsz
  clear hrd hsz hS
  go_enter Try.func31, Try.ntmps31
  go_wp2_with fail
  refine (sum_any _ _ _ l _ HSZ.out (by rw [HSZ.out]; exact hl) HRD.out).mono ?_
  rintro e w1 ⟨rfl, hb1⟩
  go_wp2_with fail
  go_ret
  exact ⟨rfl, bl_trans (bl_alloc (bl_drew (bl_refl w)) _) hb1⟩
end Go.Proofs.Ythkncfenhfieoaa
