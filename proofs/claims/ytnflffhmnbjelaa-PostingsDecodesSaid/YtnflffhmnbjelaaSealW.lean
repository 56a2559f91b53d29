/- The walks of checksum.Seal and checksum.Unseal, and of the reference's. -/
import Derived.Test.YtnflffhmnbjelaaCrcW
import Derived.Test.YtnflffhmnbjelaaRegS
namespace Go.Proofs.Ytnflffhmnbjelaa
open Go.RowKit
set_option linter.unusedVariables false
set_option linter.unusedSimpArgs false

theorem info_u8 : (Try.prog.info? 5).map (fun i => (i.zero, i.size, i.bytes)) = some (some (.int .u8 0), 1, 1) := by kernel_rfl

theorem bytesOf_any (a : Int) (v : BitVec 32) (w : World) (ha : a = v.toNat) :
    Calls Try.prog 53 #[.int .u32 a] w fun e w' => e = .returned (.agg #[.int .u8 ((byt v 0).toNat : Int), .int .u8 ((byt v 1).toNat : Int), .int .u8 ((byt v 2).toNat : Int), .int .u8 ((byt v 3).toNat : Int)]) ∧ Below w.heap.size w w' := by
  subst ha
  have h0 := v.isLt
  have b0 := byt0 v
  have b1 := byt1 v
  have b2 := byt2 v
  have b3 := byt3 v
  go_enter Try.func53, Try.ntmps53
  go_wp2
  exact bodyPost_ret (v := .agg #[.int .u8 ((byt v 0).toNat : Int), .int .u8 ((byt v 1).toNat : Int), .int .u8 ((byt v 2).toNat : Int), .int .u8 ((byt v 3).toNat : Int)]) (by simp [results, Try.results53, go_sem]) rfl ⟨rfl, (Below.refl _ _).alloc (Nat.le_refl _) _⟩

set_option maxRecDepth 100000 in
theorem seal_any (a : Option Addr) (len cap : Nat) (l : List UInt8) (w : World) (hl : len = l.length) (hm : len ≤ 1000000) (hcap : len ≤ cap) (hn : a = none → cap = 0) (hr : BRd w a l) :
    Calls Try.prog 33 #[.slice a len cap] w fun e w' => ∃ v, e = .returned v ∧ w'.ownsRow w.heap.size 5 1 v (len + 4) ((l ++ le32 (crc l)).map u8v) ∧ Below w.heap.size w w' := by
  have HL := hide hl
  have HR := hide hr
  have HN := hide hn
  clear hl hr hn
  obtain ⟨i0, hi0, hz0, hz1, hz2⟩ := info_parts info_u8
  go_enter Try.func33, Try.ntmps33
  go_wp2_with fail
  refine (sum_any _ _ _ l _ HL.out hm HR.out).mono ?_
  rintro e w1 ⟨rfl, hb1⟩
  go_wp2_with fail
  refine (bytesOf_any _ (crc l) _ rfl).mono ?_
  rintro e w2 ⟨rfl, hb2⟩
  go_wp2_with fail
  refine wp_region_K 7 (by kernel_rfl) (by kernel_rfl) (fun Q HQ => ?_)
  simp only [List.take_succ_cons, List.take_zero, List.map_cons, List.map_nil]
  repeat
    apply wpS_c rfl
    focus
      intro ev wx hC hx
      (try simp [Op.operands, Call.operands, opndS, Slot.holds] at hx)
      go_simp
      try (first | exact rfl | exact ⟨Below.refl _ _, rfl⟩)
      done
    dsimp only [setS, List.set]
  refine wpS_nil (HQ _ fun w3 hC3 => ?_)
  simp only [closeS, List.drop_succ_cons, List.drop_zero]
  clear HQ
  have hz : w2.heap.size < w3.heap.size := by have := Below.size hC3; simp at this; omega
  have hbw : Below w.heap.size w w3 := bl_trans hb1 (bl_trans hb2 (bl_trans (bl_drew (bl_alloc (bl_refl _) _)) hC3))
  have hcell : ∀ j, j < 4 → w3.cell? ⟨w2.heap.size, j, none⟩ = some (u8v (byt (crc l) j)) := by
    intro j hj
    rw [Below.cell hC3 (p := ⟨w2.heap.size, j, none⟩) (by simp)]
    show (w2.alloc _).cell? _ = _
    rw [cell_of_row _ _ j _ _ (0, 0) (heap_alloc_new w2 _)]
    match j, hj with
    | 0, _ => rfl
    | 1, _ => rfl
    | 2, _ => rfl
    | 3, _ => rfl
  refine wpList_append_grows w3 rfl (.tmp 12) (.tmp 13) 42 rfl 5 i0 _ 1 1 Try.underlying42 hi0 hz0 hz1 hz2 rfl (by omega) a len len (l.map u8v) rfl (fun h => by have := HN.out h; omega) (by simpa using HL.out.symm) ?_ ⟨w2.heap.size, 0, none⟩ 4 4 ((le32 (crc l)).map u8v) rfl rfl ?_ ?_ (by omega) (by simp only [maxLen]; omega) (by omega) ?_
  · exact (HR.out.below hbw).cells
  · intro j u hu
    rw [Addr.add_lit, Nat.zero_add]
    have hj : j < 4 := by have := (List.getElem?_eq_some_iff.1 hu).1; simpa [le32] using this
    rw [hcell j hj, ← hu]
    match j, hj with
    | 0, _ => rfl
    | 1, _ => rfl
    | 2, _ => rfl
    | 3, _ => rfl
  · exact u8s_one _
  intro v w4 hown hg
  go_wp2
  go_ret
  exact ⟨v, rfl, by
    have := hown
    rw [← List.map_append] at this
    exact own_base this hbw.size, bl_grown hbw hg (fun k h => by cases h)⟩
end Go.Proofs.Ytnflffhmnbjelaa
