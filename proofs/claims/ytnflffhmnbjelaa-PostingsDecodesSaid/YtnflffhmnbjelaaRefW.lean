/- The walks of the reference: Low, Write. -/
import Derived.Test.YtnflffhmnbjelaaWrW
import Derived.Test.YtnflffhmnbjelaaKeep
namespace Go.Proofs.Ytnflffhmnbjelaa
open Go.RowKit
set_option linter.unusedVariables false
set_option linter.unusedSimpArgs false
theorem info_bool : (Try.prog.info? 4).map (fun i => (i.zero, i.size, i.bytes)) = some (some (.bool false), 1, 1) := by kernel_rfl
theorem bools_one (l : List Bool) : ∀ u ∈ l.map Value.bool, u.oneCell' = true := by
  intro u hu
  obtain ⟨_, _, rfl⟩ := List.mem_map.1 hu
  rfl
set_option maxRecDepth 100000 in
theorem low_ref (v n : Int) (vn nn : Nat) (w : World) (hv : v = vn) (hn : n = nn) (hvb : vn < 2 ^ 64) (hn64 : nn ≤ 64) :
    Calls Try.prog 55 #[.int .u64 v, .int .i64 n] w fun e w' => ∃ r, e = .returned r ∧ w'.ownsRow w.heap.size 4 1 r nn ((lowB vn nn).map Value.bool) ∧ Below w.heap.size w w' := by
  subst hv hn
  have HV := hide hvb
  clear hvb
  obtain ⟨i0, hi0, hz0, hz1, hz2⟩ := info_parts info_bool
  have e1 : IntKind.i64.wrap ((nn : Int) - 1) = (nn : Int) - 1 := by rw [IntKind.wrap_i64]; omega
  go_enter Try.func55, Try.ntmps55
  go_wp2_with fail
  clear e1
  go_loopw [5, 6] (fun s i wr => ∃ (k : Nat) (pre : List Bool), i = .int .i64 ((k : Int) - 1) ∧ pre.length + k = nn ∧ pre ++ lowB vn k = lowB vn nn ∧ wr.ownsRow w.heap.size 4 1 s pre.length (pre.map Value.bool) ∧ Below w.heap.size w wr) (fun _ i _ => (intOf i + 1).toNat)
  case atStart => exact ⟨nn, [], rfl, by simp, rfl, ⟨rfl, .inl ⟨rfl, rfl⟩⟩, bl_refl w⟩
  case round =>
    obtain ⟨k, pre, rfl, hk, hp, hown, hb⟩ := hrel
    have HP := hide hp
    have HO := hide hown
    clear hp hown
    rcases k with _ | k
    · go_wp2
      go_ret
      have hp := HP.out
      simp only [lowB, List.append_nil] at hp
      have ho := HO.out
      rw [show pre.length = nn by omega, hp] at ho
      exact ⟨u5, rfl, ho, hb⟩
    · have e1 : ((k + 1 : Nat) : Int) - 1 = k := by omega
      simp only [e1]
      have hk64 : (k : Int) < 64 := by omega
      obtain ⟨x, hx⟩ : ∃ x, x = decide (vn / 2 ^ k % 2 = 1) := ⟨_, rfl⟩
      have tb : (bits .and .u64 ((vn : Int) / 2 ^ k) 1 == 1) = x := by
        have e : (vn : Int) / 2 ^ k = ((vn / 2 ^ k : Nat) : Int) := by simp
        rw [e, u64_odd _ (Nat.lt_of_le_of_lt (Nat.div_le_self _ _) HV.out), hx, Bool.eq_iff_iff, beq_iff_eq, decide_eq_true_iff]; omega
      have HX := hide hx
      clear hx
      go_wp2_with (at_builtin; go_loud (refine wpList_append_rd _ rfl (.tmp 13) (.tmp 20) 70 rfl w.heap.size 4 i0 _ 1 1 Try.underlying70 hi0 hz0 hz1 hz2 rfl (by omega) u5 pre.length (pre.map Value.bool) rfl (HO.out.alloc _) _ 1 1 [.bool x] rfl rfl (rd_lit _ _ _ _) (by intro u hu; simp at hu; subst hu; rfl) (by simp only [maxLen]; omega) (by omega) (by have := hb.size; simp; omega) ?_); intro r2 w3 hown3 hg3 hat3)
      go_roundw
      case rel =>
        refine ⟨k, pre ++ [x], by go_num, by simp; omega, ?_, by simpa using hown3, bl_grown (bl_alloc hb _) hg3 (fun j h => (HO.out.lt j h).1)⟩
        rw [← HP.out, HX.out]; simp [lowB]
      case measure => simp [intOf]
end Go.Proofs.Ytnflffhmnbjelaa
