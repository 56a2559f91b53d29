/- The walks of the reference's without and with. -/
import Derived.Test.YtjpmfiicbokdcaaDaW
namespace Go.Proofs.Ytjpmfiicbokdcaa
open Go.RowKit
set_option linter.unusedVariables false
set_option linter.unusedSimpArgs false
theorem info_entry : (Try.prog.info? 35).map (fun i => (i.zero, i.size, i.bytes)) = some (some (.agg #[.string ByteArray.empty, .int .i64 0]), 2, 24) := by kernel_rfl
theorem rd_one (w : World) (e : Ent) (t : TypeId) : Rd (w.alloc (.cells #[.string (bstr e.1), .int .i64 e.2] t)) (some ⟨w.heap.size, 0, none⟩) ([e].flatMap encE) := by
  have := rd_lit w #[.string (bstr e.1), .int .i64 e.2] t (0, 0)
  simpa [encE] using this
theorem rd_oneG {w : World} {g : Nat} (hg : g = w.heap.size) (e : Ent) (t : TypeId) : Rd (w.alloc (.cells #[.string (bstr e.1), .int .i64 e.2] t)) (some ⟨g, 0, none⟩) ([e].flatMap encE) := by
  subst hg; exact rd_one w e t
theorem dropM_take {l : List Ent} {k : Nat} {e : Ent} (h : l[k]? = some e) (s : List UInt8) : dropM (l.take (k + 1)) s = dropM (l.take k) s ++ (if e.1 == s then [] else [e]) := by
  unfold dropM
  rw [List.take_add_one, h, List.filter_append]
  congr 1
  cases hs : e.1 == s <;> simp [hs]
set_option maxHeartbeats 2000000 in
set_option maxRecDepth 100000 in
theorem without_any (a : Option Addr) (n c : Nat) (l : List Ent) (s : List UInt8) (w : World) (h : RE w a n l) (hn : n ≤ 1000000000) :
    Calls Try.prog 79 #[.slice a n c, .string (bstr s)] w fun e w' => ∃ v, e = .returned v ∧ w'.ownsRow w.heap.size 35 2 v (dropM l s).length ((dropM l s).flatMap encE) ∧ Below w.heap.size w w' := by
  have HO := hide h
  have HN := hide h.1
  obtain ⟨i0, hi0, hz0, hz1, hz2⟩ := info_parts info_entry
  have HO0 := hide (show w.ownsRow w.heap.size 35 2 (.slice none 0 0) (dropM (l.take 0) s).length ((dropM (l.take 0) s).flatMap encE) from ⟨rfl, .inl ⟨rfl, rfl⟩⟩)
  clear h
  go_enter Try.func79, Try.ntmps79
  go_wp2_with fail
  go_loopw [5, 10] (fun ov kv wr => ∃ k : Nat, kv = .int .i64 (k : Int) ∧ k ≤ n ∧ Hid (wr.ownsRow w.heap.size 35 2 ov (dropM (l.take k) s).length ((dropM (l.take k) s).flatMap encE)) ∧ Hid (Below w.heap.size w wr)) (fun _ kv _ => n - (intOf kv).toNat)
  case atStart => exact ⟨0, rfl, by omega, HO0, hide (bl_refl w)⟩
  case round =>
    obtain ⟨k, rfl, hk, HR, HB⟩ := hrel
    by_cases hlt : k < n
    · obtain ⟨b, o, t, x, rfl, hbl, hx, e0, e1⟩ := (HO.out.below HB.out).at_ hlt
      have hkn : (k : Int) < (n : Int) := by omega
      have hd := dropM_take hx s
      have HB1 := hide (bl_alloc HB.out (.cells #[.string (bstr t), .int .i64 x] 35))
      have HR1 := hide (ownG_below HR.out (bl_alloc (bl_refl wr) (.cells #[.string (bstr t), .int .i64 x] 35)))
      obtain ⟨m, hm⟩ : ∃ m, m = (dropM (l.take k) s).length := ⟨_, rfl⟩
      have hml : m ≤ n := by
        rw [hm]
        have h1 : (dropM (l.take k) s).length ≤ (l.take k).length := List.length_filter_le _ _
        rw [List.length_take] at h1
        omega
      have HM := hide hm
      rw [← hm] at HR1
      clear hx hbl hm
      by_cases h1 : t = s
      · have hb1 : (t == s) = true := by simpa using h1
        simp only [hb1, if_true, List.append_nil] at hd
        have HR2 := HR1
        rw [HM.out, ← hd] at HR2
        have h1' : (t != s) = false := by simp only [bne, hb1]; rfl
        clear h1 hd
        go_wp2
        go_roundw
        case rel => exact ⟨k + 1, by go_num, by omega, HR2, HB1⟩
        case measure => simp [intOf]; omega
      · have hb1 : (t == s) = false := by simpa using h1
        simp only [hb1, if_false, Bool.false_eq_true] at hd
        have h1' : (t != s) = true := by simp only [bne, hb1]; rfl
        have HD := hide hd
        clear h1 hd
        go_wp2_with (at_builtin; go_loud (refine wpList_append_rd _ rfl (.tmp 18) (.tmp 20) 24 rfl w.heap.size 35 i0 _ 2 24 Try.underlying24 hi0 hz0 hz1 hz2 rfl (by omega) _ _ _ rfl (ownG_below HR1.out (bl_alloc (bl_refl _) _)) _ 1 _ ([(t, x)].flatMap encE) rfl rfl (rd_oneG (by simp) (t, x) _) (encE_one _) (by simp only [maxLen]; omega) (by omega) (by have := HB1.out.size; simp at this ⊢; omega) ?_); intro v7 w7 ho7 hg7 hat7)
        have HR2 := hide (show w7.ownsRow w.heap.size 35 2 v7 (dropM (l.take (k + 1)) s).length ((dropM (l.take (k + 1)) s).flatMap encE) by
          rw [HD.out, List.length_append, List.flatMap_append, ← HM.out]; exact ho7)
        have HB2 := hide (bl_grown (bl_alloc HB1.out (.cells #[.string (bstr t), .int .i64 x] 35)) hg7 (fun j hj => (ownG_lt HR1.out hj).1))
        clear ho7 hg7 hat7
        go_roundw
        case rel => exact ⟨k + 1, by go_num, by omega, HR2, HB2⟩
        case measure => simp [intOf]; omega
    · obtain rfl : k = n := by omega
      have hkn : ¬ (k : Int) < (k : Int) := by omega
      have HR1 := HR
      rw [List.take_of_length_le (by rw [← HN.out]; exact Nat.le_refl _)] at HR1
      clear HR
      go_wp2
      go_ret
      exact ⟨_, rfl, HR1.out, HB.out⟩
end Go.Proofs.Ytjpmfiicbokdcaa
