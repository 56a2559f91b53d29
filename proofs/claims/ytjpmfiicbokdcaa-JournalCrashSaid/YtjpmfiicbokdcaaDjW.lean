/- The walk of the reference's List. -/
import Derived.Test.YtjpmfiicbokdcaaDiW
namespace Go.Proofs.Ytjpmfiicbokdcaa
open Go.RowKit
set_option linter.unusedVariables false
set_option linter.unusedSimpArgs false
/-- The names of a disk. -/
def listM (d : Dsk) : List (List UInt8) := if validM d then d.dir.map (·.1) else []
def encS (l : List (List UInt8)) : List Value := l.map fun s => .string (bstr s)
theorem info_str : (Try.prog.info? 9).map (fun i => (i.zero, i.size, i.bytes)) = some (some (.string ByteArray.empty), 1, 16) := by kernel_rfl
theorem rd_strG {w : World} {g : Nat} (hg : g = w.heap.size) (s : List UInt8) (t : TypeId) : Rd (w.alloc (.cells #[.string (bstr s)] t)) (some ⟨g, 0, none⟩) (encS [s]) := by
  subst hg
  exact rd_lit w #[.string (bstr s)] t (0, 0)
theorem encS_one (l : List (List UInt8)) : ∀ u ∈ encS l, u.oneCell' = true := by
  intro u hu
  obtain ⟨s, -, rfl⟩ := List.mem_map.1 hu
  rfl
theorem names_take {l : List Ent} {k : Nat} {e : Ent} (h : l[k]? = some e) : encS ((l.take (k + 1)).map (·.1)) = encS ((l.take k).map (·.1)) ++ encS [e.1] := by
  rw [List.take_add_one, h]
  simp [encS]
set_option maxHeartbeats 16000000 in
set_option maxRecDepth 100000 in
theorem rlist_any (v : Value) (d : Dsk) (w : World) (h : IsD w v d) (hs : szD d) :
    Calls Try.prog 32 #[v] w fun e w' => ∃ u, e = .returned u ∧ w'.ownsRow w.heap.size 9 1 u (listM d).length (encS (listM d)) ∧ Below w.heap.size w w' := by
  obtain ⟨a1, n1, c1, a2, n2, c2, a3, n3, c3, a4, n4, c4, rfl, h1, h2, h3, h4, -⟩ := h.h
  have H2 := hide h2
  have hn2 : n2 ≤ 100000 := by rw [h2.1]; exact hs.2.1
  have HL := hide h2.1
  obtain ⟨i0, hi0, hz0, hz1, hz2⟩ := info_parts info_str
  obtain ⟨r, hr⟩ : ∃ r, r = listM d := ⟨_, rfl⟩
  have HR := hide hr
  rw [← hr]
  have HV := hide (fun (wx : World) (hb : Below w.heap.size w wx) => rvalidate_any _ d wx (h.below hb) hs)
  obtain ⟨er, her⟩ : ∃ er, er = errM d := ⟨_, rfl⟩
  have HER := hide her
  rw [← her] at HV
  clear h h1 h2 h3 h4 hr hs her
  go_enter Try.func32, Try.ntmps32
  obtain ⟨W0, hW0⟩ : ∃ W0, W0 = w.alloc (.cells #[.slice a1 n1 c1, .slice a2 n2 c2, .slice a3 n3 c3, .slice a4 n4 c4] 27) := ⟨_, rfl⟩
  have z1 : W0.cell? ⟨w.heap.size, 1, none⟩ = some (.slice a2 n2 c2) := by rw [hW0, cell_of_row _ _ 1 _ _ (0, 0) (heap_alloc_new w _)]; rfl
  have HB0 := hide (show Below w.heap.size w W0 by rw [hW0]; exact bl_alloc (bl_refl w) _)
  have HC := hide (fun (wx : World) (hb : Below W0.heap.size W0 wx) => show wx.cell? ⟨w.heap.size, 1, none⟩ = some (.slice a2 n2 c2) from (hb.cell (lt_heap z1)).trans z1)
  obtain ⟨bx, hbx⟩ : ∃ bx, bx = w.heap.size := ⟨_, rfl⟩
  go_wp2_with fail
  rw [← hW0, ← hbx]
  rw [← hbx] at HC
  have HBX := hide hbx
  clear z1 hW0 hbx
  refine (HV.out W0 HB0.out).mono ?_
  rintro e w1 ⟨rfl, hb1⟩
  have HB1 := hide (HB0.out.trans (hb1.mono HB0.out.size))
  have z1 := HC.out w1 hb1
  clear hb1
  cases hvd : validM d with
  | false =>
    obtain rfl : er = 9 := by rw [HER.out]; unfold errM; rw [hvd]; rfl
    obtain rfl : r = [] := by rw [HR.out]; unfold listM; rw [hvd]; rfl
    clear hvd
    go_wp2
    go_ret
    exact ⟨_, rfl, ⟨rfl, .inl ⟨rfl, rfl⟩⟩, HB1.out⟩
  | true =>
    obtain rfl : er = 0 := by rw [HER.out]; unfold errM; rw [hvd]; rfl
    have HRR := hide (show r = d.dir.map (·.1) by rw [HR.out]; unfold listM; rw [hvd]; rfl)
    clear hvd
    have HO0 := hide (show w1.ownsRow w.heap.size 9 1 (.slice none 0 0) 0 (encS ((d.dir.take 0).map (·.1))) from ⟨rfl, .inl ⟨rfl, rfl⟩⟩)
    go_wp2_with fail
    clear z1
    go_loopw [3, 12] (fun ov kv wr => ∃ k : Nat, kv = .int .i64 (k : Int) ∧ k ≤ n2 ∧ Hid (wr.ownsRow w.heap.size 9 1 ov k (encS ((d.dir.take k).map (·.1)))) ∧ Hid (Below w.heap.size w wr)) (fun _ kv _ => n2 - (intOf kv).toNat)
    case atStart => exact ⟨0, rfl, by omega, HO0, HB1⟩
    case round =>
      obtain ⟨k, rfl, hk, HO, HB⟩ := hrel
      by_cases hlt : k < n2
      · obtain ⟨b, o, t, x, rfl, hbl, hx, e0, e1⟩ := (H2.out.below HB.out).at_ hlt
        have hkn : (k : Int) < (n2 : Int) := by omega
        have HN := hide (names_take hx)
        have HO1 := hide (ownG_below HO.out (bl_alloc (bl_refl wr) (.cells #[.string (bstr t), .int .i64 x] 35)))
        have HB2 := hide (bl_alloc HB.out (.cells #[.string (bstr t), .int .i64 x] 35))
        clear hx hbl
        go_wp2_with (at_builtin; go_loud (refine wpList_append_rd _ rfl (.tmp 16) (.tmp 19) 49 rfl w.heap.size 9 i0 _ 1 16 Try.underlying49 hi0 hz0 hz1 hz2 rfl (by omega) _ _ _ rfl (ownG_below HO1.out (bl_alloc (bl_refl _) _)) _ 1 _ (encS [t]) rfl rfl (rd_strG (by simp) t _) (encS_one _) (by simp only [maxLen]; omega) (by omega) (by have := HB2.out.size; simp at this ⊢; omega) ?_); intro v7 w7 ho7 hg7 hat7)
        have HO2 := hide (show w7.ownsRow w.heap.size 9 1 v7 (k + 1) (encS ((d.dir.take (k + 1)).map (·.1))) by
          rw [HN.out]; exact ho7)
        have HB3 := hide (bl_grown (bl_alloc HB2.out (.cells #[.string (bstr t)] 9)) hg7 (fun j hj => (ownG_lt HO1.out hj).1))
        clear ho7 hg7 hat7
        go_roundw
        case rel => exact ⟨k + 1, by go_num, by omega, HO2, HB3⟩
        case measure => simp [intOf]; omega
      · obtain rfl : k = n2 := by omega
        have hkn : ¬ (k : Int) < (k : Int) := by omega
        have HO1 := HO
        rw [List.take_of_length_le (by rw [← HL.out]; exact Nat.le_refl _), ← HRR.out] at HO1
        have HK := hide (show k = r.length by rw [HRR.out, List.length_map, HL.out])
        have HO2 := hide (show wr.ownsRow w.heap.size 9 1 u3 r.length (encS r) by rw [← HK.out]; exact HO1.out)
        clear HO HO1
        go_wp2
        go_ret
        exact ⟨_, rfl, HO2.out, HB.out⟩
end Go.Proofs.Ytjpmfiicbokdcaa
