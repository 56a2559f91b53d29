/- The walks of the reference's choice and Read. -/
import Derived.Test.YtjpmfiicbokdcaaDhW
namespace Go.Proofs.Ytjpmfiicbokdcaa
open Go.RowKit
set_option linter.unusedVariables false
set_option linter.unusedSimpArgs false
/-- The choice i of n, from 0. -/
def choM (l : List Int) (i : Nat) (n : Int) : Int := match l[i]? with | none => 0 | some x => if x.tmod n < 0 then x.tmod n + n else x.tmod n
theorem choM_range (l : List Int) (i : Nat) (n : Int) (h : 1 ≤ n) : 0 ≤ choM l i n ∧ choM l i n < n := by
  unfold choM
  cases l[i]? with
  | none => exact ⟨Int.le_refl _, by simp only []; omega⟩
  | some x =>
    have h1 := Int.tmod_lt_of_pos x (show 0 < n by omega)
    have h2 := Int.lt_tmod_of_pos x (show 0 < n by omega)
    by_cases hn : x.tmod n < 0
    · simp only []; rw [if_pos hn]; omega
    · simp only []; rw [if_neg hn]; omega
set_option maxRecDepth 100000 in
theorem rchoice_any (a : Option Addr) (m c : Nat) (l : List Int) (i : Nat) (n : Int) (w : World) (h : Rd w a (l.map (Value.int .i64))) (hm : m = l.length) (hi : i ≤ 1000000000) (hn1 : 1 ≤ n) (hn : n ≤ 1000000000) :
    Calls Try.prog 53 #[.slice a m c, .int .i64 (i : Int), .int .i64 n] w fun e w' => e = .returned (.int .i64 (choM l i n)) ∧ w = w' := by
  by_cases hil : i < m
  · obtain ⟨x, hx⟩ : ∃ x, l[i]? = some x := ⟨_, List.getElem?_eq_getElem (by omega)⟩
    obtain ⟨b, o, rfl, hbl, e0⟩ := h.at_ (show (l.map (Value.int .i64))[i]? = some (.int .i64 x) by rw [List.getElem?_map, hx]; rfl)
    have hir : (i : Int) < (m : Int) := by omega
    have hne : ¬ n = 0 := by omega
    have hne' : (n == 0) = false := by rw [beq_eq_false_iff_ne]; omega
    have b1 := Int.tmod_lt_of_pos x (show 0 < n by omega)
    have b2 := Int.lt_tmod_of_pos x (show 0 < n by omega)
    obtain ⟨r, hr⟩ : ∃ r, r = x.tmod n := ⟨_, rfl⟩
    have hr' := hr.symm
    rw [← hr] at b1 b2
    by_cases hneg : r < 0
    · have hv : choM l i n = r + n := by unfold choM; rw [hx]; simp only []; rw [← hr, if_pos hneg]
      rw [hv]
      clear hv hr h hm hx hbl
      go_enter Try.func53, Try.ntmps53
      go_wp2
      go_ret
      exact ⟨rfl, rfl⟩
    · have hv : choM l i n = r := by unfold choM; rw [hx]; simp only []; rw [← hr, if_neg hneg]
      rw [hv]
      clear hv hr h hm hx hbl
      go_enter Try.func53, Try.ntmps53
      go_wp2
      go_ret
      exact ⟨rfl, rfl⟩
  · have hv : choM l i n = 0 := by unfold choM; rw [List.getElem?_eq_none (by omega)]
    have hir : ¬ (i : Int) < (m : Int) := by omega
    have hir' : (m : Int) ≤ (i : Int) := by omega
    rw [hv]
    clear hv h hm
    go_enter Try.func53, Try.ntmps53
    go_wp2
    go_ret
    exact ⟨rfl, rfl⟩
/-- What is read of a file. -/
def readM (d : Dsk) (s : List UInt8) : List UInt8 × Nat := if validM d = false then ([], 9) else if hasM d.dir s = false then ([], 11) else ((d.inodes.getD (inoM d.dir s).toNat ([], 0)).1, 0)
theorem ino_lt {n : Nat} {l : List Ent} (h : dirM n l = true) {s : List UInt8} (hs : hasM l s = true) : 0 ≤ inoM l s ∧ inoM l s < n := by
  unfold inoM
  rcases hf : l.find? (fun e => e.1 == s) with _ | e
  · unfold hasM at hs
    rw [List.any_eq_true] at hs
    obtain ⟨e, he, h1⟩ := hs
    exact absurd h1 (List.find?_eq_none.1 hf e he)
  · have he := List.mem_of_find?_eq_some hf
    unfold dirM at h
    simp only [Bool.and_eq_true, decide_eq_true_eq, List.all_eq_true] at h
    have := h.1.1 e he
    rw [hf]
    exact ⟨this.1.2, this.2⟩
theorem size_nil : (⟨#[]⟩ : ByteArray) = bstr [] := rfl
set_option maxHeartbeats 16000000 in
set_option maxRecDepth 100000 in
theorem rread_any (v : Value) (d : Dsk) (s : List UInt8) (w : World) (h : IsD w v d) (hs : szD d) :
    Calls Try.prog 31 #[v, .string (bstr s)] w fun e w' => e = .returned (.tuple #[.string (bstr (readM d s).1), .int .i64 (((readM d s).2 : Nat) : Int)]) ∧ Below w.heap.size w w' := by
  have HD0 := hide h
  obtain ⟨a1, n1, c1, a2, n2, c2, a3, n3, c3, a4, n4, c4, rfl, h1, h2, h3, h4, -⟩ := h.h
  have H1 := hide h1
  have hn1 : n1 ≤ 100000 := by rw [h1.1]; exact hs.1
  have hn2 : n2 ≤ 100000 := by rw [h2.1]; exact hs.2.1
  have HL := hide (show n1 = d.inodes.length from h1.1)
  obtain ⟨r, hr⟩ : ∃ r, r = readM d s := ⟨_, rfl⟩
  have HR := hide hr
  rw [← hr]
  have HV := hide (fun (wx : World) (hb : Below w.heap.size w wx) => rvalidate_any _ d wx (h.below hb) hs)
  have HF := hide (fun (wx : World) (hb : Below w.heap.size w wx) => rfind_any a2 n2 c2 d.dir s wx (h2.below hb) (by omega))
  obtain ⟨er, her⟩ : ∃ er, er = errM d := ⟨_, rfl⟩
  have HER := hide her
  obtain ⟨io, hio⟩ : ∃ io, io = inoM d.dir s := ⟨_, rfl⟩
  have HIO := hide hio
  rw [← her] at HV
  rw [← hio] at HF
  clear h h1 h2 h3 h4 hr hs her hio
  go_enter Try.func31, Try.ntmps31
  obtain ⟨W0, hW0⟩ : ∃ W0, W0 = w.alloc (.cells #[.slice a1 n1 c1, .slice a2 n2 c2, .slice a3 n3 c3, .slice a4 n4 c4] 27) := ⟨_, rfl⟩
  have z0 : W0.cell? ⟨w.heap.size, 0, none⟩ = some (.slice a1 n1 c1) := by rw [hW0, cell_of_row _ _ 0 _ _ (0, 0) (heap_alloc_new w _)]; rfl
  have z1 : W0.cell? ⟨w.heap.size, 1, none⟩ = some (.slice a2 n2 c2) := by rw [hW0, cell_of_row _ _ 1 _ _ (0, 0) (heap_alloc_new w _)]; rfl
  have HB0 := hide (show Below w.heap.size w W0 by rw [hW0]; exact bl_alloc (bl_refl w) _)
  have HC := hide (fun (wx : World) (hb : Below W0.heap.size W0 wx) => show wx.cell? ⟨w.heap.size, 0, none⟩ = some (.slice a1 n1 c1) ∧ wx.cell? ⟨w.heap.size, 1, none⟩ = some (.slice a2 n2 c2) from
    ⟨(hb.cell (lt_heap z0)).trans z0, (hb.cell (lt_heap z1)).trans z1⟩)
  obtain ⟨bx, hbx⟩ : ∃ bx, bx = w.heap.size := ⟨_, rfl⟩
  go_wp2_with fail
  rw [← hW0, ← hbx]
  rw [← hbx] at HC
  have HBX := hide hbx
  clear z0 z1 hW0 hbx
  refine (HV.out W0 HB0.out).mono ?_
  rintro e w1 ⟨rfl, hb1⟩
  have HW1 := hide hb1
  have HB1 := hide (HB0.out.trans (hb1.mono HB0.out.size))
  obtain ⟨z0, z1⟩ := HC.out w1 hb1
  clear hb1
  cases hvd : validM d with
  | false =>
    obtain rfl : er = 9 := by rw [HER.out]; unfold errM; rw [hvd]; rfl
    obtain rfl : r = ([], 9) := by rw [HR.out]; unfold readM; rw [if_pos hvd]
    clear hvd
    go_wp2
    go_ret2
    exact ⟨rfl, HB1.out⟩
  | true =>
    obtain rfl : er = 0 := by rw [HER.out]; unfold errM; rw [hvd]; rfl
    have HVD := hide hvd
    clear hvd
    go_wp2_with fail
    refine (HF.out w1 HB1.out).mono ?_
    rintro e w2 ⟨rfl, hb2⟩
    have HW2 := hide (HW1.out.trans (hb2.mono HW1.out.size))
    have HB2 := hide (HB1.out.trans (hb2.mono HB1.out.size))
    clear z0 z1 hb2
    obtain ⟨z0, z1⟩ := HC.out w2 HW2.out
    have hdir := ((valid_iff d).1 HVD.out).1
    rcases ino_has (dir_nn hdir) s with ⟨hh, hi0⟩ | ⟨hh, hi0⟩
    · have hlt := ino_lt hdir hh
      rw [← HIO.out, ← HL.out] at hlt
      obtain ⟨k, rfl⟩ : ∃ k : Nat, io = (k : Int) := ⟨io.toNat, by omega⟩
      have hk : k < n1 := by omega
      obtain ⟨b, o, t, y, rfl, hbl, hx, e0, e1⟩ := (H1.out.below HB2.out).at_ hk
      have hkn : (k : Int) < (n1 : Int) := by omega
      have hkm : ¬ (k : Int) = -1 := by omega
      have hkm' : ((k : Int) == -1) = false := by rw [beq_eq_false_iff_ne]; omega
      obtain rfl : r = (t, 0) := by
        rw [HR.out]; unfold readM
        rw [HVD.out, hh, if_neg (by decide), if_neg (by decide), ← HIO.out, Int.toNat_natCast, List.getD_eq_getElem?_getD, hx]; rfl
      clear hdir hh hi0 hlt hx hbl e1
      go_wp2
      go_ret2
      exact ⟨rfl, HB2.out⟩
    · obtain rfl : io = -1 := by rw [HIO.out]; exact hi0
      obtain rfl : r = ([], 11) := by rw [HR.out]; unfold readM; rw [HVD.out, if_neg (by decide), if_pos hh]
      clear hdir hh hi0
      go_wp2
      go_ret2
      exact ⟨rfl, HB2.out⟩
end Go.Proofs.Ytjpmfiicbokdcaa
