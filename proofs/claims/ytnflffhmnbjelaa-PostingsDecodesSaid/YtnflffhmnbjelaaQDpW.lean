/- The walks of positions and of bytes.Equal. -/
import Derived.Test.YtnflffhmnbjelaaQDM
namespace Go.Proofs.Ytnflffhmnbjelaa
open Go.RowKit
set_option linter.unusedVariables false
set_option linter.unusedSimpArgs false
theorem RdA.keepO {w w' : World} {base g : Nat} {r : Option Nat} {L : List Bool} {pos : Nat} {A : Option Addr} {m c : Nat} {p : List UInt8} (h : RdA w base g L pos A m c p) (hg : w.grownBy w' r) (hne : ∀ k, r = some k → k ≠ g) (hA : ∀ b, A = some b → (∀ k, r = some k → b.block ≠ k) ∨ p = []) : RdA w' base g L pos A m c p := by
  obtain ⟨h1, h2, h3, h4⟩ := h
  refine ⟨(hg.block g (Array.getElem?_eq_some_iff.1 h1).1 (fun e => hne g e.symm rfl)).trans h1, h2, ?_, h4⟩
  by_cases hp : p = []
  · exact .inl (by rw [hp]; rfl)
  · exact Rd.grown h3 hg (fun b hb e => (hA b hb).elim (fun h => h _ e.symm rfl) hp)
theorem equal_any (a b : Option Addr) (n c m d : Nat) (l k : List UInt8) (w : World) (hn : n = l.length) (hm : m = k.length) (hl : BRd w a l) (hk : BRd w b k) :
    Calls Try.prog 37 #[.slice a n c, .slice b m d] w fun e w' => e = .returned (.bool (l == k)) ∧ w = w' := by
  have k1 := run_bytes_str (P := Try.prog) w 42 9 5 a n c l Try.underlying42 Try.underlying5 Try.underlying9 hn hl
  have k2 := run_bytes_str (P := Try.prog) w 42 9 5 b m d k Try.underlying42 Try.underlying5 Try.underlying9 hm hk
  clear hn hm hl hk
  go_enter Try.func37, Try.ntmps37
  go_wp2
  go_ret
  exact ⟨rfl, rfl⟩
/-- What positions answers. -/
def PosP (w : World) (cnt : Nat) (o : Option (List Int)) (e : Ending) (w' : World) : Prop := Below w.heap.size w w' ∧ (o = none → e = .returned (.tuple #[.slice none 0 0, .bool false])) ∧ (∀ z, o = some z → ∃ v, e = .returned (.tuple #[v, .bool true]) ∧ w'.ownsRow w.heap.size 3 1 v cnt (z.map iv))
theorem PosP.no {w w' : World} {cnt : Nat} {o : Option (List Int)} {e : Ending} (hb : Below w.heap.size w w') (ho : o = none) (he : e = .returned (.tuple #[.slice none 0 0, .bool false])) : PosP w cnt o e w' := ⟨hb, fun _ => he, fun z hz => by rw [ho] at hz; cases hz⟩
theorem PosP.ok {w w' : World} {cnt : Nat} {o : Option (List Int)} {z : List Int} {v : Value} {e : Ending} (hb : Below w.heap.size w w') (ho : o = some z) (he : e = .returned (.tuple #[v, .bool true])) (hv : w'.ownsRow w.heap.size 3 1 v cnt (z.map iv)) : PosP w cnt o e w' := ⟨hb, fun h => by (rw [ho] at h; cases h), fun y hy => by
  rw [ho] at hy
  injection hy with hy
  subst hy
  exact ⟨v, he, hv⟩⟩
def posO (n bits cnt : Nat) (p : List UInt8) : Option (List Int) := if 8 * n < bits then none else (gst (unpackL p bits) cnt).map fun s => s.2.2
set_option maxHeartbeats 4000000 in
set_option maxRecDepth 100000 in
theorem positions_any (A : Option Addr) (n c : Nat) (p : List UInt8) (bits cnt : Nat) (w : World) (hn : n = p.length) (hc : n ≤ c) (hm : n ≤ 10000) (hr : BRd w A p) (hcnt : cnt ≤ 4096) (hb9 : bits ≤ 1000000) :
    Calls Try.prog 36 #[.slice A n c, .int .i64 (bits : Int), .int .i64 (cnt : Int)] w (PosP w cnt (posO n bits cnt p)) := by
  have HN := hide hn
  have HR := hide hr
  clear hn hr
  by_cases h8 : 8 * n < bits
  · go_enter Try.func36, Try.ntmps36
    go_wp2_with fail
    refine (newreader_bad A n c (bits : Int) w hm (.inr (by omega))).mono ?_
    rintro e w' ⟨rfl, rfl⟩
    go_wp2
    go_ret2
    exact .no (bl_refl w) (by unfold posO; rw [if_pos h8]) rfl
  obtain ⟨L, hL⟩ : ∃ L, L = unpackL p bits := ⟨_, rfl⟩
  have hLl : L.length = bits := by rw [hL, unpackL_length]
  have HNR := hide (newreader_any A n c p (bits : Int) w HN.out hc hm HR.out ⟨by omega, by omega⟩)
  rw [Int.toNat_natCast, ← hL] at HNR
  obtain ⟨po, hpo⟩ : ∃ po, po = posO n bits cnt p := ⟨_, rfl⟩
  rw [← hpo]
  unfold posO at hpo
  rw [if_neg h8, ← hL] at hpo
  have HPO := hide hpo
  clear hpo
  have HLL := hide hLl
  obtain ⟨i2, hi2, hz0, hz1, hz2⟩ := info_parts info_int
  have hb8 : bits ≤ 80000 := by omega
  clear hL hLl
  go_enter Try.func36, Try.ntmps36
  go_wp2_with fail
  refine HNR.out.mono ?_
  rintro e w2 ⟨gr, rfl, hgr, hrs, hb2⟩
  have HB2 := hide hb2
  obtain ⟨Ar, mr, cr, pr, hra⟩ := hrs
  have hra : RdA w2 w.heap.size gr L 0 Ar mr cr pr := hra
  have HAR : Hid (∀ b, Ar = some b → b.block < w2.heap.size ∨ pr = []) := hide fun b hb => by
    rcases hra.2.2.1 with h | ⟨b', o', he, hlt, _⟩
    · right; simpa using h
    · left; rw [he] at hb; injection hb with hb; subst hb; exact hlt
  have HRA := hide hra
  have hgr2 : gr < w2.heap.size := hra.rd.lt
  have HG0 := hide (show gst L 0 = some (0, -1, []) from rfl)
  have HO0 := hide (show w2.ownsRow w2.heap.size 3 1 (.slice none 0 0) 0 (([] : List Int).map iv) from ⟨rfl, .inl ⟨rfl, rfl⟩⟩)
  clear hra hb2
  go_wp2_with fail
  go_loopw [10, 11, 23] (fun ov av kv wr => ∃ (k at_ : Nat) (last : Int) (l : List Int), kv = .int .i64 (k : Int) ∧ av = .int .i64 last ∧ k ≤ cnt ∧ -1 ≤ last ∧ last ≤ 2147483648 * (k : Int) ∧ Hid (gst L k = some (at_, last, l)) ∧ Hid (RdA wr w.heap.size gr L at_ Ar mr cr pr) ∧ Hid (wr.ownsRow w2.heap.size 3 1 ov k (l.map iv)) ∧ Hid (Below w.heap.size w wr) ∧ w2.heap.size ≤ wr.heap.size) (fun _ _ kv _ => cnt - (intOf kv).toNat)
  case atStart => exact ⟨0, 0, -1, [], rfl, rfl, by omega, by omega, by omega, HG0, HRA, HO0, HB2, Nat.le_refl _⟩
  case round =>
    obtain ⟨k, at_, last, l, rfl, rfl, hk, hl1, hl2, HG, HR5, HO5, HW5, hz5⟩ := hrel
    by_cases hlt : k < cnt
    · have hki : (k : Int) < (cnt : Int) := by omega
      obtain ⟨⟨v, q, er⟩, hd⟩ : ∃ r, r = deltaM L at_ := ⟨_, rfl⟩
      have hgs := gst_some HG.out
      rw [← hd] at hgs
      simp only [] at hgs
      have HGS := hide hgs
      have HD := hide hd
      clear hgs hd
      go_wp2_with fail
      refine (rdelta_any w.heap.size gr L at_ wr HR5.out.rd).mono ?_
      rintro e w6 ⟨rfl, hst, hq⟩
      rw [← HD.out] at hst ⊢
      have HR6 := hide (HR5.out.step hst hq)
      have HO6 := hide (World.ownsRow.kept HO5.out hst.grown (.inr fun h => by have := (HO5.out.lt _ h).1; omega))
      have HW6 := hide (HW5.out.trans (hst.below hgr))
      have HZ6 := hide (show w6.heap.size = wr.heap.size from hst.2.1)
      clear hst hq
      unfold tup2
      by_cases h0 : er = 0
      · subst h0
        by_cases hv : v ≤ 2147483648
        · have hvi : ¬ (2147483648 : Int) < (v : Int) := by omega
          rw [if_pos ⟨rfl, hv⟩] at HGS
          obtain ⟨nx, hnx⟩ : ∃ nx : Int, nx = last + (v : Int) := ⟨_, rfl⟩
          rw [← hnx] at HGS
          have enx : last + (v : Int) = nx := hnx.symm
          have ev : IntKind.i64.wrap (v : Int) = (v : Int) := by rw [IntKind.wrap_i64]; omega
          have hnx1 : -1 ≤ nx := by omega
          have hnx2 : nx ≤ 2147483648 * ((k + 1 : Nat) : Int) := by omega
          have hnx3 : nx ≤ 8796093022208 := by omega
          clear hnx
          go_wp2_with (at_builtin; go_loud (refine wpList_append_rd _ rfl (.tmp 40) (.tmp 42) 22 rfl w2.heap.size 3 i2 _ 1 8 Try.underlying22 hi2 hz0 hz1 hz2 rfl (by omega) _ _ _ rfl (own_below HO6.out (bl_alloc (bl_refl w6) _)) _ 1 _ [iv nx] rfl rfl (rd_lit w6 _ _ _) (by intro u hu; simp at hu; subst hu; rfl) (by simp only [maxLen]; omega) (by omega) (by have := HZ6.out; simp; omega) ?_); intro v7 w7 ho7 hg7 hat7)
          have hz6 := HZ6.out
          have hg6 : gr < w6.heap.size := by omega
          have HRA6 := hide (show RdA (w6.alloc (.cells #[.int .i64 nx] 3)) w.heap.size gr L q Ar mr cr pr from by
            obtain ⟨h1, h2, h3, h4⟩ := HR6.out
            exact ⟨(Below.block (bl_alloc (bl_refl w6) _) gr hg6).trans h1, h2, Rd.alloc h3 _, h4⟩)
          have HR7 := hide (HRA6.out.keepO hg7 (fun j hj => by have := (HO6.out.lt _ hj).1; omega) (fun b hb => (HAR.out b hb).imp (fun h j hj => by have := (HO6.out.lt _ hj).1; omega) id))
          have HO7 : Hid (w7.ownsRow w2.heap.size 3 1 v7 (k + 1) ((l ++ [nx]).map iv)) := hide (by
            rw [List.map_append]
            exact ho7)
          have HW7 := hide (bl_grown (bl_alloc HW6.out (.cells #[.int .i64 nx] 3)) hg7 (fun q hq => by have := (HO6.out.lt _ hq).1; have := HB2.out.size; omega))
          have hz7 : w2.heap.size ≤ w7.heap.size := by have := hg7.size; simp at this; omega
          clear ho7 hg7 hat7 hz6
          go_roundw
          case rel => exact ⟨k + 1, q, nx, l ++ [nx], by go_num, rfl, by omega, hnx1, hnx2, HGS, HR7, HO7, HW7, hz7⟩
          case measure => simp [intOf]; omega
        · have hvi : (2147483648 : Int) < (v : Int) := by omega
          rw [if_neg (fun h => hv h.2)] at HGS
          have HNO := hide (gst_none HGS.out (show k + 1 ≤ cnt by omega))
          go_wp2
          go_ret2
          exact .no HW6.out (by rw [HPO.out, HNO.out]; rfl) rfl
      · rw [if_neg (fun h => h0 h.1)] at HGS
        have HNO := hide (gst_none HGS.out (show k + 1 ≤ cnt by omega))
        obtain ⟨ei, hei⟩ : ∃ ei : Int, ei = (er : Int) := ⟨_, rfl⟩
        have h0i : (ei == 0) = false := by rw [beq_eq_false_iff_ne]; omega
        have h0j : (ei != 0) = true := by simp only [bne, h0i]; rfl
        rw [← hei]
        clear hei
        go_wp2
        go_ret2
        exact .no HW6.out (by rw [HPO.out, HNO.out]; rfl) rfl
    · obtain rfl : k = cnt := by omega
      have hki : ¬ (k : Int) < (k : Int) := by omega
      go_wp2
      go_ret2
      have hpo : po = some l := by rw [HPO.out, HG.out]; rfl
      exact .ok HW5.out hpo rfl (own_base HO5.out HB2.out.size)
end Go.Proofs.Ytnflffhmnbjelaa
