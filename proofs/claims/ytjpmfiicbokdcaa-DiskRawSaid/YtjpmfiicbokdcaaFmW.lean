/- The walk of DiskRaw: its parameters opened, its calls. -/
import Derived.Test.YtjpmfiicbokdcaaFcW
import Derived.Test.YtjpmfiicbokdcaaOpen
namespace Go.Proofs.Ytjpmfiicbokdcaa
open Go.Joins Go.ChangeShapes Go.WideShapes Go.RowKit Go.Deep
set_option linter.unusedVariables false
set_option linter.unusedSimpArgs false
namespace diskRaw
theorem szK.mono {K K' : Nat} {d : Dsk} (h : szK K d) (hk : K ≤ K') : szK K' d := ⟨Nat.le_trans h.1 hk, Nat.le_trans h.2.1 hk, Nat.le_trans h.2.2.1 hk, Nat.le_trans h.2.2.2 hk⟩
theorem list_of {α : Type} {Pr : Nat → α → Prop} (n : Nat) (h : ∀ i, i < n → ∃ c, Pr i c) : ∃ cs : List α, cs.length = n ∧ ∀ i c, cs[i]? = some c → Pr i c := by
  induction n with
  | zero => exact ⟨[], rfl, fun i c h => by simp at h⟩
  | succ n ih =>
    obtain ⟨cs, hl, hc⟩ := ih (fun i hi => h i (by omega))
    obtain ⟨c, hc'⟩ := h n (by omega)
    refine ⟨cs ++ [c], by simp [hl], fun i d hd => ?_⟩
    rcases Nat.lt_or_ge i n with hi | hi
    · rw [List.getElem?_append_left (by omega)] at hd
      exact hc i d hd
    · have hlt := (List.getElem?_eq_some_iff.1 hd).1
      simp [hl] at hlt
      obtain rfl : i = n := by omega
      rw [List.getElem?_append_right (by omega), hl, Nat.sub_self] at hd
      simp at hd
      subst hd
      exact hc'
theorem flat_cells {α : Type} {enc : α → List Value} {s : Nat} (hs : ∀ x, (enc x).length = s) (h0 : 0 < s) : ∀ (cs : List α) (j : Nat) (v : Value), (cs.flatMap enc)[j]? = some v → ∃ c, cs[j / s]? = some c ∧ (enc c)[j % s]? = some v
  | [], j, v, h => by simp at h
  | d :: cs, j, v, h => by
    rw [List.flatMap_cons] at h
    rcases Nat.lt_or_ge j s with hj | hj
    · rw [List.getElem?_append_left (by rw [hs]; exact hj)] at h
      exact ⟨d, by rw [Nat.div_eq_of_lt hj]; rfl, by rw [Nat.mod_eq_of_lt hj]; exact h⟩
    · rw [List.getElem?_append_right (by rw [hs]; exact hj), hs] at h
      obtain ⟨c, h1, h2⟩ := flat_cells hs h0 cs _ _ h
      refine ⟨c, ?_, ?_⟩
      · rw [show j / s = (j - s) / s + 1 by rw [Nat.div_eq_sub_div h0 hj]]; simpa using h1
      · rw [show j % s = (j - s) % s by rw [Nat.mod_eq_sub_mod hj]]; exact h2
theorem rows_rd {α : Type} {enc : α → List Value} {s : Nat} (hs : ∀ x, (enc x).length = s) (h0 : 0 < s) {w : World} {ad : Addr} {len : Nat} {cs : List α} (hlen : cs.length = len) (hc : ∀ i c, cs[i]? = some c → ∀ j v, (enc c)[j]? = some v → w.cell? (ad.add (i * s + j)) = some v) : Rd w (some ad) (cs.flatMap enc) := by
  by_cases hl : len = 0
  · left
    have : cs = [] := List.eq_nil_of_length_eq_zero (by omega)
    rw [this]; rfl
  · right
    have hcell : ∀ k v, (cs.flatMap enc)[k]? = some v → w.cell? (ad.add k) = some v := fun k v hv => by
      obtain ⟨c, h1, h2⟩ := flat_cells hs h0 cs k v hv
      have := hc _ c h1 _ v h2
      rwa [Nat.div_add_mod'] at this
    obtain ⟨c0, hc0⟩ : ∃ c0, cs[0]? = some c0 := ⟨_, List.getElem?_eq_getElem (show 0 < cs.length by omega)⟩
    obtain ⟨v0, hv0⟩ : ∃ v0, (enc c0)[0]? = some v0 := ⟨_, List.getElem?_eq_getElem (by rw [hs]; exact h0)⟩
    have hx0 := hc 0 _ hc0 0 _ hv0
    have hsp : ad.spot = none := by simpa [Addr.add] using World.cell?_spot hx0
    obtain ⟨b, o, sp⟩ := ad
    subst hsp
    refine ⟨b, o, rfl, (by have h9 := hx0; rw [Addr.add_lit] at h9; exact lt_heap h9), fun k v hv => ?_⟩
    have h1 := hcell k v hv
    rwa [Addr.add_lit] at h1
section
variable {H : Type} {enc : TypeId × Value → H} {w : World} {base : Nat} {spare : Nat → Bool} {held : Bool} {fuel : Nat} {x : DataW H × List MemPlace}
theorem ents_open {c0 : Value} (hk : ∃ a len cap, c0 = .slice a len cap) (h : DataW.trod enc Try.prog w base spare held fuel 24 [c0] = some x) : ∃ (a : Option Addr) (len cap : Nat) (l : List Ent), c0 = .slice a len cap ∧ RE w a len l ∧ len ≤ cap ∧ cap ≤ maxLen := by
  obtain ⟨a, len, cap, rfl⟩ := hk
  rcases open_slice_fields Try.underlying24 Try.underlying35 (by kernel_rfl) (by kernel_rfl) h with ⟨hcs, _⟩ | ⟨ad, l, c, m, D, Pl, hcs, _, hl, hm, hmm, hx, hi⟩
  · simp at hcs
    obtain ⟨rfl, rfl, rfl⟩ := hcs
    exact ⟨_, _, _, [], rfl, ⟨rfl, .inl rfl⟩, Nat.le_refl _, Nat.zero_le _⟩
  · simp at hcs
    obtain ⟨rfl, rfl, rfl⟩ := hcs
    have hlm : len ≤ m := by rw [hmm]; split <;> omega
    obtain ⟨cs, hlen, hc⟩ := list_of (α := Ent) (Pr := fun i c => ∀ j v, (encE c)[j]? = some v → w.cell? (ad.add (i * 2 + j)) = some v) len (fun i hilt => by
      obtain ⟨ys, n, _, _, hyl, hf⟩ := hi i (by omega)
      obtain ⟨v0, y0, g0, _, e0⟩ := hf 0 _ rfl
      obtain ⟨v1, y1, g1, _, e1⟩ := hf 1 _ rfl
      obtain ⟨s1, q1, _, _⟩ := DataW.trod_string Try.underlying9 e0
      obtain ⟨n0, q0, _, b0⟩ := DataW.trod_int Try.underlying3 e1
      obtain rfl : v0 = .string s1 := by simpa using q1
      obtain rfl : v1 = .int .i64 n0 := by simpa using q0
      obtain ⟨p1, hp1⟩ := str_ex s1
      refine ⟨(p1, n0), fun j v hv => ?_⟩
      match j, hv with
      | 0, hv => simp [encE] at hv; subst hv; rw [← hp1]; exact g0
      | 1, hv => simp [encE] at hv; subst hv; exact g1
      | j + 2, hv => simp [encE] at hv)
    exact ⟨_, _, _, cs, rfl, ⟨hlen.symm, rows_rd encE_len (by decide) hlen hc⟩, hl, hm⟩
theorem inos_open {c0 : Value} (hk : ∃ a len cap, c0 = .slice a len cap) (h : DataW.trod enc Try.prog w base spare held fuel 23 [c0] = some x) : ∃ (a : Option Addr) (len cap : Nat) (l : List Ent), c0 = .slice a len cap ∧ RE w a len l ∧ len ≤ cap ∧ cap ≤ maxLen := by
  obtain ⟨a, len, cap, rfl⟩ := hk
  rcases open_slice_fields Try.underlying23 Try.underlying33 (by kernel_rfl) (by kernel_rfl) h with ⟨hcs, _⟩ | ⟨ad, l, c, m, D, Pl, hcs, _, hl, hm, hmm, hx, hi⟩
  · simp at hcs
    obtain ⟨rfl, rfl, rfl⟩ := hcs
    exact ⟨_, _, _, [], rfl, ⟨rfl, .inl rfl⟩, Nat.le_refl _, Nat.zero_le _⟩
  · simp at hcs
    obtain ⟨rfl, rfl, rfl⟩ := hcs
    have hlm : len ≤ m := by rw [hmm]; split <;> omega
    obtain ⟨cs, hlen, hc⟩ := list_of (α := Ent) (Pr := fun i c => ∀ j v, (encE c)[j]? = some v → w.cell? (ad.add (i * 2 + j)) = some v) len (fun i hilt => by
      obtain ⟨ys, n, _, _, hyl, hf⟩ := hi i (by omega)
      obtain ⟨v0, y0, g0, _, e0⟩ := hf 0 _ rfl
      obtain ⟨v1, y1, g1, _, e1⟩ := hf 1 _ rfl
      obtain ⟨s1, q1, _, _⟩ := DataW.trod_string Try.underlying9 e0
      obtain ⟨n0, q0, _, b0⟩ := DataW.trod_int Try.underlying3 e1
      obtain rfl : v0 = .string s1 := by simpa using q1
      obtain rfl : v1 = .int .i64 n0 := by simpa using q0
      obtain ⟨p1, hp1⟩ := str_ex s1
      refine ⟨(p1, n0), fun j v hv => ?_⟩
      match j, hv with
      | 0, hv => simp [encE] at hv; subst hv; rw [← hp1]; exact g0
      | 1, hv => simp [encE] at hv; subst hv; exact g1
      | j + 2, hv => simp [encE] at hv)
    exact ⟨_, _, _, cs, rfl, ⟨hlen.symm, rows_rd encE_len (by decide) hlen hc⟩, hl, hm⟩
theorem ops_open {c0 : Value} (hk : ∃ a len cap, c0 = .slice a len cap) (h : DataW.trod enc Try.prog w base spare held fuel 25 [c0] = some x) : ∃ (a : Option Addr) (len cap : Nat) (l : List DOp), c0 = .slice a len cap ∧ RO w a len l ∧ len ≤ cap ∧ cap ≤ maxLen := by
  obtain ⟨a, len, cap, rfl⟩ := hk
  rcases open_slice_fields Try.underlying25 Try.underlying48 (by kernel_rfl) (by kernel_rfl) h with ⟨hcs, _⟩ | ⟨ad, l, c, m, D, Pl, hcs, _, hl, hm, hmm, hx, hi⟩
  · simp at hcs
    obtain ⟨rfl, rfl, rfl⟩ := hcs
    exact ⟨_, _, _, [], rfl, ⟨rfl, .inl rfl⟩, Nat.le_refl _, Nat.zero_le _⟩
  · simp at hcs
    obtain ⟨rfl, rfl, rfl⟩ := hcs
    have hlm : len ≤ m := by rw [hmm]; split <;> omega
    obtain ⟨cs, hlen, hc⟩ := list_of (α := DOp) (Pr := fun i c => ∀ j v, (encO c)[j]? = some v → w.cell? (ad.add (i * 4 + j)) = some v) len (fun i hilt => by
      obtain ⟨ys, n, _, _, hyl, hf⟩ := hi i (by omega)
      obtain ⟨v0, y0, g0, _, e0⟩ := hf 0 _ rfl
      obtain ⟨v1, y1, g1, _, e1⟩ := hf 1 _ rfl
      obtain ⟨v2, y2, g2, _, e2⟩ := hf 2 _ rfl
      obtain ⟨v3, y3, g3, _, e3⟩ := hf 3 _ rfl
      obtain ⟨n0, q0, _, b0⟩ := DataW.trod_int Try.underlying3 e0
      obtain ⟨s1, q1, _, _⟩ := DataW.trod_string Try.underlying9 e1
      obtain ⟨s2, q2, _, _⟩ := DataW.trod_string Try.underlying9 e2
      obtain ⟨s3, q3, _, _⟩ := DataW.trod_string Try.underlying9 e3
      obtain rfl : v0 = .int .i64 n0 := by simpa using q0
      obtain rfl : v1 = .string s1 := by simpa using q1
      obtain rfl : v2 = .string s2 := by simpa using q2
      obtain rfl : v3 = .string s3 := by simpa using q3
      obtain ⟨p1, hp1⟩ := str_ex s1
      obtain ⟨p2, hp2⟩ := str_ex s2
      obtain ⟨p3, hp3⟩ := str_ex s3
      refine ⟨(n0, p1, p2, p3), fun j v hv => ?_⟩
      match j, hv with
      | 0, hv => simp [encO] at hv; subst hv; exact g0
      | 1, hv => simp [encO] at hv; subst hv; rw [← hp1]; exact g1
      | 2, hv => simp [encO] at hv; subst hv; rw [← hp2]; exact g2
      | 3, hv => simp [encO] at hv; subst hv; rw [← hp3]; exact g3
      | j + 4, hv => simp [encO] at hv)
    exact ⟨_, _, _, cs, rfl, ⟨hlen.symm, rows_rd encO_len (by decide) hlen hc⟩, hl, hm⟩
end
theorem encS_get (l : List (List UInt8)) (k : Nat) : (encS l)[k]? = (l[k]?).map fun s => .string (bstr s) := by simp [encS]
set_option maxHeartbeats 4000000 in
set_option maxRecDepth 100000 in
theorem texts_any (a1 : Option Addr) (n c1 : Nat) (a2 : Option Addr) (c2 : Nat) (l : List (List UInt8)) (w : World) (hn : n = l.length) (hn9 : n ≤ 1000000) (h1 : Rd w a1 (encS l)) (h2 : Rd w a2 (encS l)) :
    Calls Try.prog 25 #[.slice a1 n c1, .slice a2 n c2] w fun e w' => e = .returned (.bool true) ∧ Below w.heap.size w w' := by
  have HN := hide hn
  have H1 := hide h1
  have H2 := hide h2
  have HB0 := hide (bl_refl w)
  clear hn h1 h2
  go_enter Try.func25, Try.ntmps25
  go_wp2_with fail
  go_loopw [13] (fun kv wr => ∃ (k : Nat), kv = .int .i64 (k : Int) ∧ k ≤ n ∧ Hid (Below w.heap.size w wr)) (fun kv _ => n - (intOf kv).toNat)
  case atStart => exact ⟨0, rfl, by omega, HB0⟩
  case round =>
    clear HB0
    obtain ⟨k, rfl, hk, HB⟩ := hrel
    by_cases hlt : k < n
    · obtain ⟨s, hs⟩ : ∃ s, l[k]? = some s := ⟨_, List.getElem?_eq_getElem (by rw [← HN.out]; exact hlt)⟩
      obtain ⟨b, o, rfl, hbl, e0⟩ := (H1.out.below HB.out).at_ (show (encS l)[k]? = some (.string (bstr s)) by rw [encS_get, hs]; rfl)
      obtain ⟨b', o', rfl, hbl', e1⟩ := (H2.out.below HB.out).at_ (show (encS l)[k]? = some (.string (bstr s)) by rw [encS_get, hs]; rfl)
      have hkn : (k : Int) < (n : Int) := by omega
      have f0 : ∀ wx, CB wr.drew wx → wx.cell? ⟨b, o + k, none⟩ = some (.string (bstr s)) := fun wx h => h.cell e0
      have f1 : ∀ wx, CB wr.drew wx → wx.cell? ⟨b', o' + k, none⟩ = some (.string (bstr s)) := fun wx h => h.cell e1
      clear hs
      go_wp2_with fail
      refine wp_region_K 9 (by kernel_rfl) (by kernel_rfl) (fun Q HQ => ?_)
      simp only [List.take_succ_cons, List.take_zero, List.map_cons, List.map_nil]
      repeat
        first | apply wpS_c rfl | apply wpS_gc rfl (guard_mk rfl rfl)
        focus
          intro ev wx hC hx
          (try simp [Op.operands, Call.operands, opndS, Slot.holds] at hx)
          go_simp
          try (first | exact rfl | exact ⟨Below.refl _ _, rfl⟩)
          done
        dsimp only [setS, List.set]
      refine wpS_nil (HQ _ fun w5 hC5 => ?_)
      simp only [closeS, List.drop_succ_cons, List.drop_zero]
      have HB5 := hide (bl_trans HB.out hC5.below)
      clear HQ hC5 f0 f1 e0 e1
      go_wp2
      go_roundw
      case rel => exact ⟨k + 1, by go_num, by omega, HB5⟩
      case measure => simp [intOf]; omega
    · obtain rfl : k = n := by omega
      have hkn : ¬ (k : Int) < (k : Int) := by omega
      go_wp2
      go_ret
      exact ⟨rfl, HB.out⟩
theorem stab_isD (d : Dsk) : Stab (.p fun v w => IsD w v d) := fun _ _ _ hb h => h.below hb
def PLs (n : Nat) (l : List (List UInt8)) : Value → World → Prop := fun v w => ∃ a c, v = .slice a n c ∧ Rd w a (encS l)
theorem stab_PLs (n : Nat) (l : List (List UInt8)) : Stab (.p (PLs n l)) := fun _ _ _ hb ⟨a, c, h1, h2⟩ => ⟨a, c, h1, h2.below hb⟩
set_option maxHeartbeats 8000000 in
set_option maxRecDepth 100000 in
theorem walk (dv : Value) (d : Dsk) (o : DOp) (ca : Option Addr) (cn cc : Nat) (cz : List Int) (w : World) (hd : IsD w dv d) (ho : o.2.2.2.length ≤ 140737488355328) (v0 : IsRow .i64 w ca cn cc cz) :
    Calls Try.prog 11 #[dv, oV o, .slice ca cn cc] w fun e w' => e = .returned (.bool true) ∧ Below w.heap.size w w' := by
  obtain ⟨ch, hcl', hcr, hcc, hcm, -⟩ := v0.ints
  have hcl := hcl'.symm
  obtain ⟨kd, s, t, dd⟩ := o
  obtain ⟨a1, n1, c1, a2, n2, c2, a3, n3, c3, a4, n4, c4, rfl⟩ := hd.four
  have hnn : n1 = d.inodes.length ∧ n2 = d.dir.length ∧ n3 = d.dur.length ∧ n4 = d.ops.length := by
    obtain ⟨x1, y1, z1, x2, y2, z2, x3, y3, z3, x4, y4, z4, he, h1, h2, h3, h4, -⟩ := hd.h
    simp at he
    obtain ⟨⟨rfl, rfl, rfl⟩, ⟨rfl, rfl, rfl⟩, ⟨rfl, rfl, rfl⟩, rfl, rfl, rfl⟩ := he
    exact ⟨h1.1, h2.1, h3.1, h4.1⟩
  have HNN := hide hnn
  have HOD := hide ho
  have HCL := hide hcl
  obtain ⟨wa, hwa⟩ : ∃ wa, wa = (w.alloc (.cells [.slice a1 n1 c1, .slice a2 n2 c2, .slice a3 n3 c3, .slice a4 n4 c4].toArray 27)).alloc (.cells [.int .i64 kd, .string (bstr s), .string (bstr t), .string (bstr dd)].toArray 48) := ⟨_, rfl⟩
  have hbw : Below w.heap.size w wa := by rw [hwa]; exact bl_alloc (bl_alloc (bl_refl w) _) _
  have DB := hide (show Blk wa w.heap.size [.slice a1 n1 c1, .slice a2 n2 c2, .slice a3 n3 c3, .slice a4 n4 c4] 27 by rw [hwa]; exact (Blk.new w _ _).alloc _)
  have OB := hide (show Blk wa (w.heap.size + 1) [.int .i64 kd, .string (bstr s), .string (bstr t), .string (bstr dd)] 48 by rw [hwa]; exact Blk.newG (by simp) _ _)
  have DI := hide (hd.below hbw)
  have HCR := hide (Rd.below hcr hbw)
  have LB := hide hbw
  have HWA := hide hwa.symm
  clear hwa hbw hd ho hcl hcl' hcr v0 hnn
  go_enter Try.func11, Try.ntmps11
  unfold oV
  simp only []
  have q1 : (8 : Int) < (n1 : Int) ∨ ¬ (8 : Int) < (n1 : Int) := by omega
  have q2 : (8 : Int) < (n2 : Int) ∨ ¬ (8 : Int) < (n2 : Int) := by omega
  have q3 : (8 : Int) < (n3 : Int) ∨ ¬ (8 : Int) < (n3 : Int) := by omega
  have q4 : (8 : Int) < (n4 : Int) ∨ ¬ (8 : Int) < (n4 : Int) := by omega
  have q5 : (20 : Int) < (cn : Int) ∨ ¬ (20 : Int) < (cn : Int) := by omega
  rcases q1 with q1 | q1
  · clear q2 q3 q4 q5
    go_wp2
    go_ret
    exact ⟨rfl, by have := LB.out; rwa [← HWA.out] at this⟩
  rcases q2 with q2 | q2
  · clear q3 q4 q5
    go_wp2
    go_ret
    exact ⟨rfl, by have := LB.out; rwa [← HWA.out] at this⟩
  rcases q3 with q3 | q3
  · clear q4 q5
    go_wp2
    go_ret
    exact ⟨rfl, by have := LB.out; rwa [← HWA.out] at this⟩
  rcases q4 with q4 | q4
  · clear q5
    go_wp2
    go_ret
    exact ⟨rfl, by have := LB.out; rwa [← HWA.out] at this⟩
  rcases q5 with q5 | q5
  · skip
    go_wp2
    go_ret
    exact ⟨rfl, by have := LB.out; rwa [← HWA.out] at this⟩
  have hsz : szK 8 d := ⟨by have := HNN.out.1; omega, by have := HNN.out.2.1; omega, by have := HNN.out.2.2.1; omega, by have := HNN.out.2.2.2; omega⟩
  have HSZ := hide hsz
  clear hsz
  go_wp2_with fail
  rw [HWA.out]
  clear HWA q1 q2 q3 q4 q5
  obtain ⟨D, hD⟩ : ∃ D, D = w.heap.size := ⟨_, rfl⟩
  have hwD : w.heap.size ≤ D := by omega
  rw [← hD] at DB ⊢
  have hDO : ¬ D = D + 1 := by omega
  obtain ⟨r, hr⟩ : ∃ r, r = applyM d (kd, s, t, dd) := ⟨_, rfl⟩
  have HRR := hide hr
  have HRZ := hide (show szK 9 r.1 by rw [hr]; exact HSZ.out.step _)
  rw [← hD] at OB
  clear hD
  have HAP := papply_any _ d (kd, s, t, dd) 8 wa DI.out HSZ.out (by decide) HOD.out
  rw [← hr] at HAP
  clear hr
  refine HAP.mono ?_
  rintro e w3 ⟨u, rfl, hu, hb3⟩
  obtain ⟨b1, m1, q1, b2, m2, q2, b3, m3, q3, b4, m4, q4, rfl⟩ := hu.four
  have U3 := hide hu
  have O3 := hide (OB.out.below hb3)
  have D3 := hide (DB.out.below hb3)
  have I3 := hide (DI.out.below hb3)
  have C3 := hide (HCR.out.below hb3)
  have L3 := hide (bl_trans LB.out hb3)
  clear hu hb3 OB DB DI LB HAP HCR
  have xy0 : w3.cell? ⟨D, 0, none⟩ = some _ := D3.out.cell rfl
  have xy1 : w3.cell? ⟨D, 1, none⟩ = some _ := D3.out.cell rfl
  have xy2 : w3.cell? ⟨D, 2, none⟩ = some _ := D3.out.cell rfl
  have xy3 : w3.cell? ⟨D, 3, none⟩ = some _ := D3.out.cell rfl
  have xl := D3.out.lt
  have oy0 : w3.cell? ⟨D + 1, 0, none⟩ = some _ := O3.out.cell rfl
  have oy1 : w3.cell? ⟨D + 1, 1, none⟩ = some _ := O3.out.cell rfl
  have oy2 : w3.cell? ⟨D + 1, 2, none⟩ = some _ := O3.out.cell rfl
  have oy3 : w3.cell? ⟨D + 1, 3, none⟩ = some _ := O3.out.cell rfl
  have ol := O3.out.lt
  obtain ⟨wb, hwb⟩ : ∃ wb, wb = w3.alloc (.cells [.slice b1 m1 q1, .slice b2 m2 q2, .slice b3 m3 q3, .slice b4 m4 q4].toArray 27) := ⟨_, rfl⟩
  obtain ⟨X, hX⟩ : ∃ X, X = w3.heap.size := ⟨_, rfl⟩
  have XB := hide (show Blk wb X [.slice b1 m1 q1, .slice b2 m2 q2, .slice b3 m3 q3, .slice b4 m4 q4] 27 by rw [hwb, hX]; exact Blk.new w3 _ _)
  have hbw := bl_alloc (bl_refl w3) (.cells [.slice b1 m1 q1, .slice b2 m2 q2, .slice b3 m3 q3, .slice b4 m4 q4].toArray 27)
  rw [← hwb] at hbw
  have UB := hide (U3.out.below hbw)
  have OB := hide (O3.out.below hbw)
  have DB := hide (D3.out.below hbw)
  have DI := hide (I3.out.below hbw)
  have HCR := hide (C3.out.below hbw)
  have LB := hide (bl_trans L3.out hbw)
  have HXX := hide hX.symm
  have HWB := hide hwb.symm
  clear hwb hX hbw U3 O3 D3 I3 L3 C3
  go_wp2_with fail
  rw [HWB.out, HXX.out]
  clear HWB HXX xy0 xy1 xy2 xy3 xl oy0 oy1 oy2 oy3 ol
  have HAP := rapply_any _ d (kd, s, t, dd) wb DI.out (HSZ.out.szD (by decide)) HOD.out
  rw [← HRR.out] at HAP
  refine HAP.mono ?_
  rintro e w4 ⟨u, rfl, hu, hb4⟩
  obtain ⟨e1, f1, g1, e2, f2, g2, e3, f3, g3, e4, f4, g4, rfl⟩ := hu.four
  have O4 := hide (OB.out.below hb4)
  have D4 := hide (DB.out.below hb4)
  have xy0 : w4.cell? ⟨D, 0, none⟩ = some _ := D4.out.cell rfl
  have xy1 : w4.cell? ⟨D, 1, none⟩ = some _ := D4.out.cell rfl
  have xy2 : w4.cell? ⟨D, 2, none⟩ = some _ := D4.out.cell rfl
  have xy3 : w4.cell? ⟨D, 3, none⟩ = some _ := D4.out.cell rfl
  have xl := D4.out.lt
  have oy0 : w4.cell? ⟨D + 1, 0, none⟩ = some _ := O4.out.cell rfl
  have oy1 : w4.cell? ⟨D + 1, 1, none⟩ = some _ := O4.out.cell rfl
  have oy2 : w4.cell? ⟨D + 1, 2, none⟩ = some _ := O4.out.cell rfl
  have oy3 : w4.cell? ⟨D + 1, 3, none⟩ = some _ := O4.out.cell rfl
  have ol := O4.out.lt
  obtain ⟨wc, hwc⟩ : ∃ wc, wc = w4.alloc (.cells [.slice e1 f1 g1, .slice e2 f2 g2, .slice e3 f3 g3, .slice e4 f4 g4].toArray 27) := ⟨_, rfl⟩
  obtain ⟨Y, hY⟩ : ∃ Y, Y = w4.heap.size := ⟨_, rfl⟩
  have hbw := bl_alloc (bl_refl w4) (.cells [.slice e1 f1 g1, .slice e2 f2 g2, .slice e3 f3 g3, .slice e4 f4 g4].toArray 27)
  rw [← hwc] at hbw
  have hba := bl_trans hb4 hbw
  have YB := hide (show Blk wc Y [.slice e1 f1 g1, .slice e2 f2 g2, .slice e3 f3 g3, .slice e4 f4 g4] 27 by rw [hwc, hY]; exact Blk.new w4 _ _)
  have VB := hide (hu.below hbw)
  have U5 := hide (UB.out.below hba)
  have X5 := hide (XB.out.below hba)
  have O5 := hide (OB.out.below hba)
  have D5 := hide (DB.out.below hba)
  have I5 := hide (DI.out.below hba)
  have C5 := hide (HCR.out.below hba)
  have L5 := hide (bl_trans LB.out hba)
  have HYY := hide hY.symm
  have HWC := hide hwc.symm
  clear hwc hY hbw hba hu hb4 UB XB OB DB DI HCR LB HAP O4 D4
  obtain ⟨rn, hrn⟩ : ∃ rn, rn = r.2 := ⟨_, rfl⟩
  rw [← hrn]
  clear hrn
  have HRD := hide (fun (wx : World) (hb : Below wc.heap.size wc wx) => And.intro (read_any _ d s wx (I5.out.below hb) (HSZ.out.szD (by decide))) (rread_any _ d s wx (I5.out.below hb) (HSZ.out.szD (by decide))))
  obtain ⟨rs, hrs⟩ : ∃ rs, rs = readM d s := ⟨_, rfl⟩
  rw [← hrs] at HRD
  clear hrs
  obtain ⟨rs, re⟩ := rs
  simp only [] at HRD
  go_wp2_with fail
  rw [HWC.out, HYY.out]
  clear HWC HYY xy0 xy1 xy2 xy3 xl oy0 oy1 oy2 oy3 ol
  refine (HRD.out wc (bl_refl wc)).1.mono ?_
  rintro e w6 ⟨rfl, hb6⟩
  have B6 := hide hb6
  have O6 := hide (O5.out.below hb6)
  have D6 := hide (D5.out.below hb6)
  clear hb6
  have xy0 : w6.cell? ⟨D, 0, none⟩ = some _ := D6.out.cell rfl
  have xy1 : w6.cell? ⟨D, 1, none⟩ = some _ := D6.out.cell rfl
  have xy2 : w6.cell? ⟨D, 2, none⟩ = some _ := D6.out.cell rfl
  have xy3 : w6.cell? ⟨D, 3, none⟩ = some _ := D6.out.cell rfl
  have xl := D6.out.lt
  have oy0 : w6.cell? ⟨D + 1, 0, none⟩ = some _ := O6.out.cell rfl
  have oy1 : w6.cell? ⟨D + 1, 1, none⟩ = some _ := O6.out.cell rfl
  have oy2 : w6.cell? ⟨D + 1, 2, none⟩ = some _ := O6.out.cell rfl
  have oy3 : w6.cell? ⟨D + 1, 3, none⟩ = some _ := O6.out.cell rfl
  have ol := O6.out.lt
  go_wp2_with fail
  clear xy0 xy1 xy2 xy3 xl oy0 oy1 oy2 oy3 ol
  refine (HRD.out w6 B6.out).2.mono ?_
  rintro e w7 ⟨rfl, hb7⟩
  have hba := bl_trans B6.out hb7
  have Y7 := hide (YB.out.below hba)
  have V7 := hide (VB.out.below hba)
  have U7 := hide (U5.out.below hba)
  have X7 := hide (X5.out.below hba)
  have D7 := hide (D5.out.below hba)
  have I7 := hide (I5.out.below hba)
  have C7 := hide (C5.out.below hba)
  have L7 := hide (bl_trans L5.out hba)
  clear hba hb7 B6 O6 D6 YB VB U5 X5 O5 D5 I5 C5 L5 HRD
  go_wp2_with fail
  have HV := hide (fun (wx : World) (hb : Below w7.heap.size w7 wx) => And.intro (validate_any _ d wx (I7.out.below hb) (HSZ.out.szD (by decide))) (rvalidate_any _ d wx (I7.out.below hb) (HSZ.out.szD (by decide))))
  obtain ⟨er, her⟩ : ∃ er, er = errM d := ⟨_, rfl⟩
  rw [← her] at HV
  have HSA := hide (fun (wx : World) (hb : Below w7.heap.size w7 wx) => rsame_any _ _ _ _ wx (U7.out.below hb) (V7.out.below hb) (HRZ.out.szD (by decide)) (HRZ.out.szD (by decide)))
  rw [show decide (r.1 = r.1) = true by simp] at HSA
  obtain ⟨ln, hln⟩ : ∃ ln, ln = listM d := ⟨_, rfl⟩
  obtain ⟨N, hN⟩ : ∃ N, N = ln.length := ⟨_, rfl⟩
  have hN9 : N ≤ 1000000 := by
    rw [hN, hln]
    unfold listM
    split
    · rw [List.length_map]; have := HSZ.out.2.1; omega
    · exact Nat.zero_le _
  have HLS := hide (fun (wx : World) (hb : Below w7.heap.size w7 wx) => And.intro (list_any _ d wx (I7.out.below hb) (HSZ.out.szD (by decide))) (rlist_any _ d wx (I7.out.below hb) (HSZ.out.szD (by decide))))
  rw [← hln, ← hN] at HLS
  have HTX := hide (fun (wx : World) (a1 a2 : Option Addr) (c1 c2 : Nat) (h1 : Rd wx a1 (encS ln)) (h2 : Rd wx a2 (encS ln)) => texts_any a1 N c1 a2 c2 ln wx hN hN9 h1 h2)
  obtain ⟨c, hcd⟩ : ∃ c, c = crashM d ch := ⟨_, rfl⟩
  have HCK := hide (fun (wx : World) (hb : Below w7.heap.size w7 wx) => And.intro (crash_any _ d ca cn cc ch wx (I7.out.below hb) (szK.mono HSZ.out (by decide)) (Rd.below C7.out hb) HCL.out) (rcrash_any _ d ca cn cc ch wx (I7.out.below hb) (szK.mono HSZ.out (by decide)) (Rd.below C7.out hb) HCL.out))
  rw [← hcd] at HCK
  have HSC := hide (show szK 16 c by rw [hcd]; exact crash_szK HSZ.out _)
  have HXC := hide (fun (wx : World) (hC : CB w7.drew wx) => show (wx.cell? ⟨D, 0, none⟩ = some (.slice a1 n1 c1) ∧ wx.cell? ⟨D, 1, none⟩ = some (.slice a2 n2 c2) ∧ wx.cell? ⟨D, 2, none⟩ = some (.slice a3 n3 c3) ∧ wx.cell? ⟨D, 3, none⟩ = some (.slice a4 n4 c4)) ∧ (wx.cell? ⟨X, 0, none⟩ = some (.slice b1 m1 q1) ∧ wx.cell? ⟨X, 1, none⟩ = some (.slice b2 m2 q2) ∧ wx.cell? ⟨X, 2, none⟩ = some (.slice b3 m3 q3) ∧ wx.cell? ⟨X, 3, none⟩ = some (.slice b4 m4 q4)) ∧ (wx.cell? ⟨Y, 0, none⟩ = some (.slice e1 f1 g1) ∧ wx.cell? ⟨Y, 1, none⟩ = some (.slice e2 f2 g2) ∧ wx.cell? ⟨Y, 2, none⟩ = some (.slice e3 f3 g3) ∧ wx.cell? ⟨Y, 3, none⟩ = some (.slice e4 f4 g4)) from
    ⟨⟨(D7.out.below hC.below).cell rfl, (D7.out.below hC.below).cell rfl, (D7.out.below hC.below).cell rfl, (D7.out.below hC.below).cell rfl⟩, ⟨(X7.out.below hC.below).cell rfl, (X7.out.below hC.below).cell rfl, (X7.out.below hC.below).cell rfl, (X7.out.below hC.below).cell rfl⟩, ⟨(Y7.out.below hC.below).cell rfl, (Y7.out.below hC.below).cell rfl, (Y7.out.below hC.below).cell rfl, (Y7.out.below hC.below).cell rfl⟩⟩)
  clear her hln hN hcd
  refine wp_region_K 38 (by kernel_rfl) (by kernel_rfl) (fun Q HQ => ?_)
  simp only [List.take_succ_cons, List.take_zero, List.map_cons, List.map_nil]
  repeat
    first | apply wpS_c rfl | apply wpS_gc rfl (guard_mk rfl rfl)
    focus
      intro ev wx hC hx
      (try simp [Op.operands, Call.operands, opndS, Slot.holds] at hx)
      obtain ⟨⟨k0, k1, k2, k3⟩, ⟨x0, x1, x2, x3⟩, z0, z1, z2, z3⟩ := HXC.out wx hC
      go_simp
      try (first | exact rfl | exact ⟨Below.refl _ _, rfl⟩)
      done
    dsimp only [setS, List.set]
  apply wpS_c rfl
  focus
    intro ev wx hC hx
    (try simp [Op.operands, Call.operands, opndS, Slot.holds] at hx)
    go_simp
    refine (HV.out wx hC.below).1.mono ?_; rintro e w' ⟨rfl, hb⟩; exact ⟨rfl, hb⟩
  dsimp only [setS, List.set]
  repeat
    first | apply wpS_c rfl | apply wpS_gc rfl (guard_mk rfl rfl)
    focus
      intro ev wx hC hx
      (try simp [Op.operands, Call.operands, opndS, Slot.holds] at hx)
      obtain ⟨⟨k0, k1, k2, k3⟩, ⟨x0, x1, x2, x3⟩, z0, z1, z2, z3⟩ := HXC.out wx hC
      go_simp
      try (first | exact rfl | exact ⟨Below.refl _ _, rfl⟩)
      done
    dsimp only [setS, List.set]
  apply wpS_c rfl
  focus
    intro ev wx hC hx
    (try simp [Op.operands, Call.operands, opndS, Slot.holds] at hx)
    go_simp
    refine (HV.out wx hC.below).2.mono ?_; rintro e w' ⟨rfl, hb⟩; exact ⟨rfl, hb⟩
  dsimp only [setS, List.set]
  repeat
    first | apply wpS_c rfl | apply wpS_gc rfl (guard_mk rfl rfl)
    focus
      intro ev wx hC hx
      (try simp [Op.operands, Call.operands, opndS, Slot.holds] at hx)
      obtain ⟨⟨k0, k1, k2, k3⟩, ⟨x0, x1, x2, x3⟩, z0, z1, z2, z3⟩ := HXC.out wx hC
      go_simp
      try (first | exact rfl | exact ⟨Below.refl _ _, rfl⟩)
      done
    dsimp only [setS, List.set]
  apply wpS_gc rfl (guard_mk rfl rfl)
  focus
    intro ev wx hC hx
    (try simp [Op.operands, Call.operands, opndS, Slot.holds] at hx)
    go_simp
    refine (HSA.out wx hC.below).mono ?_; rintro e w' ⟨rfl, hb⟩; exact ⟨rfl, hb⟩
  dsimp only [setS, List.set]
  repeat
    first | apply wpS_c rfl | apply wpS_gc rfl (guard_mk rfl rfl)
    focus
      intro ev wx hC hx
      (try simp [Op.operands, Call.operands, opndS, Slot.holds] at hx)
      obtain ⟨⟨k0, k1, k2, k3⟩, ⟨x0, x1, x2, x3⟩, z0, z1, z2, z3⟩ := HXC.out wx hC
      go_simp
      try (first | exact rfl | exact ⟨Below.refl _ _, rfl⟩)
      done
    dsimp only [setS, List.set]
  refine wpS_gp (R := PLs N ln) rfl (stab_PLs N ln) (guard_mk rfl rfl) ?_ ?_
  focus
    intro ev wx hC hx
    (try simp [Op.operands, Call.operands, opndS, Slot.holds] at hx)
    go_simp
    refine (HLS.out wx hC.below).1.mono ?_
    rintro e w' ⟨u, rfl, hown, hb⟩
    obtain ⟨la, lc, hl1, hl2, hl3⟩ := ownG_form hown
    exact ⟨u, rfl, hb, la, lc, hl1, hl3⟩
  dsimp only [setS, List.set]
  repeat
    first | apply wpS_c rfl | apply wpS_gc rfl (guard_mk rfl rfl)
    focus
      intro ev wx hC hx
      (try simp [Op.operands, Call.operands, opndS, Slot.holds] at hx)
      obtain ⟨⟨k0, k1, k2, k3⟩, ⟨x0, x1, x2, x3⟩, z0, z1, z2, z3⟩ := HXC.out wx hC
      go_simp
      try (first | exact rfl | exact ⟨Below.refl _ _, rfl⟩)
      done
    dsimp only [setS, List.set]
  refine wpS_gp (R := PLs N ln) rfl (stab_PLs N ln) (guard_mk rfl rfl) ?_ ?_
  focus
    intro ev wx hC hx
    (try simp [Op.operands, Call.operands, opndS, Slot.holds] at hx)
    go_simp
    refine (HLS.out wx hC.below).2.mono ?_
    rintro e w' ⟨u, rfl, hown, hb⟩
    obtain ⟨la, lc, hl1, hl2, hl3⟩ := ownG_form hown
    exact ⟨u, rfl, hb, la, lc, hl1, hl3⟩
  dsimp only [setS, List.set]
  apply wpS_gc rfl (guard_mk rfl rfl)
  focus
    intro ev wx hC hx
    (try simp [Op.operands, Call.operands, opndS, Slot.holds] at hx)
    obtain ⟨hx0, ⟨la, lc, hl1, hl2⟩, ⟨ma, mc, hm1, hm2⟩⟩ := hx
    go_simp
    refine (HTX.out wx la ma lc mc hl2 hm2).mono ?_
    rintro e w' ⟨rfl, hb⟩
    exact ⟨rfl, hb⟩
  dsimp only [setS, List.set]
  repeat
    first | apply wpS_c rfl | apply wpS_gc rfl (guard_mk rfl rfl)
    focus
      intro ev wx hC hx
      (try simp [Op.operands, Call.operands, opndS, Slot.holds] at hx)
      obtain ⟨⟨k0, k1, k2, k3⟩, ⟨x0, x1, x2, x3⟩, z0, z1, z2, z3⟩ := HXC.out wx hC
      go_simp
      try (first | exact rfl | exact ⟨Below.refl _ _, rfl⟩)
      done
    dsimp only [setS, List.set]
  refine wpS_gp (R := fun v w => IsD w v c) rfl (stab_isD c) (guard_mk rfl rfl) ?_ ?_
  focus
    intro ev wx hC hx
    (try simp [Op.operands, Call.operands, opndS, Slot.holds] at hx)
    go_simp
    refine (HCK.out wx hC.below).1.mono ?_
    rintro e w' ⟨u, rfl, hu, hb⟩
    exact ⟨u, rfl, hb, hu⟩
  dsimp only [setS, List.set]
  repeat
    first | apply wpS_c rfl | apply wpS_gc rfl (guard_mk rfl rfl)
    focus
      intro ev wx hC hx
      (try simp [Op.operands, Call.operands, opndS, Slot.holds] at hx)
      obtain ⟨⟨k0, k1, k2, k3⟩, ⟨x0, x1, x2, x3⟩, z0, z1, z2, z3⟩ := HXC.out wx hC
      go_simp
      try (first | exact rfl | exact ⟨Below.refl _ _, rfl⟩)
      done
    dsimp only [setS, List.set]
  refine wpS_nil (HQ _ fun w8 hC8 => ?_)
  simp only [closeS, List.drop_succ_cons, List.drop_zero]
  rintro v95 - v97 - v103 hv103
  obtain ⟨i1, j1, k1, i2, j2, k2, i3, j3, k3, i4, j4, k4, rfl⟩ := hv103.four
  have hb8 := hC8.below
  have B8 := hide hb8
  have V8 := hide hv103
  have L8 := hide (bl_trans L7.out hb8)
  have hck := (HCK.out w8 hb8).2
  have HCR := hide hck
  clear hb8 hC8 HQ hv103 hck HXC HTX HSA HV HLS
  go_wp2_with fail
  refine HCR.out.mono ?_
  rintro e w9 ⟨u, rfl, hu, hb9⟩
  obtain ⟨x1, y1, z1, x2, y2, z2, x3, y3, z3, x4, y4, z4, rfl⟩ := hu.four
  have HS := rsame_any _ _ _ _ w9 (V8.out.below hb9) hu (HSC.out.szD (by decide)) (HSC.out.szD (by decide))
  rw [show decide (c = c) = true by simp] at HS
  have HSX := hide HS
  have L9 := hide (bl_trans L8.out hb9)
  clear HS hu hb9
  go_wp2_with fail
  refine HSX.out.mono ?_
  rintro e w10 ⟨rfl, hb10⟩
  have L10 := hide (bl_trans L9.out hb10)
  clear HSX hb10
  go_wp2_with fail
  refine (known_any w10).mono ?_
  rintro e w11 ⟨rfl, hb11⟩
  go_wp2
  go_ret
  exact ⟨rfl, bl_trans L10.out hb11⟩
end diskRaw
end Go.Proofs.Ytjpmfiicbokdcaa
