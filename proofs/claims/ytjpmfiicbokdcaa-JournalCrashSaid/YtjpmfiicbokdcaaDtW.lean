/- The walks of slices.Clone, Equal, IndexFunc, ContainsFunc. -/
import Derived.Test.YtjpmfiicbokdcaaDsW
import Derived.Lib.LazyBuf
namespace Go.Proofs.Ytjpmfiicbokdcaa
open Go.RowKit
set_option linter.unusedVariables false
set_option linter.unusedSimpArgs false
set_option maxHeartbeats 4000000 in
set_option maxRecDepth 100000 in
theorem cloneE_any (a : Option Addr) (n c : Nat) (l : List Ent) (w : World) (h : RE w a n l) (hn : n ≤ 1000000) :
    Calls Try.prog 65 #[.slice a n c] w fun e w' => ∃ v, e = .returned v ∧ w'.ownsRow w.heap.size 35 2 v n (l.flatMap encE) ∧ Below w.heap.size w w' := by
  obtain ⟨i0, hi0, hz0, hz1, hz2⟩ := info_parts info_entry
  have HL := hide h
  have HN := hide h.1
  cases a with
  | none =>
    have hl : l = [] := by
      rcases h.2 with h0 | ⟨b, o, h0, _⟩
      · rw [List.flatMap_eq_nil_iff] at h0
        cases l with
        | nil => rfl
        | cons e l => have := h0 e (by simp); simp [encE] at this
      · cases h0
    subst hl
    obtain rfl : n = 0 := h.1
    have hq := fun w => Go.run_eql_slice_nil (P := Try.prog) w 24 35 none 0 c Try.underlying24
    clear h
    go_enter Try.func65, Try.ntmps65
    go_wp2
    go_ret
    exact ⟨_, rfl, ⟨rfl, .inl ⟨rfl, rfl⟩⟩, bl_refl _⟩
  | some ad =>
    have hq := fun w => Go.run_eql_slice_nil (P := Try.prog) w 24 35 (some ad) n c Try.underlying24
    clear h
    go_enter Try.func65, Try.ntmps65
    go_wp2_with (at_builtin; go_loud (refine wpList_append_rd _ rfl (.tmp 5) (.tmp 6) 24 rfl w.heap.size 35 i0 _ 2 24 Try.underlying24 hi0 hz0 hz1 hz2 rfl (by omega) _ 0 [] rfl (own_empty (by omega) (heap_alloc_new w _)) _ n c (l.flatMap encE) rfl (by rw [flat_len encE_len, ← HN.out]) (Rd.below HL.out.2 (bl_alloc (bl_refl w) _)) (encE_one _) (by simp only [maxLen]; omega) (by omega) (by simp) ?_; intro v7 w7 ho7 hg7 hat7))
    go_ret
    rw [Nat.zero_add, List.nil_append] at ho7
    exact ⟨_, rfl, ho7, bl_grown (bl_alloc (bl_refl w) _) hg7 (fun q hq => by have hq : some w.heap.size = some q := hq; injection hq with hq; omega)⟩
set_option maxHeartbeats 4000000 in
set_option maxRecDepth 100000 in
theorem cloneI_any (a : Option Addr) (n c : Nat) (l : List Ent) (w : World) (h : RE w a n l) (hn : n ≤ 1000000) :
    Calls Try.prog 70 #[.slice a n c] w fun e w' => ∃ v, e = .returned v ∧ w'.ownsRow w.heap.size 33 2 v n (l.flatMap encE) ∧ Below w.heap.size w w' := by
  obtain ⟨i0, hi0, hz0, hz1, hz2⟩ := info_parts info_inode
  have HL := hide h
  have HN := hide h.1
  cases a with
  | none =>
    have hl : l = [] := by
      rcases h.2 with h0 | ⟨b, o, h0, _⟩
      · rw [List.flatMap_eq_nil_iff] at h0
        cases l with
        | nil => rfl
        | cons e l => have := h0 e (by simp); simp [encE] at this
      · cases h0
    subst hl
    obtain rfl : n = 0 := h.1
    have hq := fun w => Go.run_eql_slice_nil (P := Try.prog) w 23 33 none 0 c Try.underlying23
    clear h
    go_enter Try.func70, Try.ntmps70
    go_wp2
    go_ret
    exact ⟨_, rfl, ⟨rfl, .inl ⟨rfl, rfl⟩⟩, bl_refl _⟩
  | some ad =>
    have hq := fun w => Go.run_eql_slice_nil (P := Try.prog) w 23 33 (some ad) n c Try.underlying23
    clear h
    go_enter Try.func70, Try.ntmps70
    go_wp2_with (at_builtin; go_loud (refine wpList_append_rd _ rfl (.tmp 5) (.tmp 6) 23 rfl w.heap.size 33 i0 _ 2 24 Try.underlying23 hi0 hz0 hz1 hz2 rfl (by omega) _ 0 [] rfl (own_empty (by omega) (heap_alloc_new w _)) _ n c (l.flatMap encE) rfl (by rw [flat_len encE_len, ← HN.out]) (Rd.below HL.out.2 (bl_alloc (bl_refl w) _)) (encE_one _) (by simp only [maxLen]; omega) (by omega) (by simp) ?_; intro v7 w7 ho7 hg7 hat7))
    go_ret
    rw [Nat.zero_add, List.nil_append] at ho7
    exact ⟨_, rfl, ho7, bl_grown (bl_alloc (bl_refl w) _) hg7 (fun q hq => by have hq : some w.heap.size = some q := hq; injection hq with hq; omega)⟩
set_option maxHeartbeats 4000000 in
set_option maxRecDepth 100000 in
theorem cloneO_any (a : Option Addr) (n c : Nat) (l : List DOp) (w : World) (h : RO w a n l) (hn : n ≤ 1000000) :
    Calls Try.prog 71 #[.slice a n c] w fun e w' => ∃ v, e = .returned v ∧ w'.ownsRow w.heap.size 48 4 v n (l.flatMap encO) ∧ Below w.heap.size w w' := by
  obtain ⟨i0, hi0, hz0, hz1, hz2⟩ := info_parts info_op
  have HL := hide h
  have HN := hide h.1
  cases a with
  | none =>
    have hl : l = [] := by
      rcases h.2 with h0 | ⟨b, o, h0, _⟩
      · rw [List.flatMap_eq_nil_iff] at h0
        cases l with
        | nil => rfl
        | cons e l => have := h0 e (by simp); simp [encO] at this
      · cases h0
    subst hl
    obtain rfl : n = 0 := h.1
    have hq := fun w => Go.run_eql_slice_nil (P := Try.prog) w 25 48 none 0 c Try.underlying25
    clear h
    go_enter Try.func71, Try.ntmps71
    go_wp2
    go_ret
    exact ⟨_, rfl, ⟨rfl, .inl ⟨rfl, rfl⟩⟩, bl_refl _⟩
  | some ad =>
    have hq := fun w => Go.run_eql_slice_nil (P := Try.prog) w 25 48 (some ad) n c Try.underlying25
    clear h
    go_enter Try.func71, Try.ntmps71
    go_wp2_with (at_builtin; go_loud (refine wpList_append_rd _ rfl (.tmp 5) (.tmp 6) 25 rfl w.heap.size 48 i0 _ 4 56 Try.underlying25 hi0 hz0 hz1 hz2 rfl (by omega) _ 0 [] rfl (own_empty (by omega) (heap_alloc_new w _)) _ n c (l.flatMap encO) rfl (by rw [flat_len encO_len, ← HN.out]) (Rd.below HL.out.2 (bl_alloc (bl_refl w) _)) (encO_one _) (by simp only [maxLen]; omega) (by omega) (by simp) ?_; intro v7 w7 ho7 hg7 hat7))
    go_ret
    rw [Nat.zero_add, List.nil_append] at ho7
    exact ⟨_, rfl, ho7, bl_grown (bl_alloc (bl_refl w) _) hg7 (fun q hq => by have hq : some w.heap.size = some q := hq; injection hq with hq; omega)⟩
set_option maxHeartbeats 4000000 in
set_option maxRecDepth 100000 in
theorem equal_any (a : Option Addr) (n c : Nat) (l : List Ent) (a' : Option Addr) (n' c' : Nat) (l' : List Ent) (w : World) (h : RE w a n l) (h' : RE w a' n' l') (hn : n ≤ 1000000) (hn' : n' ≤ 1000000) :
    Calls Try.prog 43 #[.slice a n c, .slice a' n' c'] w fun e w' => e = .returned (.bool (decide (l = l'))) ∧ Below w.heap.size w w' := by
  obtain ⟨r, hr⟩ : ∃ r, r = decide (l = l') := ⟨_, rfl⟩
  have HNO := hide (fun (hv : l ≠ l') => show r = false by rw [hr]; exact decide_eq_false hv)
  have HYES := hide (fun (hv : l = l') => show r = true by rw [hr]; exact decide_eq_true hv)
  rw [← hr]
  have HL := hide h
  have HL' := hide h'
  have HN := hide h.1
  have HN' := hide h'.1
  clear h h' hr
  by_cases hnn : n = n'
  · subst hnn
    go_enter Try.func43, Try.ntmps43
    go_wp2_with fail
    go_loopw [13] (fun kv wr => ∃ k : Nat, kv = .int .i64 (k : Int) ∧ k ≤ n ∧ Hid (l.take k = l'.take k) ∧ Hid (Below w.heap.size w wr)) (fun kv _ => n - (intOf kv).toNat)
    case atStart => exact ⟨0, rfl, by omega, hide (by simp), hide (bl_refl w)⟩
    case round =>
      obtain ⟨k, rfl, hk, HT, HB⟩ := hrel
      by_cases hlt : k < n
      · obtain ⟨b, o, t, x, rfl, hbl, hx, e0, e1⟩ := (HL.out.below HB.out).at_ hlt
        obtain ⟨b', o', t', x', rfl, hbl', hx', e0', e1'⟩ := (HL'.out.below HB.out).at_ hlt
        have HX := hide hx
        have HX' := hide hx'
        have hkn : (k : Int) < (n : Int) := by omega
        have HC := hide (fun (wx : World) (hC : CB wr.drew wx) => show wx.cell? ⟨b, o + k * 2, none⟩ = some (.string (bstr t)) ∧ wx.cell? ⟨b, o + k * 2 + 1, none⟩ = some (.int .i64 x) ∧ wx.cell? ⟨b', o' + k * 2, none⟩ = some (.string (bstr t')) ∧ wx.cell? ⟨b', o' + k * 2 + 1, none⟩ = some (.int .i64 x') from ⟨hC.cell e0, hC.cell e1, hC.cell e0', hC.cell e1'⟩)
        clear hx hx' hbl hbl' e0 e1 e0' e1'
        go_wp2_with fail
        by_cases hts : t = t'
        · by_cases hxs : x = x'
          · subst hts hxs
            have HT2 := hide (show l.take (k + 1) = l'.take (k + 1) by rw [List.take_add_one, List.take_add_one, HT.out, HX.out, HX'.out])
            refine wp_region_K 9 (by kernel_rfl) (by kernel_rfl) (fun Q HQ => ?_)
            simp only [List.take_succ_cons, List.take_zero, List.map_cons, List.map_nil]
            repeat
              first | apply wpS_c rfl | apply wpS_gc rfl (guard_mk rfl rfl)
              focus
                intro ev wx hC hx
                (try simp [Op.operands, Call.operands, opndS, Slot.holds] at hx)
                obtain ⟨k0, k1, k2, k3⟩ := HC.out wx hC
                go_simp
                try (first | exact rfl | exact ⟨Below.refl _ _, rfl⟩)
                done
              dsimp only [setS, List.set]
            refine wpS_nil (HQ _ fun w6 hC6 => ?_)
            simp only [closeS, List.drop_succ_cons, List.drop_zero, List.drop_nil]
            have HB6 := hide (HB.out.trans (hC6.below.mono HB.out.size))
            clear HQ hC6
            go_wp2
            go_roundw
            case rel => exact ⟨k + 1, by go_num, by omega, HT2, HB6⟩
            case measure => simp [intOf]; omega
          · have hx1 : (x == x') = false := by simpa using hxs
            obtain rfl : r = false := HNO.out (fun e => by subst e; have := HX.out.symm.trans HX'.out; injection this with this; injection this with _ this; exact hxs this)
            subst hts
            clear hxs
            refine wp_region_K 9 (by kernel_rfl) (by kernel_rfl) (fun Q HQ => ?_)
            simp only [List.take_succ_cons, List.take_zero, List.map_cons, List.map_nil]
            repeat
              first | apply wpS_c rfl | apply wpS_gc rfl (guard_mk rfl rfl)
              focus
                intro ev wx hC hx
                (try simp [Op.operands, Call.operands, opndS, Slot.holds] at hx)
                obtain ⟨k0, k1, k2, k3⟩ := HC.out wx hC
                go_simp
                try (first | exact rfl | exact ⟨Below.refl _ _, rfl⟩)
                done
              dsimp only [setS, List.set]
            refine wpS_nil (HQ _ fun w6 hC6 => ?_)
            simp only [closeS, List.drop_succ_cons, List.drop_zero, List.drop_nil]
            have HB6 := hide (HB.out.trans (hC6.below.mono HB.out.size))
            clear HQ hC6
            go_wp2
            go_ret
            exact ⟨rfl, HB6.out⟩
        · have hx1 : (t == t') = false := by simpa using hts
          obtain rfl : r = false := HNO.out (fun e => by subst e; have := HX.out.symm.trans HX'.out; injection this with this; injection this with this _; exact hts this)
          clear hts
          refine wp_region_K 9 (by kernel_rfl) (by kernel_rfl) (fun Q HQ => ?_)
          simp only [List.take_succ_cons, List.take_zero, List.map_cons, List.map_nil]
          repeat
            first | apply wpS_c rfl | apply wpS_gc rfl (guard_mk rfl rfl)
            focus
              intro ev wx hC hx
              (try simp [Op.operands, Call.operands, opndS, Slot.holds] at hx)
              obtain ⟨k0, k1, k2, k3⟩ := HC.out wx hC
              go_simp
              try (first | exact rfl | exact ⟨Below.refl _ _, rfl⟩)
              done
            dsimp only [setS, List.set]
          refine wpS_nil (HQ _ fun w6 hC6 => ?_)
          simp only [closeS, List.drop_succ_cons, List.drop_zero, List.drop_nil]
          have HB6 := hide (HB.out.trans (hC6.below.mono HB.out.size))
          clear HQ hC6
          go_wp2
          go_ret
          exact ⟨rfl, HB6.out⟩
      · obtain rfl : k = n := by omega
        have hkn : ¬ (k : Int) < (k : Int) := by omega
        obtain rfl : r = true := HYES.out (by have := HT.out; rw [List.take_of_length_le (by rw [← HN.out]; exact Nat.le_refl _), List.take_of_length_le (by rw [← HN'.out]; exact Nat.le_refl _)] at this; exact this)
        go_wp2
        go_ret
        exact ⟨rfl, HB.out⟩
  · have hnn2 : ¬ (n : Int) = (n' : Int) := by omega
    obtain rfl : r = false := HNO.out (fun e => hnn (by rw [HN.out, HN'.out, e]))
    go_enter Try.func43, Try.ntmps43
    go_wp2
    go_ret
    exact ⟨rfl, bl_refl _⟩
set_option maxHeartbeats 4000000 in
set_option maxRecDepth 100000 in
/-- What the call of a closure answers. -/
theorem vclosure_any (e : Ent) (g1 g2 : Nat) (s2 s3 s4 : Value) (a1 : Option Addr) (n1 c1 k : Nat) (T T' : TypeId) (w : World) (h1 : Blk w g1 [.slice a1 n1 c1, s2, s3, s4] T) (h2 : Blk w g2 [.int .i64 (k : Int)] T') (hk : k ≤ n1) (hn : n1 ≤ 1000000) :
    Calls Try.prog 41 #[eV e, .pointer (some ⟨g1, 0, none⟩), .pointer (some ⟨g2, 0, none⟩)] w fun r w' => r = .returned (.bool (decide ((n1 : Int) - k ≤ e.2))) ∧ Below w.heap.size w w' := by
  obtain ⟨t, x⟩ := e
  unfold eV
  simp only []
  have d0 : (w.alloc (.cells #[.string (bstr t), .int .i64 x] 35)).cell? ⟨g1, 0, none⟩ = some _ := (h1.alloc _).cell rfl
  have d1 : (w.alloc (.cells #[.string (bstr t), .int .i64 x] 35)).cell? ⟨g2, 0, none⟩ = some _ := (h2.alloc _).cell rfl
  have c0 : w.cell? ⟨g1, 0, none⟩ = some _ := h1.cell rfl
  have c1 : w.cell? ⟨g2, 0, none⟩ = some _ := h2.cell rfl
  have l1 := h1.lt
  have l2 := h2.lt
  obtain ⟨r, hr⟩ : ∃ r, r = decide ((n1 : Int) - k ≤ x) := ⟨_, rfl⟩
  rw [← hr]
  have HR := hide hr
  clear h1 h2 hr
  go_enter Try.func41, Try.ntmps41
  go_wp2
  go_ret
  exact ⟨by rw [HR.out]; rfl, bl_alloc (bl_refl w) _⟩
set_option maxHeartbeats 4000000 in
set_option maxRecDepth 100000 in
theorem indexf_any (a : Option Addr) (n c : Nat) (l : List Ent) (g1 g2 : Nat) (s2 s3 s4 : Value) (a1 : Option Addr) (n1 c1 k : Nat) (T T' : TypeId) (w : World) (h : RE w a n l) (hn : n ≤ 1000000) (h1 : Blk w g1 [.slice a1 n1 c1, s2, s3, s4] T) (h2 : Blk w g2 [.int .i64 (k : Int)] T') (hk : k ≤ n1) (hn1 : n1 ≤ 1000000) :
    Calls Try.prog 64 #[.slice a n c, .func (.func 41) #[] #[.pointer (some ⟨g1, 0, none⟩), .pointer (some ⟨g2, 0, none⟩)]] w fun e w' => (∃ r : Int, e = .returned (.int .i64 r) ∧ (0 ≤ r ↔ ∃ e ∈ l, (n1 : Int) - k ≤ e.2)) ∧ Below w.heap.size w w' := by
  have HL := hide h
  have HN := hide h.1
  have H1 := hide h1
  have H2 := hide h2
  clear h h1 h2
  go_enter Try.func64, Try.ntmps64
  go_wp2_with fail
  go_loopw [8] (fun kv wr => ∃ j : Nat, kv = .int .i64 (j : Int) ∧ j ≤ n ∧ Hid (∀ i e, i < j → l[i]? = some e → e.2 < (n1 : Int) - k) ∧ Hid (Below w.heap.size w wr)) (fun kv _ => n - (intOf kv).toNat)
  case atStart => exact ⟨0, rfl, by omega, hide (fun i e hi => absurd hi (Nat.not_lt_zero _)), hide (bl_refl w)⟩
  case round =>
    obtain ⟨j, rfl, hj, HT, HB⟩ := hrel
    by_cases hlt : j < n
    · obtain ⟨b, o, t, x, rfl, hbl, hx, e0, e1⟩ := (HL.out.below HB.out).at_ hlt
      have HX := hide hx
      have hjn : (j : Int) < (n : Int) := by omega
      clear hx hbl
      go_wp2_with fail
      refine (vclosure_any (t, x) g1 g2 s2 s3 s4 a1 n1 c1 k T T' wr (H1.out.below HB.out) (H2.out.below HB.out) hk hn1).mono ?_
      rintro e w2 ⟨rfl, hb⟩
      have HB2 := hide (HB.out.trans (hb.mono HB.out.size))
      clear hb e0 e1
      simp only []
      by_cases hx : (n1 : Int) - k ≤ x
      · rw [decide_eq_true hx]
        have HXX := hide hx
        clear hx
        go_wp2
        go_ret
        exact ⟨⟨_, rfl, fun _ => ⟨_, List.mem_of_getElem? HX.out, HXX.out⟩, fun _ => by omega⟩, HB2.out⟩
      · rw [decide_eq_false hx]
        have HXX := hide hx
        clear hx
        go_wp2
        go_roundw
        case rel =>
          refine ⟨j + 1, by go_num, by omega, hide (fun i e hi he => ?_), HB2⟩
          by_cases hij : i = j
          · subst hij
            rw [HX.out] at he
            injection he with he
            rw [← he]
            have := HXX.out
            simp only []
            omega
          · exact HT.out i e (by omega) he
        case measure => simp [intOf]; omega
    · obtain rfl : j = n := by omega
      have hjn : ¬ (j : Int) < (j : Int) := by omega
      go_wp2
      go_ret
      refine ⟨⟨_, rfl, fun h => absurd h (by decide), fun h => ?_⟩, HB.out⟩
      obtain ⟨es, ex, he0, hle⟩ := h
      have he : ((es, ex) : Ent) ∈ l := he0
      obtain ⟨i, hi, hie⟩ := List.mem_iff_getElem.1 he
      have := HT.out i _ (by rw [HN.out]; exact hi) (List.getElem?_eq_getElem hi)
      rw [hie] at this
      simp only [] at this
      omega
set_option maxRecDepth 100000 in
theorem containsf_any (a : Option Addr) (n c : Nat) (l : List Ent) (g1 g2 : Nat) (s2 s3 s4 : Value) (a1 : Option Addr) (n1 c1 k : Nat) (T T' : TypeId) (w : World) (h : RE w a n l) (hn : n ≤ 1000000) (h1 : Blk w g1 [.slice a1 n1 c1, s2, s3, s4] T) (h2 : Blk w g2 [.int .i64 (k : Int)] T') (hk : k ≤ n1) (hn1 : n1 ≤ 1000000) :
    Calls Try.prog 40 #[.slice a n c, .func (.func 41) #[] #[.pointer (some ⟨g1, 0, none⟩), .pointer (some ⟨g2, 0, none⟩)]] w fun e w' => e = .returned (.bool (l.any fun e => decide ((n1 : Int) - k ≤ e.2))) ∧ Below w.heap.size w w' := by
  obtain ⟨v, hv⟩ : ∃ v, v = l.any fun e => decide ((n1 : Int) - k ≤ e.2) := ⟨_, rfl⟩
  have hiff : v = true ↔ ∃ e ∈ l, (n1 : Int) - k ≤ e.2 := by rw [hv, List.any_eq_true]; simp
  rw [← hv]
  have HI := hide hiff
  have HX := hide (indexf_any a n c l g1 g2 s2 s3 s4 a1 n1 c1 k T T' w h hn h1 h2 hk hn1)
  clear hiff hv h h1 h2
  go_enter Try.func40, Try.ntmps40
  go_wp2_with fail
  refine HX.out.mono ?_
  rintro e w' ⟨⟨r, rfl, hr⟩, hb⟩
  have HR := hide hr
  clear hr
  by_cases h0 : 0 ≤ r
  · obtain rfl : v = true := HI.out.2 (HR.out.1 h0)
    go_wp2
    go_ret
    exact ⟨rfl, hb⟩
  · obtain rfl : v = false := by
      cases v with
      | false => rfl
      | true => exact absurd (HR.out.2 (HI.out.1 rfl)) h0
    go_wp2
    go_ret
    refine ⟨?_, hb⟩
    show Ending.returned (.bool (decide (0 ≤ r))) = _
    rw [decide_eq_false (by omega)]
end Go.Proofs.Ytjpmfiicbokdcaa
