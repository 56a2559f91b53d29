/- The walk of Unpack. -/
import Derived.Test.YtchcaidcohgjbaaKUnM
import Derived.ScopeJumps
import Derived.WalkMore
namespace Go.Proofs.Ytchcaidcohgjbaa
open Go.RowKit
set_option linter.unusedVariables false
set_option linter.unusedSimpArgs false
theorem RTurn.grown {g : Nat} {w w' : World} (h : RTurn g w w') : w.grownBy w' (some g) := ⟨h.2.1, h.2.2.1, h.2.2.2.1, by rw [h.1]; exact Nat.le_refl _, fun k _ hk => h.2.2.2.2 k (fun e => hk (by rw [e]))⟩
theorem jump_ret {l : Nat} {J : Act → World → Prop} {Q : Exit → Act → World → Prop} {a : Act} {w : World} : Exit.jump l J Q .ret a w = Q .ret a w := rfl
set_option maxRecDepth 100000 in
theorem beq_any (a b : Option Addr) (n c m d : Nat) (l k : List UInt8) (w : World) (hn : n = l.length) (hm : m = k.length) (hl : BRd w a l) (hk : BRd w b k) :
    Calls Try.prog 31 #[.slice a n c, .slice b m d] w fun e w' => e = .returned (.bool (l == k)) ∧ w = w' := by
  have k1 := run_bytes_str (P := Try.prog) w 28 9 5 a n c l Try.underlying28 Try.underlying5 Try.underlying9 hn hl
  have k2 := run_bytes_str (P := Try.prog) w 28 9 5 b m d k Try.underlying28 Try.underlying5 Try.underlying9 hm hk
  clear hn hm hl hk
  go_enter Try.func31, Try.ntmps31
  go_wp2
  go_ret
  exact ⟨rfl, rfl⟩
/-- What holds at the label. -/
def JU (w : World) (b : List UInt8) (a : Act) (w' : World) : Prop := (a.tmps.size = 86 ∧ a.defers = []) ∧ Below w.heap.size w w' ∧ blkOf hlP b = none
set_option maxHeartbeats 4000000 in
set_option maxRecDepth 100000 in
theorem unpack_any (a : Option Addr) (n c : Nat) (b : List UInt8) (w : World) (hn : n = b.length) (hnc : n ≤ c) (hm : n ≤ 10000) (hcn : a = none → c = 0) (hr : BRd w a b) :
    Calls Try.prog 18 #[.slice a n c] w fun e w' => URes w.heap.size (blkOf hlP b) e w' ∧ Below w.heap.size w w' := by
  have HN := hide hn
  have HR := hide hr
  have HCN := hide hcn
  clear hn hr hcn
  go_enter Try.func18, Try.ntmps18
  go_wp2_with fail
  refine wp_scope_jumps 0 (JU w b) (fun _ _ => 0) rfl ?first ?pass
  case pass =>
    rintro ⟨T, D⟩ wx ⟨⟨hs, hd⟩, hb, hno⟩
    simp only at hs hd
    subst hd
    go_wp2
    rw [jump_ret]
    go_ret2
    rw [hno]
    exact ⟨by simp [URes, hs], hb⟩
  case first =>
    have hrs : RdrS (w.alloc (.cells #[.slice a n c, .bool true] 55)) w.heap.size true b :=
      ⟨a, n, c, heap_alloc_new w _, HN.out, hnc, by omega, HR.out.alloc _, by
        rcases HR.out with h | ⟨b', o', he, hlt, _⟩
        · left; simpa using h
        · right
          intro x hx
          rw [he] at hx; injection hx with hx; subst hx; exact hlt, HCN.out⟩
    have HB0 : Hid (Below w.heap.size w (w.alloc (.cells #[.slice a n c, .bool true] 55))) := hide (bl_alloc (bl_refl w) _)
    have HRS0 := hide hrs
    clear hrs
    go_wp2_with fail
    refine (number_any w.heap.size true b _ 128 _ HRS0.out rfl (by decide)).mono ?_
    rintro e w1 ⟨rfl, hs1, ht1, -⟩
    obtain ⟨⟨N1, o1, b1⟩, hr1⟩ : ∃ r, r = numS true b 128 := ⟨_, rfl⟩
    have le1 : N1 ≤ 128 := by have := numS_le true b 128; rw [← hr1] at this; exact this
    have ln1 : b1.length ≤ b.length := by have := numS_len true b 128; rw [← hr1] at this; exact this
    rw [← hr1] at hs1 ⊢
    simp only at hs1
    have HR1 := hide hr1
    have HS1 := hide hs1
    have HB1 := hide (HB0.out.trans (ht1.below (Nat.le_refl _)))
    clear hr1 hs1 ht1
    simp only
    go_wp2_with fail
    refine (number_any w.heap.size o1 b1 _ 31 _ HS1.out rfl (by decide)).mono ?_
    rintro e w2 ⟨rfl, hs2, ht2, -⟩
    obtain ⟨⟨N2, o2, b2⟩, hr2⟩ : ∃ r, r = numS o1 b1 31 := ⟨_, rfl⟩
    have le2 : N2 ≤ 31 := by have := numS_le o1 b1 31; rw [← hr2] at this; exact this
    have ln2 : b2.length ≤ b1.length := by have := numS_len o1 b1 31; rw [← hr2] at this; exact this
    rw [← hr2] at hs2 ⊢
    simp only at hs2
    have HR2 := hide hr2
    have HS2 := hide hs2
    have HB2 := hide (HB1.out.trans (ht2.below (Nat.le_refl _)))
    clear hr2 hs2 ht2
    simp only
    go_wp2_with fail
    refine (number_any w.heap.size o2 b2 _ 128 _ HS2.out rfl (by decide)).mono ?_
    rintro e w3 ⟨rfl, hs3, ht3, hq3⟩
    obtain ⟨⟨N3, o3, b3⟩, hr3⟩ : ∃ r, r = numS o2 b2 128 := ⟨_, rfl⟩
    have le3 : N3 ≤ 128 := by have := numS_le o2 b2 128; rw [← hr3] at this; exact this
    have ln3 : b3.length ≤ b2.length := by have := numS_len o2 b2 128; rw [← hr3] at this; exact this
    rw [← hr3] at hs3 hq3 ⊢
    simp only at hs3 hq3
    have HQ3 := hide hq3
    have HR3 := hide hr3
    have HS3 := hide hs3
    have HB3 := hide (HB2.out.trans (ht3.below (Nat.le_refl _)))
    clear hr3 hs3 ht3 hq3
    simp only
    have HDK := hide (decK_head hlP b _ _ _ HR1.out HR2.out HR3.out)
    obtain ⟨m, hmm⟩ : ∃ m, m = N1 * N2 := ⟨_, rfl⟩
    have em : (N1 : Int) * (N2 : Int) = (m : Int) := by rw [hmm]; simp
    have m1 : m ≤ 128 * 31 := by rw [hmm]; exact Nat.mul_le_mul le1 le2
    obtain ⟨S, hS⟩ : ∃ S, S = nby m := ⟨_, rfl⟩
    have es : ((m : Int) + 7) / 8 = (S : Int) := by rw [hS]; unfold nby; omega
    have s8 : m ≤ 8 * S := by rw [hS]; unfold nby; omega
    have s1 : S ≤ 1000 := by rw [hS]; unfold nby; omega
    simp only at HDK
    rw [← hmm, ← hS] at HDK
    have HM := hide hmm
    clear hmm hS HRS0 HS1 HS2
    by_cases ho : o3 = false
    · have HNO := hide (blkOf_none (HDK.out.trans (if_pos ho)))
      obtain ⟨A, n3, cc, hg, -⟩ := HS3.out
      have c0 : w3.cell? ⟨w.heap.size, 0, none⟩ = some (.slice A n3 cc) := cell_of_row w3 w.heap.size 0 _ _ _ hg
      have c1 : w3.cell? ⟨w.heap.size, 1, none⟩ = some (.bool o3) := cell_of_row w3 w.heap.size 1 _ _ _ hg
      clear hg
      subst ho
      go_wp2
      go_step3
      exact And.intro rfl ⟨⟨rfl, rfl⟩, HB3.out, HNO.out⟩
    have ho' : o3 = true := by simpa using ho
    obtain ⟨bb, o, n3, cc, hg, hn3, hnc3, hm3, hr3, hA3⟩ := HQ3.out ho'
    have c0 : w3.cell? ⟨w.heap.size, 0, none⟩ = some (.slice (some ⟨bb, o, none⟩) n3 cc) := cell_of_row w3 w.heap.size 0 _ _ _ hg
    have c1 : w3.cell? ⟨w.heap.size, 1, none⟩ = some (.bool true) := cell_of_row w3 w.heap.size 1 _ _ _ hg
    have HG := hide hg
    have HN3 := hide hn3
    have HRD := hide hr3
    have HA3 := hide hA3
    have hn3l : n3 ≤ 10000 := by have := HN.out; omega
    clear hg hn3 hr3 hA3 HS3 HQ3
    by_cases hlen : b3.length < S
    · have HNO := hide (blkOf_none ((HDK.out.trans (if_neg ho)).trans (if_pos hlen)))
      have t1 : (n3 : Int) < (S : Int) := by have := HN3.out; omega
      subst ho'
      clear hlen
      go_wp2
      go_step3
      exact And.intro rfl ⟨⟨rfl, rfl⟩, HB3.out, HNO.out⟩
    have HDK2 := hide ((HDK.out.trans (if_neg ho)).trans (if_neg hlen))
    have hSn : S ≤ n3 := by have := HN3.out; omega
    have t1 : ¬ (n3 : Int) < (S : Int) := by omega
    have t2 : (S : Int) ≤ (cc : Int) := by omega
    have t3 : (S : Int) ≤ (n3 : Int) := by omega
    subst ho'
    clear HDK ho hlen
    have hlt3 : w.heap.size < w3.heap.size := (Array.getElem?_eq_some_iff.1 HG.out).1
    go_wp2_with fail
    refine (lowest_any (some ⟨bb, o, none⟩) S cc (b3.take S) _ _ N1 N2 w3 (by rw [List.length_take]; have := HN3.out; omega) (by omega) (by omega) (BRd.take HRD.out S) rfl rfl le2 le1 (by rw [← HM.out]; exact s8)).mono ?_
    rintro e w4 ⟨v, rfl, hown, hb4⟩
    obtain ⟨vs0, hvs0⟩ : ∃ vs0, vs0 = lowsD (b3.take S) N1 N2 := ⟨_, rfl⟩
    have HV0 := hide (show vs0.length = N1 ∧ ∀ x ∈ vs0, x < 2 ^ 31 by
      rw [hvs0]
      exact ⟨lowsD_length _ _ _, fun x hx => Nat.lt_of_lt_of_le (lowsD_lt _ _ _ x hx) (Nat.pow_le_pow_right (by decide) le2)⟩)
    rw [← hvs0] at hown HDK2
    have HO4 := hide hown
    have hg4 : w4.heap[w.heap.size]? = some (.cells #[.slice (some ⟨bb, o, none⟩) n3 cc, .bool true] 55 (0, 0)) := (hb4.block _ hlt3).trans HG.out
    have d0 : w4.cell? ⟨w.heap.size, 0, none⟩ = some (.slice (some ⟨bb, o, none⟩) n3 cc) := cell_of_row w4 w.heap.size 0 _ _ _ hg4
    have d1 : w4.cell? ⟨w.heap.size, 1, none⟩ = some (.bool true) := cell_of_row w4 w.heap.size 1 _ _ _ hg4
    have f0 : w4.frozen? ⟨w.heap.size, 0, none⟩ = false := by simp [World.frozen?, hg4]
    have HG4 := hide hg4
    have HRD4 := hide (Rd.below HRD.out hb4)
    have HB4 := hide (HB3.out.trans (hb4.mono (Nat.le_of_lt hlt3)))
    have s4 : w3.heap.size ≤ w4.heap.size := hb4.size
    clear hown hb4 hvs0 hg4 c0 c1
    by_cases hcs : cc = S
    · have e0 : n3 - S = 0 := by omega
      have HS5 := hide ((RdrT.rdr (RdrS.last HG4.out HN3.out S (by omega))))
      have HO5 := hide (World.ownsRow.kept HO4.out (grown_set w4 w.heap.size 0 (.slice (some ⟨bb, o, none⟩) 0 0)) (.inr fun h => by have := (HO4.out.lt _ h).1; omega))
      have HB5 := hide (bl_set HB4.out (p := ⟨w.heap.size, 0, none⟩) (Nat.le_refl _) (.slice (some ⟨bb, o, none⟩) 0 0))
      have hz5 : w4.heap.size = (w4.setCell ⟨w.heap.size, 0, none⟩ (.slice (some ⟨bb, o, none⟩) 0 0)).heap.size := by simp [World.setCell]
      go_wp2_with fail
      generalize w4.setCell ⟨w.heap.size, 0, none⟩ (.slice (some ⟨bb, o, none⟩) 0 0) = w5 at *
      clear d0 f0 d1 HG4 HRD4 HO4 HB4 hcs HG HRD HA3 HN3 t1 t2 t3 hSn hnc3 hm3
      obtain ⟨H, hH⟩ : ∃ H, H = hlP N2 := ⟨_, rfl⟩
      have hHb : H ≤ 2147483647 := by rw [hH]; exact Nat.div_le_self _ _
      have eH : (2147483647 : Int) / 2 ^ N2 = (H : Int) := by rw [hH]; unfold hlP; simp
      have hHP : H * 2 ^ N2 ≤ 2147483647 := by rw [hH]; exact Nat.div_mul_le_self _ _
      rw [← hH] at HDK2
      have HHP := hide hHP
      clear hH hHP
      go_loopw [6, 10] (fun tv cv wr => ∃ (cnt at1 : Nat) (vs : List Nat) (rest : List UInt8), cv = .int .i64 (cnt : Int) ∧ tv = .int .i64 ((at1 : Int) - 1) ∧ cnt ≤ 128 ∧ at1 ≤ N1 ∧ Hid (vs.length = N1 ∧ ∀ x ∈ vs, x < 2 ^ 31) ∧ Hid (decK hlP b = excD H N2 cnt at1 vs rest) ∧ Hid (RdrS wr w.heap.size true rest) ∧ Hid (wr.ownsRow w3.heap.size 3 1 v N1 (vs.map nv)) ∧ Hid (Below w.heap.size w wr) ∧ w5.heap.size ≤ wr.heap.size) (fun _ cv _ => (intOf cv).toNat)
      case atStart => exact ⟨N3, 0, vs0, b3.drop S, rfl, rfl, le3, Nat.zero_le _, HV0, HDK2, HS5, HO5, HB5, Nat.le_refl _⟩
      case round =>
        obtain ⟨cnt, at1, vs, rest, rfl, rfl, hcnt, hat1, HVS, HD, HS, HO, HB, hszr⟩ := hrel
        by_cases hpos : 0 < cnt
        · have hposi : (0 : Int) < (cnt : Int) := by omega
          obtain ⟨cn, hcn⟩ : ∃ cn, cn = cnt - 1 := ⟨_, rfl⟩
          have hcc : cnt = cn + 1 := by omega
          have HDS := hide (excD_step H N2 cn at1 vs rest _ _ rfl rfl)
          have HD1 := hide (show decK hlP b = excD H N2 (cn + 1) at1 vs rest by rw [← hcc]; exact HD.out)
          clear hcn hpos
          go_wp2_with fail
          refine (number_any w.heap.size true rest _ 128 wr HS.out rfl (by decide)).mono ?_
          rintro e w6 ⟨rfl, hs6, ht6, -⟩
          obtain ⟨⟨G, q1, r1⟩, hr1⟩ : ∃ r, r = numS true rest 128 := ⟨_, rfl⟩
          have lg : G ≤ 128 := by have := numS_le true rest 128; rw [← hr1] at this; exact this
          rw [← hr1] at hs6 HDS ⊢
          simp only at hs6 HDS
          have HS6 := hide hs6
          have HO6 := hide (World.ownsRow.kept HO.out ht6.grown (.inr fun h => by have := (HO.out.lt _ h).1; omega))
          have HB6 := hide (HB.out.trans (ht6.below (Nat.le_refl _)))
          have hz6 : w6.heap.size = wr.heap.size := ht6.1
          clear hs6 ht6 hr1
          simp only
          go_wp2_with fail
          refine (number_any w.heap.size q1 r1 _ H w6 HS6.out rfl (by omega)).mono ?_
          rintro e w7 ⟨rfl, hs7, ht7, -⟩
          obtain ⟨⟨hh, q2, r2⟩, hr2⟩ : ∃ r, r = numS q1 r1 H := ⟨_, rfl⟩
          have lh : hh ≤ H := by have := numS_le q1 r1 H; rw [← hr2] at this; exact this
          rw [← hr2] at hs7 HDS ⊢
          simp only at hs7 HDS
          have HS7 := hide hs7
          have HO7 := hide (World.ownsRow.kept HO6.out ht7.grown (.inr fun h => by have := (HO6.out.lt _ h).1; omega))
          have HB7 := hide (HB6.out.trans (ht7.below (Nat.le_refl _)))
          have hz7 : w7.heap.size = wr.heap.size := by rw [ht7.1]; exact hz6
          obtain ⟨A7, n7, c7, hg7, -⟩ := hs7
          have d1 : w7.cell? ⟨w.heap.size, 1, none⟩ = some (.bool q2) := cell_of_row w7 w.heap.size 1 _ _ _ hg7
          clear hg7 ht7 hr2
          have HVL := hide HVS.out.1
          simp only
          by_cases p1 : q2 = false
          · have HNO := hide (blkOf_none ((HD1.out.trans HDS.out).trans (if_pos (.inl p1))))
            subst p1
            go_wp2
            go_step3
            exact And.intro rfl ⟨⟨rfl, rfl⟩, HB7.out, HNO.out⟩
          have p1' : q2 = true := by simpa using p1
          by_cases p2 : at1 + G < 1
          · have HNO := hide (blkOf_none ((HD1.out.trans HDS.out).trans (if_pos (.inr (.inl p2)))))
            have t2 : (at1 : Int) - 1 + G < 0 := by omega
            subst p1'
            clear p1
            go_wp2
            go_step3
            exact And.intro rfl ⟨⟨rfl, rfl⟩, HB7.out, HNO.out⟩
          by_cases p3 : N1 < at1 + G
          · have HNO := hide (blkOf_none ((HD1.out.trans HDS.out).trans (if_pos (.inr (.inr (by rw [HVL.out]; exact p3))))))
            have t2 : ¬ (at1 : Int) - 1 + G < 0 := by omega
            have t3 : (N1 : Int) ≤ (at1 : Int) - 1 + G := by omega
            subst p1'
            clear p1 p2
            go_wp2
            go_step3
            exact And.intro rfl ⟨⟨rfl, rfl⟩, HB7.out, HNO.out⟩
          have HD2 := hide ((HD1.out.trans HDS.out).trans (if_neg (fun h => h.elim p1 (fun h => h.elim p2 (fun h => p3 (by rw [HVL.out] at h; exact h))))))
          obtain ⟨p, hp⟩ : ∃ p, p = at1 + G - 1 := ⟨_, rfl⟩
          have hpN : p < N1 := by omega
          have ep : (at1 : Int) - 1 + G = (p : Int) := by omega
          have hag : at1 + G = p + 1 := by omega
          rw [hag, show p + 1 - 1 = p by omega] at HD2
          subst p1'
          clear p1 p2 p3 hp HDS HD1 HD
          obtain ⟨gv, cv, rfl, hgv⟩ := own_some HO7.out (by omega)
          obtain ⟨old, hold⟩ : ∃ old, old = vs.getD p 0 := ⟨_, rfl⟩
          have hvp : vs[p]? = some old := by
            rw [hold]
            have hpl : p < vs.length := by rw [HVL.out]; exact hpN
            simp [List.getD, hpl]
          have hold31 : old < 2 ^ 31 := HVS.out.2 old (List.mem_of_getElem? hvp)
          obtain ⟨⟨vq, hvq, mq⟩, mf⟩ := own_at HO7.out hpN
          have hvq2 : vq = .int .i64 (old : Int) := by
            rw [List.getElem?_map, hvp] at hvq
            exact (Option.some.inj hvq).symm
          rw [hvq2] at mq
          obtain ⟨X, hX⟩ : ∃ X, X = hh * 2 ^ N2 := ⟨_, rfl⟩
          have hXb : X ≤ 2147483647 := by rw [hX]; exact Nat.le_trans (Nat.mul_le_mul_right _ lh) HHP.out
          have eX : (hh : Int) * 2 ^ N2 = (X : Int) := by rw [hX]; simp
          have eO : bits .or .i64 (old : Int) (X : Int) = ((old ||| X : Nat) : Int) := i64_bor old X (by omega) (by omega)
          have hor : old ||| X < 2 ^ 31 := Nat.or_lt_two_pow hold31 (by omega)
          rw [← hold, ← hX] at HD2
          obtain ⟨Z, hZ⟩ : ∃ Z, Z = old ||| X := ⟨_, rfl⟩
          rw [← hZ] at HD2 eO hor
          have HEO := hide eO
          clear hold hX hZ hvq hvq2 hvp eO
          have eW : IntKind.i64.wrap (X : Int) = (X : Int) := by rw [IntKind.wrap_i64]; omega
          have hpi : (p : Int) < (N1 : Int) := by omega
          have t2 : ¬ (at1 : Int) - 1 + G < 0 := by omega
          have t3 : ¬ (N1 : Int) ≤ (at1 : Int) - 1 + G := by omega
          go_wp2_with fail
          refine wp_region_K 9 (by kernel_rfl) (by kernel_rfl) (fun Q HQ => ?_)
          simp only [List.take_succ_cons, List.take_zero, List.map_cons, List.map_nil]
          repeat
            first | apply wpS_c rfl | apply wpS_gc rfl (guard_mk rfl rfl)
            focus
              intro ev wx hC hx
              (try simp [Op.operands, Call.operands, opndS, Slot.holds] at hx)
              have k1 : wx.cell? _ = _ := CB.cell hC (W0 := w7.drew) mq
              have eO := HEO.out
              go_simp
              try (first | exact rfl | exact ⟨Below.refl _ _, rfl⟩)
              done
            dsimp only [setS, List.set]
          refine wpS_nil (HQ _ fun w8 hC8 => ?_)
          simp only [closeS, List.drop_succ_cons, List.drop_zero]
          clear HQ
          have HB8 := hide hC8.below
          have HO8 := hide (own_below HO7.out hC8.below)
          have HS8 := hide (HS7.out.below hC8.below)
          have HBW := hide (HB7.out.trans (hC8.below.mono HB7.out.size))
          have hz8 : w7.heap.size ≤ w8.heap.size := hC8.below.size
          have HSET := hide (own_set HO8.out hpN (nv Z))
          obtain ⟨⟨vq8, _, mq8⟩, mf8⟩ := own_at HO8.out hpN
          have hVS2 : Hid ((vs.set p Z).length = N1 ∧ ∀ x ∈ vs.set p Z, x < 2 ^ 31) := hide ⟨by rw [List.length_set]; exact HVL.out, fun x hx => by
            rcases List.mem_or_eq_of_mem_set hx with h | rfl
            · exact HVS.out.2 x h
            · exact hor⟩
          clear hC8
          have hcz : w8.heap.size = (w8.setCell ⟨gv, p, none⟩ (.int .i64 (Z : Int))).heap.size := by simp [World.setCell]
          go_wp2
          go_roundw
          case rel => exact ⟨cn, p + 1, vs.set p Z, r2, by go_num, i64_eq (by omega), by omega, by omega, hVS2, HD2, hide (HS8.out.keep (grown_set w8 gv p _) (by omega)), hide (by rw [List.map_set]; exact HSET.out), hide (bl_set HBW.out (by show w.heap.size ≤ gv; omega) _), by omega⟩
          case measure => simp [intOf]; omega
        · obtain rfl : cnt = 0 := by omega
          have HSM := hide (show decK hlP b = some vs from HD.out)
          obtain ⟨y1, A9, c9, rfl, y2, r9, y4, y5⟩ := own_form HO.out
          have HI9 := hide (IsV.isI (show IsV wr A9 N1 vs from ⟨HVS.out.1.symm, r9⟩))
          have HK9 := hide (chkV_ok vs ⟨by rw [HVS.out.1]; exact le1, HVS.out.2⟩)
          clear y1 y2 r9 y4 y5 HD
          go_wp2_with fail
          refine (pack_any A9 N1 c9 _ wr HI9.out).mono ?_
          rintro e w9 ⟨v9, rfl, -, hgood, hb9⟩
          have ho9 := hgood HK9.out
          rw [natsOf_of] at ho9
          rw [HK9.out]
          obtain ⟨pn, hpn⟩ : ∃ pn, pn = (packM vs).length := ⟨_, rfl⟩
          rw [← hpn] at ho9
          obtain ⟨y1, Ap, cp, rfl, y2, rp, y4, y5⟩ := own_form ho9
          have HRP := hide (show BRd w9 Ap (packM vs) from rp)
          have HPN := hide hpn
          have HB9 := hide (HB.out.trans (hb9.mono HB.out.size))
          have HO9 := hide (own_below HO.out hb9)
          clear y1 y2 rp y4 y5 ho9 hgood hb9 hpn
          go_wp2_with fail
          refine (beq_any Ap a pn cp n c (packM vs) b w9 HPN.out HN.out HRP.out (HR.out.below HB9.out)).mono ?_
          rintro e w' ⟨rfl, rfl⟩
          have HBS := hide (blkOf_some HSM.out)
          by_cases heq : packM vs = b
          · have t1 : (packM vs == b) = true := by rw [heq]; simp
            have HRES := hide (HBS.out.trans (if_pos ⟨HK9.out, heq⟩))
            rw [t1]
            clear heq t1 HBS
            go_wp2
            rw [jump_ret]
            go_ret2
            rw [HRES.out]
            exact ⟨⟨_, rfl, by rw [HVS.out.1]; exact own_base HO9.out (Nat.le_of_lt hlt3)⟩, HB9.out⟩
          · have t1 : (packM vs == b) = false := by rw [beq_eq_false_iff_ne]; exact heq
            have HNO := hide (HBS.out.trans (if_neg (fun h => heq h.2)))
            rw [t1]
            clear heq t1 HBS
            go_wp2
            go_step3
            exact And.intro rfl ⟨⟨rfl, rfl⟩, HB9.out, HNO.out⟩
    · have HS5 := hide ((RdrT.rdr (RdrS.step HG4.out HN3.out hnc3 hm3 HRD4.out HA3.out S hSn)))
      have HO5 := hide (World.ownsRow.kept HO4.out (grown_set w4 w.heap.size 0 (.slice (some ⟨bb, o + S, none⟩) (n3 - S) (cc - S))) (.inr fun h => by have := (HO4.out.lt _ h).1; omega))
      have HB5 := hide (bl_set HB4.out (p := ⟨w.heap.size, 0, none⟩) (Nat.le_refl _) (.slice (some ⟨bb, o + S, none⟩) (n3 - S) (cc - S)))
      have hz5 : w4.heap.size = (w4.setCell ⟨w.heap.size, 0, none⟩ (.slice (some ⟨bb, o + S, none⟩) (n3 - S) (cc - S))).heap.size := by simp [World.setCell]
      go_wp2_with fail
      generalize w4.setCell ⟨w.heap.size, 0, none⟩ (.slice (some ⟨bb, o + S, none⟩) (n3 - S) (cc - S)) = w5 at *
      clear d0 f0 d1 HG4 HRD4 HO4 HB4 hcs HG HRD HA3 HN3 t1 t2 t3 hSn hnc3 hm3
      obtain ⟨H, hH⟩ : ∃ H, H = hlP N2 := ⟨_, rfl⟩
      have hHb : H ≤ 2147483647 := by rw [hH]; exact Nat.div_le_self _ _
      have eH : (2147483647 : Int) / 2 ^ N2 = (H : Int) := by rw [hH]; unfold hlP; simp
      have hHP : H * 2 ^ N2 ≤ 2147483647 := by rw [hH]; exact Nat.div_mul_le_self _ _
      rw [← hH] at HDK2
      have HHP := hide hHP
      clear hH hHP
      go_loopw [6, 10] (fun tv cv wr => ∃ (cnt at1 : Nat) (vs : List Nat) (rest : List UInt8), cv = .int .i64 (cnt : Int) ∧ tv = .int .i64 ((at1 : Int) - 1) ∧ cnt ≤ 128 ∧ at1 ≤ N1 ∧ Hid (vs.length = N1 ∧ ∀ x ∈ vs, x < 2 ^ 31) ∧ Hid (decK hlP b = excD H N2 cnt at1 vs rest) ∧ Hid (RdrS wr w.heap.size true rest) ∧ Hid (wr.ownsRow w3.heap.size 3 1 v N1 (vs.map nv)) ∧ Hid (Below w.heap.size w wr) ∧ w5.heap.size ≤ wr.heap.size) (fun _ cv _ => (intOf cv).toNat)
      case atStart => exact ⟨N3, 0, vs0, b3.drop S, rfl, rfl, le3, Nat.zero_le _, HV0, HDK2, HS5, HO5, HB5, Nat.le_refl _⟩
      case round =>
        obtain ⟨cnt, at1, vs, rest, rfl, rfl, hcnt, hat1, HVS, HD, HS, HO, HB, hszr⟩ := hrel
        by_cases hpos : 0 < cnt
        · have hposi : (0 : Int) < (cnt : Int) := by omega
          obtain ⟨cn, hcn⟩ : ∃ cn, cn = cnt - 1 := ⟨_, rfl⟩
          have hcc : cnt = cn + 1 := by omega
          have HDS := hide (excD_step H N2 cn at1 vs rest _ _ rfl rfl)
          have HD1 := hide (show decK hlP b = excD H N2 (cn + 1) at1 vs rest by rw [← hcc]; exact HD.out)
          clear hcn hpos
          go_wp2_with fail
          refine (number_any w.heap.size true rest _ 128 wr HS.out rfl (by decide)).mono ?_
          rintro e w6 ⟨rfl, hs6, ht6, -⟩
          obtain ⟨⟨G, q1, r1⟩, hr1⟩ : ∃ r, r = numS true rest 128 := ⟨_, rfl⟩
          have lg : G ≤ 128 := by have := numS_le true rest 128; rw [← hr1] at this; exact this
          rw [← hr1] at hs6 HDS ⊢
          simp only at hs6 HDS
          have HS6 := hide hs6
          have HO6 := hide (World.ownsRow.kept HO.out ht6.grown (.inr fun h => by have := (HO.out.lt _ h).1; omega))
          have HB6 := hide (HB.out.trans (ht6.below (Nat.le_refl _)))
          have hz6 : w6.heap.size = wr.heap.size := ht6.1
          clear hs6 ht6 hr1
          simp only
          go_wp2_with fail
          refine (number_any w.heap.size q1 r1 _ H w6 HS6.out rfl (by omega)).mono ?_
          rintro e w7 ⟨rfl, hs7, ht7, -⟩
          obtain ⟨⟨hh, q2, r2⟩, hr2⟩ : ∃ r, r = numS q1 r1 H := ⟨_, rfl⟩
          have lh : hh ≤ H := by have := numS_le q1 r1 H; rw [← hr2] at this; exact this
          rw [← hr2] at hs7 HDS ⊢
          simp only at hs7 HDS
          have HS7 := hide hs7
          have HO7 := hide (World.ownsRow.kept HO6.out ht7.grown (.inr fun h => by have := (HO6.out.lt _ h).1; omega))
          have HB7 := hide (HB6.out.trans (ht7.below (Nat.le_refl _)))
          have hz7 : w7.heap.size = wr.heap.size := by rw [ht7.1]; exact hz6
          obtain ⟨A7, n7, c7, hg7, -⟩ := hs7
          have d1 : w7.cell? ⟨w.heap.size, 1, none⟩ = some (.bool q2) := cell_of_row w7 w.heap.size 1 _ _ _ hg7
          clear hg7 ht7 hr2
          have HVL := hide HVS.out.1
          simp only
          by_cases p1 : q2 = false
          · have HNO := hide (blkOf_none ((HD1.out.trans HDS.out).trans (if_pos (.inl p1))))
            subst p1
            go_wp2
            go_step3
            exact And.intro rfl ⟨⟨rfl, rfl⟩, HB7.out, HNO.out⟩
          have p1' : q2 = true := by simpa using p1
          by_cases p2 : at1 + G < 1
          · have HNO := hide (blkOf_none ((HD1.out.trans HDS.out).trans (if_pos (.inr (.inl p2)))))
            have t2 : (at1 : Int) - 1 + G < 0 := by omega
            subst p1'
            clear p1
            go_wp2
            go_step3
            exact And.intro rfl ⟨⟨rfl, rfl⟩, HB7.out, HNO.out⟩
          by_cases p3 : N1 < at1 + G
          · have HNO := hide (blkOf_none ((HD1.out.trans HDS.out).trans (if_pos (.inr (.inr (by rw [HVL.out]; exact p3))))))
            have t2 : ¬ (at1 : Int) - 1 + G < 0 := by omega
            have t3 : (N1 : Int) ≤ (at1 : Int) - 1 + G := by omega
            subst p1'
            clear p1 p2
            go_wp2
            go_step3
            exact And.intro rfl ⟨⟨rfl, rfl⟩, HB7.out, HNO.out⟩
          have HD2 := hide ((HD1.out.trans HDS.out).trans (if_neg (fun h => h.elim p1 (fun h => h.elim p2 (fun h => p3 (by rw [HVL.out] at h; exact h))))))
          obtain ⟨p, hp⟩ : ∃ p, p = at1 + G - 1 := ⟨_, rfl⟩
          have hpN : p < N1 := by omega
          have ep : (at1 : Int) - 1 + G = (p : Int) := by omega
          have hag : at1 + G = p + 1 := by omega
          rw [hag, show p + 1 - 1 = p by omega] at HD2
          subst p1'
          clear p1 p2 p3 hp HDS HD1 HD
          obtain ⟨gv, cv, rfl, hgv⟩ := own_some HO7.out (by omega)
          obtain ⟨old, hold⟩ : ∃ old, old = vs.getD p 0 := ⟨_, rfl⟩
          have hvp : vs[p]? = some old := by
            rw [hold]
            have hpl : p < vs.length := by rw [HVL.out]; exact hpN
            simp [List.getD, hpl]
          have hold31 : old < 2 ^ 31 := HVS.out.2 old (List.mem_of_getElem? hvp)
          obtain ⟨⟨vq, hvq, mq⟩, mf⟩ := own_at HO7.out hpN
          have hvq2 : vq = .int .i64 (old : Int) := by
            rw [List.getElem?_map, hvp] at hvq
            exact (Option.some.inj hvq).symm
          rw [hvq2] at mq
          obtain ⟨X, hX⟩ : ∃ X, X = hh * 2 ^ N2 := ⟨_, rfl⟩
          have hXb : X ≤ 2147483647 := by rw [hX]; exact Nat.le_trans (Nat.mul_le_mul_right _ lh) HHP.out
          have eX : (hh : Int) * 2 ^ N2 = (X : Int) := by rw [hX]; simp
          have eO : bits .or .i64 (old : Int) (X : Int) = ((old ||| X : Nat) : Int) := i64_bor old X (by omega) (by omega)
          have hor : old ||| X < 2 ^ 31 := Nat.or_lt_two_pow hold31 (by omega)
          rw [← hold, ← hX] at HD2
          obtain ⟨Z, hZ⟩ : ∃ Z, Z = old ||| X := ⟨_, rfl⟩
          rw [← hZ] at HD2 eO hor
          have HEO := hide eO
          clear hold hX hZ hvq hvq2 hvp eO
          have eW : IntKind.i64.wrap (X : Int) = (X : Int) := by rw [IntKind.wrap_i64]; omega
          have hpi : (p : Int) < (N1 : Int) := by omega
          have t2 : ¬ (at1 : Int) - 1 + G < 0 := by omega
          have t3 : ¬ (N1 : Int) ≤ (at1 : Int) - 1 + G := by omega
          go_wp2_with fail
          refine wp_region_K 9 (by kernel_rfl) (by kernel_rfl) (fun Q HQ => ?_)
          simp only [List.take_succ_cons, List.take_zero, List.map_cons, List.map_nil]
          repeat
            first | apply wpS_c rfl | apply wpS_gc rfl (guard_mk rfl rfl)
            focus
              intro ev wx hC hx
              (try simp [Op.operands, Call.operands, opndS, Slot.holds] at hx)
              have k1 : wx.cell? _ = _ := CB.cell hC (W0 := w7.drew) mq
              have eO := HEO.out
              go_simp
              try (first | exact rfl | exact ⟨Below.refl _ _, rfl⟩)
              done
            dsimp only [setS, List.set]
          refine wpS_nil (HQ _ fun w8 hC8 => ?_)
          simp only [closeS, List.drop_succ_cons, List.drop_zero]
          clear HQ
          have HB8 := hide hC8.below
          have HO8 := hide (own_below HO7.out hC8.below)
          have HS8 := hide (HS7.out.below hC8.below)
          have HBW := hide (HB7.out.trans (hC8.below.mono HB7.out.size))
          have hz8 : w7.heap.size ≤ w8.heap.size := hC8.below.size
          have HSET := hide (own_set HO8.out hpN (nv Z))
          obtain ⟨⟨vq8, _, mq8⟩, mf8⟩ := own_at HO8.out hpN
          have hVS2 : Hid ((vs.set p Z).length = N1 ∧ ∀ x ∈ vs.set p Z, x < 2 ^ 31) := hide ⟨by rw [List.length_set]; exact HVL.out, fun x hx => by
            rcases List.mem_or_eq_of_mem_set hx with h | rfl
            · exact HVS.out.2 x h
            · exact hor⟩
          clear hC8
          have hcz : w8.heap.size = (w8.setCell ⟨gv, p, none⟩ (.int .i64 (Z : Int))).heap.size := by simp [World.setCell]
          go_wp2
          go_roundw
          case rel => exact ⟨cn, p + 1, vs.set p Z, r2, by go_num, i64_eq (by omega), by omega, by omega, hVS2, HD2, hide (HS8.out.keep (grown_set w8 gv p _) (by omega)), hide (by rw [List.map_set]; exact HSET.out), hide (bl_set HBW.out (by show w.heap.size ≤ gv; omega) _), by omega⟩
          case measure => simp [intOf]; omega
        · obtain rfl : cnt = 0 := by omega
          have HSM := hide (show decK hlP b = some vs from HD.out)
          obtain ⟨y1, A9, c9, rfl, y2, r9, y4, y5⟩ := own_form HO.out
          have HI9 := hide (IsV.isI (show IsV wr A9 N1 vs from ⟨HVS.out.1.symm, r9⟩))
          have HK9 := hide (chkV_ok vs ⟨by rw [HVS.out.1]; exact le1, HVS.out.2⟩)
          clear y1 y2 r9 y4 y5 HD
          go_wp2_with fail
          refine (pack_any A9 N1 c9 _ wr HI9.out).mono ?_
          rintro e w9 ⟨v9, rfl, -, hgood, hb9⟩
          have ho9 := hgood HK9.out
          rw [natsOf_of] at ho9
          rw [HK9.out]
          obtain ⟨pn, hpn⟩ : ∃ pn, pn = (packM vs).length := ⟨_, rfl⟩
          rw [← hpn] at ho9
          obtain ⟨y1, Ap, cp, rfl, y2, rp, y4, y5⟩ := own_form ho9
          have HRP := hide (show BRd w9 Ap (packM vs) from rp)
          have HPN := hide hpn
          have HB9 := hide (HB.out.trans (hb9.mono HB.out.size))
          have HO9 := hide (own_below HO.out hb9)
          clear y1 y2 rp y4 y5 ho9 hgood hb9 hpn
          go_wp2_with fail
          refine (beq_any Ap a pn cp n c (packM vs) b w9 HPN.out HN.out HRP.out (HR.out.below HB9.out)).mono ?_
          rintro e w' ⟨rfl, rfl⟩
          have HBS := hide (blkOf_some HSM.out)
          by_cases heq : packM vs = b
          · have t1 : (packM vs == b) = true := by rw [heq]; simp
            have HRES := hide (HBS.out.trans (if_pos ⟨HK9.out, heq⟩))
            rw [t1]
            clear heq t1 HBS
            go_wp2
            rw [jump_ret]
            go_ret2
            rw [HRES.out]
            exact ⟨⟨_, rfl, by rw [HVS.out.1]; exact own_base HO9.out (Nat.le_of_lt hlt3)⟩, HB9.out⟩
          · have t1 : (packM vs == b) = false := by rw [beq_eq_false_iff_ne]; exact heq
            have HNO := hide (HBS.out.trans (if_neg (fun h => heq h.2)))
            rw [t1]
            clear heq t1 HBS
            go_wp2
            go_step3
            exact And.intro rfl ⟨⟨rfl, rfl⟩, HB9.out, HNO.out⟩
end Go.Proofs.Ytchcaidcohgjbaa
