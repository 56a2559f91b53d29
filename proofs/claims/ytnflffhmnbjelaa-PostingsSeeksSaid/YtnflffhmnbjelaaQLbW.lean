/- The walks of built and awake. -/
import Derived.Test.YtnflffhmnbjelaaQLaW
namespace Go.Proofs.Ytnflffhmnbjelaa
open Go.RowKit
set_option linter.unusedVariables false
set_option linter.unusedSimpArgs false
theorem okQ_of {z : List Int} (h : chkL z = 0) : okQ (natsOf z) := by
  obtain ⟨_, h2, h3⟩ := (chkL_zero z).1 h
  unfold natsOf
  refine ⟨?_, fun x hx => ?_⟩
  · rw [List.pairwise_map]
    refine List.Pairwise.imp_of_mem (fun {a b} ha hb hab => ?_) h3
    have := (h2 a ha).1
    have := (h2 b hb).1
    omega
  · obtain ⟨y, hy, rfl⟩ := List.mem_map.1 hx
    have := h2 y hy
    have h4 := this.1
    have h5 := this.2
    omega
theorem natsOf_iv {z : List Int} (h : chkL z = 0) : (natsOf z).map nv = z.map iv := by
  obtain ⟨_, h2, _⟩ := (chkL_zero z).1 h
  unfold natsOf
  rw [List.map_map]
  apply List.map_congr_left
  intro x hx
  have := (h2 x hx).1
  show Value.int .i64 ((x.toNat : Nat) : Int) = Value.int .i64 x
  congr 1
  omega
theorem natsOf_length (z : List Int) : (natsOf z).length = z.length := by simp [natsOf]
theorem natsOf_at {z : List Int} (h : chkL z = 0) {i : Nat} {x : Int} (hx : z[i]? = some x) : ∃ y : Nat, x = y ∧ (natsOf z)[i]? = some y := by
  obtain ⟨_, h2, _⟩ := (chkL_zero z).1 h
  have := (h2 x (List.mem_of_getElem? hx)).1
  exact ⟨x.toNat, by omega, by unfold natsOf; rw [List.getElem?_map, hx]; rfl⟩
theorem seekV_Z {z : List Int} (h : chkL z = 0) (p : Int) : seekV (natsOf z) p = seekZ z p := by
  have hr := rankQ_le (natsOf z) p
  have hlt : ∀ j y, j < rankQ (natsOf z) p → z[j]? = some y → y < p := fun j y hj hy => by
    obtain ⟨x, rfl, hx⟩ := natsOf_at h hy
    have := List.not_of_lt_findIdx hj
    obtain ⟨hl, rfl⟩ := List.getElem?_eq_some_iff.1 hx
    simp at this
    omega
  rcases Nat.lt_or_ge (rankQ (natsOf z) p) (natsOf z).length with h1 | h1
  · have h1' : rankQ (natsOf z) p < z.length := by rw [natsOf_length] at h1; exact h1
    have hx : z[rankQ (natsOf z) p]? = some z[rankQ (natsOf z) p] := List.getElem?_eq_getElem h1'
    obtain ⟨y, hy, hy2⟩ := natsOf_at h hx
    have hp : p ≤ z[rankQ (natsOf z) p] := by
      have := List.findIdx_getElem (w := h1)
      simp only [decide_eq_true_eq] at this
      obtain ⟨_, e⟩ := List.getElem?_eq_some_iff.1 hy2
      rw [hy, ← e]
      exact this
    rw [seekZ_at hlt hx hp, seekV_at rfl hy2, hy]
  · have he : rankQ (natsOf z) p = (natsOf z).length := by omega
    rw [seekV_no he, seekZ_no (by rw [he, natsOf_length] at hlt; exact hlt), natsOf_length]
set_option maxRecDepth 100000 in
theorem built_any (a : Option Addr) (n cap : Nat) (z : List Int) (w : World) (h : IsI w a n z) (hz : ∀ x ∈ z, (Lit.int .i64 x).wf = true) (hc : n ≤ cap) (hcm : cap ≤ maxLen) :
    Calls Try.prog 10 #[.slice a n cap] w fun e w' => (chkL z ≠ 0 → e = .returned (.tuple #[.pointer none, .bool true])) ∧ (chkL z = 0 → ∃ g, e = .returned (.tuple #[.pointer (some ⟨g, 0, none⟩), .bool true]) ∧ w.heap.size ≤ g ∧ LstS w' g (natsOf z)) ∧ Below w.heap.size w w' := by
  have HI := hide h
  have HBU := hide (build_any a n cap z w h hz)
  clear h hz
  go_enter Try.func10, Try.ntmps10
  go_wp2_with fail
  refine HBU.out.mono ?_
  rintro e w1 ⟨h1, h2, hb1⟩
  have HI1 := hide (HI.out.below hb1)
  have HB1 := hide hb1
  by_cases h0 : chkL z = 0
  · obtain ⟨g, rfl, hg, hs⟩ := h2 h0
    have HS := hide hs
    have HG := hide hg
    have H0 := hide h0
    clear h1 h2 hb1 hs hg h0
    go_wp2_with fail
    refine (rcheck_any a n cap z w1 HI1.out hc hcm).mono ?_
    rintro e w2 ⟨rfl, hb2⟩
    rw [H0.out]
    have HB2 := hide (HB1.out.trans (hb2.mono HB1.out.size))
    have HS2 := hide (HS.out.below hb2)
    clear hb2
    go_wp2
    go_ret2
    exact ⟨fun h => absurd H0.out h, fun _ => ⟨g, rfl, HG.out, HS2.out⟩, HB2.out⟩
  · obtain rfl := h1 h0
    have H0 := hide h0
    clear h1 h2 hb1 h0
    go_wp2_with fail
    refine (rcheck_any a n cap z w1 HI1.out hc hcm).mono ?_
    rintro e w2 ⟨rfl, hb2⟩
    have HB2 := hide (HB1.out.trans (hb2.mono HB1.out.size))
    have h0 : ((chkL z : Nat) : Int) ≠ 0 := by have := H0.out; omega
    obtain ⟨q, hq⟩ : ∃ q : Int, q = ((chkL z : Nat) : Int) := ⟨_, rfl⟩
    rw [← hq] at h0 ⊢
    have hqb : (q == 0) = false := by simpa using h0
    clear hb2 hq
    go_wp2
    go_ret2
    exact ⟨fun _ => rfl, fun h => absurd h H0.out, HB2.out⟩
theorem ex_chk : chkL [0, 4, 5] = 0 := by decide
theorem ex_nats : natsOf [0, 4, 5] = [0, 4, 5] := by decide
theorem ex_seek : seekV [0, 4, 5] 1 = .tuple #[.int .i64 4, .int .i64 1, .bool true] := by
  have h : rankQ [0, 4, 5] 1 = 1 := by decide
  exact seekV_at h rfl
theorem ex_rank : rankQ [0, 4, 5] 5 = 2 := by decide
theorem ex_ok : okQ [0, 4, 5] := ⟨by decide, by decide⟩
theorem ex_enc : encP [0, 4, 5] = [3, 7, 178] := by decide
set_option maxHeartbeats 1000000 in
set_option maxRecDepth 100000 in
theorem awake_any (w : World) : Calls Try.prog 11 #[] w fun e w' => e = .returned (.bool true) ∧ Below w.heap.size w w' := by
  have HOK := hide ex_ok
  have HSZ := hide (szQ_of ex_ok (by decide))
  go_enter Try.func11, Try.ntmps11
  go_wp2_with fail
  refine (build_any _ 3 3 [0, 4, 5] _ ⟨rfl, rd_lit w _ _ _⟩ (by decide)).mono ?_
  rintro e w1 ⟨-, h2, hb1⟩
  obtain ⟨g, rfl, hg, hs⟩ := h2 ex_chk
  rw [ex_nats] at hs
  have HS1 := hide hs
  have HB1 := hide (bl_trans (bl_alloc (bl_refl w) _) hb1)
  clear h2 hg hs hb1
  go_wp2_with fail
  refine (seek_any g [0, 4, 5] 1 w1 HS1.out HOK.out HSZ.out).mono ?_
  rintro e w2 ⟨rfl, hb2⟩
  rw [ex_seek]
  have HS2 := hide (HS1.out.below hb2)
  have HB2 := hide (bl_trans HB1.out hb2)
  clear hb2
  go_wp2_with fail
  refine (encode_any g [0, 4, 5] w2 HS2.out HOK.out (by decide)).mono ?_
  rintro e w3 ⟨v, n, rfl, -, ho, hb3⟩
  obtain ⟨hn, A, c, rfl, hc, hr, -⟩ := own_form ho
  obtain rfl : n = 7 := by
    rw [hn]
    unfold encQ
    rw [ex_enc]; rfl
  have HS3 := hide (HS2.out.below hb3)
  have HB3 := hide (bl_trans HB2.out hb3)
  have HR3 := hide (show BRd w3 A (encQ [0, 4, 5]) from hr)
  clear hb3 ho hn hr
  go_wp2_with fail
  refine (rank_any g [0, 4, 5] 5 w3 HS3.out HOK.out HSZ.out).mono ?_
  rintro e w4 ⟨rfl, hb4⟩
  rw [ex_rank]
  have hr4 : BRd w4 A [3, 7, 178] := by
    have h1 := (HR3.out.below hb4).take 3
    rwa [show (encQ [0, 4, 5]).take 3 = [3, 7, 178] by unfold encQ; rw [ex_enc]; rfl] at h1
  have k1 := run_bytes_str (P := Try.prog) w4 42 9 5 A 3 c [3, 7, 178] Try.underlying42 Try.underlying5 Try.underlying9 rfl hr4
  have e1 : (bstr [3, 7, 178] == (⟨#[3, 7, 178]⟩ : ByteArray)) = true := by decide
  have HB4 := hide (bl_trans HB3.out hb4)
  have hc3 : 3 ≤ c := by omega
  clear hb4 hr4
  go_wp2
  go_ret
  exact ⟨rfl, HB4.out⟩
end Go.Proofs.Ytnflffhmnbjelaa
