/- The walk of NewReader. -/
import Derived.Test.YtbicpnhgokngeaaRd4W
namespace Go.Proofs.Ytbicpnhgokngeaa
open Go.RowKit
set_option linter.unusedVariables false
set_option linter.unusedSimpArgs false
theorem unpack_take (p : List UInt8) (n m : Nat) (h : n ≤ 8 * m) : unpackL (p.take m) n = unpackL p n := by
  unfold unpackL
  apply List.map_congr_left
  intro i hi
  have hi := List.mem_range.1 hi
  unfold bitAt
  rw [show (p.take m).getD (i / 8) 0 = p.getD (i / 8) 0 by
    simp only [List.getD]
    rw [List.getElem?_take, if_pos (by omega)]]
set_option maxHeartbeats 1000000 in
set_option maxRecDepth 100000 in
theorem newreader_any (A : Option Addr) (len c : Nat) (p : List UInt8) (n : Int) (w : World) (hl : len = p.length) (hc : len ≤ c) (hm : len ≤ 10000) (hr : BRd w A p) (hn : 0 ≤ n ∧ n ≤ 8 * (len : Int)) :
    Calls Try.prog 26 #[.slice A len c, .int .i64 n] w fun e w' => ∃ g, e = .returned (.tuple #[.pointer (some ⟨g, 0, none⟩), .int .i64 0]) ∧ w.heap.size ≤ g ∧ RdS w' w.heap.size g (unpackL p n.toNat) 0 ∧ Below w.heap.size w w' := by
  obtain ⟨nn, rfl⟩ := Int.eq_ofNat_of_zero_le hn.1
  have hn8 : nn ≤ 8 * len := by omega
  have HL := hide hl
  have HR := hide hr
  obtain ⟨m, hmm⟩ : ∃ m, m = nby nn := ⟨_, rfl⟩
  have em : ((nn : Int) + 7) / 8 = (m : Int) := by rw [hmm]; unfold nby; omega
  have hml : m ≤ len := by rw [hmm]; unfold nby; omega
  have hmn : nn ≤ 8 * m := by rw [hmm]; unfold nby; omega
  clear hl hr hmm hn
  obtain ⟨i0, hi0, hz0, hz1, hz2⟩ := info_parts info_u8
  have gc : (m : Int) ≤ c := by omega
  have hln : (p.take m).length = m := by rw [List.length_take, ← HL.out]; omega
  have HLN := hide hln
  have g8 : ¬ 8 * (len : Int) < nn := by omega
  clear hln
  go_enter Try.func26, Try.ntmps26
  go_wp2_with (at_builtin; go_loud (refine wpList_append_rd _ rfl (.tmp 15) (.tmp 20) 36 rfl w.heap.size 5 i0 _ 1 1 Try.underlying36 hi0 hz0 hz1 hz2 rfl (by omega) (.slice (some ⟨w.heap.size, 0, none⟩) 0 0) 0 [] rfl (own_empty (Nat.le_refl _) (heap_alloc_new w _)) A m c ((p.take m).map u8v) rfl (by rw [List.length_map, Nat.mul_one]; exact HLN.out) ((HR.out.take m).alloc _) (u8s_one _) (by simp only [maxLen]; omega) (by omega) (by simp) ?_); intro v2 w2 ho2 hg2 hat2; rw [Nat.zero_add, List.nil_append] at ho2; obtain ⟨hx1, A2, c2, rfl, hx2, hrd2, hx3⟩ := own_form ho2; have H2 := hide (And.intro hrd2 hx3); have hb2 : Below w.heap.size w w2 := bl_grown (bl_alloc (bl_refl w) _) hg2 (fun k h => by simp [Value.ownBlock] at h; omega); have HO2 := hide ho2; clear hx1 hx2 hrd2 hx3 ho2 hg2 hat2)
  go_ret2
  refine ⟨w2.heap.size, rfl, hb2.size, ?_, bl_alloc hb2 _⟩
  refine ⟨A2, m, c2, p.take m, ?_, hb2.size, ?_, HLN.out.symm, ?_, ?_, ?_, Nat.zero_le _, ?_⟩
  · rw [unpackL_length]; exact heap_alloc_new w2 _
  · exact BRd.alloc H2.out.1 _
  · rw [unpackL_length]; exact hmn
  · rw [unpackL_length]; exact unpack_take p nn m hmn
  · intro b hb
    subst hb
    have := (HO2.out.lt b.block rfl).2
    omega
  · rw [unpackL_length]; omega
set_option maxRecDepth 100000 in
theorem newreader_bad (A : Option Addr) (len c : Nat) (n : Int) (w : World) (hm : len ≤ 10000) (hn : n < 0 ∨ 8 * (len : Int) < n) :
    Calls Try.prog 26 #[.slice A len c, .int .i64 n] w fun e w' => e = .returned (.tuple #[.pointer none, .int .i64 1]) ∧ w = w' := by
  by_cases h1 : n < 0
  · clear hn
    go_enter Try.func26, Try.ntmps26
    go_wp2
    go_ret2
    exact ⟨rfl, rfl⟩
  · have h2 : 8 * (len : Int) < n := by omega
    clear hn
    go_enter Try.func26, Try.ntmps26
    go_wp2
    go_ret2
    exact ⟨rfl, rfl⟩
theorem RStep.alloc {base g : Nat} {L : List Bool} {w w' : World} {pos : Nat} {o : Obj} (h : RStep base g L (w.alloc o) pos w') (hg : g < w.heap.size) : RdS w' base g L pos ∧ w.heap.size ≤ w'.heap.size ∧ w'.os = w.os ∧ w'.tape = w.tape ∧ w'.output = w.output ∧ ∀ k, k < w.heap.size → k ≠ g → w'.heap[k]? = w.heap[k]? :=
  ⟨h.1, by rw [h.2.1]; simp, h.2.2.1, h.2.2.2.1, h.2.2.2.2.1, fun k hk hne => (h.2.2.2.2.2 k hne).trans (Below.heap_alloc w o k hk)⟩
/-- Behind a call of a Reader: only g turned, and there is more memory. -/
def RGo (base g : Nat) (L : List Bool) (w : World) (pos : Nat) (w' : World) : Prop := RdS w' base g L pos ∧ w.heap.size ≤ w'.heap.size ∧ w'.os = w.os ∧ w'.tape = w.tape ∧ w'.output = w.output ∧ ∀ k, k < w.heap.size → k ≠ g → w'.heap[k]? = w.heap[k]?
theorem RGo.below {base g : Nat} {L : List Bool} {w w' : World} {pos : Nat} (h : RGo base g L w pos w') (hg : base ≤ g) (hs : base ≤ w.heap.size) : Below base w w' :=
  ⟨h.2.2.1, h.2.2.2.1, h.2.2.2.2.1, h.2.1, fun k hk => h.2.2.2.2.2 k (by omega) (by omega)⟩
theorem RStep.go {base g : Nat} {L : List Bool} {w w' : World} {pos : Nat} (h : RStep base g L w pos w') : RGo base g L w pos w' := ⟨h.1, by rw [h.2.1]; exact Nat.le_refl _, h.2.2.1, h.2.2.2.1, h.2.2.2.2.1, fun k _ hne => h.2.2.2.2.2 k hne⟩
theorem RdS.pos_le {w : World} {base g : Nat} {L : List Bool} {pos : Nat} (h : RdS w base g L pos) : pos ≤ L.length := by
  obtain ⟨A, m, c, p, h1, h2, h3, h4, h5, h6, h7, h8, h9⟩ := h
  exact h8
theorem RGo.rd {base g : Nat} {L : List Bool} {w w' : World} {pos : Nat} (h : RGo base g L w pos w') {A : Option Addr} {xs : List Value} (hr : Rd w A xs) (hne : ∀ b, A = some b → b.block ≠ g) : Rd w' A xs := by
  rcases hr with rfl | ⟨b, o, rfl, hb, hc⟩
  · exact .inl rfl
  · exact .inr ⟨b, o, rfl, Nat.lt_of_lt_of_le hb h.2.1, fun k v hv => (World.cell?_of_block (h.2.2.2.2.2 b hb (hne _ rfl))).trans (hc k v hv)⟩
end Go.Proofs.Ytbicpnhgokngeaa
