/- The frame of the law ChecksumChains: by program (frame.py); the walk is the text before it. -/
import Derived.Test.YtgmljklgdokddaaChainsW
import Derived.Test.YtgmljklgdokddaaOpen
import Derived.Test.YtgmljklgdokddaaRows
namespace Go.Proofs.Ytgmljklgdokddaa.checksumChains
open Go.ChangeShapes Go.WideShapes Go.ChangeAt Go.RowKit
open Go.ChangeMaps (open_string shut_string)
set_option linter.unusedVariables false
theorem own : ownKnob Try.prog.godebug = none := by kernel_rfl
theorem laidOut : laidOutB Try.prog = true := by kernel_rfl
set_option maxRecDepth 100000 in
theorem lifted (os : Os) (started : os.Started) (H : Type) (enc : TypeId × Value → H) :
    ReturnsInHanded {} Try.checked os 10 .any (Rows.checksumChainsSpec.pre6 enc Try.prog Try.f10 Rows.checksumChainsRow.domain false) (Rows.checksumChainsSpec.post enc Try.prog Try.f10 false true false false) := by
  refine returnsInHanded_of_change (C := Try.checked) own started (by kernel_rfl) Try.func10
    (ChangeSpec.witness6 (enc := enc) (C := Try.checked) false ⟨#[], #[.agg #[.int .u32 0, .int .u32 0, .int .u32 0, .int .u8 0, .int .u8 0]], []⟩ 8 (by kernel_rfl) (by kernel_rfl) (by kernel_rfl) (by kernel_rfl)) ?_
  intro W base args ds gs before hval0 hW hcnd _
  have hval : ∀ (j : Nat) t v, Try.f10.params[j]? = some t → args[j]? = some v → Value.okWide Try.prog W .any base t v := hval0
  have hW' := hW
  obtain ⟨p, q, hA0, hV, rfl, hfz, hnd⟩ := hW
  have hA : DataW.TrodAll enc Try.prog W 0 (fun _ => true) true Try.f10.params.toList args.toList ds p := hA0
  rw [Try.params10] at hA hval
  obtain ⟨v0, vs0, d0, ds0, p0, q0, hargs, rfl, rfl, h0, r0⟩ := trodAll_cons hA
  obtain ⟨rfl, rfl, rfl⟩ := trodAll_nil r0
  obtain rfl : args = #[v0] := by cases args; simp_all
  obtain ⟨rfl, rfl⟩ := trodVars_none hV
  have k0 := h0
  have lt0 : ∀ x ∈ p0, x.block < W.heap.size := by obtain ⟨m, hm⟩ := k0; exact DataW.trod_lt m _ _ _ hm
  obtain ⟨c0, c1, c2, c3, c4, y0, y1, y2, y3, y4, m0, rfl, hd, hp, e0, e1, e2, e3, e4⟩ := open_agg5 Try.underlying41 (by kernel_rfl) (by kernel_rfl) (hval 0 41 v0 rfl rfl) h0
  obtain ⟨n0, q, _, g0⟩ := DataW.trod_int Try.underlying23 e0
  obtain rfl : c0 = .int .u32 n0 := by simpa using q
  obtain ⟨n1, q, _, g1⟩ := DataW.trod_int Try.underlying23 e1
  obtain rfl : c1 = .int .u32 n1 := by simpa using q
  obtain ⟨n2, q, _, g2⟩ := DataW.trod_int Try.underlying23 e2
  obtain rfl : c2 = .int .u32 n2 := by simpa using q
  obtain ⟨n3, q, _, g3⟩ := DataW.trod_int Try.underlying5 e3
  obtain rfl : c3 = .int .u8 n3 := by simpa using q
  obtain ⟨n4, q, _, g4⟩ := DataW.trod_int Try.underlying5 e4
  obtain rfl : c4 = .int .u8 n4 := by simpa using q
  clear hA0 hval0
  refine (walk n0 n1 n2 n3 n4 W ⟨g0, g1, g2, g3, g4⟩).mono fun e W' ⟨he, bel⟩ => ?_
  subst he
  exact ⟨_, rfl, _, _, _, [], _, [], hW', trodAll_mk1 (shut_bool Try.underlying4 _), (trodAll_cons_mk (Below.trod laidOut (by kernel_rfl) (of_decide_eq_true (by kernel_rfl)) k0 bel lt0) trodAll_mk0), rfl, bel.frame _, fun h => by cases h⟩

theorem over : Rows.checksumChainsRow.holds Try.pinned (OpenSpec.ofChange Rows.checksumChainsSpec) :=
  OpenClaim.holds_of_wide 10 Try.f10 rfl rfl rfl rfl rfl rfl rfl ⟨rfl, rfl, rfl, rfl, rfl⟩ rfl rfl rfl rfl rfl (by kernel_rfl) Try.func10 (by kernel_rfl)
    (of_decide_eq_true (by kernel_rfl)) (by unfold Func.isWrapper; first | (rw [if_pos (by decide +kernel)]; kernel_rfl) | (rw [if_neg (by decide +kernel)]; exact ⟨rfl, rfl⟩))
    (fun os started H enc _ => lifted os started H enc)

/-- For every input the law ChecksumChains returns true, and its arguments read afterwards as they read before. No condition. -/
theorem proved : Rows.ChecksumChainsSaid := over
#print axioms proved
end Go.Proofs.Ytgmljklgdokddaa.checksumChains
