/- The frame of the law DiskRaw: by program (frame.py); the walk is the text before it. -/
import Derived.Test.YtjpmfiicbokdcaaFmW
import Derived.Test.YtjpmfiicbokdcaaRows
namespace Go.Proofs.Ytjpmfiicbokdcaa.diskRaw
open Go.ChangeShapes Go.WideShapes Go.ChangeAt Go.RowKit
open Go.ChangeMaps (open_string shut_string)
set_option linter.unusedVariables false
section
variable {H : Type} {enc : TypeId × Value → H} {P : Program} {w : World} {base : Nat} {spare : Nat → Bool} {held : Bool}
open Go.Joins Go.Deep in
theorem open_agg4 {r : Reach} {b0 : Nat} {t : TypeId} {f0 f1 f2 f3 : Field} {v : Value} {d : DataW H} {p : List MemPlace} (hs : P.underlying t = some (.struct #[f0, f1, f2, f3])) (hone : oneCellFields P #[f0, f1, f2, f3] = true) (hC : P.cellsOf t = 4)
    (hv : Value.okWide P w r b0 t v) (h : DataW.Trod enc P w base spare held t v d p) :
    ∃ (v0 v1 v2 v3 : Value) (y0 y1 y2 y3 : DataW H × List MemPlace) (n : Nat), v = .agg #[v0, v1, v2, v3] ∧ d = .agg [y0.1, y1.1, y2.1, y3.1] ∧ p = y0.2 ++ (y1.2 ++ (y2.2 ++ y3.2)) ∧
      DataW.trod enc P w base spare held n f0.type [v0] = some y0 ∧ DataW.trod enc P w base spare held n f1.type [v1] = some y1 ∧ DataW.trod enc P w base spare held n f2.type [v2] = some y2 ∧ DataW.trod enc P w base spare held n f3.type [v3] = some y3 := by
  obtain ⟨cs, rfl, hsz⟩ := okWide_struct hs hv
  obtain ⟨l⟩ := cs
  match l, hsz.trans hC with
  | [c0, c1, c2, c3], _ =>
    obtain ⟨fuel, hf⟩ := h
    obtain ⟨xs, n, _, hx, _, hlen, hg⟩ := DataW.trod_struct hs hf
    obtain ⟨o0, k0⟩ := hone_of hone 0 f0 rfl
    obtain ⟨o1, k1⟩ := hone_of hone 1 f1 rfl
    obtain ⟨o2, k2⟩ := hone_of hone 2 f2 rfl
    obtain ⟨o3, k3⟩ := hone_of hone 3 f3 rfl
    match xs, hlen with
    | [y0, y1, y2, y3], _ =>
      simp only [Prod.mk.injEq] at hx
      exact ⟨c0, c1, c2, c3, y0, y1, y2, y3, n, rfl, by simpa using hx.1, by simpa using hx.2, by simpa [Value.cells, o0, k0] using hg 0 f0 rfl, by simpa [Value.cells, o1, k1] using hg 1 f1 rfl, by simpa [Value.cells, o2, k2] using hg 2 f2 rfl, by simpa [Value.cells, o3, k3] using hg 3 f3 rfl⟩
open Go.Joins Go.Deep in
theorem sl_of {t e : TypeId} {fs : Array Field} {fuel : Nat} {c : Value} {x : DataW H × List MemPlace} (ht : P.underlying t = some (.slice e)) (he : P.underlying e = some (.struct fs))
    (hone : oneCellFields P fs = true) (hC : P.cellsOf e = fs.size) (h : DataW.trod enc P w base spare held fuel t [c] = some x) : ∃ a len cap, c = .slice a len cap := by
  rcases open_slice_fields ht he hone hC h with ⟨hcs, _⟩ | ⟨ad, l, k, m, D, Pl, hcs, _⟩
  · exact ⟨_, _, _, by simpa using hcs⟩
  · exact ⟨_, _, _, by simpa using hcs⟩
end
theorem own : ownKnob Try.prog.godebug = none := by kernel_rfl
theorem laidOut : laidOutB Try.prog = true := by kernel_rfl
set_option maxRecDepth 100000 in
theorem lifted (os : Os) (started : os.Started) (H : Type) (enc : TypeId × Value → H) :
    ReturnsInHanded {} Try.checked os 11 .any (Rows.diskRawSpec.pre6 enc Try.prog Try.f11 Rows.diskRawRow.domain false) (Rows.diskRawSpec.post enc Try.prog Try.f11 false true false false) := by
  refine returnsInHanded_of_change_sized (C := Try.checked) own started (by kernel_rfl) Try.func11
    (ChangeSpec.witness6 (enc := enc) (C := Try.checked) false ⟨#[], #[.agg #[.slice none 0 0, .slice none 0 0, .slice none 0 0, .slice none 0 0], .agg #[.int .i64 0, .string ByteArray.empty, .string ByteArray.empty, .string ByteArray.empty], .slice none 0 0], []⟩ 8 (by kernel_rfl) (by kernel_rfl) (by kernel_rfl) (by kernel_rfl)) ?_
  intro W base args ds gs before hval0 hW hcnd hsz _
  have hval : ∀ (j : Nat) t v, Try.f11.params[j]? = some t → args[j]? = some v → Value.okWide Try.prog W .any base t v := hval0
  have hW' := hW
  obtain ⟨p, q, hA0, hV, rfl, hfz, hnd⟩ := hW
  have hA : DataW.TrodAll enc Try.prog W 0 (fun _ => true) true Try.f11.params.toList args.toList ds p := hA0
  rw [Try.params11] at hA hval
  obtain ⟨v0, vs0, d0, ds0, p0, q0, hargs, rfl, rfl, h0, r0⟩ := trodAll_cons hA
  obtain ⟨v1, vs1, d1, ds1, p1, q1, rfl, rfl, rfl, h1, r1⟩ := trodAll_cons r0
  obtain ⟨v2, vs2, d2, ds2, p2, q2, rfl, rfl, rfl, h2, r2⟩ := trodAll_cons r1
  obtain ⟨rfl, rfl, rfl⟩ := trodAll_nil r2
  obtain rfl : args = #[v0, v1, v2] := by cases args; simp_all
  obtain ⟨rfl, rfl⟩ := trodVars_none hV
  have k0 := h0
  have lt0 : ∀ x ∈ p0, x.block < W.heap.size := by obtain ⟨m, hm⟩ := k0; exact DataW.trod_lt m _ _ _ hm
  have k1 := h1
  have lt1 : ∀ x ∈ p1, x.block < W.heap.size := by obtain ⟨m, hm⟩ := k1; exact DataW.trod_lt m _ _ _ hm
  have k2 := h2
  have lt2 : ∀ x ∈ p2, x.block < W.heap.size := by obtain ⟨m, hm⟩ := k2; exact DataW.trod_lt m _ _ _ hm
  obtain ⟨c0, c1, c2, c3, y0, y1, y2, y3, m0, rfl, rfl, rfl, e0, e1, e2, e3⟩ := open_agg4 Try.underlying27 (by kernel_rfl) (by kernel_rfl) (hval 0 27 v0 rfl rfl) h0
  obtain ⟨A0, N0, C0, L0, rfl, x0, xa0, xb0⟩ := inos_open (sl_of Try.underlying23 Try.underlying33 (by kernel_rfl) (by kernel_rfl) e0) e0
  obtain ⟨A1, N1, C1, L1, rfl, x1, xa1, xb1⟩ := ents_open (sl_of Try.underlying24 Try.underlying35 (by kernel_rfl) (by kernel_rfl) e1) e1
  obtain ⟨A2, N2, C2, L2, rfl, x2, xa2, xb2⟩ := ents_open (sl_of Try.underlying24 Try.underlying35 (by kernel_rfl) (by kernel_rfl) e2) e2
  obtain ⟨A3, N3, C3, L3, rfl, x3, xa3, xb3⟩ := ops_open (sl_of Try.underlying25 Try.underlying48 (by kernel_rfl) (by kernel_rfl) e3) e3
  have hd0 : IsD W (.agg #[.slice A0 N0 C0, .slice A1 N1 C1, .slice A2 N2 C2, .slice A3 N3 C3]) ⟨L0, L1, L2, L3⟩ := ⟨_, _, _, _, _, _, _, _, _, _, _, _, rfl, x0, x1, x2, x3, ⟨xa0, xb0⟩, ⟨xa1, xb1⟩, ⟨xa2, xb2⟩, ⟨xa3, xb3⟩⟩
  obtain ⟨g0, g1, g2, g3, z0, z1, z2, z3, m1, rfl, rfl, rfl, f0, f1, f2, f3⟩ := open_agg4 Try.underlying48 (by kernel_rfl) (by kernel_rfl) (hval 1 48 v1 rfl rfl) h1
  obtain ⟨k1', q0', _, _⟩ := DataW.trod_int Try.underlying3 f0
  obtain rfl : g0 = .int .i64 k1' := by simpa using q0'
  obtain ⟨S1, q1', _, _⟩ := DataW.trod_string Try.underlying9 f1
  obtain rfl : g1 = .string S1 := by simpa using q1'
  obtain ⟨S2, q2', _, _⟩ := DataW.trod_string Try.underlying9 f2
  obtain rfl : g2 = .string S2 := by simpa using q2'
  obtain ⟨S3, q3', hz3, _⟩ := DataW.trod_string Try.underlying9 f3
  obtain rfl : g3 = .string S3 := by simpa using q3'
  obtain ⟨s1, hs1⟩ := str_ex S1
  obtain ⟨s2, hs2⟩ := str_ex S2
  obtain ⟨s3, hs3⟩ := str_ex S3
  have hb3 : s3.length ≤ reachBytes := by
    have hw := List.all_eq_true.1 hsz (S3.data.toList.length) (DataW.weights_mem_each (j := 1) (t := 48) rfl rfl _ (by
      subst hz3
      show _ ∈ DataW.weights Try.prog 48 _
      simp [DataW.weights, Try.underlying48, DataW.weightsEach]))
    have hw2 := of_decide_eq_true hw
    rw [hs3] at hw2
    simpa [bstr] using hw2
  subst hs1
  subst hs2
  subst hs3
  have ho1 : ((k1', s1, s2, s3) : DOp).2.2.2.length ≤ 140737488355328 := Nat.le_trans hb3 (by decide)
  obtain ⟨a2, len2, cap2, rfl⟩ := okWide_slice Try.underlying22 (hval 2 22 v2 rfl rfl)
  obtain ⟨z2, w2⟩ : ∃ zs, IsRow .i64 W a2 len2 cap2 zs := by
    obtain ⟨fuel, hf⟩ := h2
    rcases open_ints Try.underlying22 Try.underlying3 (by kernel_rfl) hf with ⟨hcs, _⟩ | ⟨x, l, c, zs, hcs, _, hl, hm, hz, _, hcell, hwz⟩
    · simp [Value.cells] at hcs
      obtain ⟨rfl, rfl, rfl⟩ := hcs
      exact ⟨[], .inl ⟨rfl, rfl, rfl, rfl⟩⟩
    · simp [Value.cells] at hcs
      obtain ⟨rfl, rfl, rfl⟩ := hcs
      exact ⟨zs, .inr ⟨_, rfl, hl, hm, by simpa using hz, hcell, hwz⟩⟩
  clear hA0 hval0
  refine (walk _ _ (k1', s1, s2, s3) a2 len2 cap2 z2 W hd0 ho1 w2).mono fun e W' ⟨he, bel⟩ => ?_
  subst he
  exact ⟨_, rfl, _, _, _, [], _, [], hW', trodAll_mk1 (shut_bool Try.underlying4 _), (trodAll_cons_mk (Below.trod laidOut (by kernel_rfl) (of_decide_eq_true (by kernel_rfl)) k0 bel lt0) (trodAll_cons_mk (Below.trod laidOut (by kernel_rfl) (of_decide_eq_true (by kernel_rfl)) k1 bel lt1) (trodAll_cons_mk (Below.trod laidOut (by kernel_rfl) (of_decide_eq_true (by kernel_rfl)) k2 bel lt2) trodAll_mk0))), rfl, bel.frame _, fun h => by cases h⟩

theorem over : Rows.diskRawRow.holds Try.pinned (OpenSpec.ofChange Rows.diskRawSpec) :=
  OpenClaim.holds_of_wide 11 Try.f11 rfl rfl rfl rfl rfl rfl rfl ⟨rfl, rfl, rfl, rfl, rfl⟩ rfl rfl rfl rfl rfl (by kernel_rfl) Try.func11 (by kernel_rfl)
    (of_decide_eq_true (by kernel_rfl)) (by unfold Func.isWrapper; first | (rw [if_pos (by decide +kernel)]; kernel_rfl) | (rw [if_neg (by decide +kernel)]; exact ⟨rfl, rfl⟩))
    (fun os started H enc _ => lifted os started H enc)

/-- For every input the law DiskRaw returns true, and its arguments read afterwards as they read before. No condition. -/
theorem proved : Rows.DiskRawSaid := over
#print axioms proved
end Go.Proofs.Ytjpmfiicbokdcaa.diskRaw
