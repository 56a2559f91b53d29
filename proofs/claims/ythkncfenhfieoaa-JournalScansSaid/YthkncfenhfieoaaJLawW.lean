/- The walks of the laws JournalAny, JournalBack and JournalJoins. -/
import Derived.Test.YthkncfenhfieoaaJKnW
namespace Go.Proofs.Ythkncfenhfieoaa
open Go.RowKit
set_option linter.unusedVariables false
set_option linter.unusedSimpArgs false
theorem small_ok {r : Rec} (h : small r) : okR r := ⟨h.1, by have := h.2; omega⟩
theorem small_enc {l : List Rec} (h : ∀ r ∈ l, small r) : ∀ r ∈ l, encE r = 0 := fun r hr => encE_ok (small_ok (h r hr))
theorem small_len {l : List Rec} (h : ∀ r ∈ l, small r) : (encL l).length ≤ 16 * l.length := by
  induction l with
  | nil => simp [encL]
  | cons q l ih =>
    have h1 := ih (fun r hr => h r (by simp [hr]))
    have h2 := (h q (by simp)).2
    rw [encL_cons, List.length_append, encR_length, List.length_cons]
    omega
theorem stateM_zero (rest : List UInt8) : stateM rest = 0 ↔ rest = [] := by
  unfold stateM
  by_cases h : rest = []
  · simp [h]
  · rw [if_neg h]
    constructor
    · intro h2; split at h2 <;> cases h2
    · intro h2; exact absurd h2 h
namespace journalAny
set_option maxRecDepth 100000 in
theorem walk (S : ByteArray) (w : World) (w0 : S.size ≤ maxLen) :
    Calls Try.prog 9 #[.string S] w fun e w' => e = .returned (.bool true) ∧ Below w.heap.size w w' := by
  obtain ⟨m, hm⟩ : ∃ m, m = S.size := ⟨_, rfl⟩
  have hm' := hm.symm
  by_cases h3 : 300 < m
  · have h3' : (300 : Int) < (m : Int) := by omega
    clear hm w0
    go_enter Try.func9, Try.ntmps9
    go_wp2
    go_ret
    exact ⟨rfl, bl_refl w⟩
  have h3' : ¬ (300 : Int) < (m : Int) := by omega
  obtain ⟨s, hS⟩ := str_ex S
  have hsl : s.length ≤ 300 := by rw [← str_size hS]; omega
  obtain ⟨l, rest, hsc⟩ := exists_scan 300 s hsl
  have heq := congrArg List.length hsc.eq
  rw [List.length_append, ← str_size hS, ← hm] at heq
  have hpl : ∀ r ∈ l, r.2.length ≤ 300 ∧ True := fun r hr => by
    have h : (encR r).length ≤ (encL l).length := by
      obtain ⟨p, t, rfl⟩ := List.append_of_mem hr
      rw [encL_app, encL_cons, List.length_append, List.length_append]; omega
    rw [encR_length] at h
    exact ⟨by omega, trivial⟩
  have hll : l.length ≤ 300 := by
    have h2 : ∀ l : List Rec, l.length ≤ (encL l).length := fun l => by
      induction l with
      | nil => simp
      | cons q l ih => rw [encL_cons, List.length_append, encR_length, List.length_cons]; omega
    have := h2 l
    omega
  obtain ⟨n, hn⟩ : ∃ n, n = (encL l).length := ⟨_, rfl⟩
  rw [← hn] at heq
  have hv : allV l = .returned (.tuple #[.string (bstr (encL l)), .int .i64 0]) := allV_ok fun r hr => encE_ok (hsc.ok r hr)
  obtain ⟨T, hT⟩ : ∃ T, T = bstr (encL l) := ⟨_, rfl⟩
  rw [← hT] at hv
  have hTs : T.size = n := by rw [hn]; exact str_size hT
  have hnm : (n : Int) ≤ (m : Int) := by omega
  have hX : S.extract 0 n = T := by
    rw [str_sub hS, hT, hn, hsc.eq, List.drop_zero, List.take_left']
    rfl
  obtain ⟨z, hz⟩ : ∃ z, z = stateM rest := ⟨_, rfl⟩
  have hzb : ((z : Int) == 0) = ((n : Int) == (m : Int)) := by
    rw [Bool.eq_iff_iff, beq_iff_eq, beq_iff_eq, hz]
    constructor
    · intro h
      have := (stateM_zero rest).1 (by omega)
      subst this
      simp at heq; omega
    · intro h
      have : rest = [] := List.eq_nil_of_length_eq_zero (by omega)
      rw [this]; rfl
  have HS := hide hS
  have HSC := hide hsc
  have HSL := hide hsl
  have HV := hide hv
  have HPL := hide hpl
  have HN := hide hn
  have HZ := hide hz
  clear hS hsc hsl heq hpl hv hT hm hn h3 w0 hz
  go_enter Try.func9, Try.ntmps9
  go_wp2_with fail
  refine (scan_any S s l rest w HS.out (by have := HSL.out; omega) HSC.out).mono ?_
  rintro e w1 ⟨v1, rfl, hown1, hb1⟩
  obtain ⟨a1, c1, rfl, hc1, hrec⟩ := own_recs hown1 rfl
  rw [← HN.out, ← HZ.out]
  have HR := hide hrec
  clear hrec hown1
  go_wp2_with fail
  refine (ea_any a1 _ c1 l w1 HR.out (fun r hr => by have := (HPL.out r hr).1; omega) (by omega)).mono ?_
  rintro e w2 ⟨rfl, hb2⟩
  rw [HV.out]
  go_wp2_with fail
  refine (known_any _).mono ?_
  rintro e w3 ⟨rfl, hb3⟩
  go_wp2
  go_ret
  exact ⟨rfl, bl_trans hb1 (bl_trans hb2 hb3)⟩
end journalAny
end Go.Proofs.Ythkncfenhfieoaa
