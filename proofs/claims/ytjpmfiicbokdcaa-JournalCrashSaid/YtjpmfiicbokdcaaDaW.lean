/- The walks of validName, created, fields, and of the reference's ValidName, creates, Find. -/
import Derived.Test.YtjpmfiicbokdcaaDM
namespace Go.Proofs.Ytjpmfiicbokdcaa
open Go.RowKit
set_option linter.unusedVariables false
set_option linter.unusedSimpArgs false
theorem nameB_cases (c : UInt8) : (nameB c = true ∧ (c.toNat = 45 ∨ c.toNat = 46 ∨ (48 ≤ c.toNat ∧ c.toNat ≤ 57) ∨ (65 ≤ c.toNat ∧ c.toNat ≤ 90) ∨ c.toNat = 95 ∨ (97 ≤ c.toNat ∧ c.toNat ≤ 122))) ∨ (nameB c = false ∧ (c.toNat < 45 ∨ c.toNat = 47 ∨ (58 ≤ c.toNat ∧ c.toNat < 65) ∨ (91 ≤ c.toNat ∧ c.toNat < 95) ∨ c.toNat = 96 ∨ 122 < c.toNat)) := by
  rcases h : nameB c with _ | _
  · right
    refine ⟨rfl, ?_⟩
    unfold nameB at h
    simp at h
    omega
  · left
    refine ⟨rfl, ?_⟩
    unfold nameB at h
    simp at h
    omega
theorem all_take {l : List UInt8} {k : Nat} {c : UInt8} (hc : l[k]? = some c) (h : (l.take k).all nameB = true) (h2 : nameB c = true) : (l.take (k + 1)).all nameB = true := by
  rw [List.take_add_one, hc]
  simp only [Option.toList_some, List.all_append, h, List.all_cons, h2, List.all_nil, Bool.and_self]
theorem all_no {l : List UInt8} {k : Nat} {c : UInt8} (hc : l[k]? = some c) (h2 : nameB c = false) : l.all nameB = false := by
  rw [List.all_eq_false]
  exact ⟨c, List.mem_of_getElem? hc, by rw [h2]; decide⟩
set_option maxHeartbeats 2000000 in
set_option maxRecDepth 100000 in
theorem vname_any (s : List UInt8) (w : World) :
    Calls Try.prog 63 #[.string (bstr s)] w fun e w' => e = .returned (.bool (vName s)) ∧ w = w' := by
  obtain ⟨S, hS⟩ : ∃ S, S = bstr s := ⟨_, rfl⟩
  obtain ⟨n, hn⟩ : ∃ n, n = s.length := ⟨_, rfl⟩
  have hsz : S.size = n := by rw [hn]; exact str_size hS
  have HS := hide hS
  have HN := hide hn
  rw [← hS]
  clear hS hn
  by_cases h1 : n < 1
  · have hv : vName s = false := by unfold vName; rw [decide_eq_false (by rw [← HN.out]; omega)]; rfl
    rw [hv]
    have h1' : (n : Int) < 1 := by omega
    clear hv h1
    go_enter Try.func63, Try.ntmps63
    go_wp2
    go_ret
    exact ⟨rfl, rfl⟩
  have h1' : ¬ (n : Int) < 1 := by omega
  by_cases h4 : 40 < n
  · have hv : vName s = false := by unfold vName; rw [decide_eq_false (show ¬ s.length ≤ 40 by rw [← HN.out]; omega)]; simp
    rw [hv]
    have h4' : (40 : Int) < (n : Int) := by omega
    clear hv h4 h1
    go_enter Try.func63, Try.ntmps63
    go_wp2
    go_ret
    exact ⟨rfl, rfl⟩
  have h4' : ¬ (40 : Int) < (n : Int) := by omega
  obtain ⟨v, hv⟩ : ∃ v, v = vName s := ⟨_, rfl⟩
  have hva : v = s.all nameB := by rw [hv]; unfold vName; rw [decide_eq_true (by rw [← HN.out]; omega), decide_eq_true (by rw [← HN.out]; omega)]; rfl
  rw [← hv]
  have HV := hide hva
  clear hv hva h1
  go_enter Try.func63, Try.ntmps63
  go_wp2_with fail
  go_loop [3] (fun kv => ∃ k : Nat, kv = .int .i64 (k : Int) ∧ k ≤ n ∧ Hid ((s.take k).all nameB = true)) (fun kv => n - (intOf kv).toNat)
  case atStart => exact ⟨0, rfl, by omega, hide (by simp)⟩
  case round =>
    obtain ⟨k, rfl, hk, HK⟩ := hrel
    by_cases hlt : k < n
    · have hkn : (k : Int) < (n : Int) := by omega
      obtain ⟨c, hc, hcs⟩ := str_at HS.out (i := k) (by rw [← HN.out]; exact hlt)
      have hidx : k < S.size := by rw [hsz]; exact hlt
      have hcg := hcs hidx
      have hcl := c.toNat_lt
      rcases nameB_cases c with ⟨hb, hcc⟩ | ⟨hb, hcc⟩
      · have HK2 := hide (all_take hc HK.out hb)
        obtain ⟨m, hm⟩ : ∃ m : Int, m = (c.toNat : Int) := ⟨_, rfl⟩
        have hcc' : m = 45 ∨ m = 46 ∨ (48 ≤ m ∧ m ≤ 57) ∨ (65 ≤ m ∧ m ≤ 90) ∨ m = 95 ∨ (97 ≤ m ∧ m ≤ 122) := by omega
        have hcm : ((c.toNat : Nat) : Int) = m := hm.symm
        clear hc hcs hcc hb hm
        rcases hcc' with h | h | ⟨h, h'⟩ | ⟨h, h'⟩ | h | ⟨h, h'⟩
        all_goals (try subst h)
        all_goals go_wp2
        all_goals go_round
        all_goals first
        | exact ⟨k + 1, by go_num, by omega, HK2⟩
        | (simp [intOf]; omega)
      · have hr : v = false := by rw [HV.out]; exact all_no hc hb
        subst hr
        obtain ⟨m, hm⟩ : ∃ m : Int, m = (c.toNat : Int) := ⟨_, rfl⟩
        have hcc' : m < 45 ∨ m = 47 ∨ (58 ≤ m ∧ m < 65) ∨ (91 ≤ m ∧ m < 95) ∨ m = 96 ∨ 122 < m := by omega
        have hcm : ((c.toNat : Nat) : Int) = m := hm.symm
        have q1 : (m == 46) = false := by rw [beq_eq_false_iff_ne]; omega
        have q2 : (m == 45) = false := by rw [beq_eq_false_iff_ne]; omega
        have q3 : (m == 95) = false := by rw [beq_eq_false_iff_ne]; omega
        clear hc hcs hcc hb hm
        rcases hcc' with h | h | ⟨h, h'⟩ | ⟨h, h'⟩ | h | h
        · have x0 : ¬ 97 ≤ m := by omega
          have x1 : ¬ 65 ≤ m := by omega
          have x2 : ¬ 48 ≤ m := by omega
          go_wp2
          go_ret
          exact ⟨rfl, rfl⟩
        · subst h
          go_wp2
          go_ret
          exact ⟨rfl, rfl⟩
        · have x0 : ¬ 97 ≤ m := by omega
          have x1 : ¬ 65 ≤ m := by omega
          have x2 : 48 ≤ m := by omega
          have x3 : ¬ m ≤ 57 := by omega
          go_wp2
          go_ret
          exact ⟨rfl, rfl⟩
        · have x0 : ¬ 97 ≤ m := by omega
          have x1 : 65 ≤ m := by omega
          have x2 : ¬ m ≤ 90 := by omega
          have x3 : 48 ≤ m := by omega
          have x4 : ¬ m ≤ 57 := by omega
          go_wp2
          go_ret
          exact ⟨rfl, rfl⟩
        · subst h
          go_wp2
          go_ret
          exact ⟨rfl, rfl⟩
        · have x0 : 97 ≤ m := by omega
          have x1 : ¬ m ≤ 122 := by omega
          have x2 : 65 ≤ m := by omega
          have x3 : ¬ m ≤ 90 := by omega
          have x4 : 48 ≤ m := by omega
          have x5 : ¬ m ≤ 57 := by omega
          go_wp2
          go_ret
          exact ⟨rfl, rfl⟩
    · obtain rfl : k = n := by omega
      have hr : v = true := by rw [HV.out]; have := HK.out; rwa [List.take_of_length_le (by rw [← HN.out]; exact Nat.le_refl _)] at this
      subst hr
      have hkn : ¬ (k : Int) < (k : Int) := by omega
      go_wp2
      go_ret
      exact ⟨rfl, rfl⟩
set_option maxHeartbeats 2000000 in
set_option maxRecDepth 100000 in
theorem rvname_any (s : List UInt8) (w : World) :
    Calls Try.prog 68 #[.string (bstr s)] w fun e w' => e = .returned (.bool (vName s)) ∧ w = w' := by
  obtain ⟨S, hS⟩ : ∃ S, S = bstr s := ⟨_, rfl⟩
  obtain ⟨n, hn⟩ : ∃ n, n = s.length := ⟨_, rfl⟩
  have hsz : S.size = n := by rw [hn]; exact str_size hS
  have HS := hide hS
  have HN := hide hn
  rw [← hS]
  clear hS hn
  by_cases h1 : n < 1
  · have hv : vName s = false := by unfold vName; rw [decide_eq_false (by rw [← HN.out]; omega)]; rfl
    rw [hv]
    have h1' : (n : Int) < 1 := by omega
    clear hv h1
    go_enter Try.func68, Try.ntmps68
    go_wp2
    go_ret
    exact ⟨rfl, rfl⟩
  have h1' : ¬ (n : Int) < 1 := by omega
  by_cases h4 : 40 < n
  · have hv : vName s = false := by unfold vName; rw [decide_eq_false (show ¬ s.length ≤ 40 by rw [← HN.out]; omega)]; simp
    rw [hv]
    have h4' : (40 : Int) < (n : Int) := by omega
    clear hv h4 h1
    go_enter Try.func68, Try.ntmps68
    go_wp2
    go_ret
    exact ⟨rfl, rfl⟩
  have h4' : ¬ (40 : Int) < (n : Int) := by omega
  obtain ⟨v, hv⟩ : ∃ v, v = vName s := ⟨_, rfl⟩
  have hva : v = s.all nameB := by rw [hv]; unfold vName; rw [decide_eq_true (by rw [← HN.out]; omega), decide_eq_true (by rw [← HN.out]; omega)]; rfl
  rw [← hv]
  have HV := hide hva
  clear hv hva h1
  go_enter Try.func68, Try.ntmps68
  go_wp2_with fail
  go_loop [3] (fun kv => ∃ k : Nat, kv = .int .i64 (k : Int) ∧ k ≤ n ∧ Hid ((s.take k).all nameB = true)) (fun kv => n - (intOf kv).toNat)
  case atStart => exact ⟨0, rfl, by omega, hide (by simp)⟩
  case round =>
    obtain ⟨k, rfl, hk, HK⟩ := hrel
    by_cases hlt : k < n
    · have hkn : (k : Int) < (n : Int) := by omega
      obtain ⟨c, hc, hcs⟩ := str_at HS.out (i := k) (by rw [← HN.out]; exact hlt)
      have hidx : k < S.size := by rw [hsz]; exact hlt
      have hcg := hcs hidx
      have hcl := c.toNat_lt
      rcases nameB_cases c with ⟨hb, hcc⟩ | ⟨hb, hcc⟩
      · have HK2 := hide (all_take hc HK.out hb)
        obtain ⟨m, hm⟩ : ∃ m : Int, m = (c.toNat : Int) := ⟨_, rfl⟩
        have hcc' : m = 45 ∨ m = 46 ∨ (48 ≤ m ∧ m ≤ 57) ∨ (65 ≤ m ∧ m ≤ 90) ∨ m = 95 ∨ (97 ≤ m ∧ m ≤ 122) := by omega
        have hcm : ((c.toNat : Nat) : Int) = m := hm.symm
        clear hc hcs hcc hb hm
        rcases hcc' with h | h | ⟨h, h'⟩ | ⟨h, h'⟩ | h | ⟨h, h'⟩
        all_goals (try subst h)
        all_goals go_wp2
        all_goals go_round
        all_goals first
        | exact ⟨k + 1, by go_num, by omega, HK2⟩
        | (simp [intOf]; omega)
      · have hr : v = false := by rw [HV.out]; exact all_no hc hb
        subst hr
        obtain ⟨m, hm⟩ : ∃ m : Int, m = (c.toNat : Int) := ⟨_, rfl⟩
        have hcc' : m < 45 ∨ m = 47 ∨ (58 ≤ m ∧ m < 65) ∨ (91 ≤ m ∧ m < 95) ∨ m = 96 ∨ 122 < m := by omega
        have hcm : ((c.toNat : Nat) : Int) = m := hm.symm
        have q1 : (m == 46) = false := by rw [beq_eq_false_iff_ne]; omega
        have q2 : (m == 45) = false := by rw [beq_eq_false_iff_ne]; omega
        have q3 : (m == 95) = false := by rw [beq_eq_false_iff_ne]; omega
        clear hc hcs hcc hb hm
        rcases hcc' with h | h | ⟨h, h'⟩ | ⟨h, h'⟩ | h | h
        · have x0 : ¬ 97 ≤ m := by omega
          have x1 : ¬ 65 ≤ m := by omega
          have x2 : ¬ 48 ≤ m := by omega
          go_wp2
          go_ret
          exact ⟨rfl, rfl⟩
        · subst h
          go_wp2
          go_ret
          exact ⟨rfl, rfl⟩
        · have x0 : ¬ 97 ≤ m := by omega
          have x1 : ¬ 65 ≤ m := by omega
          have x2 : 48 ≤ m := by omega
          have x3 : ¬ m ≤ 57 := by omega
          go_wp2
          go_ret
          exact ⟨rfl, rfl⟩
        · have x0 : ¬ 97 ≤ m := by omega
          have x1 : 65 ≤ m := by omega
          have x2 : ¬ m ≤ 90 := by omega
          have x3 : 48 ≤ m := by omega
          have x4 : ¬ m ≤ 57 := by omega
          go_wp2
          go_ret
          exact ⟨rfl, rfl⟩
        · subst h
          go_wp2
          go_ret
          exact ⟨rfl, rfl⟩
        · have x0 : 97 ≤ m := by omega
          have x1 : ¬ m ≤ 122 := by omega
          have x2 : 65 ≤ m := by omega
          have x3 : ¬ m ≤ 90 := by omega
          have x4 : 48 ≤ m := by omega
          have x5 : ¬ m ≤ 57 := by omega
          go_wp2
          go_ret
          exact ⟨rfl, rfl⟩
    · obtain rfl : k = n := by omega
      have hr : v = true := by rw [HV.out]; have := HK.out; rwa [List.take_of_length_le (by rw [← HN.out]; exact Nat.le_refl _)] at this
      subst hr
      have hkn : ¬ (k : Int) < (k : Int) := by omega
      go_wp2
      go_ret
      exact ⟨rfl, rfl⟩
set_option maxHeartbeats 1000000 in
set_option maxRecDepth 100000 in
theorem created_any (a : Option Addr) (n c : Nat) (l : List DOp) (w : World) (h : RO w a n l) (hn : n ≤ 1000000000) :
    Calls Try.prog 39 #[.slice a n c] w fun e w' => e = .returned (.int .i64 ((creM l : Nat) : Int)) ∧ Below w.heap.size w w' := by
  have HO := hide h
  have HN := hide h.1
  clear h
  go_enter Try.func39, Try.ntmps39
  go_wp2_with fail
  go_loopw [3, 8] (fun cv kv wr => ∃ k q : Nat, kv = .int .i64 (k : Int) ∧ cv = .int .i64 (q : Int) ∧ k ≤ n ∧ q ≤ k ∧ Hid (q = creM (l.take k)) ∧ Below w.heap.size w wr) (fun _ kv _ => n - (intOf kv).toNat)
  case atStart => exact ⟨0, 0, rfl, rfl, by omega, by omega, hide rfl, bl_refl w⟩
  case round =>
    obtain ⟨k, q, rfl, rfl, hk, hq, HQ, hb⟩ := hrel
    by_cases hlt : k < n
    · obtain ⟨b, o, kd, s, t, d, rfl, hbl, hx, e0, e1, e2, e3⟩ := (HO.out.below hb).at_ hlt
      have hkn : (k : Int) < (n : Int) := by omega
      have htk : l.take (k + 1) = l.take k ++ [(kd, s, t, d)] := by rw [List.take_add_one, hx]; rfl
      have hbn := bl_alloc hb (.cells #[.int .i64 kd, .string (bstr s), .string (bstr t), .string (bstr d)] 48)
      by_cases h1 : kd = 1
      · have HQ2 := hide (show q + 1 = creM (l.take (k + 1)) by rw [htk, HQ.out]; unfold creM; rw [List.countP_append]; simp [h1])
        subst h1
        clear hx htk
        go_wp2
        go_roundw
        case rel => exact ⟨k + 1, q + 1, by go_num, by go_num, by omega, by omega, HQ2, hbn⟩
        case measure => simp [intOf]; omega
      · have HQ2 := hide (show q = creM (l.take (k + 1)) by rw [htk, HQ.out]; unfold creM; rw [List.countP_append]; simp [h1])
        have h1' : (kd == 1) = false := by simpa using h1
        clear hx htk h1
        go_wp2
        go_roundw
        case rel => exact ⟨k + 1, q, by go_num, rfl, by omega, by omega, HQ2, hbn⟩
        case measure => simp [intOf]; omega
    · obtain rfl : k = n := by omega
      have hkn : ¬ (k : Int) < (k : Int) := by omega
      have HR := hide (show q = creM l by rw [HQ.out, List.take_of_length_le (by rw [← HN.out]; exact Nat.le_refl _)])
      go_wp2
      go_ret
      exact ⟨by rw [← HR.out]; rfl, hb⟩
set_option maxHeartbeats 1000000 in
set_option maxRecDepth 100000 in
theorem rcreates_any (a : Option Addr) (n c : Nat) (l : List DOp) (w : World) (h : RO w a n l) (hn : n ≤ 1000000000) :
    Calls Try.prog 44 #[.slice a n c] w fun e w' => e = .returned (.int .i64 ((creM l : Nat) : Int)) ∧ Below w.heap.size w w' := by
  have HO := hide h
  have HN := hide h.1
  clear h
  go_enter Try.func44, Try.ntmps44
  go_wp2_with fail
  go_loopw [3, 8] (fun cv kv wr => ∃ k q : Nat, kv = .int .i64 (k : Int) ∧ cv = .int .i64 (q : Int) ∧ k ≤ n ∧ q ≤ k ∧ Hid (q = creM (l.take k)) ∧ Below w.heap.size w wr) (fun _ kv _ => n - (intOf kv).toNat)
  case atStart => exact ⟨0, 0, rfl, rfl, by omega, by omega, hide rfl, bl_refl w⟩
  case round =>
    obtain ⟨k, q, rfl, rfl, hk, hq, HQ, hb⟩ := hrel
    by_cases hlt : k < n
    · obtain ⟨b, o, kd, s, t, d, rfl, hbl, hx, e0, e1, e2, e3⟩ := (HO.out.below hb).at_ hlt
      have hkn : (k : Int) < (n : Int) := by omega
      have htk : l.take (k + 1) = l.take k ++ [(kd, s, t, d)] := by rw [List.take_add_one, hx]; rfl
      have hbn := bl_alloc hb (.cells #[.int .i64 kd, .string (bstr s), .string (bstr t), .string (bstr d)] 48)
      by_cases h1 : kd = 1
      · have HQ2 := hide (show q + 1 = creM (l.take (k + 1)) by rw [htk, HQ.out]; unfold creM; rw [List.countP_append]; simp [h1])
        subst h1
        clear hx htk
        go_wp2
        go_roundw
        case rel => exact ⟨k + 1, q + 1, by go_num, by go_num, by omega, by omega, HQ2, hbn⟩
        case measure => simp [intOf]; omega
      · have HQ2 := hide (show q = creM (l.take (k + 1)) by rw [htk, HQ.out]; unfold creM; rw [List.countP_append]; simp [h1])
        have h1' : (kd == 1) = false := by simpa using h1
        clear hx htk h1
        go_wp2
        go_roundw
        case rel => exact ⟨k + 1, q, by go_num, rfl, by omega, by omega, HQ2, hbn⟩
        case measure => simp [intOf]; omega
    · obtain rfl : k = n := by omega
      have hkn : ¬ (k : Int) < (k : Int) := by omega
      have HR := hide (show q = creM l by rw [HQ.out, List.take_of_length_le (by rw [← HN.out]; exact Nat.le_refl _)])
      go_wp2
      go_ret
      exact ⟨by rw [← HR.out]; rfl, hb⟩
def oV (o : DOp) : Value := .agg #[.int .i64 o.1, .string (bstr o.2.1), .string (bstr o.2.2.1), .string (bstr o.2.2.2)]
def eV (e : Ent) : Value := .agg #[.string (bstr e.1), .int .i64 e.2]
theorem bstr_nil : (⟨#[]⟩ : ByteArray) = bstr [] := rfl
set_option maxHeartbeats 2000000 in
set_option maxRecDepth 100000 in
theorem fields_any (o : DOp) (w : World) :
    Calls Try.prog 66 #[oV o] w fun e w' => e = .returned (.bool (fieldsM o)) ∧ Below w.heap.size w w' := by
  obtain ⟨k, s, t, d⟩ := o
  unfold oV
  obtain ⟨v, hv⟩ : ∃ v, v = fieldsM (k, s, t, d) := ⟨_, rfl⟩
  rw [← hv]
  unfold fieldsM at hv
  simp only [] at hv ⊢
  have HV := hide hv
  clear hv
  go_enter Try.func66, Try.ntmps66
  have hb := bl_alloc (bl_refl w) (.cells #[.int .i64 k, .string (bstr s), .string (bstr t), .string (bstr d)] 48)
  have kk : ∀ (q : Int), k ≠ q → (k == q) = false := fun q h => by simpa using h
  by_cases h1 : k = 1
  · skip
    subst h1
    have hr : v = (t == [] && d == []) := by rw [HV.out, if_pos (.inl rfl)]
    subst hr
    cases ht : t == []
    all_goals go_wp2
    all_goals go_ret
    all_goals exact ⟨by simp, hb⟩
  by_cases h3 : k = 3
  · skip
    subst h3
    have hr : v = (t == [] && d == []) := by rw [HV.out, if_pos (.inr (.inl rfl))]
    subst hr
    cases ht : t == []
    all_goals go_wp2
    all_goals go_ret
    all_goals exact ⟨by simp, hb⟩
  by_cases h5 : k = 5
  · skip
    subst h5
    have hr : v = (t == [] && d == []) := by rw [HV.out, if_pos (.inr (.inr rfl))]
    subst hr
    cases ht : t == []
    all_goals go_wp2
    all_goals go_ret
    all_goals exact ⟨by simp, hb⟩
  by_cases h2 : k = 2
  · subst h2
    have hr : v = (t == []) := by rw [HV.out, if_neg (by decide), if_pos rfl]
    subst hr
    go_wp2
    go_ret
    exact ⟨by simp, hb⟩
  by_cases h4 : k = 4
  · subst h4
    have hr : v = (d == []) := by rw [HV.out, if_neg (by decide), if_neg (by decide), if_pos rfl]
    subst hr
    go_wp2
    go_ret
    exact ⟨by simp, hb⟩
  by_cases h6 : k = 6
  · subst h6
    have hr : v = (s == [] && t == [] && d == []) := by rw [HV.out, if_neg (by decide), if_neg (by decide), if_neg (by decide), if_pos rfl]
    subst hr
    cases hs : s == []
    · go_wp2
      go_ret
      exact ⟨by simp, hb⟩
    · cases ht : t == []
      all_goals go_wp2
      all_goals go_ret
      all_goals exact ⟨by simp, hb⟩
  · have hr : v = false := by rw [HV.out, if_neg (by omega), if_neg h2, if_neg h4, if_neg h6]
    subst hr
    have f1 := kk 1 h1
    have f2 := kk 2 h2
    have f3 := kk 3 h3
    have f4 := kk 4 h4
    have f5 := kk 5 h5
    have f6 := kk 6 h6
    clear h1 h2 h3 h4 h5 h6 kk
    go_wp2
    go_ret
    exact ⟨rfl, hb⟩
set_option maxHeartbeats 1000000 in
set_option maxRecDepth 100000 in
theorem rfind_any (a : Option Addr) (n c : Nat) (l : List Ent) (s : List UInt8) (w : World) (h : RE w a n l) (hn : n ≤ 1000000000) :
    Calls Try.prog 56 #[.slice a n c, .string (bstr s)] w fun e w' => e = .returned (.int .i64 (inoM l s)) ∧ Below w.heap.size w w' := by
  have HO := hide h
  have HN := hide h.1
  obtain ⟨v, hv⟩ : ∃ v, v = inoM l s := ⟨_, rfl⟩
  rw [← hv]
  have HV := hide hv
  clear h hv
  go_enter Try.func56, Try.ntmps56
  go_wp2_with fail
  go_loopw [9] (fun kv wr => ∃ k : Nat, kv = .int .i64 (k : Int) ∧ k ≤ n ∧ Hid (∀ e ∈ l.take k, e.1 ≠ s) ∧ Below w.heap.size w wr) (fun kv _ => n - (intOf kv).toNat)
  case atStart => exact ⟨0, rfl, by omega, hide (by simp), bl_refl w⟩
  case round =>
    obtain ⟨k, rfl, hk, HK, hb⟩ := hrel
    by_cases hlt : k < n
    · obtain ⟨b, o, t, x, rfl, hbl, hx, e0, e1⟩ := (HO.out.below hb).at_ hlt
      have hkn : (k : Int) < (n : Int) := by omega
      have htk : l.take (k + 1) = l.take k ++ [(t, x)] := by rw [List.take_add_one, hx]; rfl
      have hbn := bl_alloc hb (.cells #[.string (bstr t), .int .i64 x] 35)
      by_cases h1 : t = s
      · have hr : v = x := by
          rw [HV.out]
          unfold inoM
          have hf : l.find? (fun e => e.1 == s) = some (t, x) := by
            rw [List.find?_eq_some_iff_getElem]
            refine ⟨by simpa using h1, k, (List.getElem?_eq_some_iff.1 hx).1, (List.getElem?_eq_some_iff.1 hx).2, fun j hj => ?_⟩
            have hjl : j < l.length := by have := (List.getElem?_eq_some_iff.1 hx).1; omega
            have := HK.out l[j] (List.mem_of_getElem? (i := j) (by rw [List.getElem?_take, if_pos hj, List.getElem?_eq_getElem hjl]))
            simpa using this
          rw [hf]
        subst hr
        have h1' : (t == s) = true := by simpa using h1
        clear hx htk h1
        go_wp2
        go_ret
        exact ⟨rfl, hbn⟩
      · have HK2 := hide (show ∀ e ∈ l.take (k + 1), e.1 ≠ s by
          intro e he
          rw [htk] at he
          rcases List.mem_append.1 he with h | h
          · exact HK.out e h
          · simp at h; subst h; exact h1)
        have h1' : (t == s) = false := by simpa using h1
        clear hx htk h1
        go_wp2
        go_roundw
        case rel => exact ⟨k + 1, by go_num, by omega, HK2, hbn⟩
        case measure => simp [intOf]; omega
    · obtain rfl : k = n := by omega
      have hkn : ¬ (k : Int) < (k : Int) := by omega
      have hr : v = -1 := by
        rw [HV.out]
        unfold inoM
        have hf : l.find? (fun e => e.1 == s) = none := by
          rw [List.find?_eq_none]
          intro e he
          have := HK.out e (by rwa [List.take_of_length_le (by rw [← HN.out]; exact Nat.le_refl _)])
          simpa using this
        rw [hf]
      subst hr
      go_wp2
      go_ret
      exact ⟨rfl, hb⟩
end Go.Proofs.Ytjpmfiicbokdcaa
