/- The walks of the names: First, Next, ValidName of the reference, begins, goesOn, ValidName of the program. The walks of the reference's Units, Valid, ValidValue, Parse of features and Value: they return, whatever the string. The walks of the reference's Valid, ValidValue, Parse of features and Value: they return, whatever the string. -/
import Derived.Test.YtbpkclopcoaikaaGreatDoorMa
import Derived.Test.YtbpkclopcoaikaaGreatDoorProg
import Derived.Test.YtbpkclopcoaikaaGreatDoorUNm
import Derived.Test.YtbpkclopcoaikaaGreatDoorMc
import Derived.Lib.OthersKept
import Derived.Laws.RangeAny
namespace Go.Proofs.YtbpkclopcoaikaaGreatDoor
open Go.RowKit
set_option linter.unusedVariables false
set_option linter.unusedSimpArgs false
def firstB (c : UInt8) : Bool := decide (c.toNat = 95) || (decide (65 ≤ c.toNat) && decide (c.toNat ≤ 90)) || (decide (97 ≤ c.toNat) && decide (c.toNat ≤ 122))
def nextB (c : UInt8) : Bool := firstB c || (decide (48 ≤ c.toNat) && decide (c.toNat ≤ 57)) || decide (c.toNat = 45)
/-- Names: 1 to 32 signs, the first one no digit and no '-'. -/
def nameB (s : List UInt8) : Bool := decide (1 ≤ s.length) && decide (s.length ≤ 32) && (s.head?.map firstB).getD false && s.all nextB
set_option maxHeartbeats 2000000 in
set_option maxRecDepth 100000 in
theorem first_any (c : UInt8) (w : World) : Calls Tryz.prog 103 #[.int .u8 (c.toNat : Int)] w fun e w' => e = .returned (.bool (firstB c)) ∧ w = w' := by
  obtain ⟨n, hn⟩ : ∃ n, n = c.toNat := ⟨_, rfl⟩
  have h256 := c.toNat_lt
  unfold firstB
  rw [← hn]
  rw [← hn] at h256
  clear hn
  go_enter Tryz.func103, Tryz.ntmps103
  go_wp2
  all_goals go_ret
  all_goals exact ⟨by apply ret_bool; rw [Bool.eq_iff_iff]; simp; omega, rfl⟩
set_option maxHeartbeats 2000000 in
set_option maxRecDepth 100000 in
theorem begins_any (c : UInt8) (w : World) : Calls Tryz.prog 80 #[.int .u8 (c.toNat : Int)] w fun e w' => e = .returned (.bool (firstB c)) ∧ w = w' := by
  obtain ⟨n, hn⟩ : ∃ n, n = c.toNat := ⟨_, rfl⟩
  have h256 := c.toNat_lt
  unfold firstB
  rw [← hn]
  rw [← hn] at h256
  clear hn
  go_enter Tryz.func80, Tryz.ntmps80
  go_wp2
  all_goals go_ret
  all_goals exact ⟨by apply ret_bool; rw [Bool.eq_iff_iff]; simp; omega, rfl⟩
set_option maxHeartbeats 2000000 in
set_option maxRecDepth 100000 in
theorem next_any (c : UInt8) (w : World) : Calls Tryz.prog 104 #[.int .u8 (c.toNat : Int)] w fun e w' => e = .returned (.bool (nextB c)) ∧ w = w' := by
  have HC := hide (first_any c w)
  obtain ⟨b, hb⟩ : ∃ b, b = firstB c := ⟨_, rfl⟩
  unfold nextB
  rw [← hb] at HC ⊢
  obtain ⟨n, hn⟩ : ∃ n, n = c.toNat := ⟨_, rfl⟩
  have h256 := c.toNat_lt
  rw [← hn] at HC h256 ⊢
  clear hn hb
  go_enter Tryz.func104, Tryz.ntmps104
  go_wp2_with fail
  refine HC.out.mono ?_
  rintro e w' ⟨rfl, rfl⟩
  clear HC
  cases b
  · go_wp2
    all_goals go_ret
    all_goals exact ⟨by apply ret_bool; rw [Bool.eq_iff_iff]; simp; omega, rfl⟩
  · go_wp2
    all_goals go_ret
    all_goals exact ⟨by apply ret_bool; rw [Bool.eq_iff_iff]; simp, rfl⟩
set_option maxHeartbeats 2000000 in
set_option maxRecDepth 100000 in
theorem goesOn_any (c : UInt8) (w : World) : Calls Tryz.prog 81 #[.int .u8 (c.toNat : Int)] w fun e w' => e = .returned (.bool (nextB c)) ∧ w = w' := by
  have HC := hide (begins_any c w)
  obtain ⟨b, hb⟩ : ∃ b, b = firstB c := ⟨_, rfl⟩
  unfold nextB
  rw [← hb] at HC ⊢
  obtain ⟨n, hn⟩ : ∃ n, n = c.toNat := ⟨_, rfl⟩
  have h256 := c.toNat_lt
  rw [← hn] at HC h256 ⊢
  clear hn hb
  go_enter Tryz.func81, Tryz.ntmps81
  go_wp2_with fail
  refine HC.out.mono ?_
  rintro e w' ⟨rfl, rfl⟩
  clear HC
  cases b
  · go_wp2
    all_goals go_ret
    all_goals exact ⟨by apply ret_bool; rw [Bool.eq_iff_iff]; simp; omega, rfl⟩
  · go_wp2
    all_goals go_ret
    all_goals exact ⟨by apply ret_bool; rw [Bool.eq_iff_iff]; simp, rfl⟩
theorem all_take {l : List UInt8} {f : UInt8 → Bool} {k : Nat} {c : UInt8} (hc : l[k]? = some c) (h : (l.take k).all f = true) (h2 : f c = true) : (l.take (k + 1)).all f = true := by
  rw [List.take_add_one, hc]
  simp only [Option.toList_some, List.all_append, h, List.all_cons, h2, List.all_nil, Bool.and_self]
theorem all_no {l : List UInt8} {f : UInt8 → Bool} {k : Nat} {c : UInt8} (hc : l[k]? = some c) (h2 : f c = false) : l.all f = false := by
  rw [List.all_eq_false]
  exact ⟨c, List.mem_of_getElem? hc, by rw [h2]; decide⟩
theorem nameB_short {s : List UInt8} (h : s.length < 1) : nameB s = false := by unfold nameB; rw [decide_eq_false (by omega)]; rfl
theorem nameB_long {s : List UInt8} (h : 32 < s.length) : nameB s = false := by unfold nameB; rw [decide_eq_false (show ¬ s.length ≤ 32 by omega), Bool.and_false]; rfl
theorem nameB_head {s : List UInt8} {c : UInt8} (hc : s[0]? = some c) (h : firstB c = false) : nameB s = false := by
  unfold nameB
  rw [List.head?_eq_getElem?, hc]
  simp [h]
theorem nameB_at {s : List UInt8} {k : Nat} {c : UInt8} (hc : s[k]? = some c) (h : nextB c = false) : nameB s = false := by
  unfold nameB
  rw [all_no hc h, Bool.and_false]
theorem nameB_ok {s : List UInt8} {c : UInt8} (h1 : 1 ≤ s.length) (h2 : s.length ≤ 32) (hc : s[0]? = some c) (h : firstB c = true) (ha : s.all nextB = true) : nameB s = true := by
  unfold nameB
  rw [List.head?_eq_getElem?, hc, ha]
  simp [h, h1, h2]
theorem nextB_first {c : UInt8} (h : firstB c = true) : nextB c = true := by unfold nextB; rw [h]; rfl
set_option maxHeartbeats 2000000 in
set_option maxRecDepth 100000 in
theorem rname_any (s : List UInt8) (w : World) :
    Calls Tryz.prog 82 #[.string (bstr s)] w fun e w' => e = .returned (.bool (nameB s)) ∧ w = w' := by
  obtain ⟨S, hS⟩ : ∃ S, S = bstr s := ⟨_, rfl⟩
  obtain ⟨n, hn⟩ : ∃ n, n = s.length := ⟨_, rfl⟩
  have hsz : S.size = n := by rw [hn]; exact str_size hS
  have HS := hide hS
  have HN := hide hn
  rw [← hS]
  clear hS hn
  by_cases h1 : n < 1
  · rw [nameB_short (by rw [← HN.out]; exact h1)]
    have h1' : (n : Int) < 1 := by omega
    clear h1
    go_enter Tryz.func82, Tryz.ntmps82
    go_wp2
    go_ret
    exact ⟨rfl, rfl⟩
  · by_cases h2 : 32 < n
    · rw [nameB_long (by rw [← HN.out]; exact h2)]
      have h1' : ¬ (n : Int) < 1 := by omega
      have h2' : (32 : Int) < n := by omega
      clear h1 h2
      go_enter Tryz.func82, Tryz.ntmps82
      go_wp2
      go_ret
      exact ⟨rfl, rfl⟩
    · obtain ⟨c, hc, hg⟩ := str_at HS.out (i := 0) (by rw [← HN.out]; omega)
      have hb1 : 0 < S.size := by omega
      have hgz := hg hb1
      have HC0 := hide hc
      have h1' : ¬ (n : Int) < 1 := by omega
      have h2' : ¬ (32 : Int) < n := by omega
      clear hg hc
      rcases hfb : firstB c with _ | _
      · rw [nameB_head HC0.out hfb]
        have HF : Hid (∀ wx, Calls Tryz.prog 103 #[.int .u8 (c.toNat : Int)] wx fun e w' => e = .returned (.bool false) ∧ wx = w') := hide (fun wx => hfb ▸ first_any c wx)
        clear hfb
        go_enter Tryz.func82, Tryz.ntmps82
        go_wp2_with fail
        refine (HF.out _).mono ?_
        rintro e w' ⟨rfl, rfl⟩
        go_wp2
        go_ret
        exact ⟨rfl, rfl⟩
      · have HF : Hid (∀ wx, Calls Tryz.prog 103 #[.int .u8 (c.toNat : Int)] wx fun e w' => e = .returned (.bool true) ∧ wx = w') := hide (fun wx => hfb ▸ first_any c wx)
        have HFB := hide hfb
        clear hfb
        go_enter Tryz.func82, Tryz.ntmps82
        go_wp2_with fail
        refine (HF.out _).mono ?_
        rintro e w' ⟨rfl, rfl⟩
        go_wp2_with fail
        go_loopw [3] (fun kv wr => ∃ k : Nat, kv = .int .i64 (k : Int) ∧ k ≤ n ∧ Hid ((s.take k).all nextB = true) ∧ Hid (w = wr)) (fun kv _ => n - (intOf kv).toNat)
        case atStart => exact ⟨1, by simp, by omega, hide (by rw [List.take_one, List.head?_eq_getElem?, HC0.out]; simp [nextB_first HFB.out]), hide rfl⟩
        case round =>
          obtain ⟨k, rfl, hk, HA, HW⟩ := hrel
          obtain rfl := HW.out
          by_cases hkn : k < n
          · have hki : (k : Int) < (n : Int) := by omega
            obtain ⟨d, hd, hg⟩ := str_at HS.out (i := k) (by rw [← HN.out]; omega)
            have hbk : k < S.size := by omega
            have hgk := hg hbk
            have HD := hide hd
            clear hg hd
            rcases hfb : nextB d with _ | _
            · have HF2 : Hid (∀ wx, Calls Tryz.prog 104 #[.int .u8 (d.toNat : Int)] wx fun e w' => e = .returned (.bool false) ∧ wx = w') := hide (fun wx => hfb ▸ next_any d wx)
              have HNB := hide (nameB_at HD.out hfb)
              clear hfb
              go_wp2_with fail
              refine (HF2.out _).mono ?_
              rintro e w' ⟨rfl, rfl⟩
              go_wp2
              go_ret
              exact ⟨by rw [HNB.out]; rfl, rfl⟩
            · have HF2 : Hid (∀ wx, Calls Tryz.prog 104 #[.int .u8 (d.toNat : Int)] wx fun e w' => e = .returned (.bool true) ∧ wx = w') := hide (fun wx => hfb ▸ next_any d wx)
              have HA2 := hide (all_take HD.out HA.out hfb)
              clear hfb
              go_wp2_with fail
              refine (HF2.out _).mono ?_
              rintro e w' ⟨rfl, rfl⟩
              go_wp2
              go_roundw
              case rel => exact ⟨k + 1, by go_num, by omega, HA2, hide trivial⟩
              case measure => simp [intOf]; omega
          · obtain rfl : k = n := by omega
            have HOK := hide (nameB_ok (s := s) (by rw [← HN.out]; omega) (by rw [← HN.out]; omega) HC0.out HFB.out (by have := HA.out; rwa [List.take_of_length_le (by rw [← HN.out]; exact Nat.le_refl _)] at this))
            clear hkn
            go_wp2
            go_ret
            exact ⟨by rw [HOK.out]; rfl, rfl⟩
set_option maxHeartbeats 2000000 in
set_option maxRecDepth 100000 in
theorem mname_any (s : List UInt8) (w : World) :
    Calls Tryz.prog 50 #[.string (bstr s)] w fun e w' => e = .returned (.bool (nameB s)) ∧ w = w' := by
  obtain ⟨S, hS⟩ : ∃ S, S = bstr s := ⟨_, rfl⟩
  obtain ⟨n, hn⟩ : ∃ n, n = s.length := ⟨_, rfl⟩
  have hsz : S.size = n := by rw [hn]; exact str_size hS
  have HS := hide hS
  have HN := hide hn
  rw [← hS]
  clear hS hn
  by_cases h1 : n < 1
  · rw [nameB_short (by rw [← HN.out]; exact h1)]
    have h1' : (n : Int) < 1 := by omega
    clear h1
    go_enter Tryz.func50, Tryz.ntmps50
    go_wp2
    go_ret
    exact ⟨rfl, rfl⟩
  · by_cases h2 : 32 < n
    · rw [nameB_long (by rw [← HN.out]; exact h2)]
      have h1' : ¬ (n : Int) < 1 := by omega
      have h2' : (32 : Int) < n := by omega
      clear h1 h2
      go_enter Tryz.func50, Tryz.ntmps50
      go_wp2
      go_ret
      exact ⟨rfl, rfl⟩
    · obtain ⟨c, hc, hg⟩ := str_at HS.out (i := 0) (by rw [← HN.out]; omega)
      have hb1 : 0 < S.size := by omega
      have hgz := hg hb1
      have HC0 := hide hc
      have h1' : ¬ (n : Int) < 1 := by omega
      have h2' : ¬ (32 : Int) < n := by omega
      clear hg hc
      rcases hfb : firstB c with _ | _
      · rw [nameB_head HC0.out hfb]
        have HF : Hid (∀ wx, Calls Tryz.prog 80 #[.int .u8 (c.toNat : Int)] wx fun e w' => e = .returned (.bool false) ∧ wx = w') := hide (fun wx => hfb ▸ begins_any c wx)
        clear hfb
        go_enter Tryz.func50, Tryz.ntmps50
        go_wp2_with fail
        refine (HF.out _).mono ?_
        rintro e w' ⟨rfl, rfl⟩
        go_wp2
        go_ret
        exact ⟨rfl, rfl⟩
      · have HF : Hid (∀ wx, Calls Tryz.prog 80 #[.int .u8 (c.toNat : Int)] wx fun e w' => e = .returned (.bool true) ∧ wx = w') := hide (fun wx => hfb ▸ begins_any c wx)
        have HFB := hide hfb
        clear hfb
        go_enter Tryz.func50, Tryz.ntmps50
        go_wp2_with fail
        refine (HF.out _).mono ?_
        rintro e w' ⟨rfl, rfl⟩
        go_wp2_with fail
        go_loopw [20] (fun kv wr => ∃ k : Nat, kv = .int .i64 (k : Int) ∧ k ≤ n ∧ Hid ((s.take k).all nextB = true) ∧ Hid (w = wr)) (fun kv _ => n - (intOf kv).toNat)
        case atStart => exact ⟨0, by simp, by omega, hide (by simp), hide rfl⟩
        case round =>
          obtain ⟨k, rfl, hk, HA, HW⟩ := hrel
          obtain rfl := HW.out
          by_cases hkn : k < n
          · have hki : (k : Int) < (n : Int) := by omega
            obtain ⟨d, hd, hg⟩ := str_at HS.out (i := k) (by rw [← HN.out]; omega)
            have hbk : k < S.size := by omega
            have hgk := hg hbk
            have HD := hide hd
            clear hg hd
            rcases hfb : nextB d with _ | _
            · have HF2 : Hid (∀ wx, Calls Tryz.prog 81 #[.int .u8 (d.toNat : Int)] wx fun e w' => e = .returned (.bool false) ∧ wx = w') := hide (fun wx => hfb ▸ goesOn_any d wx)
              have HNB := hide (nameB_at HD.out hfb)
              clear hfb
              go_wp2_with fail
              refine (HF2.out _).mono ?_
              rintro e w' ⟨rfl, rfl⟩
              go_wp2
              go_ret
              exact ⟨by rw [HNB.out]; rfl, rfl⟩
            · have HF2 : Hid (∀ wx, Calls Tryz.prog 81 #[.int .u8 (d.toNat : Int)] wx fun e w' => e = .returned (.bool true) ∧ wx = w') := hide (fun wx => hfb ▸ goesOn_any d wx)
              have HA2 := hide (all_take HD.out HA.out hfb)
              clear hfb
              go_wp2_with fail
              refine (HF2.out _).mono ?_
              rintro e w' ⟨rfl, rfl⟩
              go_wp2
              go_roundw
              case rel => exact ⟨k + 1, by go_num, by omega, HA2, hide trivial⟩
              case measure => simp [intOf]; omega
          · obtain rfl : k = n := by omega
            have HOK := hide (nameB_ok (s := s) (by rw [← HN.out]; omega) (by rw [← HN.out]; omega) HC0.out HFB.out (by have := HA.out; rwa [List.take_of_length_le (by rw [← HN.out]; exact Nat.le_refl _)] at this))
            clear hkn
            go_wp2
            go_ret
            exact ⟨by rw [HOK.out]; rfl, rfl⟩
end Go.Proofs.YtbpkclopcoaikaaGreatDoor
namespace Go.Proofs.YtbpkclopcoaikaaGreatDoor
open Go.RowKit
set_option linter.unusedVariables false
set_option linter.unusedSimpArgs false
structure Un where
  r : Int
  at_ : Int
  sz : Int
  ok : Bool
def encU (u : Un) : List Value := [.int .i32 u.r, .int .i64 u.at_, .int .i64 u.sz, .bool u.ok]
theorem encU_len (u : Un) : (encU u).length = 4 := rfl
def IsU (w : World) (a : Option Addr) (n : Nat) (l : List Un) : Prop := n = l.length ∧ Rd w a (l.flatMap encU)
theorem info_unit : (Tryz.prog.info? 170).map (fun i => (i.zero, i.size, i.bytes)) = some (some (.agg #[.int .i32 0, .int .i64 0, .int .i64 0, .bool false]), 4, 32) := by kernel_rfl
theorem width_pos (s : ByteArray) (pos : Nat) (h : pos < s.size) : 1 ≤ (Utf8.decode s pos).2 := by
  by_cases ha : (s[pos]'h).toNat < 128
  · rw [decode_ascii s pos h ha]
    exact Nat.le_refl _
  · exact (decode_high s pos h (by omega)).2
def UnP (w : World) (e : Ending) (w' : World) : Prop := ∃ a n c l, e = .returned (.slice a n c) ∧ Below w.heap.size w w' ∧ n ≤ 1000 ∧ IsU w' a n l
set_option maxHeartbeats 2000000 in
set_option maxRecDepth 100000 in
theorem units_any (S : ByteArray) (w : World) (hS : S.size ≤ 1000) :
    Calls Tryz.prog 131 #[.string S] w (UnP w) := by
  obtain ⟨i2, hi2, hz0, hz1, hz2⟩ := info_parts info_unit
  obtain ⟨k0, hk0⟩ : ∃ k0, k0 = w.heap.size := ⟨_, rfl⟩
  have HK := hide hk0
  go_enter Tryz.func131, Tryz.ntmps131
  go_wp2_with fail
  rw [← hk0]
  have HW0 : Hid ((w.iter S 0).ownsRow (k0 + 1) 170 4 (.slice none 0 0) ([] : List Un).length (([] : List Un).flatMap encU)) := hide (World.ownsRow_nil _ _ _ _)
  have HIT : Hid ((w.iter S 0).heap[k0]? = some (.stringIter S 0)) := hide (by rw [hk0]; exact World.iter_heap w S 0)
  have HB0 : Hid (Below k0 w (w.iter S 0)) := hide (by rw [hk0]; exact bl_alloc (bl_refl w) _)
  generalize w.iter S 0 = w2 at *
  clear hk0
  go_loopw [3] (fun lv wr => ∃ (pos : Nat) (l : List Un), Hid (wr.ownsRow (k0 + 1) 170 4 lv l.length (l.flatMap encU)) ∧ Hid (wr.heap[k0]? = some (.stringIter S pos)) ∧ l.length ≤ pos ∧ l.length ≤ S.size ∧ Hid (∀ u ∈ l, 0 ≤ u.at_ ∧ u.at_ ≤ 1000) ∧ Hid (Below k0 w wr)) (fun _ wr => S.size - wr.iterPos k0)
  case atStart => exact ⟨0, [], HW0, HIT, Nat.zero_le _, Nat.zero_le _, hide (fun u hu => by simp at hu), HB0⟩
  case round =>
    obtain ⟨pos, l, HO, HI, hl1, hl2, HA, HB⟩ := hrel
    have hks : k0 < wr.heap.size := (Array.getElem?_eq_some_iff.1 HI.out).1
    obtain ⟨a, c, hv, hnc, HR⟩ := ownG_form HO.out
    subst hv
    by_cases hp : pos < S.size
    · have hnx : ∀ ty, (Instr.next (.pointer (some ⟨k0, 0, none⟩)) true ty).run Tryz.prog wr = _ := fun ty => Lib.run_next_any_at wr k0 S pos ty HI.out hp
      have hwd := width_pos S pos hp
      have HO2 := hide (ownsRow_iterAt HO.out (show k0 < k0 + 1 by omega) S (pos + (Utf8.decode S pos).2))
      have HI2 := hide (Lib.iterAt_heap wr k0 S pos (pos + (Utf8.decode S pos).2) HI.out)
      have HB2 := hide (Lib.below_iterAt HB.out (Nat.le_refl k0) S (pos + (Utf8.decode S pos).2))
      have hiz := Lib.iterAt_size wr k0 S (pos + (Utf8.decode S pos).2)
      have HSZ := hide (show k0 + 1 ≤ (wr.iterAt k0 S (pos + (Utf8.decode S pos).2)).heap.size by rw [hiz]; omega)
      have HM := hide (show S.size - (pos + (Utf8.decode S pos).2) < S.size - wr.iterPos k0 by
        have : wr.iterPos k0 = pos := by simp [World.iterPos, HI.out]
        rw [this]; omega)
      obtain ⟨d1, hd1⟩ : ∃ d1, d1 = (Utf8.decode S pos).1 := ⟨_, rfl⟩
      obtain ⟨p2, hp2⟩ : ∃ p2, p2 = pos + (Utf8.decode S pos).2 := ⟨_, rfl⟩
      rw [← hp2] at HO2 HI2 HB2 hiz HSZ HM
      rw [← hp2, ← hd1] at hnx
      obtain ⟨w3, hw3⟩ : ∃ w3, w3 = wr.iterAt k0 S p2 := ⟨_, rfl⟩
      rw [← hw3] at HO2 HI2 HB2 hiz HSZ
      rw [← hw3] at hnx
      have hp3 : pos < p2 := by omega
      clear hd1 hp2 hw3 hwd hiz HR
      rcases List.eq_nil_or_concat l with rfl | ⟨l', u, rfl⟩
      · have hln : ([] : List Un).length ≤ 1000 := Nat.zero_le _
        have ho := ownG_below HO2.out (bl_alloc (bl_refl w3) (.cells #[.int .i32 (d1 : Int), .int .i64 (pos : Int), .int .i64 0, .bool false] 170 (0, 0)))
        have HOA := hide ho
        have hr := rd_lit w3 #[.int .i32 (d1 : Int), .int .i64 (pos : Int), .int .i64 0, .bool false] 170 (0, 0)
        rw [show w3.heap.size = w3.heap.size from rfl] at hr
        have HRL := hide hr
        have HSA := hide (show k0 + 1 ≤ (w3.alloc (.cells #[.int .i32 (d1 : Int), .int .i64 (pos : Int), .int .i64 0, .bool false] 170 (0, 0))).heap.size by have := HSZ.out; simp [World.setCell] at this ⊢; omega)
        have HBA := hide (HB2.out.alloc (show k0 ≤ w3.heap.size by have := HSZ.out; simp [World.setCell] at this ⊢; omega) (.cells #[.int .i32 (d1 : Int), .int .i64 (pos : Int), .int .i64 0, .bool false] 170 (0, 0)))
        have HIA := hide ((heap_alloc_old w3 (.cells #[.int .i32 (d1 : Int), .int .i64 (pos : Int), .int .i64 0, .bool false] 170 (0, 0)) (Array.getElem?_eq_some_iff.1 HI2.out).1).trans HI2.out)
        have HLN := hide hln
        clear ho hr hln
        go_wp2_with (at_builtin; go_loud (refine wpList_append_rd _ rfl (.tmp 31) (.tmp 35) 167 rfl (k0 + 1) 170 i2 _ 4 32 Tryz.underlying167 hi2 hz0 hz1 hz2 rfl (by decide) (.slice a 0 c) 0 _ rfl HOA.out (some ⟨w3.heap.size, 0, none⟩) 1 1 [.int .i32 (d1 : Int), .int .i64 (pos : Int), .int .i64 0, .bool false] rfl rfl HRL.out (by intro u hu; simp at hu; rcases hu with rfl | rfl | rfl | rfl <;> rfl) (by simp only [maxLen]; have := HLN.out; omega) (by have := HLN.out; omega) HSA.out ?_); intro v' w' ho' hg' hor'; have HO' := hide ho'; have HB' := hide (Go.RowKit.Below.grown HBA.out hg' (Nat.le_of_succ_le HSA.out) (fun q hq => Nat.le_of_lt (ownG_lt HOA.out hq).1)); have HI' := hide ((hg'.block k0 (Nat.lt_of_lt_of_le (Nat.lt_succ_self k0) HSA.out) (fun e => by have := (ownG_lt HOA.out e.symm).1; omega)).trans HIA.out); clear ho' hg' hor')
        go_roundw
        case rel => exact ⟨p2, [⟨d1, pos, 0, false⟩], HO', HI', by simp; omega, by simp; omega, hide (fun u hu => by simp at hu; subst hu; simp; omega), HB'⟩
        case measure => rw [show World.iterPos _ k0 = p2 by simp [World.iterPos, HI'.out]]; exact HM.out
      · rw [List.concat_eq_append] at *
        obtain ⟨m, hm⟩ : ∃ m, m = l'.length := ⟨_, rfl⟩
        have hlm : (l' ++ [u]).length = m + 1 := by rw [hm]; simp
        have hgu : (l' ++ [u])[m]? = some u := by rw [hm]; simp
        rw [hlm] at HO2 HO hl1 hl2 hnc ⊢
        obtain ⟨g, c', hv, _, hgb, hgl⟩ := ownG_pos HO2.out (Nat.succ_pos m)
        injection hv with hv hv1 hv2
        subst hv hv2
        have c1 := (ownG_at HO2.out (flat_get encU_len _ m 1 u _ hgu rfl)).1
        obtain ⟨c2, f2⟩ := ownG_at HO2.out (flat_get encU_len _ m 2 u _ hgu rfl)
        have hua := HA.out u (by simp)
        obtain ⟨ur, ua, us, uo⟩ := u
        simp only at hua c1 c2
        have HO3 := hide (ownG_set HO2.out (m * 4 + 2) (.int .i64 ((pos : Int) - ua)))
        have hse := flat_set encU_len (l' ++ [⟨ur, ua, us, uo⟩]) m 2 ⟨ur, ua, us, uo⟩ ⟨ur, ua, (pos : Int) - ua, uo⟩ (.int .i64 ((pos : Int) - ua)) hgu (by omega) rfl
        rw [hse, show (l' ++ [(⟨ur, ua, us, uo⟩ : Un)]).set m ⟨ur, ua, (pos : Int) - ua, uo⟩ = l' ++ [⟨ur, ua, (pos : Int) - ua, uo⟩] by rw [hm, List.set_append_right _ _ (Nat.le_refl _)]; simp] at HO3
        have HB3 := hide (HB2.out.setCell (p := ⟨g, m * 4 + 2, none⟩) (by simp; omega) (.int .i64 ((pos : Int) - ua)))
        have HI3 := hide ((heap_setCell_other w3 ⟨g, m * 4 + 2, none⟩ k0 (.int .i64 ((pos : Int) - ua)) (by simp; omega)).trans HI2.out)
        have hS3 : k0 + 1 ≤ (w3.setCell ⟨g, m * 4 + 2, none⟩ (.int .i64 ((pos : Int) - ua))).heap.size := by have := HSZ.out; simpa [World.setCell] using this
        have HSZ := hide hS3
        have hln : m + 1 ≤ 1000 := by omega
        have HML := hide hm
        have hmi : (m : Int) < (m : Int) + 1 := by omega
        clear hse hgu hlm hS3 hm hv1 hgb hgl
        have ho := ownG_below HO3.out (bl_alloc (bl_refl (w3.setCell ⟨g, m * 4 + 2, none⟩ (.int .i64 ((pos : Int) - ua)))) (.cells #[.int .i32 (d1 : Int), .int .i64 (pos : Int), .int .i64 0, .bool false] 170 (0, 0)))
        have HOA := hide ho
        have hr := rd_lit (w3.setCell ⟨g, m * 4 + 2, none⟩ (.int .i64 ((pos : Int) - ua))) #[.int .i32 (d1 : Int), .int .i64 (pos : Int), .int .i64 0, .bool false] 170 (0, 0)
        rw [show (w3.setCell ⟨g, m * 4 + 2, none⟩ (.int .i64 ((pos : Int) - ua))).heap.size = w3.heap.size by simp [World.setCell]] at hr
        have HRL := hide hr
        have HSA := hide (show k0 + 1 ≤ ((w3.setCell ⟨g, m * 4 + 2, none⟩ (.int .i64 ((pos : Int) - ua))).alloc (.cells #[.int .i32 (d1 : Int), .int .i64 (pos : Int), .int .i64 0, .bool false] 170 (0, 0))).heap.size by have := HSZ.out; simp [World.setCell] at this ⊢; omega)
        have HBA := hide (HB3.out.alloc (show k0 ≤ (w3.setCell ⟨g, m * 4 + 2, none⟩ (.int .i64 ((pos : Int) - ua))).heap.size by have := HSZ.out; simp [World.setCell] at this ⊢; omega) (.cells #[.int .i32 (d1 : Int), .int .i64 (pos : Int), .int .i64 0, .bool false] 170 (0, 0)))
        have HIA := hide ((heap_alloc_old (w3.setCell ⟨g, m * 4 + 2, none⟩ (.int .i64 ((pos : Int) - ua))) (.cells #[.int .i32 (d1 : Int), .int .i64 (pos : Int), .int .i64 0, .bool false] 170 (0, 0)) (Array.getElem?_eq_some_iff.1 HI3.out).1).trans HI3.out)
        have HLN := hide hln
        clear ho hr hln
        go_wp2_with (at_builtin; go_loud (refine wpList_append_rd _ rfl (.tmp 31) (.tmp 35) 167 rfl (k0 + 1) 170 i2 _ 4 32 Tryz.underlying167 hi2 hz0 hz1 hz2 rfl (by decide) (.slice (some ⟨g, 0, none⟩) (m + 1) c) (m + 1) _ rfl HOA.out (some ⟨w3.heap.size, 0, none⟩) 1 1 [.int .i32 (d1 : Int), .int .i64 (pos : Int), .int .i64 0, .bool false] rfl rfl HRL.out (by intro u hu; simp at hu; rcases hu with rfl | rfl | rfl | rfl <;> rfl) (by simp only [maxLen]; have := HLN.out; omega) (by have := HLN.out; omega) HSA.out ?_); intro v' w' ho' hg' hor'; have HO' := hide ho'; have HB' := hide (Go.RowKit.Below.grown HBA.out hg' (Nat.le_of_succ_le HSA.out) (fun q hq => Nat.le_of_lt (ownG_lt HOA.out hq).1)); have HI' := hide ((hg'.block k0 (Nat.lt_of_lt_of_le (Nat.lt_succ_self k0) HSA.out) (fun e => by have := (ownG_lt HOA.out e.symm).1; omega)).trans HIA.out); clear ho' hg' hor')
        go_roundw
        case rel =>
          refine ⟨p2, l' ++ [⟨ur, ua, (pos : Int) - ua, uo⟩] ++ [⟨d1, pos, 0, false⟩], ?_, HI', by simp [← HML.out]; omega, by simp [← HML.out]; omega, hide (fun u hu => ?_), HB'⟩
          · have := HO'.out
            rw [show (l' ++ [(⟨ur, ua, (pos : Int) - ua, uo⟩ : Un)] ++ [(⟨d1, pos, 0, false⟩ : Un)]).length = m + 1 + 1 by simp [← HML.out], List.flatMap_append]
            exact hide this
          · simp only [List.mem_append, List.mem_singleton] at hu
            rcases hu with (hu | hu) | hu
            · exact HA.out u (by simp [hu])
            · subst hu; exact hua
            · subst hu; simp; omega
        case measure => rw [show World.iterPos _ k0 = p2 by simp [World.iterPos, HI'.out]]; exact HM.out
    · have hnx : ∀ ty, (Instr.next (.pointer (some ⟨k0, 0, none⟩)) true ty).run Tryz.prog wr = _ := fun ty => Lib.run_next_end_at wr k0 S pos ty HI.out hp
      clear hp HR hl1
      rcases List.eq_nil_or_concat l with rfl | ⟨l', u, rfl⟩
      · rw [show ([] : List Un).length = 0 from rfl] at HO
        go_wp2_with fail
        obtain ⟨wz, hwz⟩ : ∃ wz, wz = wr := ⟨_, rfl⟩
        rw [← hwz] at HO HB ⊢
        clear hwz
        have HR0 : Hid (Rd wz a ([] : List Value)) := hide (.inl rfl)
        go_loopw [58] (fun kv wy => kv = .int .i64 0 ∧ Hid (wy = wz)) (fun _ _ => 0)
        case atStart => exact ⟨rfl, hide rfl⟩
        case round =>
          obtain ⟨rfl, HE⟩ := hrel
          obtain rfl := HE.out
          go_wp2
          go_ret
          exact ⟨_, _, _, [], rfl, by rw [← HK.out]; exact HB.out, by simp, rfl, .inl rfl⟩
      · rw [List.concat_eq_append] at *
        obtain ⟨m, hm⟩ : ∃ m, m = l'.length := ⟨_, rfl⟩
        have hlm : (l' ++ [u]).length = m + 1 := by rw [hm]; simp
        have hgu : (l' ++ [u])[m]? = some u := by rw [hm]; simp
        rw [hlm] at HO hl2 hnc ⊢
        obtain ⟨g, c', hv, _, hgb, hgl⟩ := ownG_pos HO.out (Nat.succ_pos m)
        injection hv with hv hv1 hv2
        subst hv hv2
        have c1 := (ownG_at HO.out (flat_get encU_len _ m 1 u _ hgu rfl)).1
        obtain ⟨c2, f2⟩ := ownG_at HO.out (flat_get encU_len _ m 2 u _ hgu rfl)
        have hua := HA.out u (by simp)
        obtain ⟨ur, ua, us, uo⟩ := u
        simp only at hua c1 c2
        have HO3 := hide (ownG_set HO.out (m * 4 + 2) (.int .i64 ((S.size : Int) - ua)))
        have hse := flat_set encU_len (l' ++ [⟨ur, ua, us, uo⟩]) m 2 ⟨ur, ua, us, uo⟩ ⟨ur, ua, (S.size : Int) - ua, uo⟩ (.int .i64 ((S.size : Int) - ua)) hgu (by omega) rfl
        rw [hse, show (l' ++ [(⟨ur, ua, us, uo⟩ : Un)]).set m ⟨ur, ua, (S.size : Int) - ua, uo⟩ = l' ++ [⟨ur, ua, (S.size : Int) - ua, uo⟩] by rw [hm, List.set_append_right _ _ (Nat.le_refl _)]; simp] at HO3
        have HB3 := hide (HB.out.setCell (p := ⟨g, m * 4 + 2, none⟩) (by simp; omega) (.int .i64 ((S.size : Int) - ua)))
        have HLE : Hid ((l' ++ [(⟨ur, ua, (S.size : Int) - ua, uo⟩ : Un)]).length = m + 1) := hide (by rw [hm]; simp)
        have hmi : (m : Int) < (m : Int) + 1 := by omega
        clear hse hgu hlm hm hv1 hgb hgl
        go_wp2_with fail
        obtain ⟨wz, hwz⟩ : ∃ wz, wz = wr.setCell ⟨g, m * 4 + 2, none⟩ (.int .i64 ((S.size : Int) - ua)) := ⟨_, rfl⟩
        rw [← hwz] at HO3 HB3 ⊢
        clear hwz
        go_loopw [58] (fun kv wy => ∃ (j : Nat) (q : List Un), kv = .int .i64 (j : Int) ∧ j ≤ (m + 1) ∧ Hid (q.length = (m + 1)) ∧ Hid (wy.ownsRow (k0 + 1) 170 4 (.slice (some ⟨g, 0, none⟩) (m + 1) c) (m + 1) (q.flatMap encU)) ∧ Hid (Below k0 w wy)) (fun kv _ => (m + 1) - (intOf kv).toNat)
        case atStart => exact ⟨0, _, rfl, Nat.zero_le _, HLE, HO3, HB3⟩
        case round =>
          obtain ⟨j, q, rfl, hj, HLQ, HQ, HBQ⟩ := hrel
          by_cases hjn : j < (m + 1)
          · have hji : (j : Int) < (((m + 1) : Nat) : Int) := by omega
            obtain ⟨⟨ur, ua, us, uo⟩, hu⟩ : ∃ u, q[j]? = some u := ⟨_, List.getElem?_eq_getElem (by rw [HLQ.out]; exact hjn)⟩
            obtain ⟨gg, c', hv, _, hgb, hgl⟩ := ownG_pos HQ.out (Nat.lt_of_le_of_lt (Nat.zero_le j) hjn)
            cases hv
            have c0 := (ownG_at HQ.out (flat_get encU_len _ j 0 _ _ hu rfl)).1
            rw [Nat.add_zero] at c0
            have c2 := (ownG_at HQ.out (flat_get encU_len _ j 2 _ _ hu rfl)).1
            obtain ⟨c3, f3⟩ := ownG_at HQ.out (flat_get encU_len _ j 3 _ _ hu rfl)
            have HQS : ∀ b : Bool, Hid (wr.ownsRow (k0 + 1) 170 4 (.slice (some ⟨g, 0, none⟩) (m + 1) c) (m + 1) (q.flatMap encU)) → Hid ((wr.setCell ⟨g, j * 4 + 3, none⟩ (.bool b)).ownsRow (k0 + 1) 170 4 (.slice (some ⟨g, 0, none⟩) (m + 1) c) (m + 1) ((q.set j ⟨ur, ua, us, b⟩).flatMap encU)) := fun b h => hide (by
              have := ownG_set h.out (j * 4 + 3) (.bool b)
              rwa [flat_set encU_len q j 3 _ ⟨ur, ua, us, b⟩ (.bool b) hu (by omega) rfl] at this)
            have HQT := hide (HQS true HQ)
            have HQF := hide (HQS false HQ)
            have HBT := hide (HBQ.out.setCell (p := ⟨g, j * 4 + 3, none⟩) (by simp; omega) (.bool true))
            have HBF := hide (HBQ.out.setCell (p := ⟨g, j * 4 + 3, none⟩) (by simp; omega) (.bool false))
            have HLS : ∀ b : Bool, Hid ((q.set j ⟨ur, ua, us, b⟩).length = (m + 1)) := fun b => hide (by rw [List.length_set]; exact HLQ.out)
            have HLT := HLS true
            have HLF := HLS false
            clear HQS hu hgb hgl HLS
            by_cases h1 : ur = 65533
            · by_cases h2 : us = 3
              · subst h1 h2
                go_wp2
                go_roundw
                case rel => exact ⟨j + 1, _, by go_num, by omega, HLT, HQT.out, HBT⟩
                case measure => simp [intOf]; omega
              · have h2' : (us == 3) = false := by simpa using h2
                subst h1
                go_wp2
                go_roundw
                case rel => exact ⟨j + 1, _, by go_num, by omega, HLF, HQF.out, HBF⟩
                case measure => simp [intOf]; omega
            · have h1' : (ur != 65533) = true := by rw [bne_iff_ne]; exact h1
              go_wp2
              go_roundw
              case rel => exact ⟨j + 1, _, by go_num, by omega, HLT, HQT.out, HBT⟩
              case measure => simp [intOf]; omega
          · obtain ⟨a', c', hv, _, HR⟩ := ownG_form HQ.out
            cases hv
            have HRR := hide HR
            have hje : j = (m + 1) := by omega
            have hji : ¬ (j : Int) < (((m + 1) : Nat) : Int) := by omega
            clear HR hje
            go_wp2_with fail
            go_ret
            exact ⟨_, _, _, q, rfl, by rw [← HK.out]; exact HBQ.out, by omega, HLQ.out.symm, HRR.out⟩
end Go.Proofs.YtbpkclopcoaikaaGreatDoor
namespace Go.Proofs.YtbpkclopcoaikaaGreatDoor
open Go.RowKit
set_option linter.unusedVariables false
set_option linter.unusedSimpArgs false
theorem IsU.below {w w' : World} {a : Option Addr} {n : Nat} {l : List Un} (h : IsU w a n l) (hb : Below w.heap.size w w') : IsU w' a n l := ⟨h.1, h.2.below hb⟩
theorem IsU.at_ {w : World} {a : Option Addr} {n : Nat} {l : List Un} (h : IsU w a n l) {k : Nat} (hk : k < n) :
    ∃ b o x, a = some ⟨b, o, none⟩ ∧ b < w.heap.size ∧ l[k]? = some x ∧ w.cell? ⟨b, o + k * 4, none⟩ = some (.int .i32 x.r) ∧ w.cell? ⟨b, o + k * 4 + 1, none⟩ = some (.int .i64 x.at_) ∧ w.cell? ⟨b, o + k * 4 + 2, none⟩ = some (.int .i64 x.sz) ∧ w.cell? ⟨b, o + k * 4 + 3, none⟩ = some (.bool x.ok) := by
  have hc : l[k]? = some (l[k]'(by have := h.1; omega)) := List.getElem?_eq_getElem _
  obtain ⟨b, o, rfl, hb, e⟩ := rd_flat encU_len (fun l k j x v => flat_get encU_len l k j x v) h.2 hc (by omega)
  exact ⟨b, o, _, rfl, hb, hc, e 0 _ rfl, e 1 _ rfl, e 2 _ rfl, e 3 _ rfl⟩
def BoolP (w : World) (e : Ending) (w' : World) : Prop := ∃ b : Bool, e = .returned (.bool b) ∧ Below w.heap.size w w'
def IntP (w : World) (e : Ending) (w' : World) : Prop := ∃ x : Int, e = .returned (.int .i64 x) ∧ Below w.heap.size w w'
set_option maxHeartbeats 2000000 in
set_option maxRecDepth 100000 in
theorem rvalid_any (S : ByteArray) (w : World) (hS : S.size ≤ 1000) : Calls Tryz.prog 121 #[.string S] w (BoolP w) := by
  go_enter Tryz.func121, Tryz.ntmps121
  go_wp2_with fail
  refine (units_any S w hS).mono ?_
  rintro e w1 ⟨a, n, c, l, rfl, hb, hn, hu⟩
  have HB := hide hb
  have HU := hide hu
  clear hb hu
  go_wp2_with fail
  go_loopw [8] (fun kv wr => ∃ k : Nat, kv = .int .i64 (k : Int) ∧ k ≤ n ∧ Hid (Below w1.heap.size w1 wr)) (fun kv _ => n - (intOf kv).toNat)
  case atStart => exact ⟨0, rfl, Nat.zero_le _, hide (bl_refl w1)⟩
  case round =>
    obtain ⟨k, rfl, hk, HBk⟩ := hrel
    by_cases hkn : k < n
    · have hki : (k : Int) < (n : Int) := by omega
      obtain ⟨b, o, ⟨ur, ua, us, uo⟩, rfl, hbl, hx, e0, e1, e2, e3⟩ := (HU.out.below HBk.out).at_ hkn
      simp only at e0 e1 e2 e3
      have HBA := hide (HBk.out.alloc HBk.out.size (.cells #[.int .i32 ur, .int .i64 ua, .int .i64 us, .bool uo] 170 (0, 0)))
      have HBB := hide (HB.out.trans (HBA.out.mono HB.out.size))
      clear hx
      cases uo
      · go_wp2
        go_ret
        exact ⟨_, rfl, HBB.out⟩
      · go_wp2
        go_roundw
        case rel => exact ⟨k + 1, by go_num, by omega, HBA⟩
        case measure => simp [intOf]; omega
    · obtain rfl : k = n := by omega
      have HBB := hide (HB.out.trans (HBk.out.mono HB.out.size))
      clear hkn
      go_wp2
      go_ret
      exact ⟨_, rfl, HBB.out⟩
/-- The error of a value: a value without one is short. -/
def ValP (S : ByteArray) (w : World) (e : Ending) (w' : World) : Prop := ∃ x : Int, e = .returned (.int .i64 x) ∧ Below w.heap.size w w' ∧ (x = 0 → S.size ≤ 120)
set_option maxHeartbeats 2000000 in
set_option maxRecDepth 100000 in
theorem rvalue_sz (S : ByteArray) (w : World) : Calls Tryz.prog 106 #[.string S] w (ValP S w) := by
  have k1 := fun (w : World) => run_bytes_of_string (P := Tryz.prog) w 9 80 5 S Tryz.underlying9 Tryz.underlying80 Tryz.underlying5
  go_enter Tryz.func106, Tryz.ntmps106
  by_cases h1 : 120 < S.size
  · have h1' : (120 : Int) < (S.size : Int) := by omega
    go_wp2
    go_ret
    exact ⟨_, rfl, bl_refl w, fun h => absurd h (by decide)⟩
  · have h1' : ¬ (120 : Int) < (S.size : Int) := by omega
    go_wp2_with fail
    refine (rvalid_any S w (by omega)).mono ?_
    rintro e w1 ⟨b, rfl, hb⟩
    have HB := hide hb
    clear hb
    cases b
    · go_wp2
      go_ret
      exact ⟨_, rfl, HB.out, fun _ => by omega⟩
    · obtain ⟨l, hl⟩ := str_ex S
      have hrd := rd_str (w := w1) hl (grownCap w1 S.size 0 5) 5 ((bytesRow S (grownCap w1 S.size 0 5)).size, (bytesRow S (grownCap w1 S.size 0 5)).size + 1)
      have hsz := str_size hl
      have HRD := hide hrd
      have HSZ := hide hsz
      have HB1 := hide (HB.out.trans ((bl_alloc (bl_drew (bl_refl w1)) (.cells (bytesRow S (grownCap w1 S.size 0 5)) 5 ((bytesRow S (grownCap w1 S.size 0 5)).size, (bytesRow S (grownCap w1 S.size 0 5)).size + 1))).mono HB.out.size))
      obtain ⟨w2, hw2⟩ : ∃ w2, w2 = (w1.alloc (.cells (bytesRow S (grownCap w1 S.size 0 5)) 5 ((bytesRow S (grownCap w1 S.size 0 5)).size, (bytesRow S (grownCap w1 S.size 0 5)).size + 1))).drew := ⟨_, rfl⟩
      rw [show w1.drew.alloc (.cells (bytesRow S (grownCap w1 S.size 0 5)) 5 ((bytesRow S (grownCap w1 S.size 0 5)).size, (bytesRow S (grownCap w1 S.size 0 5)).size + 1)) = (w1.alloc (.cells (bytesRow S (grownCap w1 S.size 0 5)) 5 ((bytesRow S (grownCap w1 S.size 0 5)).size, (bytesRow S (grownCap w1 S.size 0 5)).size + 1))).drew from rfl, ← hw2] at HRD HB1
      clear hrd hsz hl
      go_wp2_with fail
      rw [← hw2]
      clear hw2 k1
      go_loopw [14] (fun kv wr => ∃ k : Nat, kv = .int .i64 (k : Int) ∧ k ≤ S.size ∧ Hid (wr = w2)) (fun kv _ => S.size - (intOf kv).toNat)
      case atStart => exact ⟨0, rfl, Nat.zero_le _, hide rfl⟩
      case round =>
        obtain ⟨k, rfl, hk, HE⟩ := hrel
        obtain rfl := HE.out
        by_cases hkn : k < S.size
        · have hki : (k : Int) < (S.size : Int) := by omega
          obtain ⟨b, o, c, hb, hbl, hx, e0⟩ := HRD.out.at_ (k := k) (by rw [← HSZ.out]; exact hkn)
          injection hb with hb
          injection hb with hb ho
          subst hb ho
          rw [Nat.zero_add] at e0
          obtain ⟨m, hm⟩ : ∃ m, m = c.toNat := ⟨_, rfl⟩
          rw [← hm] at e0
          clear hx hm
          by_cases h32 : m < 32
          · go_wp2
            go_ret
            exact ⟨_, rfl, HB1.out, fun _ => by omega⟩
          · by_cases h127 : m = 127
            · subst h127
              go_wp2
              go_ret
              exact ⟨_, rfl, HB1.out, fun _ => by omega⟩
            · have h127' : ((m : Int) == 127) = false := by rw [beq_eq_false_iff_ne]; omega
              have h32' : ¬ (m : Int) < 32 := by omega
              go_wp2
              go_roundw
              case rel => exact ⟨k + 1, by go_num, by omega, hide trivial⟩
              case measure => simp [intOf]; omega
        · obtain rfl : k = S.size := by omega
          clear hkn
          go_wp2
          go_ret
          exact ⟨_, rfl, HB1.out, fun _ => by omega⟩
theorem rvalue_any (S : ByteArray) (w : World) : Calls Tryz.prog 106 #[.string S] w (IntP w) := (rvalue_sz S w).mono fun e w' ⟨x, h1, h2, _⟩ => ⟨x, h1, h2⟩
end Go.Proofs.YtbpkclopcoaikaaGreatDoor
