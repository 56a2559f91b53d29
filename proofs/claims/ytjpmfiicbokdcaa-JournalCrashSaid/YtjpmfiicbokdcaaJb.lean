/- The walk of the journal's Encode. The walk of the reference's Encode. Records in memory; the walks of both EncodeAll. -/
import Derived.Test.YtjpmfiicbokdcaaJa
namespace Go.Proofs.Ytjpmfiicbokdcaa
open Go.RowKit
set_option linter.unusedVariables false
set_option linter.unusedSimpArgs false
def jencE (r : Rec) : Nat := if r.1 = 1 ∨ r.1 = 2 then (if r.2.length ≤ 1048576 then 0 else 2) else 1
def jencO (r : Rec) : List UInt8 := if jencE r = 0 then encR r else []
theorem encE_ok {r : Rec} (h : okR r) : jencE r = 0 := by unfold jencE; rw [if_pos h.1, if_pos h.2]
theorem encO_ok {r : Rec} (h : okR r) : jencO r = encR r := by unfold jencO; rw [encE_ok h]; rfl
theorem encE_zero {r : Rec} (h : jencE r = 0) : okR r := by
  unfold jencE at h
  by_cases h1 : r.1 = 1 ∨ r.1 = 2
  · rw [if_pos h1] at h
    by_cases h2 : r.2.length ≤ 1048576
    · exact ⟨h1, h2⟩
    · rw [if_neg h2] at h; cases h
  · rw [if_neg h1] at h; cases h
theorem encO_err {r : Rec} (h : ¬ jencE r = 0) : jencO r = [] := by unfold jencO; rw [if_neg h]
/-- What both Encode answer. -/
def encV (r : Rec) : Ending := .returned (.tuple #[.string (bstr (jencO r)), .int .i64 ((jencE r : Nat) : Int)])
set_option maxHeartbeats 1000000 in
set_option maxRecDepth 100000 in
theorem enc_any (k : Int) (S : ByteArray) (p : List UInt8) (w : World) (hS : S = bstr p) (hp : p.length ≤ 900000) :
    Calls Try.prog 60 #[.agg #[.int .i64 k, .string S]] w fun e w' => e = encV (k, p) ∧ Below w.heap.size w w' := by
  by_cases hk : k = 1 ∨ k = 2
  · have hv : encV (k, p) = .returned (.tuple #[.string (bstr (encR (k, p))), .int .i64 0]) := by
      have h : okR (k, p) := ⟨hk, by show p.length ≤ 1048576; omega⟩
      unfold encV
      rw [encO_ok h, encE_ok h]; rfl
    rw [hv]
    have HV := hide hS
    have hsz := str_size hS
    obtain ⟨n, hn⟩ : ∃ n, n = p.length := ⟨_, rfl⟩
    rw [← hn] at hsz hp
    have HN := hide hn
    have hn2 : ¬ (1048576 : Int) < (n : Int) := by omega
    have hn3 : (n : Int) % 4294967296 = (n : Int) := by omega
    have hone : ∀ (w : World) (g : Nat) (c : UInt8), g = w.heap.size → (convert 91 9 (.slice (some ⟨g, 0, none⟩) 1 1)).run Try.prog (w.alloc (.cells #[.int .u8 (c.toNat : Int)] 5)) = .ok (.string (bstr [c])) (w.alloc (.cells #[.int .u8 (c.toNat : Int)] 5)) := fun w g c hg => by
      subst hg
      exact run_bytes_str (P := Try.prog) _ 91 9 5 _ 1 1 [c] Try.underlying91 Try.underlying5 Try.underlying9 rfl (rd_lit w #[.int .u8 (c.toNat : Int)] 5 (0, 0))
    have hone1 := fun (w : World) (g : Nat) => hone w g 1
    have hone2 := fun (w : World) (g : Nat) => hone w g 2
    rw [show (((1 : UInt8).toNat : Nat) : Int) = 1 by decide] at hone1
    rw [show (((2 : UInt8).toNat : Nat) : Int) = 2 by decide] at hone2
    have add1 := fun (w : World) => add_str (P := Try.prog) (rfl : bstr [1] = bstr [1]) HV.out (by rw [← HN.out]; simp; omega) w
    have add2 := fun (w : World) => add_str (P := Try.prog) (rfl : bstr [2] = bstr [2]) HV.out (by rw [← HN.out]; simp; omega) w
    have HO1 := hide hone1
    have HO2 := hide hone2
    have HA1 := hide add1
    have HA2 := hide add2
    clear hn hS hv hone hone1 hone2 add1 add2
    rcases hk with rfl | rfl
    · have hone1 := HO1.out
      have add1 := HA1.out
      go_enter Try.func60, Try.ntmps60
      go_wp2_with fail
      obtain ⟨W, hW⟩ : ∃ W, W = (w.alloc (.cells #[.int .i64 1, .string S] 90)).alloc (.cells #[.int .u8 1] 5) := ⟨_, rfl⟩
      have hbW : Below w.heap.size w W := by rw [hW]; exact bl_alloc (bl_alloc (bl_refl w) _) _
      rw [← hW]
      clear hW hone1 add1 hn2 hn3
      refine (jput_any W.heap.size (.slice none 0 0) 0 [] _ n W rfl (by omega) (World.ownsRow_nil _ _ _ _) (Nat.le_refl _) (by omega)).mono ?_
      rintro e w1 ⟨v1, m1, rfl, hm1, hown1, hg1⟩
      have HN1 := hide hown1
      have hb1 : Below w.heap.size w w1 := hbW.trans ((bl_grown (bl_refl W) hg1 (fun k h => by simp [Value.ownBlock] at h)).mono hbW.size)
      have hs1 := hg1.size
      clear hown1 hg1
      go_wp2_with fail
      refine (jsum_any (bstr (1 :: p)) (1 :: p) w1 rfl (by rw [List.length_cons, ← HN.out]; omega)).mono ?_
      rintro e w2 ⟨rfl, hb2⟩
      go_wp2_with fail
      refine (jput_any W.heap.size v1 m1 _ _ (crcN (1 :: p)) w2 rfl (crcN_lt _) (own_below HN1.out hb2) (Nat.le_trans hs1 hb2.size) (by omega)).mono ?_
      rintro e w3 ⟨v2, m2, rfl, hm2, hown2, hg2⟩
      have hb3 : Below w.heap.size w w3 := bl_grown (hb1.trans (hb2.mono hb1.size)) hg2 (fun k h => by have := (HN1.out.lt k h).1; have := hbW.size; omega)
      obtain ⟨hx1, a, c, rfl, hx2, hrd, hx3⟩ := own_form hown2
      rw [List.nil_append, ← List.map_append] at hrd
      obtain ⟨L, hL⟩ : ∃ L, L = be4L n ++ be4L (crcN (1 :: p)) := ⟨_, rfl⟩
      rw [← hL] at hrd
      have hLl : m2 = L.length := by rw [hL, hm2, hm1]; rfl
      have k1 := run_bytes_str (P := Try.prog) w3 91 9 5 a m2 c L Try.underlying91 Try.underlying5 Try.underlying9 hLl hrd
      have add3 := add_str (P := Try.prog) (rfl : bstr L = bstr L) (rfl : bstr (1 :: p) = bstr (1 :: p)) (by rw [← hLl, List.length_cons, ← HN.out]; omega) w3
      have HL := hide hL
      clear hL hLl hm1 hm2 hx1 hx2 hx3 hrd hown2 hg2
      go_wp2_with fail
      go_ret2
      refine ⟨?_, hb3⟩
      rw [HL.out, HN.out]
      unfold encR
      rw [List.append_assoc]
      rfl
    · have hone1 := HO2.out
      have add1 := HA2.out
      go_enter Try.func60, Try.ntmps60
      go_wp2_with fail
      obtain ⟨W, hW⟩ : ∃ W, W = (w.alloc (.cells #[.int .i64 2, .string S] 90)).alloc (.cells #[.int .u8 2] 5) := ⟨_, rfl⟩
      have hbW : Below w.heap.size w W := by rw [hW]; exact bl_alloc (bl_alloc (bl_refl w) _) _
      rw [← hW]
      clear hW hone1 add1 hn2 hn3
      refine (jput_any W.heap.size (.slice none 0 0) 0 [] _ n W rfl (by omega) (World.ownsRow_nil _ _ _ _) (Nat.le_refl _) (by omega)).mono ?_
      rintro e w1 ⟨v1, m1, rfl, hm1, hown1, hg1⟩
      have HN1 := hide hown1
      have hb1 : Below w.heap.size w w1 := hbW.trans ((bl_grown (bl_refl W) hg1 (fun k h => by simp [Value.ownBlock] at h)).mono hbW.size)
      have hs1 := hg1.size
      clear hown1 hg1
      go_wp2_with fail
      refine (jsum_any (bstr (2 :: p)) (2 :: p) w1 rfl (by rw [List.length_cons, ← HN.out]; omega)).mono ?_
      rintro e w2 ⟨rfl, hb2⟩
      go_wp2_with fail
      refine (jput_any W.heap.size v1 m1 _ _ (crcN (2 :: p)) w2 rfl (crcN_lt _) (own_below HN1.out hb2) (Nat.le_trans hs1 hb2.size) (by omega)).mono ?_
      rintro e w3 ⟨v2, m2, rfl, hm2, hown2, hg2⟩
      have hb3 : Below w.heap.size w w3 := bl_grown (hb1.trans (hb2.mono hb1.size)) hg2 (fun k h => by have := (HN1.out.lt k h).1; have := hbW.size; omega)
      obtain ⟨hx1, a, c, rfl, hx2, hrd, hx3⟩ := own_form hown2
      rw [List.nil_append, ← List.map_append] at hrd
      obtain ⟨L, hL⟩ : ∃ L, L = be4L n ++ be4L (crcN (2 :: p)) := ⟨_, rfl⟩
      rw [← hL] at hrd
      have hLl : m2 = L.length := by rw [hL, hm2, hm1]; rfl
      have k1 := run_bytes_str (P := Try.prog) w3 91 9 5 a m2 c L Try.underlying91 Try.underlying5 Try.underlying9 hLl hrd
      have add3 := add_str (P := Try.prog) (rfl : bstr L = bstr L) (rfl : bstr (2 :: p) = bstr (2 :: p)) (by rw [← hLl, List.length_cons, ← HN.out]; omega) w3
      have HL := hide hL
      clear hL hLl hm1 hm2 hx1 hx2 hx3 hrd hown2 hg2
      go_wp2_with fail
      go_ret2
      refine ⟨?_, hb3⟩
      rw [HL.out, HN.out]
      unfold encR
      rw [List.append_assoc]
      rfl
  · by_cases h2 : True
    · have h1 : ¬ k = 1 := fun h => hk (.inl h)
      have h2 : ¬ k = 2 := fun h => hk (.inr h)
      have h1' : (k != 1) = true := by simpa using h1
      have h2' : (k != 2) = true := by simpa using h2
      have hv : encV (k, p) = .returned (.tuple #[.string (bstr []), .int .i64 1]) := by
        have h : jencE (k, p) = 1 := by unfold jencE; rw [if_neg hk]
        unfold encV jencO
        rw [h]; rfl
      rw [hv]
      clear hv hk hS
      go_enter Try.func60, Try.ntmps60
      go_wp2
      go_ret2
      exact ⟨rfl, bl_alloc (bl_refl w) _⟩
    · exact absurd trivial h2
end Go.Proofs.Ytjpmfiicbokdcaa
namespace Go.Proofs.Ytjpmfiicbokdcaa
open Go.RowKit
set_option linter.unusedVariables false
set_option linter.unusedSimpArgs false
theorem own_lit (w : World) (C : Array Value) (e : TypeId) (n : Nat) (hn : n = C.size) (hm : n ≤ maxLen) : (w.alloc (.cells C e)).ownsRow w.heap.size e 1 (.slice (some ⟨w.heap.size, 0, none⟩) n n) n C.toList := by
  subst hn
  exact ⟨by simp, .inr ⟨w.heap.size, C.size, C, rfl, Nat.le_refl _, heap_alloc_new w _, Nat.le_refl _, hm, by simp, by rw [Nat.mul_one]; exact List.take_of_length_le (by simp)⟩⟩
end Go.Proofs.Ytjpmfiicbokdcaa
namespace Go.Proofs.Ytjpmfiicbokdcaa
open Go.RowKit
set_option linter.unusedVariables false
set_option linter.unusedSimpArgs false
def recC (r : Rec) : List Value := [.int .i64 r.1, .string (bstr r.2)]
theorem recs_get (l : List Rec) (k j : Nat) (r : Rec) (v : Value) (hk : l[k]? = some r) (hj : (recC r)[j]? = some v) : (l.flatMap recC)[k * 2 + j]? = some v := by
  induction l generalizing k with
  | nil => simp at hk
  | cons q l ih =>
    have hj3 : j < 2 := by have := (List.getElem?_eq_some_iff.1 hj).1; simpa [recC] using this
    rw [List.flatMap_cons]
    cases k with
    | zero =>
      simp at hk; subst hk
      rw [List.getElem?_append_left (by simpa [recC] using hj3)]
      simpa using hj
    | succ k =>
      rw [List.getElem?_append_right (by simp [recC]; omega)]
      have := ih k (by simpa using hk)
      rw [← this]
      congr 1
      simp [recC]; omega
theorem recs_length (l : List Rec) : (l.flatMap recC).length = l.length * 2 := by
  induction l with
  | nil => rfl
  | cons q l ih => rw [List.flatMap_cons, List.length_append, ih]; simp [recC]; omega
/-- A slice of records, read. -/
def IsRecs (w : World) (a : Option Addr) (len : Nat) (l : List Rec) : Prop := len = l.length ∧ Rd w a (l.flatMap recC)
theorem IsRecs.below {w w' : World} {a : Option Addr} {len : Nat} {l : List Rec} (h : IsRecs w a len l) (hb : Below w.heap.size w w') : IsRecs w' a len l := ⟨h.1, h.2.below hb⟩
theorem IsRecs.at_ {w : World} {a : Option Addr} {len : Nat} {l : List Rec} (h : IsRecs w a len l) {k : Nat} (hk : k < len) :
    ∃ b o r, a = some ⟨b, o, none⟩ ∧ b < w.heap.size ∧ l[k]? = some r ∧ w.cell? ⟨b, o + k * 2, none⟩ = some (.int .i64 r.1) ∧ w.cell? ⟨b, o + k * 2 + 1, none⟩ = some (.string (bstr r.2)) := by
  obtain ⟨h1, h3⟩ := h
  have hc : l[k]? = some (l[k]'(by omega)) := List.getElem?_eq_getElem _
  obtain ⟨b, o, ha, hb, e0⟩ := h3.at_ (recs_get l k 0 _ _ hc rfl)
  obtain ⟨b1, o1, ha1, _, e1⟩ := h3.at_ (recs_get l k 1 _ _ hc rfl)
  rw [ha] at ha1
  injection ha1 with ha1; injection ha1 with q1 q2; subst q1 q2
  exact ⟨b, o, _, ha, hb, hc, by simpa using e0, by rw [Nat.add_assoc]; exact e1⟩
/-- What EncodeAll answers. -/
def allE : List Rec → Nat
  | [] => 0
  | r :: l => if jencE r = 0 then allE l else jencE r
theorem allE_bad {pre t : List Rec} {r : Rec} (h : ∀ q ∈ pre, jencE q = 0) (hr : ¬ jencE r = 0) : allE (pre ++ r :: t) = jencE r := by
  induction pre with
  | nil => show allE (r :: t) = _; unfold allE; rw [if_neg hr]
  | cons q pre ih =>
    show allE (q :: (pre ++ r :: t)) = _
    unfold allE
    rw [if_pos (h q (by simp))]
    exact ih fun q hq => h q (by simp [hq])
theorem allE_ok {l : List Rec} (h : ∀ q ∈ l, jencE q = 0) : allE l = 0 := by
  induction l with
  | nil => rfl
  | cons q l ih => unfold allE; rw [if_pos (h q (by simp))]; exact ih fun q hq => h q (by simp [hq])
def allO (l : List Rec) : List UInt8 := if allE l = 0 then encL l else []
def allV (l : List Rec) : Ending := .returned (.tuple #[.string (bstr (allO l)), .int .i64 ((allE l : Nat) : Int)])
theorem allV_bad {l : List Rec} {k : Nat} {r : Rec} (h : ∀ q ∈ l.take k, jencE q = 0) (hk : l[k]? = some r) (hr : ¬ jencE r = 0) : allV l = .returned (.tuple #[.string (bstr []), .int .i64 ((jencE r : Nat) : Int)]) := by
  have e : l = l.take k ++ r :: l.drop (k + 1) := by
    obtain ⟨h1, h2⟩ := List.getElem?_eq_some_iff.1 hk
    rw [← h2, ← List.drop_eq_getElem_cons h1, List.take_append_drop]
  have h1 : allE l = jencE r := (congrArg allE e).trans (allE_bad h hr)
  unfold allV allO
  rw [h1, if_neg hr]
theorem allV_ok {l : List Rec} (h : ∀ q ∈ l, jencE q = 0) : allV l = .returned (.tuple #[.string (bstr (encL l)), .int .i64 0]) := by
  unfold allV allO
  rw [allE_ok h]; rfl
theorem encL_len (l : List Rec) (h : ∀ r ∈ l, r.2.length ≤ 1000) : (encL l).length ≤ 1009 * l.length := by
  induction l with
  | nil => simp [encL]
  | cons q l ih =>
    have h1 := ih (fun r hr => h r (by simp [hr]))
    have h2 := h q (by simp)
    rw [encL_cons, List.length_append, encR_length, List.length_cons]
    omega
set_option maxHeartbeats 1000000 in
set_option maxRecDepth 100000 in
theorem ea_any (a : Option Addr) (len cap : Nat) (l : List Rec) (w : World) (h : IsRecs w a len l) (hp : ∀ r ∈ l, r.2.length ≤ 1000) (hn : len ≤ 1000) :
    Calls Try.prog 34 #[.slice a len cap] w fun e w' => e = allV l ∧ Below w.heap.size w w' := by
  have HR := hide h
  have HPL := hide hp
  have HL := hide h.1
  obtain ⟨i0, hi0, hz0, hz1, hz2⟩ := info_parts info_u8
  clear h hp
  go_enter Try.func34, Try.ntmps34
  go_wp2_with fail
  go_loopw [4, 11] (fun s i wr => ∃ k : Nat, i = .int .i64 (k : Int) ∧ k ≤ len ∧ Hid (∀ r ∈ l.take k, jencE r = 0) ∧ Hid (wr.ownsRow w.heap.size 5 1 s (encL (l.take k)).length ((encL (l.take k)).map u8v)) ∧ Below w.heap.size w wr) (fun _ i _ => len - (intOf i).toNat)
  case atStart => exact ⟨0, rfl, Nat.zero_le _, hide (fun r hr => by simp at hr), hide (by simpa [encL] using World.ownsRow_nil w w.heap.size _ _), bl_refl w⟩
  case round =>
    obtain ⟨k, rfl, hk, HE, HO, hb⟩ := hrel
    by_cases hlt : k < len
    · obtain ⟨b, o, ⟨c0, c1⟩, rfl, hbl, hck, e0, e1⟩ := (HR.out.below hb).at_ hlt
      simp only [] at e0 e1
      have HCK := hide hck
      have hpl : c1.length ≤ 1000 := HPL.out (c0, c1) (List.mem_of_getElem? hck)
      have HPC := hide hpl
      obtain ⟨S, hS⟩ : ∃ S, S = bstr c1 := ⟨_, rfl⟩
      rw [← hS] at e1
      have HS := hide hS
      clear hck hS hpl
      have hen : (encL (l.take k)).length ≤ 1009 * 1000 := by
        have h1 := encL_len (l.take k) (fun r hr => HPL.out r (List.mem_of_mem_take hr))
        have h2 : (l.take k).length ≤ 1000 := by simp; omega
        omega
      have HEN := hide hen
      clear hen
      go_wp2_with fail
      refine (enc_any c0 S c1 _ HS.out (by have := HPC.out; omega)).mono ?_
      rintro e w3 ⟨rfl, hb3⟩
      have hb03 : Below w.heap.size w w3 := hb.trans ((bl_trans (bl_alloc (bl_refl wr) _) hb3).mono hb.size)
      have hbr : Below wr.heap.size wr w3 := bl_trans (bl_alloc (bl_refl wr) _) hb3
      unfold encV
      by_cases hz : jencE (c0, c1) = 0
      · rw [hz, encO_ok (encE_zero hz)]
        obtain ⟨X, hX⟩ : ∃ X, X = bstr (encR (c0, c1)) := ⟨_, rfl⟩
        rw [← hX]
        have HX := hide hX
        have HZ := hide hz
        clear hX hz
        have hxl : X.size ≤ 1009 := by rw [str_size HX.out, encR_length]; have := HPC.out; show 9 + c1.length ≤ _; omega
        have HXL := hide hxl
        clear hxl
        go_wp2_with (at_builtin; go_loud (refine Lib.wpList_append_own_string _ rfl (.tmp 23) (.tmp 24) 91 9 rfl w.heap.size 5 i0 Try.underlying91 Try.underlying9 hi0 hz0 hz1 hz2 u4 (encL (l.take k)).length ((encL (l.take k)).map u8v) rfl (own_below HO.out hbr) X rfl (by have := HXL.out; have := HEN.out; simp only [maxLen]; omega) (by have := HXL.out; have := HEN.out; omega) hb03.size ?_); intro v2 w4 hown2 hg2 hnil2)
        go_roundw
        case rel =>
          refine ⟨k + 1, by go_num, by omega, hide ?_, hide ?_, bl_grown hb03 hg2 (fun j hj => (HO.out.lt j hj).1)⟩
          · intro r hr
            rw [take_snoc l k _ HCK.out] at hr
            rcases List.mem_append.1 hr with hr | hr
            · exact HE.out r hr
            · simp at hr; subst hr; exact HZ.out
          · rw [take_snoc l k _ HCK.out, encL_snoc, List.map_append, List.length_append]
            rw [HX.out, str_cells] at hown2
            exact hown2
        case measure => simp [intOf]; omega
      · rw [encO_err hz]
        have HV := hide (allV_bad HE.out HCK.out hz)
        obtain ⟨x, hx⟩ : ∃ x, x = jencE (c0, c1) := ⟨_, rfl⟩
        rw [← hx] at hz ⊢
        have hz' : ((x : Int) != 0) = true := by rw [bne_iff_ne]; omega
        have HX := hide hx
        clear hx hz
        go_wp2
        go_ret2
        exact ⟨by rw [HV.out, HX.out]; rfl, hb03⟩
    · obtain rfl : k = len := by omega
      have hfull : l.take k = l := List.take_of_length_le (by rw [← HL.out]; omega)
      obtain ⟨hx1, a1, c1, rfl, hx2, hrd, hx3⟩ := own_form HO.out
      rw [hfull] at hrd
      have HE2 : ∀ r ∈ l, jencE r = 0 := by have := HE.out; rwa [hfull] at this
      have hv := allV_ok HE2
      have k1 := run_bytes_str (P := Try.prog) wr 91 9 5 a1 (encL (l.take k)).length c1 (encL l) Try.underlying91 Try.underlying5 Try.underlying9 (by rw [hfull]) hrd
      have HV := hide hv
      clear hx1 hx2 hx3 hrd hfull HE2 hv
      go_wp2
      go_ret2
      exact ⟨HV.out.symm, hb⟩
end Go.Proofs.Ytjpmfiicbokdcaa
