/- Records in memory; the walks of both EncodeAll. -/
import Derived.Test.YthkncfenhfieoaaJREncW
namespace Go.Proofs.Ythkncfenhfieoaa
open Go.RowKit
set_option linter.unusedVariables false
set_option linter.unusedSimpArgs false
def recC (r : Rec) : List Value := [.int .i64 r.1, .string (bstr r.2)]
theorem recs_get (l : List Rec) (k j : Nat) (r : Rec) (v : Value) (hk : l[k]? = some r) (hj : (recC r)[j]? = some v) : (l.flatMap recC)[k * 2 + j]? = some v := by
  induction l generalizing k with
  | nil => simp at hk
  | cons q l ih =>
    have hj3 : j < 2 := by have := (List.getElem?_eq_some_iff.1 hj).1; simpa [recC] using this
    rw [List.flatMap_cons]
    cases k with
    | zero =>
      simp at hk; subst hk
      rw [List.getElem?_append_left (by simpa [recC] using hj3)]
      simpa using hj
    | succ k =>
      rw [List.getElem?_append_right (by simp [recC]; omega)]
      have := ih k (by simpa using hk)
      rw [← this]
      congr 1
      simp [recC]; omega
theorem recs_length (l : List Rec) : (l.flatMap recC).length = l.length * 2 := by
  induction l with
  | nil => rfl
  | cons q l ih => rw [List.flatMap_cons, List.length_append, ih]; simp [recC]; omega
/-- A slice of records, read. -/
def IsRecs (w : World) (a : Option Addr) (len : Nat) (l : List Rec) : Prop := len = l.length ∧ Rd w a (l.flatMap recC)
theorem IsRecs.below {w w' : World} {a : Option Addr} {len : Nat} {l : List Rec} (h : IsRecs w a len l) (hb : Below w.heap.size w w') : IsRecs w' a len l := ⟨h.1, h.2.below hb⟩
theorem IsRecs.at_ {w : World} {a : Option Addr} {len : Nat} {l : List Rec} (h : IsRecs w a len l) {k : Nat} (hk : k < len) :
    ∃ b o r, a = some ⟨b, o, none⟩ ∧ b < w.heap.size ∧ l[k]? = some r ∧ w.cell? ⟨b, o + k * 2, none⟩ = some (.int .i64 r.1) ∧ w.cell? ⟨b, o + k * 2 + 1, none⟩ = some (.string (bstr r.2)) := by
  obtain ⟨h1, h3⟩ := h
  have hc : l[k]? = some (l[k]'(by omega)) := List.getElem?_eq_getElem _
  obtain ⟨b, o, ha, hb, e0⟩ := h3.at_ (recs_get l k 0 _ _ hc rfl)
  obtain ⟨b1, o1, ha1, _, e1⟩ := h3.at_ (recs_get l k 1 _ _ hc rfl)
  rw [ha] at ha1
  injection ha1 with ha1; injection ha1 with q1 q2; subst q1 q2
  exact ⟨b, o, _, ha, hb, hc, by simpa using e0, by rw [Nat.add_assoc]; exact e1⟩
/-- What EncodeAll answers. -/
def allE : List Rec → Nat
  | [] => 0
  | r :: l => if encE r = 0 then allE l else encE r
theorem allE_bad {pre t : List Rec} {r : Rec} (h : ∀ q ∈ pre, encE q = 0) (hr : ¬ encE r = 0) : allE (pre ++ r :: t) = encE r := by
  induction pre with
  | nil => show allE (r :: t) = _; unfold allE; rw [if_neg hr]
  | cons q pre ih =>
    show allE (q :: (pre ++ r :: t)) = _
    unfold allE
    rw [if_pos (h q (by simp))]
    exact ih fun q hq => h q (by simp [hq])
theorem allE_ok {l : List Rec} (h : ∀ q ∈ l, encE q = 0) : allE l = 0 := by
  induction l with
  | nil => rfl
  | cons q l ih => unfold allE; rw [if_pos (h q (by simp))]; exact ih fun q hq => h q (by simp [hq])
def allO (l : List Rec) : List UInt8 := if allE l = 0 then encL l else []
def allV (l : List Rec) : Ending := .returned (.tuple #[.string (bstr (allO l)), .int .i64 ((allE l : Nat) : Int)])
theorem allV_bad {l : List Rec} {k : Nat} {r : Rec} (h : ∀ q ∈ l.take k, encE q = 0) (hk : l[k]? = some r) (hr : ¬ encE r = 0) : allV l = .returned (.tuple #[.string (bstr []), .int .i64 ((encE r : Nat) : Int)]) := by
  have e : l = l.take k ++ r :: l.drop (k + 1) := by
    obtain ⟨h1, h2⟩ := List.getElem?_eq_some_iff.1 hk
    rw [← h2, ← List.drop_eq_getElem_cons h1, List.take_append_drop]
  have h1 : allE l = encE r := (congrArg allE e).trans (allE_bad h hr)
  unfold allV allO
  rw [h1, if_neg hr]
theorem allV_ok {l : List Rec} (h : ∀ q ∈ l, encE q = 0) : allV l = .returned (.tuple #[.string (bstr (encL l)), .int .i64 0]) := by
  unfold allV allO
  rw [allE_ok h]; rfl
theorem encL_len (l : List Rec) (h : ∀ r ∈ l, r.2.length ≤ 1000) : (encL l).length ≤ 1009 * l.length := by
  induction l with
  | nil => simp [encL]
  | cons q l ih =>
    have h1 := ih (fun r hr => h r (by simp [hr]))
    have h2 := h q (by simp)
    rw [encL_cons, List.length_append, encR_length, List.length_cons]
    omega
set_option maxHeartbeats 1000000 in
set_option maxRecDepth 100000 in
theorem ea_any (a : Option Addr) (len cap : Nat) (l : List Rec) (w : World) (h : IsRecs w a len l) (hp : ∀ r ∈ l, r.2.length ≤ 1000) (hn : len ≤ 1000) :
    Calls Try.prog 19 #[.slice a len cap] w fun e w' => e = allV l ∧ Below w.heap.size w w' := by
  have HR := hide h
  have HPL := hide hp
  have HL := hide h.1
  obtain ⟨i0, hi0, hz0, hz1, hz2⟩ := info_parts info_u8
  clear h hp
  go_enter Try.func19, Try.ntmps19
  go_wp2_with fail
  go_loopw [4, 11] (fun s i wr => ∃ k : Nat, i = .int .i64 (k : Int) ∧ k ≤ len ∧ Hid (∀ r ∈ l.take k, encE r = 0) ∧ Hid (wr.ownsRow w.heap.size 5 1 s (encL (l.take k)).length ((encL (l.take k)).map u8v)) ∧ Below w.heap.size w wr) (fun _ i _ => len - (intOf i).toNat)
  case atStart => exact ⟨0, rfl, Nat.zero_le _, hide (fun r hr => by simp at hr), hide (by simpa [encL] using World.ownsRow_nil w w.heap.size _ _), bl_refl w⟩
  case round =>
    obtain ⟨k, rfl, hk, HE, HO, hb⟩ := hrel
    by_cases hlt : k < len
    · obtain ⟨b, o, ⟨c0, c1⟩, rfl, hbl, hck, e0, e1⟩ := (HR.out.below hb).at_ hlt
      simp only [] at e0 e1
      have HCK := hide hck
      have hpl : c1.length ≤ 1000 := HPL.out (c0, c1) (List.mem_of_getElem? hck)
      have HPC := hide hpl
      obtain ⟨S, hS⟩ : ∃ S, S = bstr c1 := ⟨_, rfl⟩
      rw [← hS] at e1
      have HS := hide hS
      clear hck hS hpl
      have hen : (encL (l.take k)).length ≤ 1009 * 1000 := by
        have h1 := encL_len (l.take k) (fun r hr => HPL.out r (List.mem_of_mem_take hr))
        have h2 : (l.take k).length ≤ 1000 := by simp; omega
        omega
      have HEN := hide hen
      clear hen
      go_wp2_with fail
      refine (enc_any c0 S c1 _ HS.out (by have := HPC.out; omega)).mono ?_
      rintro e w3 ⟨rfl, hb3⟩
      have hb03 : Below w.heap.size w w3 := hb.trans ((bl_trans (bl_alloc (bl_refl wr) _) hb3).mono hb.size)
      have hbr : Below wr.heap.size wr w3 := bl_trans (bl_alloc (bl_refl wr) _) hb3
      unfold encV
      by_cases hz : encE (c0, c1) = 0
      · rw [hz, encO_ok (encE_zero hz)]
        obtain ⟨X, hX⟩ : ∃ X, X = bstr (encR (c0, c1)) := ⟨_, rfl⟩
        rw [← hX]
        have HX := hide hX
        have HZ := hide hz
        clear hX hz
        have hxl : X.size ≤ 1009 := by rw [str_size HX.out, encR_length]; have := HPC.out; show 9 + c1.length ≤ _; omega
        have HXL := hide hxl
        clear hxl
        go_wp2_with (at_builtin; go_loud (refine Lib.wpList_append_own_string _ rfl (.tmp 23) (.tmp 24) 39 9 rfl w.heap.size 5 i0 Try.underlying39 Try.underlying9 hi0 hz0 hz1 hz2 u4 (encL (l.take k)).length ((encL (l.take k)).map u8v) rfl (own_below HO.out hbr) X rfl (by have := HXL.out; have := HEN.out; simp only [maxLen]; omega) (by have := HXL.out; have := HEN.out; omega) hb03.size ?_); intro v2 w4 hown2 hg2 hnil2)
        go_roundw
        case rel =>
          refine ⟨k + 1, by go_num, by omega, hide ?_, hide ?_, bl_grown hb03 hg2 (fun j hj => (HO.out.lt j hj).1)⟩
          · intro r hr
            rw [take_snoc l k _ HCK.out] at hr
            rcases List.mem_append.1 hr with hr | hr
            · exact HE.out r hr
            · simp at hr; subst hr; exact HZ.out
          · rw [take_snoc l k _ HCK.out, encL_snoc, List.map_append, List.length_append]
            rw [HX.out, str_cells] at hown2
            exact hown2
        case measure => simp [intOf]; omega
      · rw [encO_err hz]
        have HV := hide (allV_bad HE.out HCK.out hz)
        obtain ⟨x, hx⟩ : ∃ x, x = encE (c0, c1) := ⟨_, rfl⟩
        rw [← hx] at hz ⊢
        have hz' : ((x : Int) != 0) = true := by rw [bne_iff_ne]; omega
        have HX := hide hx
        clear hx hz
        go_wp2
        go_ret2
        exact ⟨by rw [HV.out, HX.out]; rfl, hb03⟩
    · obtain rfl : k = len := by omega
      have hfull : l.take k = l := List.take_of_length_le (by rw [← HL.out]; omega)
      obtain ⟨hx1, a1, c1, rfl, hx2, hrd, hx3⟩ := own_form HO.out
      rw [hfull] at hrd
      have HE2 : ∀ r ∈ l, encE r = 0 := by have := HE.out; rwa [hfull] at this
      have hv := allV_ok HE2
      have k1 := run_bytes_str (P := Try.prog) wr 39 9 5 a1 (encL (l.take k)).length c1 (encL l) Try.underlying39 Try.underlying5 Try.underlying9 (by rw [hfull]) hrd
      have HV := hide hv
      clear hx1 hx2 hx3 hrd hfull HE2 hv
      go_wp2
      go_ret2
      exact ⟨HV.out.symm, hb⟩
set_option maxHeartbeats 1000000 in
set_option maxRecDepth 100000 in
theorem rea_any (a : Option Addr) (len cap : Nat) (l : List Rec) (w : World) (h : IsRecs w a len l) (hp : ∀ r ∈ l, r.2.length ≤ 1000) (hn : len ≤ 1000) :
    Calls Try.prog 11 #[.slice a len cap] w fun e w' => e = allV l ∧ Below w.heap.size w w' := by
  have HR := hide h
  have HPL := hide hp
  have HL := hide h.1
  clear h hp
  go_enter Try.func11, Try.ntmps11
  go_wp2_with fail
  go_loopw [4, 11] (fun s i wr => ∃ (k : Nat) (S4 : ByteArray), i = .int .i64 (k : Int) ∧ s = .string S4 ∧ k ≤ len ∧ Hid (∀ r ∈ l.take k, encE r = 0) ∧ Hid (S4 = bstr (encL (l.take k))) ∧ Below w.heap.size w wr) (fun _ i _ => len - (intOf i).toNat)
  case atStart => exact ⟨0, ⟨#[]⟩, rfl, rfl, Nat.zero_le _, hide (fun r hr => by simp at hr), hide rfl, bl_refl w⟩
  case round =>
    obtain ⟨k, S4, rfl, rfl, hk, HE, HO, hb⟩ := hrel
    by_cases hlt : k < len
    · obtain ⟨b, o, ⟨c0, c1⟩, rfl, hbl, hck, e0, e1⟩ := (HR.out.below hb).at_ hlt
      simp only [] at e0 e1
      have HCK := hide hck
      have hpl : c1.length ≤ 1000 := HPL.out (c0, c1) (List.mem_of_getElem? hck)
      have HPC := hide hpl
      obtain ⟨S, hS⟩ : ∃ S, S = bstr c1 := ⟨_, rfl⟩
      rw [← hS] at e1
      have HS := hide hS
      clear hck hS hpl
      have hen : (encL (l.take k)).length ≤ 1009 * 1000 := by
        have h1 := encL_len (l.take k) (fun r hr => HPL.out r (List.mem_of_mem_take hr))
        have h2 : (l.take k).length ≤ 1000 := by simp; omega
        omega
      have HEN := hide hen
      clear hen
      go_wp2_with fail
      refine (renc_any c0 S c1 _ HS.out (by have := HPC.out; omega)).mono ?_
      rintro e w3 ⟨rfl, hb3⟩
      have hb03 : Below w.heap.size w w3 := hb.trans ((bl_trans (bl_alloc (bl_refl wr) _) hb3).mono hb.size)
      unfold encV
      by_cases hz : encE (c0, c1) = 0
      · rw [hz, encO_ok (encE_zero hz)]
        obtain ⟨X, hX⟩ : ∃ X, X = bstr (encR (c0, c1)) := ⟨_, rfl⟩
        rw [← hX]
        have HX := hide hX
        have HZ := hide hz
        have add1 := fun (w : World) => add_str (P := Try.prog) HO.out hX (by have := HEN.out; have := HPC.out; rw [encR_length]; show _ + (9 + c1.length) ≤ _; omega) w
        obtain ⟨Y, hY⟩ : ∃ Y, Y = bstr (encL (l.take k) ++ encR (c0, c1)) := ⟨_, rfl⟩
        rw [← hY] at add1
        have HY := hide hY
        clear hX hz hY
        go_wp2
        go_roundw
        case rel =>
          refine ⟨k + 1, Y, by go_num, rfl, by omega, hide ?_, hide ?_, hb03⟩
          · intro r hr
            rw [take_snoc l k _ HCK.out] at hr
            rcases List.mem_append.1 hr with hr | hr
            · exact HE.out r hr
            · simp at hr; subst hr; exact HZ.out
          · rw [take_snoc l k _ HCK.out, encL_snoc]
            exact HY.out
        case measure => simp [intOf]; omega
      · rw [encO_err hz]
        have HV := hide (allV_bad HE.out HCK.out hz)
        obtain ⟨x, hx⟩ : ∃ x, x = encE (c0, c1) := ⟨_, rfl⟩
        rw [← hx] at hz ⊢
        have hz' : ((x : Int) != 0) = true := by rw [bne_iff_ne]; omega
        have HX := hide hx
        clear hx hz
        go_wp2
        go_ret2
        exact ⟨by rw [HV.out, HX.out]; rfl, hb03⟩
    · obtain rfl : k = len := by omega
      have hfull : l.take k = l := List.take_of_length_le (by rw [← HL.out]; omega)
      have HE2 : ∀ r ∈ l, encE r = 0 := by have := HE.out; rwa [hfull] at this
      have hv := allV_ok HE2
      have HO2 := HO.out
      rw [hfull] at HO2
      rw [← HO2] at hv
      have HV := hide hv
      clear hfull HE2 hv HO2
      go_wp2
      go_ret2
      exact ⟨HV.out.symm, hb⟩
end Go.Proofs.Ythkncfenhfieoaa
