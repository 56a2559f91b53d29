/- The walks of Merge and Union. -/
import Derived.Test.YtbicpnhgokngeaaLUniW
namespace Go.Proofs.Ytbicpnhgokngeaa
open Go.RowKit
set_option linter.unusedVariables false
set_option linter.unusedSimpArgs false
def mrg : List Int → List (List Int) → List Int × Nat
  | out, [] => (out, 0)
  | out, l :: ls => if 4096 < (uni out l).length then ([], 2) else mrg (uni out l) ls
def mergeM (ls : List (List Int)) : List Int × Nat := if chkA ls = 0 then mrg [] ls else ([], chkA ls)
/-- What a function that yields a list and an error answers. -/
def LRes (base : Nat) (r : List Int × Nat) (e : Ending) (w : World) : Prop := ∃ v, e = .returned (.tuple #[v, .int .i64 ((r.2 : Nat) : Int)]) ∧ w.ownsRow base 3 1 v r.1.length (r.1.map iv)
theorem own_isI {w : World} {base n : Nat} {e : TypeId} {v : Value} {l : List Int} (h : w.ownsRow base e 1 v n (l.map iv)) (hn : n = l.length) : ∃ a c, v = .slice a n c ∧ n ≤ c ∧ c ≤ maxLen ∧ IsI w a n l := by
  obtain ⟨_, a, c, hv, hc, hr, _⟩ := own_form h
  refine ⟨a, c, hv, hc, ?_, hn, hr⟩
  rcases h.2 with ⟨h1, _⟩ | ⟨g, cap, cur, h1, _, _, _, hm, _⟩
  · rw [hv] at h1; injection h1 with _ _ h3; rw [h3]; exact Nat.zero_le _
  · rw [hv] at h1; injection h1 with _ _ h3; rw [h3]; exact hm
set_option maxHeartbeats 2000000 in
set_option maxRecDepth 100000 in
theorem merge_any (a : Option Addr) (n cap : Nat) (ls : List (List Int)) (w : World) (h : IsLL w a n ls) (hn : n ≤ 100000) :
    Calls Try.prog 30 #[.slice a n cap] w fun e w' => LRes w.heap.size (mergeM ls) e w' ∧ Below w.heap.size w w' := by
  have HI := hide h
  have HN := hide h.1
  clear h
  go_enter Try.func30, Try.ntmps30
  go_wp2_with fail
  refine (all_any a n cap ls w HI.out hn).mono ?_
  rintro e w1 ⟨rfl, hb1⟩
  by_cases hz : chkA ls = 0
  · rw [hz]
    have hm : mergeM ls = mrg [] ls := by unfold mergeM; rw [if_pos hz]
    have hall := (chkA_zero ls).1 hz
    have HM := hide hm
    have HALL := hide hall
    clear hz hm hall
    go_wp2_with fail
    go_loopw [5, 15] (fun v5 i wr => ∃ (k : Nat) (out : List Int), i = .int .i64 (k : Int) ∧ k ≤ n ∧ out.length ≤ 4096 ∧ Hid (mergeM ls = mrg out (ls.drop k)) ∧ Hid (wr.ownsRow w.heap.size 3 1 v5 out.length (out.map iv)) ∧ Below w.heap.size w wr) (fun _ i _ => n - (intOf i).toNat)
    case atStart => exact ⟨0, [], rfl, Nat.zero_le _, by simp, HM, hide (World.ownsRow_nil _ _ _ _), hb1⟩
    case round =>
      obtain ⟨k, out, rfl, hk, hol, HC, HO, hb⟩ := hrel
      by_cases hlt : k < n
      · obtain ⟨b, o, l, a', c, rfl, hbl, hx, e0, hlc, hcm, hi⟩ := (HI.out.below hb).at_ hlt
        have hkn : (k : Int) < (n : Int) := by omega
        have hll : l.length ≤ 4096 := ((chkL_zero l).1 (HALL.out l (List.mem_of_getElem? hx))).1
        have hst : mergeM ls = if 4096 < (uni out l).length then ([], 2) else mrg (uni out l) (ls.drop (k + 1)) := by rw [HC.out, dropl_at hx]; rfl
        have HST := hide hst
        have HL := hide hi
        obtain ⟨m, hm⟩ : ∃ m, m = l.length := ⟨_, rfl⟩
        rw [← hm] at e0 hlc hll
        have HM' := hide hm
        obtain ⟨a5, c5, rfl, hc5, _, hi5⟩ := own_isI HO.out rfl
        obtain ⟨on, hon⟩ : ∃ on, on = out.length := ⟨_, rfl⟩
        rw [← hon] at hi5 hc5 hol ⊢
        have HI5 := hide hi5
        have HON := hide hon
        clear hx hst hi hlt hm hi5 hon
        go_wp2_with fail
        refine (union_any a5 a' on c5 m c out l wr HI5.out (by rw [HM'.out]; exact HL.out) hc5 hlc (by omega) (by omega)).mono ?_
        rintro e w2 ⟨v6, rfl, hown6, hb2⟩
        have hb02 := hb.trans (hb2.mono hb.size)
        have hu := uni_len out l
        rw [← HON.out, ← HM'.out] at hu
        obtain ⟨un, hun⟩ : ∃ un, un = (uni out l).length := ⟨_, rfl⟩
        have hown7 := own_base hown6 hb.size
        obtain ⟨a6, c6, rfl, hc6, _, _⟩ := own_isI hown7 rfl
        rw [← hun] at hu ⊢
        have HUN := hide hun
        have HO6 := hide hown7
        clear hown6 hown7 hun
        by_cases h4 : 4096 < un
        · have h4' : (4096 : Int) < (un : Int) := by omega
          have hr : mergeM ls = ([], 2) := by rw [HST.out, if_pos (by rw [← HUN.out]; exact h4)]
          have HR := hide hr
          clear hr h4
          go_wp2
          go_ret2
          exact ⟨⟨_, by rw [HR.out]; rfl, by rw [HR.out]; exact World.ownsRow_nil _ _ _ _⟩, hb02⟩
        · have h4' : ¬ (4096 : Int) < (un : Int) := by omega
          have hr : mergeM ls = mrg (uni out l) (ls.drop (k + 1)) := by rw [HST.out, if_neg (by rw [← HUN.out]; exact h4)]
          have HR := hide hr
          clear hr h4
          go_wp2
          go_roundw
          case rel => exact ⟨k + 1, uni out l, by go_num, by omega, by rw [← HUN.out]; omega, HR, hide (by rw [HUN.out]; exact HO6.out), hb02⟩
          case measure => simp [intOf]; omega
      · obtain rfl : k = n := by omega
        have hr : mergeM ls = (out, 0) := by rw [HC.out, List.drop_of_length_le (by rw [← HN.out]; exact Nat.le_refl _)]; rfl
        have HR := hide hr
        clear hr
        go_wp2
        go_ret2
        exact ⟨⟨u5, by rw [HR.out]; rfl, by rw [HR.out]; exact HO.out⟩, hb⟩
  · have hm : mergeM ls = ([], chkA ls) := by unfold mergeM; rw [if_neg hz]
    obtain ⟨q, hq⟩ : ∃ q, q = chkA ls := ⟨_, rfl⟩
    rw [← hq] at hm hz ⊢
    have hqz : ((q : Int) != 0) = true := by rw [bne_iff_ne]; omega
    have HM := hide hm
    clear hm hz hq
    go_wp2
    go_ret2
    exact ⟨⟨_, by rw [HM.out]; rfl, by rw [HM.out]; exact World.ownsRow_nil _ _ _ _⟩, hb1⟩
/-- A literal of lists. -/
theorem ll_lit {w : World} {C : Array Value} {e : TypeId} {ls : List (List Int)} (h1 : C.size = ls.length) (h : ∀ (i : Nat) (l : List Int), ls[i]? = some l → ∃ a' c, C[i]? = some (Value.slice a' l.length c) ∧ l.length ≤ c ∧ c ≤ maxLen ∧ Rd w a' (l.map iv)) :
    IsLL (w.alloc (.cells C e)) (some ⟨w.heap.size, 0, none⟩) ls.length ls := by
  refine ⟨rfl, C.toList, rd_lit w C e (0, 0), by simpa using h1, fun i l hi => ?_⟩
  obtain ⟨a', c, g1, g2, g3, g4⟩ := h i l hi
  exact ⟨a', c, by simpa using g1, g2, g3, g4.alloc _⟩
theorem ll_two {w : World} {a b : Option Addr} {n c m d : Nat} {la lb : List Int} {e : TypeId} (ha : IsI w a n la) (hb : IsI w b m lb) (hc : n ≤ c) (hd : m ≤ d) (hcm : c ≤ maxLen) (hdm : d ≤ maxLen) :
    IsLL (w.alloc (.cells #[.slice a n c, .slice b m d] e)) (some ⟨w.heap.size, 0, none⟩) 2 [la, lb] := by
  refine ll_lit (ls := [la, lb]) rfl fun i l hi => ?_
  match i, hi with
  | 0, hi => simp at hi; subst hi; exact ⟨a, c, by rw [← ha.1]; rfl, by rw [← ha.1]; exact hc, hcm, ha.2⟩
  | 1, hi => simp at hi; subst hi; exact ⟨b, d, by rw [← hb.1]; rfl, by rw [← hb.1]; exact hd, hdm, hb.2⟩
  | i + 2, hi => simp at hi
set_option maxRecDepth 100000 in
theorem unionF_any (a b : Option Addr) (n c m d : Nat) (la lb : List Int) (w : World) (ha : IsI w a n la) (hb : IsI w b m lb) (hc : n ≤ c) (hd : m ≤ d) (hcm : c ≤ maxLen) (hdm : d ≤ maxLen) :
    Calls Try.prog 20 #[.slice a n c, .slice b m d] w fun e w' => LRes w.heap.size (mergeM [la, lb]) e w' ∧ Below w.heap.size w w' := by
  have HL := hide (ll_two (e := 22) ha hb hc hd hcm hdm)
  clear ha hb
  go_enter Try.func20, Try.ntmps20
  go_wp2_with fail
  refine (merge_any _ 2 2 [la, lb] _ HL.out (by decide)).mono ?_
  rintro e w1 ⟨⟨v, rfl, hown⟩, hb1⟩
  have hb0 : Below w.heap.size w w1 := bl_trans (bl_alloc (bl_refl w) _) hb1
  have HO := hide (own_base hown (base' := w.heap.size) (by simp))
  clear hown
  go_wp2
  go_ret2
  exact ⟨⟨v, rfl, HO.out⟩, hb0⟩
end Go.Proofs.Ytbicpnhgokngeaa
