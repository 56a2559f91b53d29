/- copy, append in place and clear of rows of structs; the walk of slices.Delete. -/
import Derived.Test.YtjpmfiicbokdcaaDqW
import Derived.Lib.AppendZeros
import Derived.Lib.AppendZerosOnto
import Derived.Lib.Overlaps
namespace Go.Proofs.Ytjpmfiicbokdcaa
open Go.RowKit
set_option linter.unusedVariables false
set_option linter.unusedSimpArgs false
section
variable {P : Program} (w : World)
theorem run_copyS (dT sT ty elem : TypeId) (g o dLen dCap : Nat) (a : Addr) (sLen sCap : Nat) (cur : List Value) (t : TypeId) (cs : List Value) (n s : Nat)
    (hu : P.underlying dT = some (.slice elem)) (hs : (P.info? elem).map (·.size) = some s) (hg : Blk w g cur t) (hm : Nat.min sLen dLen = n) (hn : cs.length = n * s)
    (hsrc : ∀ j v, cs[j]? = some v → w.cell? (a.add j) = some v) (hfit : o + cs.length ≤ cur.length) (h1 : ∀ v ∈ cs, v.oneCell' = true) :
    (Builtin.copy_ #[dT, sT] ty #[.slice (some ⟨g, o, none⟩) dLen dCap, .slice (some a) sLen sCap]).run P w = .ok (goInt n) (w.setRow g (splice cur o cs).toArray) := by
  have hl := run_loadCells_list (P := P) w a cs hsrc
  have hst := run_storeCells_at P g o t cs 0 cur.toArray w hg (by simpa using hfit) h1
  rw [hn] at hl
  cases hq : P.info? elem with
  | none => simp [hq] at hs
  | some i =>
    have hi : i.size = s := by simpa [hq] using hs
    have hm' : Min.min sLen dLen = n := hm
    simp [Builtin.copy_, run_underlying hu, Builtin.lenOf, Builtin.firstCells, sizeOf, typeInfo, hq, hi, hm', hl, hst, splice]
theorem grown_setRow (g : Nat) (cs : Array Value) : w.grownBy (w.setRow g cs) (some g) := ⟨rfl, rfl, rfl, by simp [World.setRow], fun k _ hk => setRow_other w g k cs (fun e => hk (by rw [e]))⟩
theorem blk_setRow {g : Nat} {old : List Value} {t : TypeId} (h : Blk w g old t) (cs : List Value) : Blk (w.setRow g cs.toArray) g cs t := setRow_heap w g _ _ t _ h
theorem wpList_copyS {ops : Array Oper} {rest : List Oper} {o : Oper} {a : Act} {Q : Exit → Act → World → Prop} (hgd : o.guard = none) (d s : Operand) (dT sT : TypeId)
    (ho : o.op = .call { callee := .builtin .copy, args := #[d, s], argTypes := #[dT, sT] }) (elem : TypeId) (sz : Nat) (hu : P.underlying dT = some (.slice elem)) (hsz : (P.info? elem).map (·.size) = some sz)
    (g off dLen dCap : Nat) (ad : Addr) (sLen sCap : Nat) (hd : a.eval d = .slice (some ⟨g, off, none⟩) dLen dCap) (hs : a.eval s = .slice (some ad) sLen sCap)
    (cur : List Value) (t : TypeId) (hg : Blk w g cur t) (cs : List Value) (n : Nat) (hm : Nat.min sLen dLen = n) (hn : cs.length = n * sz)
    (hsrc : ∀ j v, cs[j]? = some v → w.cell? (ad.add j) = some v) (hfit : off + cs.length ≤ cur.length) (h1 : ∀ v ∈ cs, v.oneCell' = true)
    (h : ∀ w', Hid (Blk w' g (splice cur off cs) t) → w.grownBy w' (some g) → wpList P ops Q rest (a.put o.dst (goInt n)) w') : wpList P ops Q (o :: rest) a w := by
  refine wpList_plain hgd fun K hK => ?_
  have hrun := run_copyS (P := P) w dT sT o.type elem g off dLen dCap ad sLen sCap cur t cs n sz hu hsz hg hm hn hsrc hfit h1
  unfold Oper.wp execOp
  simp only [ho, resolve, invoke, builtin, Sem.run_bind, Sem.run_pure, Result.andThen_ok, List.map_toArray, List.map_cons, List.map_nil, hd, hs, hrun]
  exact hK _ _ (h _ (hide (blk_setRow w hg _)) (grown_setRow w g _))
theorem wpList_append_roomB {ops : Array Oper} {rest : List Oper} {o : Oper} {a : Act} {Q : Exit → Act → World → Prop} (hgd : o.guard = none) (s x : Operand) (t : TypeId)
    (ho : o.op = .call { callee := .builtin .append, args := #[s, x], argTypes := #[t, t] }) (e : TypeId) (i : TypeInfo) (size : Nat) (ht : P.underlying t = some (.slice e)) (hi : P.info? e = some i) (hsize : i.size = size)
    (g n c : Nat) (hs : a.eval s = .slice (some ⟨g, 0, none⟩) n c) (cur : List Value) (hg : Blk w g cur e) (ad : Addr) (m c' : Nat) (hx : a.eval x = .slice (some ad) m c')
    (news : List Value) (hl : news.length = m * size) (hnews : ∀ j u, news[j]? = some u → w.cell? (ad.add j) = some u) (h1 : ∀ u ∈ news, u.oneCell' = true) (hroom : n + m ≤ c) (hfit : n * size + news.length ≤ cur.length)
    (h : ∀ w', Hid (Blk w' g (splice cur (n * size) news) e) → w.grownBy w' (some g) → wpList P ops Q rest (a.put o.dst (.slice (some ⟨g, 0, none⟩) (n + m) c)) w') : wpList P ops Q (o :: rest) a w := by
  refine wpList_plain hgd fun K hK => ?_
  subst hsize
  have hrun := run_append_room (P := P) w t o.type e i ht hi g n c cur.toArray hg ad m c' news hl hnews h1 hroom (by simpa using hfit)
  unfold Oper.wp execOp
  simp only [ho, resolve, invoke, builtin, Sem.run_bind, Sem.run_pure, Result.andThen_ok, List.map_toArray, List.map_cons, List.map_nil, hs, hx, hrun]
  have e : (cur.toArray.toList.take (n * i.size) ++ news ++ cur.toArray.toList.drop (n * i.size + news.length)) = splice cur (n * i.size) news := by simp [splice]
  rw [e]
  exact hK _ _ (h _ (hide (blk_setRow w hg _)) (grown_setRow w g _))
theorem run_clearS (t ty e : TypeId) (i : TypeInfo) (z : Value) (ht : P.underlying t = some (.slice e)) (hi : P.info? e = some i) (hz : i.zero = some z) (g o k c : Nat) (cur : List Value) (T : TypeId) (hg : Blk w g cur T) (hk : 0 < k)
    (zs : List Value) (hzs : (Builtin.zeroCells z.cells k).toList = zs) (h1 : ∀ v ∈ zs, v.oneCell' = true) (hfit : o + zs.length ≤ cur.length) :
    (Builtin.clear_ #[t] ty #[.slice (some ⟨g, o, none⟩) k c]).run P w = .ok (.tuple #[]) (w.setRow g (splice cur o zs).toArray) := by
  obtain ⟨m, rfl⟩ : ∃ m, k = m + 1 := ⟨k - 1, by omega⟩
  have hst := run_storeCells_at P g o T zs 0 cur.toArray w hg (by simpa using hfit) h1
  simp only [Nat.add_zero] at hst
  simp [Builtin.clear_, run_underlying ht, zeroValue, typeInfo, hi, hz, hzs, hst, splice]
theorem wpList_clearS {ops : Array Oper} {rest : List Oper} {o : Oper} {a : Act} {Q : Exit → Act → World → Prop} (hgd : o.guard = none) (s : Operand) (t : TypeId)
    (ho : o.op = .call { callee := .builtin .clear, args := #[s], argTypes := #[t] }) (e : TypeId) (i : TypeInfo) (z : Value) (ht : P.underlying t = some (.slice e)) (hi : P.info? e = some i) (hz : i.zero = some z) (g off k c : Nat) (hs : a.eval s = .slice (some ⟨g, off, none⟩) k c)
    (cur : List Value) (T : TypeId) (hg : Blk w g cur T) (hk : 0 < k) (zs : List Value) (hzs : (Builtin.zeroCells z.cells k).toList = zs) (h1 : ∀ v ∈ zs, v.oneCell' = true) (hfit : off + zs.length ≤ cur.length)
    (h : ∀ w', Hid (Blk w' g (splice cur off zs) T) → w.grownBy w' (some g) → wpList P ops Q rest (a.put o.dst (.tuple #[])) w') : wpList P ops Q (o :: rest) a w := by
  refine wpList_plain hgd fun K hK => ?_
  have hrun := run_clearS (P := P) w t o.type e i z ht hi hz g off k c cur T hg hk zs hzs h1 hfit
  unfold Oper.wp execOp
  simp only [ho, resolve, invoke, builtin, Sem.run_bind, Sem.run_pure, Result.andThen_ok, List.map_toArray, List.map_cons, List.map_nil, hs, hrun]
  exact hK _ _ (h _ (hide (blk_setRow w hg _)) (grown_setRow w g _))
end
theorem splice_len {α : Type} (L : List α) (o : Nat) (X : List α) (h : o + X.length ≤ L.length) : (splice L o X).length = L.length := length_splice L o X h
theorem splice_take {α : Type} (L : List α) (o : Nat) (X : List α) (h : o ≤ L.length) : (splice L o X).take (o + X.length) = L.take o ++ X := by
  unfold splice
  rw [← List.append_assoc, List.take_append_of_le_length (by simp; omega), List.take_of_length_le (by simp; omega)]
theorem splice_take_le {α : Type} (L : List α) (o k : Nat) (X : List α) (h : o ≤ L.length) (hk : k ≤ o) : (splice L o X).take k = L.take k := by
  unfold splice
  rw [List.take_append_of_le_length (by simp; omega), List.take_take, Nat.min_eq_left hk]
theorem splice_drop {α : Type} (L : List α) (o : Nat) (X : List α) (h : o + X.length ≤ L.length) : (splice L o X).drop o = X ++ L.drop (o + X.length) := by
  unfold splice
  rw [List.drop_append_of_le_length (by simp; omega), List.drop_of_length_le (by simp; omega), List.nil_append]
theorem grown_of_below {w w' : World} (row : Option Nat) (h : Below w.heap.size w w') : w.grownBy w' row := ⟨h.os, h.tape, h.output, h.size, fun k hk _ => h.block k hk⟩
theorem grown_trans {a b c : World} {row : Option Nat} (h : a.grownBy b row) (k : b.grownBy c row) : a.grownBy c row := World.grownBy.trans h k
theorem own_of_blk {w : World} {base g n c s : Nat} {cur : List Value} {T : TypeId} {xs : List Value} (h : Blk w g cur T) (hb : base ≤ g) (hnc : n ≤ c) (hcm : c ≤ maxLen) (hl : cur.length = c * s) (ht : cur.take (n * s) = xs) : w.ownsRow base T s (.slice (some ⟨g, 0, none⟩) n c) n xs := by
  have : n * s ≤ c * s := Nat.mul_le_mul_right _ hnc
  exact ⟨by rw [← ht, List.length_take, hl]; omega, .inr ⟨g, c, cur.toArray, rfl, hb, h, hnc, hcm, by simpa using hl, by simpa using ht⟩⟩
theorem zero1 : (Builtin.zeroCells (Value.agg #[.string ByteArray.empty, .int .i64 0]).cells 1).toList = [.string ⟨#[]⟩, .int .i64 0] := by kernel_rfl
/-- What deleting leaves. -/
def DelP (w : World) (base : Nat) (a : Option Addr) (c n : Nat) (l : List Ent) (e : Ending) (w' : World) : Prop := e = .returned (.slice a n c) ∧ w'.ownsRow base 35 2 (.slice a n c) n (l.flatMap encE) ∧ w.grownBy w' (Value.slice a n c).ownBlock
set_option maxHeartbeats 4000000 in
set_option maxRecDepth 100000 in
theorem delete_any (base : Nat) (a : Option Addr) (n c : Nat) (l : List Ent) (i : Nat) (w : World) (h : w.ownsRow base 35 2 (.slice a n c) n (l.flatMap encE)) (hi : i < n) (hn : n ≤ 1000000) (hln : n = l.length) :
    Calls Try.prog 97 #[.slice a n c, .int .i64 (i : Int), .int .i64 ((i : Int) + 1)] w (DelP w base a c (n - 1) (l.take i ++ l.drop (i + 1))) := by
  obtain ⟨g, cur, rfl, hbg, hg, hnc, hcm, hcs, htake⟩ := ownG_inv h (by omega)
  have HG := hide (show Blk w g cur.toList 35 from hg)
  have HT := hide htake
  have hcs2 : cur.toList.length = c * 2 := by simpa using hcs
  obtain ⟨CUR, hCUR⟩ : ∃ CUR, CUR = cur.toList := ⟨_, rfl⟩
  rw [← hCUR] at HG HT hcs2
  have hdl : ((l.drop (i + 1)).flatMap encE).length = (n - (i + 1)) * 2 := by rw [flat_len encE_len, List.length_drop, ← hln]
  have hsrc : ∀ j u, ((l.drop (i + 1)).flatMap encE)[j]? = some u → w.cell? ⟨g, (i + 1) * 2 + j, none⟩ = some u := by
    intro j u hj
    rw [← flat_drop encE_len, List.getElem?_drop] at hj
    exact (ownG_at h hj).1
  have HSRC := hide hsrc
  have HDL := hide hdl
  obtain ⟨i0, hi0, hz0, hz1, hz2⟩ := info_parts info_entry
  have HH := hide h
  have HLN := hide hln
  have HCM := hide hcm
  unfold maxLen at hcm
  have hin : (i : Int) < (n : Int) := by omega
  have hci : ¬ c = i := by omega
  have hni : ¬ n = i := by omega
  have e1 : IntKind.i64.wrap ((i : Int) + 1) = (i : Int) + 1 := wrap_ok (by omega) (by omega)
  clear h hg htake hcs hCUR hsrc hdl hln
  go_enter Try.func97, Try.ntmps97
  by_cases hce : c = i + 1
  · obtain rfl : n = i + 1 := by omega
    subst hce
    have f1 : (i : Int) ≤ (i : Int) + 1 := by omega
    go_wp2_with fail
    refine wp_region_K 6 (by kernel_rfl) (by kernel_rfl) (fun Q HQ => ?_)
    simp only [List.take_succ_cons, List.take_zero, List.map_cons, List.map_nil]
    repeat
      first | apply wpS_c rfl | apply wpS_gc rfl (guard_mk rfl rfl)
      focus
        intro ev wx hC hx
        (try simp [Op.operands, Call.operands, opndS, Slot.holds] at hx)
        skip
        go_simp
        try (first | exact rfl | exact ⟨Below.refl _ _, rfl⟩)
        done
      dsimp only [setS, List.set]
    refine wpS_nil (HQ _ fun w4 hC4 => ?_)
    simp only [closeS, List.drop_succ_cons, List.drop_zero, List.drop_nil]
    have hb4 := hC4.below
    have D0 := hide (HG.out.below hb4)
    have HS4 := hide (fun j u hj => (show w4.cell? ⟨g, (i + 1) * 2 + j, none⟩ = some u from (hb4.cell HG.out.lt).trans (HSRC.out j u hj)))
    have HB4 := hide hb4
    clear hb4 hC4 HQ
    go_wp2_with (at_builtin; go_loud (first | (refine wpList_append_roomB _ rfl (.tmp 22) (.tmp 25) 24 rfl 35 i0 2 Try.underlying24 hi0 hz1 g i (i + 1) rfl CUR D0.out ⟨g, 0, none⟩ 0 0 rfl [] (by simp) (by intro j u hj; simp at hj) (by intro u hu; cases hu) (by omega) (by simp only [List.length_nil]; omega) ?_; intro w5 HG5 hg5; have HGR5 := hide hg5; clear hg5)))
    rw [run_clearS (P := Try.prog) w5 24 _ 35 i0 _ Try.underlying24 hi0 hz0 g (i * 2) 1 1 (splice CUR (i * 2) []) _ HG5.out (by omega) [.string ⟨#[]⟩, .int .i64 0] zero1 (by intro v hv; simp at hv; rcases hv with rfl | rfl <;> rfl) (by rw [splice_len _ _ _ (by simp only [List.length_nil]; omega)]; simp only [List.length_cons, List.length_nil]; omega)]
    simp only [Result.andThen]
    rw [Oper.upon_value]
    have HG6 := hide (blk_setRow w5 HG5.out (splice (splice CUR (i * 2) []) (i * 2) [.string ⟨#[]⟩, .int .i64 0]))
    have HGR6 := hide (grown_setRow w5 g (splice (splice CUR (i * 2) []) (i * 2) [.string ⟨#[]⟩, .int .i64 0]).toArray)
    go_wp2
    go_ret
    refine ⟨rfl, own_of_blk HG6.out hbg (by omega) HCM.out (by rw [splice_len _ _ _ (by rw [splice_len _ _ _ (by simp only [List.length_nil]; omega)]; simp only [List.length_cons, List.length_nil]; omega), splice_len _ _ _ (by simp only [List.length_nil]; omega)]; exact hcs2) ?_, ((grown_of_below _ HB4.out).trans HGR5.out).trans HGR6.out⟩
    rw [splice_take_le _ _ _ _ (by rw [splice_len _ _ _ (by simp only [List.length_nil]; omega)]; omega) (by omega), splice_take_le _ _ _ _ (by omega) (by omega)]
    have h1 : CUR.take (i * 2) = (CUR.take ((i + 1) * 2)).take (i * 2) := by rw [List.take_take, Nat.min_eq_left (by omega)]
    rw [show i + 1 - 1 = i by omega, h1, HT.out, flat_take encE_len, List.drop_of_length_le (l := l) (by rw [← HLN.out]; omega), List.append_nil]

  · have f1 : (i : Int) ≤ (c : Int) := by omega
    have f2 : (i : Int) + 1 ≤ (n : Int) := by omega
    go_wp2_with fail
    refine wp_region_K 6 (by kernel_rfl) (by kernel_rfl) (fun Q HQ => ?_)
    simp only [List.take_succ_cons, List.take_zero, List.map_cons, List.map_nil]
    repeat
      first | apply wpS_c rfl | apply wpS_gc rfl (guard_mk rfl rfl)
      focus
        intro ev wx hC hx
        (try simp [Op.operands, Call.operands, opndS, Slot.holds] at hx)
        skip
        go_simp
        try (first | exact rfl | exact ⟨Below.refl _ _, rfl⟩)
        done
      dsimp only [setS, List.set]
    refine wpS_nil (HQ _ fun w4 hC4 => ?_)
    simp only [closeS, List.drop_succ_cons, List.drop_zero, List.drop_nil]
    have hb4 := hC4.below
    have D0 := hide (HG.out.below hb4)
    have HS4 := hide (fun j u hj => (show w4.cell? ⟨g, (i + 1) * 2 + j, none⟩ = some u from (hb4.cell HG.out.lt).trans (HSRC.out j u hj)))
    have HB4 := hide hb4
    clear hb4 hC4 HQ
    go_wp2_with (at_builtin; go_loud (first | (refine wpList_append_roomB _ rfl (.tmp 22) (.tmp 25) 24 rfl 35 i0 2 Try.underlying24 hi0 hz1 g i c rfl CUR D0.out _ (n - (i + 1)) _ rfl ((l.drop (i + 1)).flatMap encE) HDL.out (by intro j u hj; rw [Addr.add_lit]; exact HS4.out j u hj) (encE_one _) (by omega) (by rw [HDL.out]; omega) ?_; intro w5 HG5 hg5; have HGR5 := hide hg5; clear hg5)))
    rw [run_clearS (P := Try.prog) w5 24 _ 35 i0 _ Try.underlying24 hi0 hz0 g ((i + (n - (i + 1))) * 2) (n - (i + (n - (i + 1)))) (c - (i + (n - (i + 1)))) (splice CUR (i * 2) ((l.drop (i + 1)).flatMap encE)) _ HG5.out (by omega) [.string ⟨#[]⟩, .int .i64 0] (by rw [show n - (i + (n - (i + 1))) = 1 by omega]; exact zero1) (by intro v hv; simp at hv; rcases hv with rfl | rfl <;> rfl) (by rw [splice_len _ _ _ (by rw [HDL.out]; omega)]; simp only [List.length_cons, List.length_nil]; omega)]
    simp only [Result.andThen]
    rw [Oper.upon_value]
    have HG6 := hide (blk_setRow w5 HG5.out (splice (splice CUR (i * 2) ((l.drop (i + 1)).flatMap encE)) ((i + (n - (i + 1))) * 2) [.string ⟨#[]⟩, .int .i64 0]))
    have HGR6 := hide (grown_setRow w5 g (splice (splice CUR (i * 2) ((l.drop (i + 1)).flatMap encE)) ((i + (n - (i + 1))) * 2) [.string ⟨#[]⟩, .int .i64 0]).toArray)
    go_wp2
    go_ret
    rw [show i + (n - (i + 1)) = n - 1 by omega] at HG6 HGR6 ⊢
    refine ⟨rfl, own_of_blk HG6.out hbg (by omega) HCM.out (by rw [splice_len _ _ _ (by rw [splice_len _ _ _ (by rw [HDL.out]; omega)]; simp only [List.length_cons, List.length_nil]; omega), splice_len _ _ _ (by rw [HDL.out]; omega)]; exact hcs2) ?_, ((grown_of_below _ HB4.out).trans HGR5.out).trans HGR6.out⟩
    rw [splice_take_le _ _ _ _ (by rw [splice_len _ _ _ (by rw [HDL.out]; omega)]; omega) (by omega)]
    have h0 := splice_take CUR (i * 2) ((l.drop (i + 1)).flatMap encE) (by omega)
    rw [HDL.out, show i * 2 + (n - (i + 1)) * 2 = (n - 1) * 2 by omega] at h0
    have h1 : CUR.take (i * 2) = (CUR.take (n * 2)).take (i * 2) := by rw [List.take_take, Nat.min_eq_left (by omega)]
    rw [h0, h1, HT.out, flat_take encE_len, List.flatMap_append]

end Go.Proofs.Ytjpmfiicbokdcaa
