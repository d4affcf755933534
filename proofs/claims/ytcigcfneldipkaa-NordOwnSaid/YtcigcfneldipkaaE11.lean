/- Engine, part 11: append. Condition: what the evaluator says must hold, holds. -/
import Derived.Test.YtcigcfneldipkaaE10
namespace Go.Eng
open Go Go.RowKit

section
variable {P : Program} {base : Nat} {φ : Phi} {im : Im} {h : AHeap} {w : World} {lo hi : Nat}

theorem run_append_zero {t ty e : TypeId} {i : TypeInfo} (ht : P.underlying t = some (.slice e)) (hi' : P.info? e = some i) (b : Option Addr) (len cap : Nat) (hle : len ≤ cap) (a : Option Addr) (c : Nat) (w : World) :
    (Builtin.append_ #[t, t] ty #[.slice b len cap, .slice a 0 c]).run P w = .ok (.slice b len cap) w := by
  have hf : (Builtin.firstCells i.size 0 (.slice a 0 c)).run P w = .ok #[] w := by
    cases a with
    | none => simp [Builtin.firstCells]
    | some a => simp [Builtin.firstCells, loadCells, loadCellsFrom]
  cases b with
  | none => simp [Builtin.append_, run_underlying ht, sizeOf, typeInfo, hi', Builtin.lenOf, hle, hf]
  | some b => simp [Builtin.append_, run_underlying ht, sizeOf, typeInfo, hi', Builtin.lenOf, hle, hf, storeCells]

/-- What may be nil, and nothing in it. -/
theorem nothing_did (H : HRep P base φ im h w) {n : Nat} (hn : φ n = none) {el : TypeId} {rd : List Nat} {ok : Bool} :
    Did P base φ im h w lo hi ⟨.slc n 0 0, [(n, some ⟨[], el⟩)], rd, ok⟩ (.slice none 0 0) w φ :=
  ⟨Phi.le_refl _, fun _ h => .inl h, H.nothing hn el, Below.refl _ _, .slc0 _ _ _⟩

/-- A slice that grows where it is. -/
theorem room_did (H : HRep P base φ im h w) {k n : Nat} (hn : φ n = none) (h1 : lo ≤ n) (h2 : n < hi) {b : ABlk} (hb : h k = some b) {l : Loc} (hl : φ k = some l) {len cap m : Nat} (hcap : cap ≤ l.cap) (hroom : len + m ≤ cap)
    {size : Nat} (hsz : esz P b.ety = size) (hlen : b.cells.length = len * size) {cs : Array Value} (hcs : w.heap[l.blk]? = some (.cells cs b.ety (0, 0))) {news : List AV} {us : List Value} (hu : VL im φ news us) (hul : news.length = m * size) {rd : List Nat} {ok : Bool} :
    Did P base φ im h w lo hi ⟨.slc n 0 (len + m), [(k, none), (n, some ⟨b.cells ++ news, b.ety⟩)], rd, ok⟩ (.slice (some ⟨l.blk, 0, none⟩) (len + m) cap)
      (w.setRow l.blk (cs.toList.take (len * size) ++ us ++ cs.toList.drop (len * size + us.length)).toArray) (upd φ n (some l)) := by
  rcases H.own k b hb with ⟨a1, _⟩ | ⟨l', cs', a1, a2, a3, a4, a5, a6, a7⟩
  · rw [hl] at a1; cases a1
  rw [hl] at a1
  cases a1
  rw [hcs] at a2
  cases a2
  have hul' : us.length = m * size := by rw [← hu.length]; exact hul
  have hfit : len * size + m * size ≤ cs.size := by
    rw [← Nat.add_mul]
    rw [hsz] at a6
    exact Nat.le_trans (Nat.mul_le_mul_right _ (by omega)) a6
  have hlist : (cs.toList.take (len * size) ++ us ++ cs.toList.drop (len * size + us.length)).length = cs.size := by
    simp only [List.length_append, List.length_take, List.length_drop, Array.length_toList]; omega
  refine ⟨Phi.le_upd hn _, news_upd h1 h2, ?_, ?_, .slc _ n 0 (len + m) cap l (upd_same _ _ _) hroom (fun _ => hcap)⟩
  · show HRep P base (upd φ n (some l)) im (upd (upd h k none) n (some ⟨b.cells ++ news, b.ety⟩)) _
    refine (H.drop k).put hn (cs := (cs.toList.take (len * size) ++ us ++ cs.toList.drop (len * size + us.length)).toArray) (fun x hx _ => setRow_other w l.blk x _ hx) (setRow_heap w l.blk cs _ b.ety (0, 0) hcs) a3 a4 a5 ?_ ?_ ?_
    · simp only [List.size_toArray, hlist]; exact a6
    · intro i k' l' hi' hl' e
      by_cases hik : i = k
      · subst hik; rw [upd_same] at hi'; cases hi'
      · rw [upd_other _ _ _ hik] at hi'
        exact hik (H.apart i k k' b l' l hi' hb hl' hl e)
    · have e1 : (cs.toList.take (len * size) ++ us ++ cs.toList.drop (len * size + us.length)).take (b.cells ++ news).length = cs.toList.take b.cells.length ++ us := by
        have g : (b.cells ++ news).length = (cs.toList.take (len * size) ++ us).length := by
          simp only [List.length_append, List.length_take, Array.length_toList, hlen, hul, hul']; omega
        rw [g, List.take_left, hlen]
      dsimp only
      rw [e1]
      exact a7.append hu
  · exact (Below.refl base w).trans ⟨rfl, rfl, rfl, by simp, fun x hx => setRow_other w l.blk x _ (by omega)⟩

theorem drop_did {k : Nat} {e : Eff} {r : Value} {w' : World} {φ' : Phi} (D : Did P base φ im (upd h k none) w lo hi e r w' φ') : Did P base φ im h w lo hi ⟨e.val, (k, none) :: e.wr, e.rd, e.ok⟩ r w' φ' :=
  ⟨D.le, D.news, D.hrep, D.below, D.val⟩

theorem appendV_sound (H : HRep P base φ im h w) (hbase : base ≤ w.heap.size) {n : Nat} (hn : φ n = none) (h1 : lo ≤ n) (h2 : n < hi) {t ty : TypeId} {s x : AV} {vs vx : Value} (hs : V im φ s vs) (hx : V im φ x vx) {e : Eff} (ha : appendV P t s x h n = some e) (hok : e.ok = true) :
    ∃ r w' φ', (Builtin.append_ #[t, t] ty #[vs, vx]).run P w = .ok r w' ∧ Did P base φ im h w lo hi e r w' φ' := by
  unfold appendV at ha
  cases hel : sliceElem P t with
  | none => rw [hel] at ha; cases ha
  | some el =>
    rw [hel] at ha
    dsimp only at ha
    split at ha
    · rename_i i z hi' hz
      cases hc : (Nat.beq z.cells.length i.size && Nat.blt 0 i.size) with
      | false => rw [hc] at ha; cases ha
      | true =>
        rw [hc] at ha
        simp only [cond_true] at ha
        simp only [Bool.and_eq_true, Nat.blt_eq] at hc
        have hzl : z.cells.length = i.size := Nat.eq_of_beq_eq_true hc.1
        obtain ⟨i', zv, hit, hzv', hzv⟩ := zeroV_is hz
        rw [hi'] at hit
        cases hit
        have hei := esz_is hi'
        have hu := sliceElem_is hel
        have hzs : zv.cells.size = i.size := by
          have := (hzv (φ := φ) (im := im)).cells.length
          rw [hzl] at this
          simpa using this.symm
        cases hsrc : srcV i.size h x with
        | none => rw [hsrc] at ha; cases ha
        | some p =>
          obtain ⟨news, m, rd, c⟩ := p
          rw [hsrc] at ha
          dsimp only at ha
          -- a new row, from a slice that has no memory
          have fresh : ∀ {h' : AHeap}, HRep P base φ im h' w → c = true → m * i.bytes ≤ 140737488355328 → m ≤ maxLen → ∀ ok : Bool,
              ∃ r w' φ', (Builtin.append_ #[t, t] ty #[.slice none 0 0, vx]).run P w = .ok r w' ∧ Did P base φ im h' w lo hi ⟨.slc n 0 m, [(n, some ⟨news, el⟩)], rd, ok⟩ r w' φ' := by
            intro h' H' hct hb1 hb2 ok
            rcases srcV_sound H hsrc hct hx with ⟨e1, e2, e3⟩ | ⟨e2, e3, a, cap, e1⟩ | ⟨b, o, cap, us, e1, e2, e3, e4⟩
            · subst e1; subst e2; subst e3
              exact ⟨_, _, _, run_append_zero hu hi' none 0 0 (Nat.le_refl _) none 0 w, nothing_did H' hn⟩
            · subst e1; subst e2; subst e3
              exact ⟨_, _, _, run_append_zero hu hi' none 0 0 (Nat.le_refl _) a cap w, nothing_did H' hn⟩
            · subst e1
              by_cases hm : m = 0
              · subst hm
                have : news = [] := List.eq_nil_of_length_eq_zero (by simpa using e3)
                subst this
                exact ⟨_, _, _, run_append_zero hu hi' none 0 0 (Nat.le_refl _) _ cap w, nothing_did H' hn⟩
              · have hul : us.length = m * i.size := by rw [← e2.length]; exact e3
                have hr := run_append_nil (P := P) w t ty el i zv hu hi' hzv' ⟨b, o, none⟩ m cap us hul (fun j v hj => by rw [Addr.add_lit]; exact e4 j v hj) (by omega) (by unfold maxLen at hb2; omega) (by omega)
                obtain ⟨g1, g2⟩ := grownCap_bounds w m 0 el hb2
                refine ⟨_, _, upd φ n (some ⟨w.heap.size, grownCap w m 0 el⟩), hr, newRow_did H' hbase hn h1 h2 ?_ g2 ?_ g1 (.inr rfl)⟩
                · have : (us.toArray ++ Builtin.zeroCells zv.cells (grownCap w m 0 el - m)).toList.take news.length = us := by
                    rw [Array.toList_append, e2.length]
                    simp
                  rw [this]
                  exact e2
                · rw [hei, Array.size_append, List.size_toArray, size_zeroCells, hul, hzs, ← Nat.add_mul]
                  exact Nat.mul_le_mul_right _ (by omega)
          split at ha
          · cases ha
            cases hs
            simp only [Bool.and_eq_true, decide_eq_true_eq] at hok
            exact fresh H hok.1 hok.2.1 hok.2.2 _
          · rename_i k o len
            split at ha
            · rename_i b hb
              cases hoe : (Nat.beq o 0 && decide (b.ety = el)) with
              | false => rw [hoe] at ha; cases ha
              | true =>
                rw [hoe] at ha
                cases ha
                simp only [Bool.and_eq_true, decide_eq_true_eq] at hoe
                have ho : o = 0 := Nat.eq_of_beq_eq_true hoe.1
                have hety := hoe.2
                subst ho
                simp only [Bool.and_eq_true, decide_eq_true_eq] at hok
                obtain ⟨⟨hct, hone⟩, hlen, hb1, hb2⟩ := hok
                cases hs with
                | slc0 =>
                  have hnil : b.cells = [] := List.eq_nil_of_length_eq_zero (by simpa using hlen)
                  obtain ⟨r, w', φ', g1, g2⟩ := fresh (H.drop k) hct (by simpa using hb1) (by omega) true
                  refine ⟨r, w', φ', g1, ?_⟩
                  have g3 := drop_did g2
                  refine ⟨g3.le, g3.news, ?_, g3.below, ?_⟩
                  · simpa [hnil] using g3.hrep
                  · simpa using g3.val
                | slc _ _ _ _ cap l hl hle hcap =>
                  have hcap' := hcap rfl
                  rcases H.own k b hb with ⟨a1, _⟩ | ⟨l', cs, a1, a2, a3, a4, a5, a6, a7⟩
                  · rw [hl] at a1; cases a1
                  rw [hl] at a1
                  cases a1
                  have zero : ∀ a c', vx = .slice a 0 c' → m = 0 → news = [] →
                      ∃ r w' φ', (Builtin.append_ #[t, t] ty #[.slice (some ⟨l.blk, 0, none⟩) len cap, vx]).run P w = .ok r w' ∧ Did P base φ im h w lo hi
                        ⟨.slc n 0 (len + m), [(k, none), (n, some ⟨b.cells ++ news, el⟩)], k :: rd, c && news.all AV.one && decide (b.cells.length = len * i.size ∧ (len + m) * i.bytes ≤ 140737488355328 ∧ len + m ≤ maxLen)⟩ r w' φ' := by
                    intro a c' e1 e2 e3
                    subst e1; subst e2; subst e3
                    have D := room_did (lo := lo) (hi := hi) H hn h1 h2 hb hl (m := 0) hcap' (by omega) (size := i.size) (by rw [hety]; exact hei) hlen a2 (news := []) (us := []) (.nil _) (by simp) (rd := k :: rd) (ok := c && [].all AV.one && decide (b.cells.length = len * i.size ∧ (len + 0) * i.bytes ≤ 140737488355328 ∧ len + 0 ≤ maxLen))
                    have hself : w.setRow l.blk (cs.toList.take (len * i.size) ++ [] ++ cs.toList.drop (len * i.size + ([] : List Value).length)).toArray = w := by
                      simp only [List.append_nil, List.length_nil, Nat.add_zero, List.take_append_drop, Array.toArray_toList]
                      exact setRow_self w l.blk cs b.ety (0, 0) a2
                    rw [hself, hety] at D
                    exact ⟨_, _, _, run_append_zero hu hi' _ len cap hle a c' w, D⟩
                  rcases srcV_sound H hsrc hct hx with ⟨e1, e2, e3⟩ | ⟨e2, e3, a, cp, e1⟩ | ⟨bb, oo, cp, us, e1, e2, e3, e4⟩
                  · exact zero _ _ e1 e2 e3
                  · exact zero _ _ e1 e2 e3
                  · subst e1
                    have hul : us.length = m * i.size := by rw [← e2.length]; exact e3
                    by_cases hroom : len + m ≤ cap
                    · have hfit : len * i.size + us.length ≤ cs.size := by
                        rw [hul, ← Nat.add_mul]
                        rw [hety, hei] at a6
                        exact Nat.le_trans (Nat.mul_le_mul_right _ (by omega)) a6
                      rw [hety] at a2
                      have hr := run_append_room (P := P) w t ty el i hu hi' l.blk len cap cs a2 ⟨bb, oo, none⟩ m cp us hul (fun j v hj => by rw [Addr.add_lit]; exact e4 j v hj) (ones_of e2 hone) hroom hfit
                      rw [← hety] at a2
                      have D := room_did (lo := lo) (hi := hi) H hn h1 h2 hb hl (m := m) hcap' hroom (size := i.size) (by rw [hety]; exact hei) hlen a2 e2 e3 (rd := k :: rd) (ok := c && news.all AV.one && decide (b.cells.length = len * i.size ∧ (len + m) * i.bytes ≤ 140737488355328 ∧ len + m ≤ maxLen))
                      rw [hety] at D
                      exact ⟨_, _, _, hr, D⟩
                    · have hr := run_append_grow (P := P) w t ty el i zv hu hi' hzv' ⟨l.blk, 0, none⟩ len cap (cs.toList.take b.cells.length) (by rw [← a7.length]; exact hlen) (fun j v hj => by
                        rw [Addr.add_lit, Nat.zero_add]
                        rw [List.getElem?_take] at hj
                        split at hj
                        · unfold World.cell?
                          simp only [a2, Option.isSome_none, Bool.false_eq_true, if_false]
                          simpa using hj
                        · cases hj) ⟨bb, oo, none⟩ m cp us hul (fun j v hj => by rw [Addr.add_lit]; exact e4 j v hj) (by omega) (by unfold maxLen at hb2; omega) (growslice_fits (by omega) hb1)
                      obtain ⟨g1, g2⟩ := grownCap_bounds w (len + m) cap el hb2
                      refine ⟨_, _, upd φ n (some ⟨w.heap.size, grownCap w (len + m) cap el⟩), hr, ?_⟩
                      have D := newRow_did (lo := lo) (hi := hi) (H.drop k) hbase hn h1 h2 (el := el) (cells := b.cells ++ news) (A := (cs.toList.take b.cells.length).toArray ++ us.toArray ++ Builtin.zeroCells zv.cells (grownCap w (len + m) cap el - (len + m))) (len := len + m)
                        (cap := grownCap w (len + m) cap el) (ok := c && news.all AV.one && decide (b.cells.length = len * i.size ∧ (len + m) * i.bytes ≤ 140737488355328 ∧ len + m ≤ maxLen)) (rd := k :: rd) (w1 := w.drew) ?_ g2 ?_ g1 (.inr rfl)
                      · exact drop_did D
                      · have : ((cs.toList.take b.cells.length).toArray ++ us.toArray ++ Builtin.zeroCells zv.cells (grownCap w (len + m) cap el - (len + m))).toList.take (b.cells ++ news).length = cs.toList.take b.cells.length ++ us := by
                          rw [Array.toList_append, Array.toList_append]
                          have g : (b.cells ++ news).length = ((cs.toList.take b.cells.length).toArray.toList ++ us.toArray.toList).length := by
                            rw [List.length_append, List.length_append, ← a7.length, e2.length]
                          rw [g, List.take_left]
                        rw [this]
                        exact a7.append e2
                      · rw [hei, Array.size_append, Array.size_append, List.size_toArray, List.size_toArray, size_zeroCells, hul, hzs, ← a7.length, hlen, ← Nat.add_mul, ← Nat.add_mul]
                        exact Nat.mul_le_mul_right _ (by omega)
            · cases ha
          · cases ha
    · cases ha

end
end Go.Eng
