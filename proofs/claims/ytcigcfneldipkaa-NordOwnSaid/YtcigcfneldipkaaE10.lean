/- Engine, part 10: loads, stores, appends. Condition: what the evaluator says must hold, holds. -/
import Derived.Test.YtcigcfneldipkaaE9
namespace Go.Eng
open Go Go.RowKit

section
variable {P : Program} {base : Nat} {φ : Phi} {im : Im} {h : AHeap} {w : World} {lo hi : Nat}

theorem loadOp_sound (H : HRep P base φ im h w) {t : TypeId} {x : AV} {v : Value} {e : Eff} (hl : loadOp P t x h = some e) (hok : e.ok = true) (hx : V im φ x v) : Plain P φ im w (Instr.loadAt t v) e.val ∧ e.wr = [] := by
  unfold loadOp at hl
  split at hl
  · rename_i i off
    split at hl
    · rename_i b hb
      split at hl
      · rename_i y c hc
        cases hl
        cases hx with
        | ptr _ _ _ l hl =>
          rcases H.own i b hb with ⟨a1, _⟩ | ⟨l', cs, a1, a2, a3, a4, a5, a6, a7⟩
          · rw [hl] at a1; cases a1
          rw [hl] at a1
          cases a1
          refine ⟨?_, rfl⟩
          have := loadVar_sound (P := P) (w := w) hc hok a7 l.blk 0 (fun j u hj => by
            rw [List.getElem?_take] at hj
            split at hj
            · rw [Nat.zero_add]
              unfold World.cell?
              simp only [a2, Option.isSome_none, Bool.false_eq_true, if_false]
              simpa using hj
            · cases hj)
          rw [Nat.zero_add] at this
          obtain ⟨r, w', h1, h2, h3⟩ := this
          exact ⟨r, w', by simp [Instr.loadAt, Instr.sureAddr, h1], h2, h3⟩
      · cases hl
    · cases hl
  · rename_i cells off
    split at hl
    · rename_i y c hc
      cases hl
      cases hx with
      | sptr _ _ _ b o cs vs him hvs hv =>
        refine ⟨?_, rfl⟩
        obtain ⟨e1, f1, hheap⟩ := H.imh b cs him
        have := loadVar_sound (P := P) (w := w) hc hok hv b o (fun j u hj => by
          subst hvs
          rw [List.getElem?_take] at hj
          split at hj
          · rw [List.getElem?_drop] at hj
            unfold World.cell?
            simp only [hheap, Option.isSome_none, Bool.false_eq_true, if_false]
            simpa using hj
          · cases hj)
        obtain ⟨r, w', h1, h2, h3⟩ := this
        exact ⟨r, w', by simp [Instr.loadAt, Instr.sureAddr, h1], h2, h3.mono (Phi.none_le _) (Im.le_refl _)⟩
    · cases hl
  · cases hl

theorem one_of {x : AV} {v : Value} (hx : V im φ x v) (h1 : x.one = true) : v.oneCell' = true := by
  cases hx <;> simp_all [AV.one, Value.oneCell']

theorem ones_of {xs : List AV} {vs : List Value} (hx : VL im φ xs vs) (h1 : xs.all AV.one = true) : ∀ v ∈ vs, v.oneCell' = true := by
  induction xs generalizing vs with
  | nil => cases hx; simp
  | cons x xs ih =>
    cases hx with
    | cons _ _ v _ vs' h hs =>
      simp only [List.all_cons, Bool.and_eq_true] at h1
      intro u hu
      simp only [List.mem_cons] at hu
      rcases hu with rfl | hu
      · exact one_of h h1.1
      · exact ih hs h1.2 u hu

theorem esz_run {t : TypeId} {n : Nat} (hne : esz P t = n) (hn : n ≠ 0) (w : World) : (sizeOf t).run P w = .ok n w := by
  subst hne
  exact run_sizeOf hn w

theorem cells_pos (x : AV) (h : x.cells.length = 0) : x = .agg [] := by
  cases x <;> simp_all [AV.cells]

theorem storeOp_sound (H : HRep P base φ im h w) {t : TypeId} {a x : AV} {va v : Value} {e : Eff} (hs : storeOp P t a x h = some e) (hok : e.ok = true) (ha : V im φ a va) (hx : V im φ x v) :
    ∃ w', (Instr.storeAt t va v).run P w = .ok () w' ∧ Did P base φ im h w lo hi e undef w' φ := by
  unfold storeOp at hs
  split at hs
  · rename_i i off
    split at hs
    · rename_i b hb
      cases hz : Nat.beq x.cells.length (esz P t) && Nat.blt 0 (esz P t) with
      | false => rw [hz] at hs; cases hs
      | true =>
        rw [hz] at hs
        cases hs
        simp only [Bool.and_eq_true, Nat.blt_eq] at hz
        have hlen : x.cells.length = esz P t := Nat.eq_of_beq_eq_true hz.1
        simp only [Bool.and_eq_true, Nat.ble_eq] at hok
        cases ha with
        | ptr _ _ _ l hl =>
          rcases H.own i b hb with ⟨a1, _⟩ | ⟨l', cs, a1, a2, a3, a4, a5, a6, a7⟩
          · rw [hl] at a1; cases a1
          rw [hl] at a1
          cases a1
          have hc := hx.cells
          have hcl : v.cells.size = x.cells.length := by simpa using hc.length.symm
          have hbl : b.cells.length ≤ cs.size := by
            have := a7.length
            rw [List.length_take] at this
            simp at this
            omega
          have hst := run_storeCells_at P l.blk off b.ety v.cells.toList 0 cs w a2 (by simp only [Array.length_toList]; omega) (ones_of hc hok.2)
          simp only [Nat.add_zero] at hst
          have hrow : (cs.toList.take off ++ v.cells.toList ++ cs.toList.drop (off + v.cells.toList.length)) = setL cs.toList off v.cells.toList := by
            rw [setL_eq _ _ _ (by simp only [Array.length_toList]; omega)]
          rw [hrow] at hst
          refine ⟨w.setRow l.blk (setL cs.toList off v.cells.toList).toArray, ?_, Phi.le_refl _, fun i hi => .inl hi, ?_, ?_, .undef _⟩
          · unfold Instr.storeAt storeVar
            have hne : esz P t ≠ 0 := by omega
            simp only [Instr.sureAddr, Sem.run_bind, Sem.run_pure, Result.andThen_ok, run_sizeOf hne, hcl, hlen, ne_eq, not_true_eq_false, if_false]
            exact hst
          · refine H.store hb hl a2 (cs' := (setL cs.toList off v.cells.toList).toArray) (k' := ⟨setL b.cells off x.cells, b.ety⟩) (fun k hk => setRow_other w l.blk k _ hk) (setRow_heap w l.blk cs _ b.ety (0, 0) a2) rfl (by simp [length_setL]) ?_
            simp only [length_setL]
            have h1 := VL.setL off a7 hc
            have h2 : (setL cs.toList off v.cells.toList).take b.cells.length = setL (cs.toList.take b.cells.length) off v.cells.toList := by
              rw [setL_eq _ _ _ (by simp only [Array.length_toList]; omega), setL_eq _ _ _ (by simp only [List.length_take, Array.length_toList]; omega)]
              have g1 : off + v.cells.toList.length ≤ b.cells.length := by simp only [Array.length_toList]; omega
              rw [List.take_append, List.take_append, List.take_take]
              have g2 : min b.cells.length off = off := by omega
              have g3 : (cs.toList.take off).length = off := by simp only [List.length_take, Array.length_toList]; omega
              rw [g2, g3, List.take_of_length_le (l := v.cells.toList) (by omega), List.take_take, Nat.min_eq_left (by omega), List.drop_take, List.length_append, g3]
            rw [h2]
            exact h1
          · refine (Below.refl base w).trans ⟨rfl, rfl, rfl, by simp, fun k hk => setRow_other w l.blk k _ (by omega)⟩
    · cases hs
  · cases hs

/-- What a slice holds, in memory. -/
theorem srcV_sound (H : HRep P base φ im h w) {size : Nat} {x : AV} {v : Value} {news : List AV} {m : Nat} {rd : List Nat} {c : Bool} (hs : srcV size h x = some (news, m, rd, c)) (hc : c = true) (hx : V im φ x v) :
    (v = .slice none 0 0 ∧ m = 0 ∧ news = []) ∨ (m = 0 ∧ news = [] ∧ ∃ a cap, v = .slice a 0 cap) ∨
    ∃ b o cap us, v = .slice (some ⟨b, o, none⟩) m cap ∧ VL im φ news us ∧ news.length = m * size ∧ ∀ j u, us[j]? = some u → w.cell? ⟨b, o + j, none⟩ = some u := by
  subst hc
  unfold srcV at hs
  split at hs
  · cases hs
    cases hx
    exact .inl ⟨rfl, rfl, rfl⟩
  · rename_i cells m'
    simp only [Option.some.injEq, Prod.mk.injEq] at hs
    obtain ⟨e1, e2, e3, e4⟩ := hs
    subst e1
    subst e2
    rw [Nat.ble_eq] at e4
    cases hx with
    | snap _ _ _ b o cap cs vs him hvs hv hle =>
      obtain ⟨e1, f1, hheap⟩ := H.imh b cs him
      refine .inr (.inr ⟨b, o, cap, vs.take (m' * size), rfl, (hv.take _).mono (Phi.none_le _) (Im.le_refl _), by simp; omega, fun j u hj => ?_⟩)
      subst hvs
      rw [List.getElem?_take] at hj
      split at hj
      · rw [List.getElem?_take] at hj
        split at hj
        · rw [List.getElem?_drop] at hj
          unfold World.cell?
          simp only [hheap, Option.isSome_none, Bool.false_eq_true, if_false]
          simpa using hj
        · cases hj
      · cases hj
    | snape _ _ a cap => exact .inr (.inl ⟨rfl, by simp, a, cap, rfl⟩)
  · rename_i k o m'
    split at hs
    · rename_i b hb
      simp only [Option.some.injEq, Prod.mk.injEq] at hs
      obtain ⟨e1, e2, e3, e4⟩ := hs
      subst e1
      subst e2
      rw [Nat.ble_eq] at e4
      cases hx with
      | slc0 => exact .inl ⟨rfl, rfl, by simp⟩
      | slc _ _ _ _ cap l hl hle hcap =>
        rcases H.own k b hb with ⟨a1, _⟩ | ⟨l', cs, a1, a2, a3, a4, a5, a6, a7⟩
        · rw [hl] at a1; cases a1
        rw [hl] at a1
        cases a1
        refine .inr (.inr ⟨l.blk, o, cap, ((cs.toList.take b.cells.length).drop o).take (m' * size), rfl, (a7.drop o).take _, by simp; omega, fun j u hj => ?_⟩)
        rw [List.getElem?_take] at hj
        split at hj
        · rw [List.getElem?_drop, List.getElem?_take] at hj
          split at hj
          · unfold World.cell?
            simp only [a2, Option.isSome_none, Bool.false_eq_true, if_false]
            simpa using hj
          · cases hj
        · cases hj
    · cases hs
  · cases hs

theorem grownCap_bounds (w : World) (need old : Nat) (e : TypeId) (h : need ≤ maxLen) : need ≤ grownCap w need old e ∧ grownCap w need old e ≤ maxLen := ⟨grownCap_ge w need old e, grownCap_le_maxLen w need old e h⟩

end
end Go.Eng
