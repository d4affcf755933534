/- Engine, part 7: reading: parts, places, loads, slices of slices; and what is built without memory. Condition: what the evaluator says must hold, holds. -/
import Derived.Test.YtcigcfneldipkaaE6
namespace Go.Eng
open Go Go.RowKit

section
variable {P : Program} {φ : Phi} {im : Im} {w : World}

theorem run_isAgg {t : TypeId} {u : TypeDesc} (hu : P.underlying t = some u) (w : World) : (isAgg t).run P w = .ok (aggB P t) w := by
  unfold isAgg aggB
  rw [hu]
  cases u <;> simp [run_underlying hu]

theorem run_sizeOf {t : TypeId} (h : esz P t ≠ 0) (w : World) : (sizeOf t).run P w = .ok (esz P t) w := by
  unfold esz at *
  split at h
  · rename_i i hi
    simp [sizeOf, typeInfo, hi]
  · simp at h

theorem eta_of {l : Leaf} {x : AV} (h : x.etaOk l = true) : x.eta l = x := by
  cases l <;> cases x <;> simp_all [AV.eta, AV.etaOk, AV.isFlt, AV.isInt, AV.isBool, AV.toFlt, AV.toInt, AV.toBool]

theorem etas_of : ∀ (ls : List Leaf) (cells : List AV) (off : Nat), etasOk ls cells off = true → off + ls.length ≤ cells.length → etas ls cells off = (cells.drop off).take ls.length
  | [], _, _, _, _ => by simp [etas]
  | l :: ls, cells, off, h, hl => by
    simp only [etasOk, Bool.and_eq_true] at h
    simp only [List.length_cons] at hl
    have ih := etas_of ls cells (off + 1) h.2 (by omega)
    have hlt : off < cells.length := by omega
    have hg : cells.getD off .undef = cells[off] := by simp [List.getD, List.getElem?_eq_getElem hlt]
    have h1 := eta_of h.1
    simp only [etas, List.length_cons]
    rw [ih, h1, hg, List.drop_eq_getElem_cons hlt, List.take_succ_cons]

/-- What is read stands for what is read. -/
theorem loadV_sound {t : TypeId} {cells : List AV} {off : Nat} {x : AV} {c : Bool} {vs : List Value} (h : loadV P t cells off = some (x, c)) (hc : c = true) (hv : VL im φ cells vs) :
    ∃ u, P.underlying t = some u ∧ ((aggB P t = true ∧ esz P t ≠ 0 ∧ off + esz P t ≤ vs.length ∧ V im φ x (.agg ((vs.drop off).take (esz P t)).toArray)) ∨
      (aggB P t = false ∧ ∃ v, vs[off]? = some v ∧ V im φ x v)) := by
  subst hc
  unfold loadV at h
  have hlen := hv.length
  cases ha : aggB P t with
  | true =>
    rw [ha] at h
    have hu : ∃ u, P.underlying t = some u := by
      unfold aggB at ha
      cases hu : P.underlying t with
      | none => rw [hu] at ha; cases ha
      | some u => exact ⟨u, rfl⟩
    obtain ⟨u, hu⟩ := hu
    refine ⟨u, hu, .inl ⟨rfl, ?_⟩⟩
    simp only [cond_true] at h
    cases hl : (Nat.beq (leaves P 6 t).length (esz P t) && Nat.blt 0 (esz P t)) with
    | false => rw [hl] at h; cases h
    | true =>
      rw [hl] at h
      simp only [cond_true, Option.some.injEq, Prod.mk.injEq] at h
      obtain ⟨h1, h2⟩ := h
      simp only [Bool.and_eq_true, Nat.blt_eq, Nat.ble_eq] at h2 hl
      have hl1 : (leaves P 6 t).length = esz P t := Nat.eq_of_beq_eq_true hl.1
      refine ⟨by omega, by omega, ?_⟩
      rw [← h1, etas_of _ _ _ h2.2 (by omega), hl1]
      exact .agg _ _ _ (by simpa using (hv.drop off).take (esz P t))
  | false =>
    rw [ha] at h
    simp only [cond_false] at h
    cases hu : P.underlying t with
    | none => rw [hu] at h; cases h
    | some u =>
      rw [hu] at h
      simp only [Option.some.injEq, Prod.mk.injEq] at h
      obtain ⟨h1, h2⟩ := h
      simp only [Bool.and_eq_true, Nat.blt_eq] at h2
      refine ⟨u, rfl, .inr ⟨rfl, ?_⟩⟩
      have hg : cells.getD off .undef = cells[off]'h2.1 := by simp [List.getD, List.getElem?_eq_getElem h2.1]
      obtain ⟨v, hv1, hv2⟩ := hv.get off (cells[off]'h2.1) (List.getElem?_eq_getElem h2.1)
      exact ⟨v, hv1, by rw [← h1, eta_of h2.2, hg]; exact hv2⟩

/-- A variable at a place whose cells are known is loaded. -/
theorem loadVar_exact {t : TypeId} {cells : List AV} {off : Nat} {x : AV} {c : Bool} {vs : List Value} (h : loadV P t cells off = some (x, c)) (hc : c = true) (hv : VL im φ cells vs)
    (b o : Nat) (hm : ∀ j v, vs[j]? = some v → w.cell? ⟨b, o + j, none⟩ = some v) : ∃ r, (loadVar t ⟨b, o + off, none⟩).run P w = .ok r w ∧ V im φ x r := by
  obtain ⟨u, hu, h1⟩ := loadV_sound h hc hv
  rcases h1 with ⟨ha, hz, hl, hx⟩ | ⟨ha, v, hv1, hx⟩
  · refine ⟨.agg ((vs.drop off).take (esz P t)).toArray, ?_, hx⟩
    have hlen : ((vs.drop off).take (esz P t)).length = esz P t := by simp; omega
    have hr := run_loadCells_list (P := P) w ⟨b, o + off, none⟩ ((vs.drop off).take (esz P t)) (fun j v hj => by
      rw [Addr.add_lit]
      rw [List.getElem?_take] at hj
      split at hj
      · rw [List.getElem?_drop] at hj
        have := hm _ _ hj
        rwa [← Nat.add_assoc] at this
      · cases hj)
    rw [hlen] at hr
    unfold loadVar
    simp only [Sem.run_bind, run_isAgg hu, Result.andThen_ok, ha, if_true, run_sizeOf hz, hr, Sem.run_pure]
  · refine ⟨v, ?_, hx⟩
    unfold loadVar
    simp [Sem.run_bind, run_isAgg hu, Result.andThen_ok, ha, hm _ _ hv1]

theorem loadVar_sound {t : TypeId} {cells : List AV} {off : Nat} {x : AV} {c : Bool} {vs : List Value} (h : loadV P t cells off = some (x, c)) (hc : c = true) (hv : VL im φ cells vs)
    (b o : Nat) (hm : ∀ j v, vs[j]? = some v → w.cell? ⟨b, o + j, none⟩ = some v) : Plain P φ im w (loadVar t ⟨b, o + off, none⟩) x := by
  obtain ⟨r, h1, h2⟩ := loadVar_exact (P := P) (w := w) h hc hv b o hm
  exact Plain.of h1 h2

theorem part_sound {t : TypeId} {cells : List AV} {off : Nat} {x : AV} {c : Bool} {cs : Array Value} (h : loadV P t cells off = some (x, c)) (hc : c = true) (hv : VL im φ cells cs.toList) :
    Plain P φ im w (part t cs off) x := by
  obtain ⟨u, hu, h1⟩ := loadV_sound h hc hv
  rcases h1 with ⟨ha, hz, hl, hx⟩ | ⟨ha, v, hv1, hx⟩
  · refine Plain.of (v := .agg ((cs.toList.drop off).take (esz P t)).toArray) ?_ hx
    unfold part
    simp only [Sem.run_bind, run_isAgg hu, Result.andThen_ok, ha, if_true, run_sizeOf hz, Sem.run_pure]
    congr 2
    apply Array.ext'
    simp [Array.toList_extract, List.extract]
  · refine Plain.of (v := v) ?_ hx
    unfold part
    have : cs[off]? = some v := by simpa using hv1
    simp [Sem.run_bind, run_isAgg hu, Result.andThen_ok, ha, this]

theorem fieldsOf_is {t : TypeId} {f : Nat} {fd : Field} (h : fieldsOf P t f = some fd) : ∃ fs, P.underlying t = some (.struct fs) ∧ fs[f]? = some fd := by
  unfold fieldsOf at h
  split at h
  · rename_i fs hu; exact ⟨fs, hu, h⟩
  · cases h

theorem fieldV_sound {t : TypeId} {x : AV} {f : Nat} {v : Value} {e : Eff} (h : fieldV P t x f = some e) (hok : e.ok = true) (hx : V im φ x v) : Plain P φ im w (Instr.field t v f) e.val ∧ e.wr = [] := by
  unfold fieldV at h
  split at h
  · rename_i fd cs hf
    split at h
    · rename_i x' c hl
      cases h
      cases hx with
      | agg _ _ cs' hv =>
        obtain ⟨fs, hu, hfs⟩ := fieldsOf_is hf
        refine ⟨?_, rfl⟩
        obtain ⟨r, w', h1, h2, h3⟩ := part_sound (w := w) hl hok hv
        refine ⟨r, w', ?_, h2, h3⟩
        unfold Instr.field
        simp [run_underlying hu, hfs, asAgg, h1]
    · cases h
  · cases h

theorem fieldAddrV_sound {s : TypeId} {x : AV} {f : Nat} {v : Value} {e : Eff} (h : fieldAddrV P s x f = some e) (hx : V im φ x v) : Plain P φ im w (Instr.fieldAt s v f) e.val ∧ e.wr = [] := by
  unfold fieldAddrV at h
  split at h
  · rename_i fd hf
    obtain ⟨fs, hu, hfs⟩ := fieldsOf_is hf
    cases hz : Nat.beq (esz P fd.type) 0 with
    | true => rw [hz] at h; cases h
    | false =>
      rw [hz] at h
      have hz' : esz P fd.type ≠ 0 := fun e => by rw [e] at hz; cases hz
      have key : ∀ b o, (Instr.fieldAt s (.pointer (some ⟨b, o, none⟩)) f).run P w = .ok (.pointer (some ⟨b, o + fd.offset, none⟩)) w := by
        intro b o
        unfold Instr.fieldAt
        simp [run_underlying hu, hfs, Instr.sureAddr, fieldPlace, run_sizeOf hz', hz', Addr.add_lit]
      simp only [cond_false] at h
      split at h
      · rename_i i off
        cases h
        cases hx with
        | ptr _ _ _ l hl => exact ⟨Plain.of (key _ _) (.ptr _ _ _ l hl), rfl⟩
      · rename_i cells off
        cases h
        cases hx with
        | sptr _ _ _ b o cs vs him hvs hv =>
          refine ⟨Plain.of (key _ _) ?_, rfl⟩
          rw [Nat.add_assoc]
          exact .sptr _ _ _ b o cs vs him hvs hv
      · cases h
  · cases h

theorem indexAddrV_sound {t : TypeId} {x ix : AV} {v u : Value} {e : Eff} (h : indexAddrV P t x ix = some e) (hok : e.ok = true) (hx : V im φ x v) (hi : V im φ ix u) : Plain P φ im w (Instr.indexAt t v u) e.val ∧ e.wr = [] := by
  unfold indexAddrV at h
  split at h
  · rename_i k n
    cases hi
    split at h
    · rename_i len el hu
      cases hz : Nat.beq (esz P el) 0 with
      | true => rw [hz] at h; cases h
      | false =>
        rw [hz] at h
        have hz' : esz P el ≠ 0 := fun e => by rw [e] at hz; cases hz
        have key : (0 ≤ n ∧ n < len) → ∀ b o, (Instr.indexAt t (.pointer (some ⟨b, o, none⟩)) (.int k n)).run P w = .ok (.pointer (some ⟨b, o + n.toNat * esz P el, none⟩)) w := by
          intro hn b o
          unfold Instr.indexAt
          simp [asIntOf, run_underlying hu, Instr.sureAddr, hn, run_sizeOf hz', Addr.add_lit]
        simp only [cond_false] at h
        split at h
        · cases h
          have hn : 0 ≤ n ∧ n < len := by simpa using hok
          cases hx with
          | ptr _ _ _ l hl => exact ⟨Plain.of (key hn _ _) (.ptr _ _ _ l hl), rfl⟩
        · cases h
          have hn : 0 ≤ n ∧ n < len := by simpa using hok
          cases hx with
          | sptr _ _ _ b o cs vs him hvs hv =>
            refine ⟨Plain.of (key hn _ _) ?_, rfl⟩
            rw [Nat.add_assoc]
            exact .sptr _ _ _ b o cs vs him hvs hv
        · cases h
    · rename_i el hu
      cases hz : Nat.beq (esz P el) 0 with
      | true => rw [hz] at h; cases h
      | false =>
        rw [hz] at h
        have hz' : esz P el ≠ 0 := fun e => by rw [e] at hz; cases hz
        have key : ∀ len cap, (0 ≤ n ∧ n < (len : Nat)) → ∀ b o, (Instr.indexAt t (.slice (some ⟨b, o, none⟩) len cap) (.int k n)).run P w = .ok (.pointer (some ⟨b, o + n.toNat * esz P el, none⟩)) w := by
          intro len cap hn b o
          unfold Instr.indexAt
          simp [asIntOf, run_underlying hu, hn, run_sizeOf hz', Addr.add_lit]
        simp only [cond_false] at h
        split at h
        · rename_i i off len
          cases h
          have hn : 0 ≤ n ∧ n < len := by simpa using hok
          cases hx with
          | slc _ _ _ _ cap l hl _ _ => exact ⟨Plain.of (key _ _ hn _ _) (.ptr _ _ _ l hl), rfl⟩
          | slc0 => omega
        · rename_i cells len
          cases h
          have hn : 0 ≤ n ∧ n < len := by simpa using hok
          cases hx with
          | snap _ _ _ b o cap cs vs him hvs hv hle => exact ⟨Plain.of (key _ _ hn _ _) (.sptr _ _ _ b o cs vs him hvs hv), rfl⟩
          | snape => omega
        · cases h
    · cases h
  · cases h

theorem indexV_sound {t : TypeId} {x ix : AV} {v u : Value} {e : Eff} (h : indexV P t x ix = some e) (hok : e.ok = true) (hx : V im φ x v) (hi : V im φ ix u) : Plain P φ im w (Instr.index t v u) e.val ∧ e.wr = [] := by
  unfold indexV at h
  split at h
  · rename_i k n
    cases hi
    split at h
    · rename_i len el cs hu
      cases hz : Nat.beq (esz P el) 0 with
      | true => rw [hz] at h; cases h
      | false =>
        rw [hz] at h
        have hz' : esz P el ≠ 0 := fun e => by rw [e] at hz; cases hz
        simp only [cond_false] at h
        split at h
        · rename_i y c hl
          cases h
          have hok' : c = true ∧ (0 ≤ n ∧ n < len) := by simpa using hok
          cases hx with
          | agg _ _ cs' hv =>
            refine ⟨?_, rfl⟩
            obtain ⟨r, w', h1, h2, h3⟩ := part_sound (w := w) hl hok'.1 hv
            refine ⟨r, w', ?_, h2, h3⟩
            unfold Instr.index
            simp [asIntOf, run_underlying hu, hok'.2, run_sizeOf hz', h1]
        · cases h
    · rename_i s hu
      cases h
      have hn : 0 ≤ n ∧ n < (s.size : Int) := by simpa using hok
      cases hx
      have hlt : n.toNat < s.size := by omega
      have hg : s[n.toNat]? = some s[n.toNat] := by simp [hlt]
      refine ⟨Plain.of (v := .int .u8 (s[n.toNat].toNat : Int)) ?_ ?_, rfl⟩
      · unfold Instr.index
        simp [asIntOf, run_underlying hu, hn.1, hg]
      · simp only [hg, Option.map_some, Option.getD_some]
        exact .int _ _ _
    · cases h
  · cases h

end
end Go.Eng
