/- Engine, part 9: building; what makes or writes one's own memory. Condition: what the evaluator says must hold, holds. -/
import Derived.Test.YtcigcfneldipkaaE8
namespace Go.Eng
open Go Go.RowKit

def updL (h : AHeap) : List (Nat × Option ABlk) → AHeap
  | [] => h
  | p :: ps => updL (upd h p.1 p.2) ps

/-- What an operation has done: memory and places stand to the abstract heap as the effect says. -/
structure Did (P : Program) (base : Nat) (φ : Phi) (im : Im) (h : AHeap) (w : World) (lo hi : Nat) (e : Eff) (r : Value) (w' : World) (φ' : Phi) : Prop where
  le : Phi.le φ φ'
  news : ∀ i, φ' i ≠ none → φ i ≠ none ∨ (lo ≤ i ∧ i < hi)
  hrep : HRep P base φ' im (updL h e.wr) w'
  below : Below base w w'
  val : V im φ' e.val r

section
variable {P : Program} {base : Nat} {φ : Phi} {im : Im} {h : AHeap} {w : World} {lo hi : Nat}

theorem Plain.did {s : Sem Value} {e : Eff} (H : HRep P base φ im h w) (p : Plain P φ im w s e.val) (hw : e.wr = []) : ∃ r w', s.run P w = .ok r w' ∧ Did P base φ im h w lo hi e r w' φ := by
  obtain ⟨r, w', h1, h2, h3⟩ := p
  refine ⟨r, w', h1, Phi.le_refl _, fun i hi => .inl hi, ?_, ?_, h3⟩
  · rw [hw]
    rcases h2 with rfl | rfl
    · exact H
    · exact H.heap_eq rfl
  · rcases h2 with rfl | rfl
    · exact Below.refl _ _
    · exact (Below.refl _ _).drew

theorem zeroV_is {t : TypeId} {z : AV} (hz : zeroV P t = some z) : ∃ i v, P.info? t = some i ∧ i.zero = some v ∧ ∀ {φ : Phi} {im : Im}, V im φ z v := by
  unfold zeroV at hz
  cases hi : P.info? t with
  | none => rw [hi] at hz; cases hz
  | some i =>
    rw [hi] at hz
    dsimp only at hz
    cases hv : i.zero with
    | none => rw [hv] at hz; cases hz
    | some v =>
      rw [hv] at hz
      exact ⟨i, v, rfl, hv, fun {_ _} => ofConst_V hz⟩

theorem run_zero {t : TypeId} {i : TypeInfo} {v : Value} (hi : P.info? t = some i) (hz : i.zero = some v) (w : World) : (zeroValue t).run P w = .ok v w := by simp [zeroValue, typeInfo, hi, hz]

theorem esz_is {t : TypeId} {i : TypeInfo} (hi : P.info? t = some i) : esz P t = i.size := by simp [esz, hi]

theorem buildV_sound {t : TypeId} {ps : List (Nat × AV)} {qs : Array (Nat × Value)} {e : Eff} (hb : buildV P t ps = some e) (hp : VP φ im ps qs.toList) : Plain P φ im w (Instr.build t qs) e.val ∧ e.wr = [] := by
  unfold buildV at hb
  cases hz : zeroV P t with
  | none => rw [hz] at hb; cases hb
  | some z =>
    rw [hz] at hb
    obtain ⟨it, v, hit, hv, hzv⟩ := zeroV_is hz
    have hc : VL im φ z.cells v.cells.toList := (hzv (φ := φ) (im := im)).cells
    dsimp only at hb
    split at hb
    · rename_i fs hu
      cases hpl : placesOf P fs.toList with
      | none => rw [hpl] at hb; cases hb
      | some pl =>
        rw [hpl] at hb
        dsimp only at hb
        cases hf : fillV (fun i => pl.toArray[i]?) z.cells ps with
        | none => rw [hf] at hb; cases hb
        | some cs =>
          rw [hf] at hb
          cases hb
          obtain ⟨A', h1, h2⟩ := fillV_sound _ hp hf hc
          refine ⟨Plain.of (run_build w t qs A' ?_) (.agg _ _ _ h2), rfl⟩
          unfold Program.built
          have : (List.mapM (fun f => Option.map (fun i => (f.offset, i.size)) (P.info? f.type)) fs.toList) = some pl := hpl
          simp only [hit, hu, hv, this]
          exact h1
    · rename_i n el hu
      cases hie : P.info? el with
      | none => rw [hie] at hb; cases hb
      | some ie =>
        rw [hie] at hb
        dsimp only at hb
        cases hf : fillV (fun i => some (i * ie.size, ie.size)) z.cells ps with
        | none => rw [hf] at hb; cases hb
        | some cs =>
          rw [hf] at hb
          cases hb
          obtain ⟨A', h1, h2⟩ := fillV_sound _ hp hf hc
          refine ⟨Plain.of (run_build w t qs A' ?_) (.agg _ _ _ h2), rfl⟩
          unfold Program.built
          simp only [hit, hu, hv, hie]
          exact h1
    · cases hb

theorem news_upd {n : Nat} {l : Loc} (h1 : lo ≤ n) (h2 : n < hi) : ∀ i, upd φ n (some l) i ≠ none → φ i ≠ none ∨ (lo ≤ i ∧ i < hi) := by
  intro i hi'
  by_cases e : i = n
  · subst e; exact .inr ⟨h1, h2⟩
  · rw [upd_other _ _ _ e] at hi'; exact .inl hi'

/-- A new variable. -/
theorem newVar_did (H : HRep P base φ im h w) (hbase : base ≤ w.heap.size) {n : Nat} (hn : φ n = none) (h1 : lo ≤ n) (h2 : n < hi) {t : TypeId} {x : AV} {v : Value} (hx : V im φ x v) (hsz : x.cells.length = esz P t) :
    Did P base φ im h w lo hi ⟨.ptr n 0, [(n, some ⟨x.cells, t⟩)], [], true⟩ (.pointer (some ⟨w.heap.size, 0, none⟩)) (w.alloc (.cells v.cells t)) (upd φ n (some ⟨w.heap.size, 1⟩)) := by
  have hc := hx.cells
  have hl := hc.length
  refine ⟨Phi.le_upd hn _, news_upd h1 h2, ?_, (Below.refl _ _).alloc hbase _, .ptr _ n 0 ⟨w.heap.size, 1⟩ (upd_same _ _ _)⟩
  refine H.alloc hn 1 v.cells ⟨x.cells, t⟩ hbase (by unfold maxLen; omega) ?_ ?_
  · have : v.cells.size = x.cells.length := by simpa using hl.symm
    simp only [Nat.one_mul]
    omega
  · dsimp only
    rw [List.take_of_length_le (by omega)]
    exact hc

theorem allocV_sound (H : HRep P base φ im h w) (hbase : base ≤ w.heap.size) {n : Nat} (hn : φ n = none) (h1 : lo ≤ n) (h2 : n < hi) {t : TypeId} {e : Eff} (ha : allocV P t n = some e) :
    ∃ r w' φ', (Instr.alloc t true (.tuple #[])).run P w = .ok r w' ∧ Did P base φ im h w lo hi e r w' φ' := by
  unfold allocV at ha
  split at ha
  · rename_i z hz
    cases hc : Nat.beq z.cells.length (esz P t) with
    | false => rw [hc] at ha; cases ha
    | true =>
      rw [hc] at ha
      cases ha
      obtain ⟨it, v, hit, hv, hzv⟩ := zeroV_is hz
      refine ⟨_, _, _, ?_, newVar_did H hbase hn h1 h2 hzv (Nat.eq_of_beq_eq_true hc)⟩
      simp [Instr.alloc, run_zero hit hv, newVar, newRow]
  · cases ha

theorem boxV_sound (H : HRep P base φ im h w) (hbase : base ≤ w.heap.size) {n : Nat} (hn : φ n = none) (h1 : lo ≤ n) (h2 : n < hi) {t : TypeId} {x : AV} {v : Value} (hx : V im φ x v) {e : Eff} (ha : boxV P t x n = some e) :
    ∃ r w' φ', (Instr.box t v).run P w = .ok r w' ∧ Did P base φ im h w lo hi e r w' φ' := by
  unfold boxV at ha
  cases hc : Nat.beq x.cells.length (esz P t) with
  | false => rw [hc] at ha; cases ha
  | true =>
    rw [hc] at ha
    cases ha
    refine ⟨_, _, _, ?_, newVar_did H hbase hn h1 h2 hx (Nat.eq_of_beq_eq_true hc)⟩
    simp [Instr.box, newVar, newRow]

theorem flatten_cells {z : Array Value} (hz : 0 < z.size) : ∀ n, (madeCells z (n * z.size)).toList = (List.replicate n z.toList).flatten := by
  intro n
  apply List.ext_getElem?
  intro j
  have hlen : ((List.replicate n z.toList).flatten).length = n * z.size := by simp
  by_cases hj : j < n * z.size
  · have hm : j % z.size < z.size := Nat.mod_lt _ hz
    have h1 : (madeCells z (n * z.size)).toList[j]? = some z[j % z.size] := by
      have : (madeCells z (n * z.size))[j]? = some z[j % z.size] := by
        unfold madeCells
        simp [hj, hm]
      simpa using this
    rw [h1]
    clear h1 hlen
    induction n generalizing j with
    | zero => simp at hj
    | succ n ih =>
      rw [List.replicate_succ, List.flatten_cons]
      by_cases hlt : j < z.size
      · rw [List.getElem?_append_left (by simpa using hlt)]
        have : j % z.size = j := Nat.mod_eq_of_lt hlt
        simp [this, hlt]
      · rw [List.getElem?_append_right (by simp; omega)]
        have e : (j - z.size) % z.size = j % z.size := by
          rw [Nat.mod_eq_sub_mod (Nat.le_of_not_lt hlt)]
        have := ih (j - z.size) (by rw [Nat.add_mul] at hj; omega) (Nat.mod_lt _ hz)
        simp only [e] at this
        simpa using this
  · rw [List.getElem?_eq_none (by rw [Array.length_toList, size_madeCells]; omega), List.getElem?_eq_none (by rw [hlen]; omega)]

theorem repV_eq (z : List AV) (n : Nat) : repV z n = (List.replicate n z).flatten := by
  unfold repV
  split
  · rename_i x
    induction n with
    | zero => rfl
    | succ n ih => rw [List.replicate_succ, List.replicate_succ, List.flatten_cons, ← ih]; rfl
  · rfl

theorem VL.rep {z : List AV} {zs : List Value} (hz : VL im φ z zs) : ∀ n, VL im φ (List.replicate n z).flatten (List.replicate n zs).flatten
  | 0 => .nil _
  | n + 1 => by
    rw [List.replicate_succ, List.replicate_succ, List.flatten_cons, List.flatten_cons]
    exact hz.append (VL.rep hz n)

theorem sliceElem_is {t e : TypeId} (hs : sliceElem P t = some e) : P.underlying t = some (.slice e) := by
  unfold sliceElem at hs
  split at hs
  · rename_i e' hu; cases hs; exact hu
  · cases hs

theorem take_flatten {α : Type} (z : List α) {l c : Nat} (hlc : l ≤ c) : ((List.replicate c z).flatten).take (l * z.length) = (List.replicate l z).flatten := by
  obtain ⟨d, rfl⟩ : ∃ d, c = l + d := ⟨c - l, by omega⟩
  rw [← List.replicate_append_replicate, List.flatten_append]
  have : l * z.length = ((List.replicate l z).flatten).length := by simp
  rw [this, List.take_left']
  rfl

/-- A new row at an address of its own. -/
theorem newRow_did (H : HRep P base φ im h w) (hbase : base ≤ w.heap.size) {n : Nat} (hn : φ n = none) (h1 : lo ≤ n) (h2 : n < hi) {el : TypeId} {cells : List AV} {A : Array Value} {len cap : Nat} {ok : Bool} {rd : List Nat}
    (hv : VL im φ cells (A.toList.take cells.length)) (hcap : cap ≤ maxLen) (hsz : cap * esz P el ≤ A.size) (hle : len ≤ cap) {w1 : World} (hw1 : w1 = w ∨ w1 = w.drew) :
    Did P base φ im h w lo hi ⟨.slc n 0 len, [(n, some ⟨cells, el⟩)], rd, ok⟩ (.slice (some ⟨w.heap.size, 0, none⟩) len cap) (w1.alloc (.cells A el)) (upd φ n (some ⟨w.heap.size, cap⟩)) := by
  have hs : w1.heap.size = w.heap.size := by rcases hw1 with rfl | rfl <;> rfl
  have H1 : HRep P base φ im h w1 := by rcases hw1 with rfl | rfl; exact H; exact H.heap_eq rfl
  have hb1 : Below base w w1 := by rcases hw1 with rfl | rfl; exact Below.refl _ _; exact (Below.refl _ _).drew
  rw [← hs]
  exact ⟨Phi.le_upd hn _, news_upd h1 h2, H1.alloc hn cap A ⟨cells, el⟩ (by omega) hcap hsz hv, hb1.alloc (by omega) _, .slc _ n 0 len cap ⟨w1.heap.size, cap⟩ (upd_same _ _ _) hle (fun _ => Nat.le_refl _)⟩

theorem makeV_sound (H : HRep P base φ im h w) (hbase : base ≤ w.heap.size) {n : Nat} (hn : φ n = none) (h1 : lo ≤ n) (h2 : n < hi) {t : TypeId} {l c : AV} {vl vc : Value} (hl : V im φ l vl) (hc : V im φ c vc) {e : Eff} (hm : makeV P t l c n = some e) (hok : e.ok = true) :
    ∃ r w' φ', (Instr.makeSlice t vl vc).run P w = .ok r w' ∧ Did P base φ im h w lo hi e r w' φ' := by
  unfold makeV at hm
  split at hm
  · rename_i k1 l k2 c el hel
    cases hl
    cases hc
    split at hm
    · rename_i z i hz hi'
      cases hc : (Nat.beq z.cells.length i.size && Nat.blt 0 i.size) with
      | false => rw [hc] at hm; cases hm
      | true =>
        rw [hc] at hm
        cases hm
        simp only [Bool.and_eq_true, Nat.blt_eq] at hc
        have hzl : z.cells.length = i.size := Nat.eq_of_beq_eq_true hc.1
        have hok' : 0 ≤ l ∧ l ≤ c ∧ (i.bytes : Int) * c ≤ 281474976710656 ∧ c ≤ 9223372036854775807 := by simpa using hok
        obtain ⟨a1, a2, a3, a4⟩ := hok'
        obtain ⟨i', v, hit, hv, hzv⟩ := zeroV_is hz
        rw [hi'] at hit
        cases hit
        have hcells : VL im φ z.cells v.cells.toList := (hzv (φ := φ) (im := im)).cells
        have hvs : v.cells.size = i.size := by have := hcells.length; rw [hzl] at this; simpa using this.symm
        refine ⟨_, _, upd φ n (some ⟨w.heap.size, c.toNat⟩), run_make w t el i v (sliceElem_is hel) hi' hv k1 k2 l c a1 a2 a3 a4, ?_⟩
        refine newRow_did H hbase hn h1 h2 (w1 := w) ?_ (by unfold maxLen; omega) (by rw [esz_is hi', size_madeCells]; exact Nat.le_refl _) (by omega) (.inl rfl)
        rw [repV_eq]
        have e1 : (madeCells v.cells (c.toNat * i.size)).toList = (List.replicate c.toNat v.cells.toList).flatten := by rw [← hvs]; exact flatten_cells (by omega) _
        rw [e1]
        have e2 : ((List.replicate l.toNat z.cells).flatten).length = l.toNat * v.cells.toList.length := by simp [hzl, hvs]
        rw [e2, take_flatten _ (by omega)]
        exact VL.rep hcells _
    · cases hm
  · cases hm

theorem buildSliceV_sound (H : HRep P base φ im h w) (hbase : base ≤ w.heap.size) {n : Nat} (hn : φ n = none) (h1 : lo ≤ n) (h2 : n < hi) {t : TypeId} {len : Nat} {ps : List (Nat × AV)} {qs : Array (Nat × Value)} (hp : VP φ im ps qs.toList) {e : Eff} (hm : buildSliceV P t len ps n = some e) :
    ∃ r w' φ', (Instr.buildSlice t len qs).run P w = .ok r w' ∧ Did P base φ im h w lo hi e r w' φ' := by
  unfold buildSliceV at hm
  cases hel : sliceElem P t with
  | none => rw [hel] at hm; cases hm
  | some el =>
    rw [hel] at hm
    dsimp only at hm
    cases hz : zeroV P el with
    | none => rw [hz] at hm; cases hm
    | some z =>
      rw [hz] at hm
      dsimp only at hm
      cases hc : (Nat.beq z.cells.length (esz P el) && Nat.ble (len * esz P el) 16777216 && Nat.blt 0 (esz P el)) with
      | false => rw [hc] at hm; cases hm
      | true =>
        rw [hc] at hm
        simp only [cond_true] at hm
        simp only [Bool.and_eq_true, Nat.blt_eq, Nat.ble_eq] at hc
        have hzl : z.cells.length = esz P el := Nat.eq_of_beq_eq_true hc.1.1
        obtain ⟨i, v, hit, hv, hzv⟩ := zeroV_is hz
        have hei := esz_is hit
        have hcells : VL im φ z.cells v.cells.toList := (hzv (φ := φ) (im := im)).cells
        have hvs : v.cells.size = i.size := by have := hcells.length; rw [hzl, hei] at this; simpa using this.symm
        cases hf : fillV (fun i => some (i * esz P el, esz P el)) (repV z.cells len) ps with
        | none => rw [hf] at hm; cases hm
        | some cs =>
          rw [hf] at hm
          cases hm
          have e1 : (madeCells v.cells (len * i.size)).toList = (List.replicate len v.cells.toList).flatten := by rw [← hvs]; exact flatten_cells (by omega) _
          have hrow : VL im φ (repV z.cells len) (madeCells v.cells (len * i.size)).toList := by rw [repV_eq, e1]; exact VL.rep hcells _
          obtain ⟨A', g1, g2⟩ := fillV_sound _ hp hf hrow
          have hfl : ∀ {ps' : List (Nat × AV)} {c c' : List AV}, fillV (fun i => some (i * esz P el, esz P el)) c ps' = some c' → c'.length = c.length := by
            intro ps'
            induction ps' with
            | nil => intro c c' hh; simp only [fillV, Option.some.injEq] at hh; rw [hh]
            | cons p ps' ih =>
              intro c c' hh
              obtain ⟨pi, pv⟩ := p
              simp only [fillV] at hh
              cases hcc : (Nat.beq pv.cells.length (esz P el) && Nat.ble (pi * esz P el + esz P el) c.length) with
              | false => rw [hcc] at hh; cases hh
              | true => rw [hcc] at hh; rw [ih hh, length_setL]
          have hlen : cs.length = A'.size := by simpa using g2.length
          have hcl : cs.length = len * i.size := by rw [hfl hf, repV_eq]; simp [hzl, hei]
          have hsmall : len ≤ len * i.size := Nat.le_mul_of_pos_right _ (by omega)
          have hbig : len * i.size ≤ 16777216 := by rw [← hei]; exact hc.1.2
          refine ⟨_, w.alloc (.cells A' el), _, ?_, newRow_did H hbase hn h1 h2 (cap := len) (w1 := w) (A := A') ?_ (by unfold maxLen; omega) (by rw [hei, ← hlen, hcl]; exact Nat.le_refl _) (Nat.le_refl _) (.inl rfl)⟩
          · unfold Instr.buildSlice
            have hsz : (sizeOf el).run P w = .ok i.size w := by simp [sizeOf, typeInfo, hit]
            have hn' : ¬ (len * i.size > 2 ^ 24) := by omega
            rw [hei] at g1
            by_cases h0 : len * i.size = 0
            · have hl0 : len = 0 := by rcases Nat.mul_eq_zero.1 h0 with hh | hh; exact hh; omega
              subst hl0
              have hm0 : madeCells v.cells (0 * i.size) = #[] := by simp [madeCells]
              rw [hm0] at g1
              simp [run_underlying (sliceElem_is hel), hsz, Array.range_zero', g1, newRow]
            · have hm1 : (Array.range (len * i.size)).map (fun x => v.cells[x % v.cells.size]!) = madeCells v.cells (len * i.size) := rfl
              simp only [Sem.run_bind, run_underlying (sliceElem_is hel), Result.andThen_ok, hsz, Sem.run_ite, if_neg hn', if_neg h0, run_zero hit hv, Sem.run_pure]
              simp [hm1, g1, newRow]
          · rw [List.take_of_length_le (by rw [hlen]; simp)]
            exact g2

end
end Go.Eng
