/- Engine, part 8: slices of slices, building, and what writes one's own memory. Condition: what the evaluator says must hold, holds. -/
import Derived.Test.YtcigcfneldipkaaE7
namespace Go.Eng
open Go Go.RowKit

inductive VO (φ : Phi) (im : Im) : Option AV → Option Value → Prop where
  | none : VO φ im none none
  | some (x : AV) (v : Value) (h : V im φ x v) : VO φ im (some x) (some v)

inductive VP (φ : Phi) (im : Im) : List (Nat × AV) → List (Nat × Value) → Prop where
  | nil : VP φ im [] []
  | cons (i : Nat) (x : AV) (v : Value) (xs : List (Nat × AV)) (vs : List (Nat × Value)) (h : V im φ x v) (hs : VP φ im xs vs) : VP φ im ((i, x) :: xs) ((i, v) :: vs)

section
variable {P : Program} {φ : Phi} {im : Im} {w : World}

theorem optInt_none {o : Option AV} {v : Option Value} (h : optInt o = some none) (hv : VO φ im o v) : v = none := by
  cases hv with
  | none => rfl
  | some x v hx => cases x <;> simp [optInt] at h
theorem optInt_some {o : Option AV} {v : Option Value} {n : Int} (h : optInt o = some (some n)) (hv : VO φ im o v) : ∃ k, v = some (.int k n) := by
  cases hv with
  | none => simp [optInt] at h
  | some x v hx =>
    cases x <;> simp [optInt] at h
    subst h
    cases hx
    exact ⟨_, rfl⟩

theorem run_sliceBound {k : IntKind} {n : Int} {y : Nat} (c : BoundsCode) (h0 : 0 ≤ n) (h1 : n ≤ y) (w : World) : (Instr.sliceBound (.int k n) y c).run P w = .ok n.toNat w := by
  unfold Instr.sliceBound
  simp [asIntOf, h0, h1]

/-- The three bounds of a slice of a slice, where they fit. -/
theorem run_sliceBounds {isS : Bool} {len cap : Nat} {lo hi mx : Option AV} {vl vh vm : Option Value} {lo' hi' mx' : Option Int} (hlo : optInt lo = some lo') (hhi : optInt hi = some hi') (hmx : optInt mx = some mx')
    (rl : VO φ im lo vl) (rh : VO φ im hi vh) (rm : VO φ im mx vm) (hcap : len ≤ cap)
    (h1 : 0 ≤ lo'.getD 0) (h2 : lo'.getD 0 ≤ hi'.getD (len : Int)) (h3 : hi'.getD (len : Int) ≤ len) (h4 : ∀ m, mx' = some m → hi'.getD (len : Int) ≤ m ∧ m ≤ len ∧ hi'.isSome = true) (w : World) :
    ∃ m : Nat, (Instr.sliceBounds isS len cap vl vh vm).run P w = .ok ((lo'.getD 0).toNat, (hi'.getD (len : Int)).toNat, m) w ∧ (hi'.getD (len : Int)).toNat ≤ m ∧ m ≤ cap := by
  cases mx' with
  | none =>
    have em := optInt_none hmx rm
    subst em
    refine ⟨cap, ?_, by omega, Nat.le_refl _⟩
    cases hi' with
    | none =>
      have eh := optInt_none hhi rh
      subst eh
      cases lo' with
      | none =>
        have el := optInt_none hlo rl
        subst el
        simp [Instr.sliceBounds]
      | some l =>
        obtain ⟨k, hk⟩ := optInt_some hlo rl
        subst hk
        simp only [Option.getD_some, Option.getD_none] at h1 h2 h3 ⊢
        simp [Instr.sliceBounds, run_sliceBound (P := P) _ h1 (show l ≤ (len : Int) from h2) w]
    | some hh =>
      obtain ⟨k, hk⟩ := optInt_some hhi rh
      subst hk
      simp only [Option.getD_some] at h2 h3 ⊢
      cases lo' with
      | none =>
        have el := optInt_none hlo rl
        subst el
        simp only [Option.getD_none] at h1 h2 ⊢
        simp [Instr.sliceBounds, run_sliceBound (P := P) _ h2 (show hh ≤ (cap : Int) by omega) w]
      | some l =>
        obtain ⟨k', hk'⟩ := optInt_some hlo rl
        subst hk'
        simp only [Option.getD_some] at h1 h2 ⊢
        simp [Instr.sliceBounds, run_sliceBound (P := P) _ (show 0 ≤ hh by omega) (show hh ≤ (cap : Int) by omega) w, run_sliceBound (P := P) _ h1 (show l ≤ (hh.toNat : Int) by omega) w]
  | some m =>
    obtain ⟨km, hkm⟩ := optInt_some hmx rm
    subst hkm
    obtain ⟨g1, g2, g3⟩ := h4 m rfl
    refine ⟨m.toNat, ?_, by omega, by omega⟩
    cases hi' with
    | none => simp at g3
    | some hh =>
      obtain ⟨k, hk⟩ := optInt_some hhi rh
      subst hk
      simp only [Option.getD_some] at h2 h3 g1 ⊢
      cases lo' with
      | none =>
        have el := optInt_none hlo rl
        subst el
        simp only [Option.getD_none] at h1 h2 ⊢
        simp [Instr.sliceBounds, run_sliceBound (P := P) _ (show 0 ≤ m by omega) (show m ≤ (cap : Int) by omega) w, run_sliceBound (P := P) _ h2 (show hh ≤ (m.toNat : Int) by omega) w]
      | some l =>
        obtain ⟨k', hk'⟩ := optInt_some hlo rl
        subst hk'
        simp only [Option.getD_some] at h1 h2 ⊢
        simp [Instr.sliceBounds, run_sliceBound (P := P) _ (show 0 ≤ m by omega) (show m ≤ (cap : Int) by omega) w, run_sliceBound (P := P) _ (show 0 ≤ hh by omega) (show hh ≤ (m.toNat : Int) by omega) w,
          run_sliceBound (P := P) _ h1 (show l ≤ (hh.toNat : Int) by omega) w]

theorem sliceV_sound {t : TypeId} {x : AV} {lo hi mx : Option AV} {v : Value} {vl vh vm : Option Value} {e : Eff} (h : sliceV P t x lo hi mx = some e) (hok : e.ok = true) (hx : V im φ x v)
    (rl : VO φ im lo vl) (rh : VO φ im hi vh) (rm : VO φ im mx vm) : Plain P φ im w (Instr.sliceAt t v vl vh vm) e.val ∧ e.wr = [] := by
  unfold sliceV at h
  split at h
  · rename_i lo' hi' mx' hlo hhi hmx
    split at h
    · rename_i el i off len hu
      dsimp only at h
      cases hz : Nat.beq (esz P el) 0 with
      | true => rw [hz] at h; cases h
      | false =>
        rw [hz] at h
        have hz' : esz P el ≠ 0 := fun e => by rw [e] at hz; cases hz
        simp only [cond_false] at h
        cases h
        simp only [Bool.and_eq_true, decide_eq_true_eq] at hok
        obtain ⟨⟨⟨h1, h2, h3⟩, h4⟩, h5⟩ := hok
        have h5' : ∀ m, mx' = some m → hi'.getD (len : Int) ≤ m ∧ m ≤ len ∧ hi'.isSome = true := by
          intro m hm; subst hm; simpa using h5
        have h4' : lo' = none ∨ lo'.getD 0 < hi'.getD (len : Int) := by
          cases lo' with
          | none => exact .inl rfl
          | some l => exact .inr (by simpa using h4)
        have hl0 : lo' = none → lo'.getD 0 = 0 := fun e => by rw [e]; rfl
        have key : ∀ (b : Option Addr) cap, len ≤ cap → ∃ m, (hi'.getD (len : Int)).toNat ≤ m ∧ m ≤ cap ∧ (Instr.sliceAt t (.slice b len cap) vl vh vm).run P w =
            .ok (.slice (if m = (lo'.getD 0).toNat then b else b.map (·.add ((lo'.getD 0).toNat * esz P el))) ((hi'.getD (len : Int)).toNat - (lo'.getD 0).toNat) (m - (lo'.getD 0).toNat)) w := by
          intro b cap hc
          obtain ⟨m, hm, hm1, hm2⟩ := run_sliceBounds (P := P) (isS := true) hlo hhi hmx rl rh rm hc h1 h2 h3 h5' w
          refine ⟨m, hm1, hm2, ?_⟩
          simp [Instr.sliceAt, Instr.slice, run_underlying hu, hm, run_sizeOf hz']
        cases hx with
        | slc _ _ _ _ cap l hl hle hc =>
          obtain ⟨m, hm1, hm2, hr⟩ := key (some ⟨l.blk, off, none⟩) cap hle
          refine ⟨Plain.of hr ?_, rfl⟩
          have ha : (if m = (lo'.getD 0).toNat then (some ⟨l.blk, off, none⟩ : Option Addr) else (some ⟨l.blk, off, none⟩ : Option Addr).map (·.add ((lo'.getD 0).toNat * esz P el))) = some ⟨l.blk, off + (lo'.getD 0).toNat * esz P el, none⟩ := by
            split
            · rename_i hm
              rcases h4' with h4' | h4'
              · rw [hl0 h4']; simp
              · omega
            · simp [Addr.add_lit]
          rw [ha, show (hi'.getD (len : Int) - lo'.getD 0).toNat = (hi'.getD (len : Int)).toNat - (lo'.getD 0).toNat by omega]
          refine .slc _ _ _ _ _ l hl (by omega) fun h0 => ?_
          have ho : off = 0 := by omega
          have := hc ho
          omega
        | slc0 =>
          obtain ⟨m, hm1, hm2, hr⟩ := key none 0 (Nat.le_refl _)
          refine ⟨Plain.of hr ?_, rfl⟩
          have e1 : m = 0 := by omega
          subst e1
          rw [show (hi'.getD ((0 : Nat) : Int) - lo'.getD 0).toNat = 0 by omega, show (hi'.getD ((0 : Nat) : Int)).toNat - (lo'.getD 0).toNat = 0 by omega]
          simp only [Option.map_none, ite_self, Nat.zero_sub]
          exact .slc0 _ _ _
    · rename_i el cells len hu
      dsimp only at h
      cases hz : Nat.beq (esz P el) 0 with
      | true => rw [hz] at h; cases h
      | false =>
        rw [hz] at h
        have hz' : esz P el ≠ 0 := fun e => by rw [e] at hz; cases hz
        simp only [cond_false] at h
        cases h
        simp only [Bool.and_eq_true, decide_eq_true_eq] at hok
        obtain ⟨⟨⟨h1, h2, h3⟩, h4⟩, h5⟩ := hok
        have h5' : ∀ m, mx' = some m → hi'.getD (len : Int) ≤ m ∧ m ≤ len ∧ hi'.isSome = true := by
          intro m hm; subst hm; simpa using h5
        have h4' : lo' = none ∨ lo'.getD 0 < hi'.getD (len : Int) := by
          cases lo' with
          | none => exact .inl rfl
          | some l => exact .inr (by simpa using h4)
        have hl0 : lo' = none → lo'.getD 0 = 0 := fun e => by rw [e]; rfl
        have key : ∀ (b : Option Addr) cap, len ≤ cap → ∃ m, (hi'.getD (len : Int)).toNat ≤ m ∧ m ≤ cap ∧ (Instr.sliceAt t (.slice b len cap) vl vh vm).run P w =
            .ok (.slice (if m = (lo'.getD 0).toNat then b else b.map (·.add ((lo'.getD 0).toNat * esz P el))) ((hi'.getD (len : Int)).toNat - (lo'.getD 0).toNat) (m - (lo'.getD 0).toNat)) w := by
          intro b cap hc
          obtain ⟨m, hm, hm1, hm2⟩ := run_sliceBounds (P := P) (isS := true) hlo hhi hmx rl rh rm hc h1 h2 h3 h5' w
          refine ⟨m, hm1, hm2, ?_⟩
          simp [Instr.sliceAt, Instr.slice, run_underlying hu, hm, run_sizeOf hz']
        have emp : ∀ (b : Option Addr) cap, len = 0 → ∃ r, (Instr.sliceAt t (.slice b len cap) vl vh vm).run P w = .ok r w ∧ V im φ (.snap (cells.drop ((lo'.getD 0).toNat * esz P el)) (hi'.getD (len : Int) - lo'.getD 0).toNat) r := by
          intro b cap e2
          subst e2
          obtain ⟨m, hm1, hm2, hr⟩ := key b cap (Nat.zero_le _)
          refine ⟨_, hr, ?_⟩
          rw [show (hi'.getD ((0 : Nat) : Int) - lo'.getD 0).toNat = 0 by omega, show (hi'.getD ((0 : Nat) : Int)).toNat - (lo'.getD 0).toNat = 0 by omega]
          exact .snape _ _ _ _
        cases hx with
        | snap _ _ _ b o cap cs vs him hvs hv hle =>
          obtain ⟨m, hm1, hm2, hr⟩ := key (some ⟨b, o, none⟩) cap hle
          refine ⟨Plain.of hr ?_, rfl⟩
          have ha : (if m = (lo'.getD 0).toNat then (some ⟨b, o, none⟩ : Option Addr) else (some ⟨b, o, none⟩ : Option Addr).map (·.add ((lo'.getD 0).toNat * esz P el))) = some ⟨b, o + (lo'.getD 0).toNat * esz P el, none⟩ := by
            split
            · rename_i hm
              rcases h4' with h4' | h4'
              · rw [hl0 h4']; simp
              · omega
            · simp [Addr.add_lit]
          rw [ha, show (hi'.getD (len : Int) - lo'.getD 0).toNat = (hi'.getD (len : Int)).toNat - (lo'.getD 0).toNat by omega]
          refine .snap _ _ _ b _ _ cs (vs.drop ((lo'.getD 0).toNat * esz P el)) him ?_ (hv.drop _) (by omega)
          subst hvs
          rw [List.length_drop, List.drop_take, List.drop_drop]
        | snape _ _ x cap =>
          obtain ⟨r, hr, hv⟩ := emp x cap rfl
          exact ⟨Plain.of hr hv, rfl⟩
    · rename_i s hu
      dsimp only at h
      split at h
      · cases h
        have hok' : 0 ≤ lo'.getD 0 ∧ lo'.getD 0 ≤ hi'.getD (s.size : Int) ∧ hi'.getD (s.size : Int) ≤ s.size := by simpa using hok
        obtain ⟨h1, h2, h3⟩ := hok'
        cases hx
        have hm := optInt_none hmx rm
        subst hm
        obtain ⟨m, hm, hm1, hm2⟩ := run_sliceBounds (P := P) (isS := false) hlo hhi hmx rl rh rm (Nat.le_refl s.size) h1 h2 h3 (fun m hm => by cases hm) w
        refine ⟨Plain.of (v := .string (s.extract (lo'.getD 0).toNat (hi'.getD (s.size : Int)).toNat)) ?_ (.str _ _), rfl⟩
        simp [Instr.sliceAt, Instr.slice, run_underlying hu, hm]
      · cases h
    · cases h
  · cases h

/-! ### Cells set in a row -/
theorem setL_eq {α : Type} : ∀ (xs cells : List α) (off : Nat), off + xs.length ≤ cells.length → setL cells off xs = cells.take off ++ xs ++ cells.drop (off + xs.length)
  | [], cells, off, _ => by simp [setL]
  | x :: xs, cells, off, h => by
    simp only [List.length_cons] at h
    rw [setL, setL_eq xs _ _ (by simp; omega)]
    have hlt : off < (cells.set off x).length := by simp; omega
    have e1 : (cells.set off x).take (off + 1) = cells.take off ++ [x] := by
      rw [List.take_succ_eq_append_getElem hlt]
      simp [List.take_set_of_le]
    have e2 : (cells.set off x).drop (off + 1 + xs.length) = cells.drop (off + (xs.length + 1)) := by
      rw [List.drop_set_of_lt (by omega)]
      congr 1
      omega
    rw [e1, e2]
    simp

theorem length_setL {α : Type} : ∀ (xs cells : List α) (off : Nat), (setL cells off xs).length = cells.length
  | [], _, _ => rfl
  | x :: xs, cells, off => by rw [setL, length_setL xs]; simp

theorem VL.setL : ∀ {xs : List AV} {us : List Value} {cells : List AV} {vs : List Value} (off : Nat), VL im φ cells vs → VL im φ xs us → VL im φ (Eng.setL cells off xs) (Eng.setL vs off us)
  | _, _, _, _, _, h, .nil _ => h
  | _, _, _, _, off, h, .cons _ x v xs vs hx hs => VL.setL (off + 1) (h.set off x v hx) hs

theorem foldl_set (off : Nat) : ∀ (l : List Value) (k : Nat) (A : Array Value), ((l.zipIdx k).foldl (fun (cs : Array Value) (p : Value × Nat) => cs.setIfInBounds (off + p.2) p.1) A).toList = Eng.setL A.toList (off + k) l
  | [], _, _ => rfl
  | v :: l, k, A => by
    simp only [List.zipIdx_cons, List.foldl_cons]
    rw [foldl_set off l (k + 1)]
    simp [Eng.setL, Nat.add_assoc]

theorem fillV_sound (place : Nat → Option (Nat × Nat)) {ps : List (Nat × AV)} {qs : List (Nat × Value)} (hp : VP φ im ps qs) : ∀ {cells cs : List AV} {A : Array Value}, fillV place cells ps = some cs → VL im φ cells A.toList →
    ∃ A', Instr.fill place A qs = some A' ∧ VL im φ cs A'.toList := by
  induction hp with
  | nil =>
    intro cells cs A h hv
    simp only [fillV, Option.some.injEq] at h
    subst h
    exact ⟨A, rfl, hv⟩
  | cons i x v xs vs hx hs ih =>
    intro cells cs A h hv
    simp only [fillV] at h
    split at h
    · cases h
    · rename_i off size hp
      cases hc : (Nat.beq x.cells.length size && Nat.ble (off + size) cells.length) with
      | false => rw [hc] at h; cases h
      | true =>
        rw [hc] at h
        simp only [cond_true] at h
        simp only [Bool.and_eq_true, Nat.ble_eq] at hc
        have h1 : x.cells.length = size := Nat.eq_of_beq_eq_true hc.1
        have hcells := hx.cells
        have hlen : v.cells.size = size := by have := hcells.length; rw [h1] at this; simpa using this.symm
        have hA := hv.length
        have hA' : cells.length = A.size := by simpa using hA
        have hset := VL.setL off hv hcells
        have e := foldl_set off v.cells.toList 0 A
        simp only [Nat.add_zero] at e
        rw [← e] at hset
        obtain ⟨A', h2, h3⟩ := ih h hset
        refine ⟨A', ?_, h3⟩
        unfold Instr.fill
        rw [hp]
        simp only [hlen, ne_eq, not_true_eq_false, decide_false, Bool.false_or, decide_eq_true_eq]
        rw [if_neg (by omega)]
        rw [← Array.foldl_toList]
        simpa using h2

end
end Go.Eng
