/- Engine, part 14: soundness of one operation. Condition: the contracts that the evaluator leans on hold. -/
import Derived.Test.YtcigcfneldipkaaE13
namespace Go.Eng
open Go Go.RowKit

section
variable {C : Ctx} {base : Nat} {φ : Phi} {im : Im} {h : AHeap} {w : World} {n : Nat}

theorem lenV_sound {P : Program} {t : TypeId} {x : AV} {v : Value} {e : Eff} {ty : TypeId} (hl : lenV P t x = some e) (hx : V im φ x v) : Plain P φ im w (Builtin.len_ #[t] ty #[v]) e.val ∧ e.wr = [] := by
  unfold lenV at hl
  split at hl
  · rename_i el i off len hu
    cases hl
    cases hx with
    | slc _ _ _ _ cap l _ _ _ => exact ⟨Plain.of (v := .int .i64 len) (by simp [Builtin.len_, run_underlying hu, goInt]) (.int _ _ _), rfl⟩
    | slc0 => exact ⟨Plain.of (v := .int .i64 0) (by simp [Builtin.len_, run_underlying hu, goInt]) (.int _ _ _), rfl⟩
  · rename_i el cells len hu
    cases hl
    cases hx with
    | snap _ _ _ b o cap cs vs _ _ _ _ => exact ⟨Plain.of (v := .int .i64 len) (by simp [Builtin.len_, run_underlying hu, goInt]) (.int _ _ _), rfl⟩
    | snape _ _ a cap => exact ⟨Plain.of (v := .int .i64 0) (by simp [Builtin.len_, run_underlying hu, goInt]) (.int _ _ _), rfl⟩
  · rename_i el hu
    cases hl
    cases hx
    exact ⟨Plain.of (v := .int .i64 0) (by simp [Builtin.len_, run_underlying hu, goInt]) (.int _ _ _), rfl⟩
  · rename_i s hu
    cases hl
    cases hx
    exact ⟨Plain.of (v := .int .i64 s.size) (by simp [Builtin.len_, run_underlying hu, goInt]) (.int _ _ _), rfl⟩
  · cases hl

theorem arr2 {α : Type} {A : Array α} {x y : α} (h : A.toList = [x, y]) : A = #[x, y] := by
  apply Array.ext'; simpa using h
theorem arr1 {α : Type} {A : Array α} {x : α} (h : A.toList = [x]) : A = #[x] := by
  apply Array.ext'; simpa using h

theorem evOp_sound (hO : OrcOK C.P C.orc) {env : AEnv} {a : Act} {o : Oper} {e : Eff} (H : HRep C.P base φ im h w) (hbase : base ≤ w.heap.size)
    (hρ : ∀ t x, env t = some x → V im φ x (a.tmps.getD t undef)) (hfresh : ∀ i, n ≤ i → i < n + 64 → φ i = none) (hfreshh : ∀ i, n ≤ i → i < n + 64 → h i = none)
    (hev : evOp C env h n o = some e) (hok : e.ok = true) {K : Act → World → Prop} {Q : Exit → Act → World → Prop}
    (hK : ∀ r w' φ' im', DidX C.P base φ im h w n (n + 64) e r w' φ' im' → K (a.put o.dst r) w') : o.wp C.P a w K Q := by
  have hn : φ n = none := hfresh n (by omega) (by omega)
  have plain : ∀ {s : Sem Value}, execOp a.eval o = (do pure (.value (← s))) → Plain C.P φ im w s e.val ∧ e.wr = [] → o.wp C.P a w K Q := by
    intro s hs ⟨hp, hw⟩
    obtain ⟨r, w', h1, h2⟩ := hp.did (lo := n) (hi := n + 64) H hw
    unfold Oper.wp
    rw [hs, Sem.run_bind, h1]
    exact hK r w' φ im h2.x
  have pure' : ∀ {v : Value}, execOp a.eval o = pure (.value v) → V im φ e.val v → e.wr = [] → o.wp C.P a w K Q := by
    intro v hs hv hw
    obtain ⟨r, w', h1, h2⟩ := (Plain.pure (P := C.P) (w := w) hv).did (lo := n) (hi := n + 64) H hw
    cases h1
    unfold Oper.wp
    rw [hs]
    exact hK v w φ im h2.x
  have mem : ∀ {s : Sem Value}, execOp a.eval o = (do pure (.value (← s))) → (∃ r w' φ', s.run C.P w = .ok r w' ∧ Did C.P base φ im h w n (n + 64) e r w' φ') → o.wp C.P a w K Q := by
    intro s hs ⟨r, w', φ', h1, h2⟩
    unfold Oper.wp
    rw [hs, Sem.run_bind, h1]
    exact hK r w' φ' im h2.x
  have bp : ∀ {x : Option AV} {v : Value}, x.bind pur = some e → (∀ y, x = some y → V im φ y v) → V im φ e.val v ∧ e.wr = [] := by
    intro x v hx hv
    cases x with
    | none => cases hx
    | some y => cases hx; exact ⟨hv y rfl, rfl⟩
  unfold evOp at hev
  cases hop : o.op <;> rw [hop] at hev <;> first | (cases hev; done) | (dsimp only at hev) | skip
  case move x =>
    obtain ⟨h1, h2⟩ := bp hev fun y hy => opd_V hρ hy
    exact pure' (by unfold execOp; rw [hop]) h1 h2
  case assign x =>
    obtain ⟨h1, h2⟩ := bp hev fun y hy => opd_V hρ hy
    exact pure' (by unfold execOp; rw [hop]) h1 h2
  case pick c x y =>
    split at hev
    · rename_i d hd
      have hc := opd_V hρ hd
      generalize hcv : a.eval c = cv at hc
      cases hc
      cases d with
      | true =>
        obtain ⟨h1, h2⟩ := bp hev fun y hy => opd_V hρ hy
        refine plain (s := pure (a.eval x)) (by unfold execOp; rw [hop]; simp [hcv, asBool]) ⟨Plain.pure h1, h2⟩
      | false =>
        obtain ⟨h1, h2⟩ := bp hev fun y hy => opd_V hρ hy
        refine plain (s := pure (a.eval y)) (by unfold execOp; rw [hop]; simp [hcv, asBool]) ⟨Plain.pure h1, h2⟩
    · cases hev
  case alloc t => exact mem (by unfold execOp; rw [hop]) (allocV_sound H hbase hn (by omega) (by omega) hev)
  case box t x =>
    split at hev
    · rename_i v hv
      exact mem (by unfold execOp; rw [hop]) (boxV_sound H hbase hn (by omega) (by omega) (opd_V hρ hv) hev)
    · cases hev
  case build t ps =>
    split at hev
    · rename_i vs hv
      have hp := partsV_V hρ hv
      exact plain (by unfold execOp; rw [hop]) (buildV_sound hev (qs := ps.map fun (i, x) => (i, a.eval x)) (by simpa using hp))
    · cases hev
  case buildSlice t len ps =>
    split at hev
    · rename_i vs hv
      have hp := partsV_V hρ hv
      exact mem (by unfold execOp; rw [hop]) (buildSliceV_sound H hbase hn (by omega) (by omega) (qs := ps.map fun (i, x) => (i, a.eval x)) (by simpa using hp) hev)
    · cases hev
  case load t x =>
    split at hev
    · rename_i v hv
      exact plain (by unfold execOp; rw [hop]) (loadOp_sound H hev hok (opd_V hρ hv))
    · cases hev
  case store t x y =>
    split at hev
    · rename_i va vx hv1 hv2
      obtain ⟨w', h1, h2⟩ := storeOp_sound (lo := n) (hi := n + 64) H hev hok (opd_V hρ hv1) (opd_V hρ hv2)
      unfold Oper.wp
      have : execOp a.eval o = (do Instr.storeAt t (a.eval x) (a.eval y); pure .skip) := by unfold execOp; rw [hop]
      rw [this, Sem.run_bind, h1]
      exact hK undef w' φ im h2.x
    · cases hev
  case binOp op t x y ty =>
    split at hev
    · rename_i vx vy hv1 hv2
      exact plain (by unfold execOp; rw [hop]) (binV_sound hev hok (opd_V hρ hv1) (opd_V hρ hv2) x y)
    · cases hev
  case unOp op t x =>
    split at hev
    · rename_i vx hv
      exact plain (by unfold execOp; rw [hop]) (unV_sound hev (opd_V hρ hv))
    · cases hev
  case convert s d x =>
    split at hev
    · rename_i vx hv
      exact plain (by unfold execOp; rw [hop]) (convV_sound hev hok (opd_V hρ hv))
    · cases hev
  case makeFunc fn first cap =>
    cases fn <;> first | (cases hev; done) | (dsimp only at hev) | skip
    case func f =>
      split at hev
      · rename_i va vc hv1 hv2
        cases hev
        have g1 := opds_V hρ hv1
        have g2 := opds_V hρ hv2
        refine plain (s := pure (.func (.func f) (first.map a.eval) (cap.map a.eval))) (by unfold execOp; rw [hop]; rfl) ⟨Plain.pure (.fn _ _ _ _ _ _ (by simpa using g1) (by simpa using g2)), rfl⟩
      · cases hev
  case makeSlice t l c =>
    split at hev
    · rename_i vl vc hv1 hv2
      exact mem (by unfold execOp; rw [hop]) (makeV_sound H hbase hn (by omega) (by omega) (opd_V hρ hv1) (opd_V hρ hv2) hev hok)
    · cases hev
  case slice t x lo' hi' mx =>
    split at hev
    · rename_i vx l hh m hv1 hv2 hv3 hv4
      exact plain (by unfold execOp; rw [hop]) (sliceV_sound hev hok (opd_V hρ hv1) (optOpd_V hρ hv2) (optOpd_V hρ hv3) (optOpd_V hρ hv4))
    · cases hev
  case fieldAddr s x f =>
    split at hev
    · rename_i vx hv
      exact plain (by unfold execOp; rw [hop]) (fieldAddrV_sound hev (opd_V hρ hv))
    · cases hev
  case field s x f =>
    split at hev
    · rename_i vx hv
      exact plain (by unfold execOp; rw [hop]) (fieldV_sound hev hok (opd_V hρ hv))
    · cases hev
  case indexAddr t x i =>
    split at hev
    · rename_i vx vi hv1 hv2
      exact plain (by unfold execOp; rw [hop]) (indexAddrV_sound hev hok (opd_V hρ hv1) (opd_V hρ hv2))
    · cases hev
  case index t x i =>
    split at hev
    · rename_i vx vi hv1 hv2
      exact plain (by unfold execOp; rw [hop]) (indexV_sound hev hok (opd_V hρ hv1) (opd_V hρ hv2))
    · cases hev
  case extract t ix =>
    split at hev
    · rename_i vs hv
      have ht := opd_V hρ hv
      generalize htv : a.eval t = tv at ht
      cases ht with
      | tup _ _ cs' hvs =>
        cases hx : vs[ix]? with
        | none => rw [hx] at hev; cases hev
        | some x =>
          rw [hx] at hev
          cases hev
          obtain ⟨u, hu1, hu2⟩ := hvs.get ix x hx
          have hu1' : cs'[ix]? = some u := by simpa using hu1
          refine plain (s := Instr.extract (.tuple cs') ix) (by unfold execOp; rw [hop]; simp [htv]) ⟨Plain.of (v := u) (by simp [Instr.extract, hu1']) hu2, rfl⟩
    · cases hev
  case call c =>
    cases hcal : c.callee <;> rw [hcal] at hev <;> first | (cases hev; done) | (dsimp only at hev) | skip
    case value f =>
      split at hev
      · rename_i vf vs hv1 hv2
        unfold callV at hev
        split at hev
        · rename_i g first cap
          split at hev
          · rename_i xs rd ok hcv
            split at hev
            · rename_i r hr
              cases hl : Nat.ble r.blks.length 64 with
              | false => rw [hl] at hev; cases hev
              | true =>
                rw [hl] at hev
                cases hev
                simp only [Bool.and_eq_true] at hok
                have hcon := hO g xs n r hr hok.2
                have hf := opd_V hρ hv1
                have hargs := opds_V hρ hv2
                generalize hfv : a.eval f = fv at hf
                cases hf with
                | fn _ _ _ _ a' c' ha hc =>
                  have hall : VL im φ (first ++ vs ++ cap) (a' ++ c.args.map a.eval ++ c').toList := by
                    simp only [Array.toList_append, Array.toList_map]
                    exact (ha.append hargs).append hc
                  have hcall := hcon (imOf w) w _ (fun b cs hb => imOf_is hb) ((conv_sound H (C.deep g) 64).2 _ _ _ _ _ hcv hok.1 hall)
                  obtain ⟨nx, w1, hrun, hpost⟩ := hcall
                  have hex : execOp a.eval o = callFunc g (a' ++ c.args.map a.eval ++ c') := by
                    unfold execOp
                    rw [hop]
                    simp [resolve, hcal, hfv, Deferred.ofValue, invoke]
                  have hk : ∀ v w', Leaves C.P w n r.val r.blks v w' → K (a.put o.dst v) w' := by
                    intro v w' hlv
                    obtain ⟨φ', im', hd⟩ := call_did H hbase hfresh hfreshh (by rw [Nat.ble_eq] at hl; exact hl) hlv rd (ok && r.ok)
                    exact hK v w' φ' im' hd
                  unfold Oper.wp
                  rw [hex, hrun]
                  rcases hpost with ⟨v, rfl, hv⟩ | ⟨g', as, rfl, hv⟩
                  · exact hk v w1 hv
                  · exact hv.mono fun e' w' ⟨v, he, hv⟩ => by subst he; exact hk v w' hv
            · cases hev
          · cases hev
        · cases hev
      · cases hev
    case builtin b =>
      cases b <;> first | (cases hev; done) | (dsimp only at hev) | skip
      case len =>
        split at hev
        · rename_i x t hv ht
          have hx := opds_V hρ hv
          have ht' := arr1 ht
          generalize hvs : c.args.toList.map a.eval = ws at hx
          cases hx with
          | cons _ _ v _ vs' h1 h2 =>
            cases h2
            have hargs : c.args.map a.eval = #[v] := arr1 (by rw [Array.toList_map]; exact hvs)
            exact plain (s := Builtin.len_ #[t] o.type #[v]) (by unfold execOp; rw [hop]; simp [resolve, hcal, invoke, builtin, hargs, ht']) (lenV_sound hev h1)
        · cases hev
      case append =>
        split at hev
        · rename_i s x t t' hv ht
          cases htt : Nat.beq t t' with
          | false => rw [htt] at hev; cases hev
          | true =>
            rw [htt] at hev
            have e1 : t = t' := Nat.eq_of_beq_eq_true htt
            subst e1
            have hx := opds_V hρ hv
            have ht' := arr2 ht
            generalize hvs : c.args.toList.map a.eval = ws at hx
            cases hx with
            | cons _ _ v _ vs' h1 h2 =>
              cases h2 with
              | cons _ _ u _ us' h3 h4 =>
                cases h4
                have hargs : c.args.map a.eval = #[v, u] := arr2 (by rw [Array.toList_map]; exact hvs)
                exact mem (s := Builtin.append_ #[t, t] o.type #[v, u]) (by unfold execOp; rw [hop]; simp [resolve, hcal, invoke, builtin, hargs, ht']) (appendV_sound H hbase hn (by omega) (by omega) h1 h3 hev hok)
        · cases hev
      case min =>
        split at hev
        · rename_i k x k' y hv
          cases hev
          have hx := opds_V hρ hv
          generalize hvs : c.args.toList.map a.eval = ws at hx
          cases hx with
          | cons _ _ v _ vs' h1 h2 =>
            cases h2 with
            | cons _ _ u _ us' h3 h4 =>
              cases h4
              cases h1
              cases h3
              have hargs : c.args.map a.eval = #[.int k x, .int k' y] := arr2 (by rw [Array.toList_map]; exact hvs)
              exact plain (s := pure (.int k (if y < x then y else x))) (by unfold execOp; rw [hop]; simp [resolve, hcal, invoke, builtin, hargs, Builtin.min_, Builtin.min2]) ⟨Plain.pure (.int _ _ _), rfl⟩
        · cases hev
      case max =>
        split at hev
        · rename_i k x k' y hv
          cases hev
          have hx := opds_V hρ hv
          generalize hvs : c.args.toList.map a.eval = ws at hx
          cases hx with
          | cons _ _ v _ vs' h1 h2 =>
            cases h2 with
            | cons _ _ u _ us' h3 h4 =>
              cases h4
              cases h1
              cases h3
              have hargs : c.args.map a.eval = #[.int k x, .int k' y] := arr2 (by rw [Array.toList_map]; exact hvs)
              exact plain (s := pure (.int k (if y > x then y else x))) (by unfold execOp; rw [hop]; simp [resolve, hcal, invoke, builtin, hargs, Builtin.max_, Builtin.max2]) ⟨Plain.pure (.int _ _ _), rfl⟩
        · cases hev

end
end Go.Eng
