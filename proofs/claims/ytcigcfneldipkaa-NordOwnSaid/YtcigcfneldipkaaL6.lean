/- Leaves, part 6: from the least to the greatest of four; products. No condition. Written by wip/tools/gen6.py. -/
import Derived.Test.YtcigcfneldipkaaL5
namespace Go.Eng
open Go Go.RowKit

def lesser (x lo : Nat) : Nat := bif flt x lo then x else lo
def greater (x hi : Nat) : Nat := bif fgt x hi then x else hi
def spanNan (a b c d : Nat) : Bool := fne a a || (fne b b || (fne c c || fne d d))
def spLo (a b c d : Nat) : Nat := lesser d (lesser c (lesser b a))
def spHi (a b c d : Nat) : Nat := greater d (greater c (greater b a))
def spanLo (a b c d : Nat) : Nat := bif spanNan a b c d then ninfB else outLo (spLo a b c d) (spHi a b c d)
def spanHi (a b c d : Nat) : Nat := bif spanNan a b c d then infB else outHi (spLo a b c d) (spHi a b c d)

namespace Try
open Go.Proofs.Try

noncomputable abbrev C2 : Ctx := ctx prog es2 6

def spS (a b c d : Nat) (i : Int) (lo hi : Nat) (dec : List Bool) : St := mk [2,3,11,12] [.ptr 0 0, .ptr 1 0, .agg [.flt a, .flt b, .flt c, .flt d], .int .i64 i] [⟨[.flt 0, .flt 0], 26⟩, ⟨[.flt lo, .flt hi], 97⟩] dec
noncomputable def spBody : Code := cL (cL (cR (cL (cR (cR (codeOf prog 84))))))

theorem spIt0 (a b c d lo hi : Nat) (w0 : World) (h : fne a a = false) (dec dec' : List Bool) : Goes C2 w0 33 spBody (spS a b c d 0 lo hi dec) .normal (spS a b c d 1 (lesser a lo) (greater a hi) dec') := by
  unfold lesser greater
  cases h1 : flt a lo with
  | true =>
    cases h2 : fgt a hi with
    | true => exact goes_re (dec := [false,true,true]) (goes_view O2 mixed (qs := [16,21,27]) (fuel := 8) (ts := [2,3,11,12]) (v := ⟨.normal, [.ptr 0 0, .ptr 1 0, .agg [.flt a, .flt b, .flt c, .flt d], .int .i64 1], [⟨[.flt 0, .flt 0], 26⟩, ⟨[.flt a, .flt a], 97⟩], fgt a hi && (flt a lo && (!fne a a && true))⟩) (by kernel_rfl) (by simp [h, h1, h2]) dec')
    | false => exact goes_re (dec := [false,true,false]) (goes_view O2 mixed (qs := [16,21,27]) (fuel := 8) (ts := [2,3,11,12]) (v := ⟨.normal, [.ptr 0 0, .ptr 1 0, .agg [.flt a, .flt b, .flt c, .flt d], .int .i64 1], [⟨[.flt 0, .flt 0], 26⟩, ⟨[.flt a, .flt hi], 97⟩], !fgt a hi && (flt a lo && (!fne a a && true))⟩) (by kernel_rfl) (by simp [h, h1, h2]) dec')
  | false =>
    cases h2 : fgt a hi with
    | true => exact goes_re (dec := [false,false,true]) (goes_view O2 mixed (qs := [16,21,27]) (fuel := 8) (ts := [2,3,11,12]) (v := ⟨.normal, [.ptr 0 0, .ptr 1 0, .agg [.flt a, .flt b, .flt c, .flt d], .int .i64 1], [⟨[.flt 0, .flt 0], 26⟩, ⟨[.flt lo, .flt a], 97⟩], fgt a hi && (!flt a lo && (!fne a a && true))⟩) (by kernel_rfl) (by simp [h, h1, h2]) dec')
    | false => exact goes_re (dec := [false,false,false]) (goes_view O2 mixed (qs := [16,21,27]) (fuel := 8) (ts := [2,3,11,12]) (v := ⟨.normal, [.ptr 0 0, .ptr 1 0, .agg [.flt a, .flt b, .flt c, .flt d], .int .i64 1], [⟨[.flt 0, .flt 0], 26⟩, ⟨[.flt lo, .flt hi], 97⟩], !fgt a hi && (!flt a lo && (!fne a a && true))⟩) (by kernel_rfl) (by simp [h, h1, h2]) dec')
theorem spNan0 (a b c d lo hi : Nat) (w0 : World) (h : fne a a = true) (dec dec' : List Bool) : Goes C2 w0 33 spBody (spS a b c d 0 lo hi dec) .ret (mk [2] [.ptr 0 0] [⟨[.flt ninfB, .flt infB], 26⟩] dec') :=
  goes_re (dec := [true]) (goes_view O2 mixed (qs := [16,21,27]) (fuel := 8) (ts := [2]) (v := ⟨.ret, [.ptr 0 0], [⟨[.flt ninfB, .flt infB], 26⟩], fne a a && true⟩) (by kernel_rfl) (by simp [h]) dec')
theorem spIt1 (a b c d lo hi : Nat) (w0 : World) (h : fne b b = false) (dec dec' : List Bool) : Goes C2 w0 33 spBody (spS a b c d 1 lo hi dec) .normal (spS a b c d 2 (lesser b lo) (greater b hi) dec') := by
  unfold lesser greater
  cases h1 : flt b lo with
  | true =>
    cases h2 : fgt b hi with
    | true => exact goes_re (dec := [false,true,true]) (goes_view O2 mixed (qs := [16,21,27]) (fuel := 8) (ts := [2,3,11,12]) (v := ⟨.normal, [.ptr 0 0, .ptr 1 0, .agg [.flt a, .flt b, .flt c, .flt d], .int .i64 2], [⟨[.flt 0, .flt 0], 26⟩, ⟨[.flt b, .flt b], 97⟩], fgt b hi && (flt b lo && (!fne b b && true))⟩) (by kernel_rfl) (by simp [h, h1, h2]) dec')
    | false => exact goes_re (dec := [false,true,false]) (goes_view O2 mixed (qs := [16,21,27]) (fuel := 8) (ts := [2,3,11,12]) (v := ⟨.normal, [.ptr 0 0, .ptr 1 0, .agg [.flt a, .flt b, .flt c, .flt d], .int .i64 2], [⟨[.flt 0, .flt 0], 26⟩, ⟨[.flt b, .flt hi], 97⟩], !fgt b hi && (flt b lo && (!fne b b && true))⟩) (by kernel_rfl) (by simp [h, h1, h2]) dec')
  | false =>
    cases h2 : fgt b hi with
    | true => exact goes_re (dec := [false,false,true]) (goes_view O2 mixed (qs := [16,21,27]) (fuel := 8) (ts := [2,3,11,12]) (v := ⟨.normal, [.ptr 0 0, .ptr 1 0, .agg [.flt a, .flt b, .flt c, .flt d], .int .i64 2], [⟨[.flt 0, .flt 0], 26⟩, ⟨[.flt lo, .flt b], 97⟩], fgt b hi && (!flt b lo && (!fne b b && true))⟩) (by kernel_rfl) (by simp [h, h1, h2]) dec')
    | false => exact goes_re (dec := [false,false,false]) (goes_view O2 mixed (qs := [16,21,27]) (fuel := 8) (ts := [2,3,11,12]) (v := ⟨.normal, [.ptr 0 0, .ptr 1 0, .agg [.flt a, .flt b, .flt c, .flt d], .int .i64 2], [⟨[.flt 0, .flt 0], 26⟩, ⟨[.flt lo, .flt hi], 97⟩], !fgt b hi && (!flt b lo && (!fne b b && true))⟩) (by kernel_rfl) (by simp [h, h1, h2]) dec')
theorem spNan1 (a b c d lo hi : Nat) (w0 : World) (h : fne b b = true) (dec dec' : List Bool) : Goes C2 w0 33 spBody (spS a b c d 1 lo hi dec) .ret (mk [2] [.ptr 0 0] [⟨[.flt ninfB, .flt infB], 26⟩] dec') :=
  goes_re (dec := [true]) (goes_view O2 mixed (qs := [16,21,27]) (fuel := 8) (ts := [2]) (v := ⟨.ret, [.ptr 0 0], [⟨[.flt ninfB, .flt infB], 26⟩], fne b b && true⟩) (by kernel_rfl) (by simp [h]) dec')
theorem spIt2 (a b c d lo hi : Nat) (w0 : World) (h : fne c c = false) (dec dec' : List Bool) : Goes C2 w0 33 spBody (spS a b c d 2 lo hi dec) .normal (spS a b c d 3 (lesser c lo) (greater c hi) dec') := by
  unfold lesser greater
  cases h1 : flt c lo with
  | true =>
    cases h2 : fgt c hi with
    | true => exact goes_re (dec := [false,true,true]) (goes_view O2 mixed (qs := [16,21,27]) (fuel := 8) (ts := [2,3,11,12]) (v := ⟨.normal, [.ptr 0 0, .ptr 1 0, .agg [.flt a, .flt b, .flt c, .flt d], .int .i64 3], [⟨[.flt 0, .flt 0], 26⟩, ⟨[.flt c, .flt c], 97⟩], fgt c hi && (flt c lo && (!fne c c && true))⟩) (by kernel_rfl) (by simp [h, h1, h2]) dec')
    | false => exact goes_re (dec := [false,true,false]) (goes_view O2 mixed (qs := [16,21,27]) (fuel := 8) (ts := [2,3,11,12]) (v := ⟨.normal, [.ptr 0 0, .ptr 1 0, .agg [.flt a, .flt b, .flt c, .flt d], .int .i64 3], [⟨[.flt 0, .flt 0], 26⟩, ⟨[.flt c, .flt hi], 97⟩], !fgt c hi && (flt c lo && (!fne c c && true))⟩) (by kernel_rfl) (by simp [h, h1, h2]) dec')
  | false =>
    cases h2 : fgt c hi with
    | true => exact goes_re (dec := [false,false,true]) (goes_view O2 mixed (qs := [16,21,27]) (fuel := 8) (ts := [2,3,11,12]) (v := ⟨.normal, [.ptr 0 0, .ptr 1 0, .agg [.flt a, .flt b, .flt c, .flt d], .int .i64 3], [⟨[.flt 0, .flt 0], 26⟩, ⟨[.flt lo, .flt c], 97⟩], fgt c hi && (!flt c lo && (!fne c c && true))⟩) (by kernel_rfl) (by simp [h, h1, h2]) dec')
    | false => exact goes_re (dec := [false,false,false]) (goes_view O2 mixed (qs := [16,21,27]) (fuel := 8) (ts := [2,3,11,12]) (v := ⟨.normal, [.ptr 0 0, .ptr 1 0, .agg [.flt a, .flt b, .flt c, .flt d], .int .i64 3], [⟨[.flt 0, .flt 0], 26⟩, ⟨[.flt lo, .flt hi], 97⟩], !fgt c hi && (!flt c lo && (!fne c c && true))⟩) (by kernel_rfl) (by simp [h, h1, h2]) dec')
theorem spNan2 (a b c d lo hi : Nat) (w0 : World) (h : fne c c = true) (dec dec' : List Bool) : Goes C2 w0 33 spBody (spS a b c d 2 lo hi dec) .ret (mk [2] [.ptr 0 0] [⟨[.flt ninfB, .flt infB], 26⟩] dec') :=
  goes_re (dec := [true]) (goes_view O2 mixed (qs := [16,21,27]) (fuel := 8) (ts := [2]) (v := ⟨.ret, [.ptr 0 0], [⟨[.flt ninfB, .flt infB], 26⟩], fne c c && true⟩) (by kernel_rfl) (by simp [h]) dec')
theorem spIt3 (a b c d lo hi : Nat) (w0 : World) (h : fne d d = false) (dec dec' : List Bool) : Goes C2 w0 33 spBody (spS a b c d 3 lo hi dec) .normal (spS a b c d 4 (lesser d lo) (greater d hi) dec') := by
  unfold lesser greater
  cases h1 : flt d lo with
  | true =>
    cases h2 : fgt d hi with
    | true => exact goes_re (dec := [false,true,true]) (goes_view O2 mixed (qs := [16,21,27]) (fuel := 8) (ts := [2,3,11,12]) (v := ⟨.normal, [.ptr 0 0, .ptr 1 0, .agg [.flt a, .flt b, .flt c, .flt d], .int .i64 4], [⟨[.flt 0, .flt 0], 26⟩, ⟨[.flt d, .flt d], 97⟩], fgt d hi && (flt d lo && (!fne d d && true))⟩) (by kernel_rfl) (by simp [h, h1, h2]) dec')
    | false => exact goes_re (dec := [false,true,false]) (goes_view O2 mixed (qs := [16,21,27]) (fuel := 8) (ts := [2,3,11,12]) (v := ⟨.normal, [.ptr 0 0, .ptr 1 0, .agg [.flt a, .flt b, .flt c, .flt d], .int .i64 4], [⟨[.flt 0, .flt 0], 26⟩, ⟨[.flt d, .flt hi], 97⟩], !fgt d hi && (flt d lo && (!fne d d && true))⟩) (by kernel_rfl) (by simp [h, h1, h2]) dec')
  | false =>
    cases h2 : fgt d hi with
    | true => exact goes_re (dec := [false,false,true]) (goes_view O2 mixed (qs := [16,21,27]) (fuel := 8) (ts := [2,3,11,12]) (v := ⟨.normal, [.ptr 0 0, .ptr 1 0, .agg [.flt a, .flt b, .flt c, .flt d], .int .i64 4], [⟨[.flt 0, .flt 0], 26⟩, ⟨[.flt lo, .flt d], 97⟩], fgt d hi && (!flt d lo && (!fne d d && true))⟩) (by kernel_rfl) (by simp [h, h1, h2]) dec')
    | false => exact goes_re (dec := [false,false,false]) (goes_view O2 mixed (qs := [16,21,27]) (fuel := 8) (ts := [2,3,11,12]) (v := ⟨.normal, [.ptr 0 0, .ptr 1 0, .agg [.flt a, .flt b, .flt c, .flt d], .int .i64 4], [⟨[.flt 0, .flt 0], 26⟩, ⟨[.flt lo, .flt hi], 97⟩], !fgt d hi && (!flt d lo && (!fne d d && true))⟩) (by kernel_rfl) (by simp [h, h1, h2]) dec')
theorem spNan3 (a b c d lo hi : Nat) (w0 : World) (h : fne d d = true) (dec dec' : List Bool) : Goes C2 w0 33 spBody (spS a b c d 3 lo hi dec) .ret (mk [2] [.ptr 0 0] [⟨[.flt ninfB, .flt infB], 26⟩] dec') :=
  goes_re (dec := [true]) (goes_view O2 mixed (qs := [16,21,27]) (fuel := 8) (ts := [2]) (v := ⟨.ret, [.ptr 0 0], [⟨[.flt ninfB, .flt infB], 26⟩], fne d d && true⟩) (by kernel_rfl) (by simp [h]) dec')
theorem spOut (a b c d lo hi : Nat) (w0 : World) (dec dec' : List Bool) : Goes C2 w0 33 spBody (spS a b c d 4 lo hi dec) (.exit 0) (spS a b c d 4 lo hi dec') :=
  goes_re (dec := []) (goes_view O2 mixed (qs := [16,21,27]) (fuel := 8) (ts := [2,3,11,12]) (v := ⟨.exit 0, [.ptr 0 0, .ptr 1 0, .agg [.flt a, .flt b, .flt c, .flt d], .int .i64 4], [⟨[.flt 0, .flt 0], 26⟩, ⟨[.flt lo, .flt hi], 97⟩], true⟩) (by kernel_rfl) rfl dec')

theorem spPre (a b c d : Nat) (w0 : World) {e : Ex} {s2 : St} (h : Goes C2 w0 33 (cR (cR (codeOf prog 84))) (mk [1,2,3] [.ptr 0 0, .ptr 1 0, .ptr 2 0] [⟨[.flt a, .flt b, .flt c, .flt d], 100⟩, ⟨[.flt 0, .flt 0], 26⟩, ⟨[.flt a, .flt a], 97⟩] []) e s2) : Goes C2 w0 33 (codeOf prog 84) (St0 [.agg [.flt a, .flt b, .flt c, .flt d]] []) e s2 :=
  seq_view O2 mixed (qs := []) (fuel := 8) [1,2] (xs := [.ptr 0 0, .ptr 1 0]) (bs := [⟨[.flt a, .flt b, .flt c, .flt d], 100⟩, ⟨[.flt 0, .flt 0], 26⟩]) (ok := true) (dec := []) (by kernel_rfl) (by kernel_rfl) rfl
    (seq_view O2 mixed (qs := []) (fuel := 8) [1,2,3] (xs := [.ptr 0 0, .ptr 1 0, .ptr 2 0]) (bs := [⟨[.flt a, .flt b, .flt c, .flt d], 100⟩, ⟨[.flt 0, .flt 0], 26⟩, ⟨[.flt a, .flt a], 97⟩]) (ok := true) (dec := []) (by kernel_rfl) (by kernel_rfl) rfl h)

theorem spMid (a b c d : Nat) (w0 : World) {e : Ex} {s2 : St} (h : Goes C2 w0 33 (cR (cL (cR (cR (codeOf prog 84))))) (spS a b c d 0 a a []) e s2) : Goes C2 w0 33 (cL (cR (cR (codeOf prog 84)))) (mk [1,2,3] [.ptr 0 0, .ptr 1 0, .ptr 2 0] [⟨[.flt a, .flt b, .flt c, .flt d], 100⟩, ⟨[.flt 0, .flt 0], 26⟩, ⟨[.flt a, .flt a], 97⟩] []) e s2 :=
  seq_view O2 mixed (qs := []) (fuel := 8) [2,3,11,12] (xs := [.ptr 0 0, .ptr 1 0, .agg [.flt a, .flt b, .flt c, .flt d], .int .i64 0]) (bs := [⟨[.flt 0, .flt 0], 26⟩, ⟨[.flt a, .flt a], 97⟩]) (ok := true) (dec := []) (by kernel_rfl) (by kernel_rfl) rfl h

theorem lesser_self (a : Nat) : lesser a a = a := by unfold lesser; cases flt a a <;> rfl
theorem greater_self (a : Nat) : greater a a = a := by unfold greater; cases fgt a a <;> rfl

def spSt (a b c d : Nat) : Nat → St
  | 0 => spS a b c d 0 a a []
  | 1 => spS a b c d 1 a a []
  | 2 => spS a b c d 2 (lesser b a) (greater b a) []
  | 3 => spS a b c d 3 (lesser c (lesser b a)) (greater c (greater b a)) []
  | _ => spS a b c d 4 (spLo a b c d) (spHi a b c d) []

/-- A span that goes through. -/
theorem con_span (a b c d n : Nat) : Con prog 84 [.agg [.flt a, .flt b, .flt c, .flt d]] n (ivA (spanLo a b c d) (spanHi a b c d)) [] := by
  cases hn : spanNan a b c d with
  | false =>
    simp only [spanNan, Bool.or_eq_false_iff] at hn
    have hL : spanLo a b c d = outLo (spLo a b c d) (spHi a b c d) := by simp [spanLo, spanNan, hn]
    have hH : spanHi a b c d = outHi (spLo a b c d) (spHi a b c d) := by simp [spanHi, spanNan, hn]
    rw [hL, hH]
    refine @con_goesC prog es2 6 84 33 _ (by kernel_rfl) [] .ret (mk [2] [.ptr 0 0] [⟨[.flt (outLo (spLo a b c d) (spHi a b c d)), .flt (outHi (spLo a b c d) (spHi a b c d))], 26⟩] []) n ⟨ivA (outLo (spLo a b c d) (spHi a b c d)) (outHi (spLo a b c d) (spHi a b c d)), [], true⟩ (by kernel_rfl) rfl (.inl rfl) fun w0 => ?_
    refine spPre a b c d w0 (goes_seq (by kernel_rfl) (spMid a b c d w0 (goes_block (id := 0) (by kernel_rfl) (goes_loop (by kernel_rfl) (fun h => by cases h) 4 (spSt a b c d) (s2 := spS a b c d 4 (spLo a b c d) (spHi a b c d) []) ?_ ?_))) ?_)
    · intro i hi
      match i, hi with
      | 0, _ => have := spIt0 a b c d a a w0 hn.1 [] []; rw [lesser_self, greater_self] at this; exact this
      | 1, _ => exact spIt1 a b c d _ _ w0 hn.2.1 [] []
      | 2, _ => exact spIt2 a b c d _ _ w0 hn.2.2.1 [] []
      | 3, _ => exact spIt3 a b c d _ _ w0 hn.2.2.2 [] []
      | k + 4, h => omega
    · exact spOut a b c d _ _ w0 [] []
    · exact goes_view O2 mixed (qs := []) (fuel := 8) (ts := [2]) (v := ⟨.ret, [.ptr 0 0], [⟨[.flt (outLo (spLo a b c d) (spHi a b c d)), .flt (outHi (spLo a b c d) (spHi a b c d))], 26⟩], true⟩) (by kernel_rfl) rfl []
  | true =>
    have hL : spanLo a b c d = ninfB := by simp [spanLo, hn]
    have hH : spanHi a b c d = infB := by simp [spanHi, hn]
    rw [hL, hH]
    refine @con_goesC prog es2 6 84 33 _ (by kernel_rfl) [] .ret (mk [2] [.ptr 0 0] [⟨[.flt ninfB, .flt infB], 26⟩] []) n ⟨ivA ninfB infB, [], true⟩ (by kernel_rfl) rfl (.inl rfl) fun w0 => ?_
    refine spPre a b c d w0 (goes_seq_out (by kernel_rfl) (fun h => by cases h) (spMid a b c d w0 (goes_block_ret (id := 0) (by kernel_rfl) ?_)))
    cases h1 : fne a a with
    | true => exact goes_loop (by kernel_rfl) (fun h => by cases h) 0 (spSt a b c d) (fun i hi => by omega) (spNan0 a b c d _ _ w0 h1 [] [])
    | false =>
      have g0 : Goes C2 w0 33 spBody (spSt a b c d 0) .normal (spSt a b c d 1) := by
        have := spIt0 a b c d a a w0 h1 [] []; rw [lesser_self, greater_self] at this; exact this
      cases h2 : fne b b with
      | true => exact goes_loop (by kernel_rfl) (fun h => by cases h) 1 (spSt a b c d) (fun i hi => by
          match i, hi with
          | 0, _ => exact g0
          | k + 1, h => omega) (spNan1 a b c d _ _ w0 h2 [] [])
      | false =>
        have g1 : Goes C2 w0 33 spBody (spSt a b c d 1) .normal (spSt a b c d 2) := spIt1 a b c d _ _ w0 h2 [] []
        cases h3 : fne c c with
        | true => exact goes_loop (by kernel_rfl) (fun h => by cases h) 2 (spSt a b c d) (fun i hi => by
            match i, hi with
            | 0, _ => exact g0
            | 1, _ => exact g1
            | k + 2, h => omega) (spNan2 a b c d _ _ w0 h3 [] [])
        | false =>
          have g2 : Goes C2 w0 33 spBody (spSt a b c d 2) .normal (spSt a b c d 3) := spIt2 a b c d _ _ w0 h3 [] []
          have h4 : fne d d = true := by simpa [spanNan, h1, h2, h3] using hn
          exact goes_loop (by kernel_rfl) (fun h => by cases h) 3 (spSt a b c d) (fun i hi => by
            match i, hi with
            | 0, _ => exact g0
            | 1, _ => exact g1
            | 2, _ => exact g2
            | k + 3, h => omega) (spNan3 a b c d _ _ w0 h4 [] [])

def eSpan : Entry := ⟨84, fun xs _ => match xs with
  | [.agg [.flt a, .flt b, .flt c, .flt d]] => some ⟨ivA (spanLo a b c d) (spanHi a b c d), [], true⟩
  | _ => none⟩
theorem eSpan_ok : EntryOK prog eSpan := by
  intro xs n r h hok
  simp only [eSpan] at h
  split at h
  · cases h; exact con_span _ _ _ _ n
  · cases h

def mulLo (a b c d : Nat) : Nat := spanLo (fmul a c) (fmul a d) (fmul b c) (fmul b d)
def mulHi (a b c d : Nat) : Nat := spanHi (fmul a c) (fmul a d) (fmul b c) (fmul b d)

def es3 : List Entry := [eSpan, eMake, eNext, eBits, eFrom]
theorem es3_ok : ∀ e ∈ es3, EntryOK prog e := by
  intro e he
  simp only [es3, List.mem_cons, List.not_mem_nil, or_false] at he
  rcases he with rfl | rfl | rfl | rfl | rfl
  · exact eSpan_ok
  · exact eMake_ok
  · exact eNext_ok
  · exact eBits_ok
  · exact eFrom_ok
theorem O3 : OrcOK (ctx prog es3 6).P (ctx prog es3 6).orc := ctx_ok mixed es3_ok 6

theorem con_mul (a b c d n : Nat) : Con prog 22 [ivA a b, ivA c d] n (ivA (mulLo a b c d) (mulHi a b c d)) [] :=
  con_evF O3 mixed (qs := []) (dec := []) (r := ⟨ivA (mulLo a b c d) (mulHi a b c d), [], true⟩) (by kernel_rfl) rfl
theorem con_in (x a b n : Nat) : Con prog 23 [.flt x, ivA a b] n (.bool (fle a x && fle x b)) [] := by
  cases h : fle a x with
  | true => exact con_evF O3 mixed (qs := [9]) (dec := [true]) (r := ⟨.bool (fle x b), [], fle a x && true⟩) (by kernel_rfl) (by simp [h])
  | false => exact con_evF O3 mixed (qs := [9]) (dec := [false]) (r := ⟨.bool false, [], !fle a x && true⟩) (by kernel_rfl) (by simp [h])
end Try
end Go.Eng
