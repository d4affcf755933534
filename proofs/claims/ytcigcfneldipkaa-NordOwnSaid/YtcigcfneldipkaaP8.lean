/- NordOwn: of any rows the law answers true, and what it was handed reads as before. No condition. Written by wip/tools/genP8.py. -/
import Derived.Test.YtcigcfneldipkaaP5
import Derived.Test.YtcigcfneldipkaaP6
import Derived.Test.YtcigcfneldipkaaP7
import Derived.Test.YtcigcfneldipkaaRows
import Derived.WalkKit
import Derived.ProofKit
import Derived.OpenShut
import Derived.ShutString
import Derived.ChangeOld
import Derived.Below
namespace Go.Eng.Try
open Go Go.RowKit Go.Proofs.Try

theorem oPre1 (cells : List AV) (len : Nat) (r a b m : Int) (w0 : World) (hr : wi r 5 + 1 = m) {e : Ex} {s2 : St} (h : Goes (C9 1) w0 104 oRest (mk [1,2,3,8,9] [.int .i64 a, .snap cells len, .int .i64 b, .bool false, .int .i64 m] [] []) e s2) : Goes (C9 1) w0 104 oC (St0 [.int .i64 r, .int .i64 a, .snap cells len, .int .i64 b] []) e s2 := by
  rw [← wrapQ r m hr] at h
  exact seq_view (O9 1) mixed (qs := []) (fuel := 64) [0,1,2,3,8] (xs := [.int .i64 r, .int .i64 a, .snap cells len, .int .i64 b, .bool false]) (bs := []) (ok := true) (dec := []) (by kernel_rfl) (by kernel_rfl) rfl
    (seq_view (O9 1) mixed (qs := []) (fuel := 64) [0,1,2,3,8] (xs := [.int .i64 r, .int .i64 a, .snap cells len, .int .i64 b, .bool false]) (bs := []) (ok := true) (dec := []) (by kernel_rfl) (by kernel_rfl) rfl
      (seq_view (O9 1) mixed (qs := []) (fuel := 64) [1,2,3,8,9] (xs := [.int .i64 a, .snap cells len, .int .i64 b, .bool false, .int .i64 (IntKind.i64.wrap (1 + wi r 5))]) (bs := []) (ok := true) (dec := []) (by kernel_rfl) (by kernel_rfl) rfl h))
theorem con_nord1 (cells : List AV) (len : Nat) (r a b : Int) (n : Nat) (hm : okMk cells len a 1 = true) : Con prog 4 [.int .i64 r, .int .i64 a, .snap cells len, .int .i64 b] n (.bool true) [] := by
  refine @con_goesC prog (es9 1) 8 4 104 _ (by kernel_rfl) [] .ret (mk [8] [.bool true] [] []) n ⟨.bool true, [], true⟩ (by kernel_rfl) rfl (.inl rfl) fun w0 => ?_
  have h5 := wi_range r 5 (by omega) (by omega)
  have hc : wi r 5 + 1 = 1 ∨ wi r 5 + 1 = 2 ∨ wi r 5 + 1 = 3 ∨ wi r 5 + 1 = 4 ∨ wi r 5 + 1 = 5 := by omega
  rcases hc with h | h | h | h | h
  · exact oPre1 cells len r a b 1 w0 h (oCase11 cells len a b w0 hm)
  · exact oPre1 cells len r a b 2 w0 h (oCase12 cells len a b w0 hm)
  · exact oPre1 cells len r a b 3 w0 h (oCase13 cells len a b w0 hm)
  · exact oPre1 cells len r a b 4 w0 h (oCase14 cells len a b w0 hm)
  · exact oPre1 cells len r a b 5 w0 h (oCase15 cells len a b w0 hm)

theorem oPre2 (cells : List AV) (len : Nat) (r a b m : Int) (w0 : World) (hr : wi r 5 + 1 = m) {e : Ex} {s2 : St} (h : Goes (C9 2) w0 104 oRest (mk [1,2,3,8,9] [.int .i64 a, .snap cells len, .int .i64 b, .bool false, .int .i64 m] [] []) e s2) : Goes (C9 2) w0 104 oC (St0 [.int .i64 r, .int .i64 a, .snap cells len, .int .i64 b] []) e s2 := by
  rw [← wrapQ r m hr] at h
  exact seq_view (O9 2) mixed (qs := []) (fuel := 64) [0,1,2,3,8] (xs := [.int .i64 r, .int .i64 a, .snap cells len, .int .i64 b, .bool false]) (bs := []) (ok := true) (dec := []) (by kernel_rfl) (by kernel_rfl) rfl
    (seq_view (O9 2) mixed (qs := []) (fuel := 64) [0,1,2,3,8] (xs := [.int .i64 r, .int .i64 a, .snap cells len, .int .i64 b, .bool false]) (bs := []) (ok := true) (dec := []) (by kernel_rfl) (by kernel_rfl) rfl
      (seq_view (O9 2) mixed (qs := []) (fuel := 64) [1,2,3,8,9] (xs := [.int .i64 a, .snap cells len, .int .i64 b, .bool false, .int .i64 (IntKind.i64.wrap (1 + wi r 5))]) (bs := []) (ok := true) (dec := []) (by kernel_rfl) (by kernel_rfl) rfl h))
theorem con_nord2 (cells : List AV) (len : Nat) (r a b : Int) (n : Nat) (hm : okMk cells len a 2 = true) : Con prog 4 [.int .i64 r, .int .i64 a, .snap cells len, .int .i64 b] n (.bool true) [] := by
  refine @con_goesC prog (es9 2) 8 4 104 _ (by kernel_rfl) [] .ret (mk [8] [.bool true] [] []) n ⟨.bool true, [], true⟩ (by kernel_rfl) rfl (.inl rfl) fun w0 => ?_
  have h5 := wi_range r 5 (by omega) (by omega)
  have hc : wi r 5 + 1 = 1 ∨ wi r 5 + 1 = 2 ∨ wi r 5 + 1 = 3 ∨ wi r 5 + 1 = 4 ∨ wi r 5 + 1 = 5 := by omega
  rcases hc with h | h | h | h | h
  · exact oPre2 cells len r a b 1 w0 h (oCase21 cells len a b w0 hm)
  · exact oPre2 cells len r a b 2 w0 h (oCase22 cells len a b w0 hm)
  · exact oPre2 cells len r a b 3 w0 h (oCase23 cells len a b w0 hm)
  · exact oPre2 cells len r a b 4 w0 h (oCase24 cells len a b w0 hm)
  · exact oPre2 cells len r a b 5 w0 h (oCase25 cells len a b w0 hm)

theorem oPre3 (cells : List AV) (len : Nat) (r a b m : Int) (w0 : World) (hr : wi r 5 + 1 = m) {e : Ex} {s2 : St} (h : Goes (C9 3) w0 104 oRest (mk [1,2,3,8,9] [.int .i64 a, .snap cells len, .int .i64 b, .bool false, .int .i64 m] [] []) e s2) : Goes (C9 3) w0 104 oC (St0 [.int .i64 r, .int .i64 a, .snap cells len, .int .i64 b] []) e s2 := by
  rw [← wrapQ r m hr] at h
  exact seq_view (O9 3) mixed (qs := []) (fuel := 64) [0,1,2,3,8] (xs := [.int .i64 r, .int .i64 a, .snap cells len, .int .i64 b, .bool false]) (bs := []) (ok := true) (dec := []) (by kernel_rfl) (by kernel_rfl) rfl
    (seq_view (O9 3) mixed (qs := []) (fuel := 64) [0,1,2,3,8] (xs := [.int .i64 r, .int .i64 a, .snap cells len, .int .i64 b, .bool false]) (bs := []) (ok := true) (dec := []) (by kernel_rfl) (by kernel_rfl) rfl
      (seq_view (O9 3) mixed (qs := []) (fuel := 64) [1,2,3,8,9] (xs := [.int .i64 a, .snap cells len, .int .i64 b, .bool false, .int .i64 (IntKind.i64.wrap (1 + wi r 5))]) (bs := []) (ok := true) (dec := []) (by kernel_rfl) (by kernel_rfl) rfl h))
theorem con_nord3 (cells : List AV) (len : Nat) (r a b : Int) (n : Nat) (hm : okMk cells len a 3 = true) : Con prog 4 [.int .i64 r, .int .i64 a, .snap cells len, .int .i64 b] n (.bool true) [] := by
  refine @con_goesC prog (es9 3) 8 4 104 _ (by kernel_rfl) [] .ret (mk [8] [.bool true] [] []) n ⟨.bool true, [], true⟩ (by kernel_rfl) rfl (.inl rfl) fun w0 => ?_
  have h5 := wi_range r 5 (by omega) (by omega)
  have hc : wi r 5 + 1 = 1 ∨ wi r 5 + 1 = 2 ∨ wi r 5 + 1 = 3 ∨ wi r 5 + 1 = 4 ∨ wi r 5 + 1 = 5 := by omega
  rcases hc with h | h | h | h | h
  · exact oPre3 cells len r a b 1 w0 h (oCase31 cells len a b w0 hm)
  · exact oPre3 cells len r a b 2 w0 h (oCase32 cells len a b w0 hm)
  · exact oPre3 cells len r a b 3 w0 h (oCase33 cells len a b w0 hm)
  · exact oPre3 cells len r a b 4 w0 h (oCase34 cells len a b w0 hm)
  · exact oPre3 cells len r a b 5 w0 h (oCase35 cells len a b w0 hm)


theorem con_nordOwn (zs : List Int) (len : Nat) (hlen : len ≤ zs.length) (r a b : Int) (n : Nat) : Con prog 4 [.int .i64 r, .int .i64 a, .snap (zs.map (AV.int .i64)) len, .int .i64 b] n (.bool true) [] := by
  have h3 := wi_range a 3 (by omega) (by omega)
  have hall : ((zs.map (AV.int .i64)).all fun x => x.isInt .i64) = true := by
    rw [List.all_eq_true]
    intro x hx
    obtain ⟨z, _, rfl⟩ := List.mem_map.1 hx
    simp [AV.isInt]
  have hle : Nat.ble len (zs.map (AV.int .i64)).length = true := by rw [Nat.ble_eq]; simpa using hlen
  have hc : wi a 3 + 1 = 1 ∨ wi a 3 + 1 = 2 ∨ wi a 3 + 1 = 3 := by omega
  rcases hc with h | h | h
  · exact con_nord1 _ len r a b n (by unfold okMk; rw [hall, hle, h]; rfl)
  · exact con_nord2 _ len r a b n (by unfold okMk; rw [hall, hle, h]; rfl)
  · exact con_nord3 _ len r a b n (by unfold okMk; rw [hall, hle, h]; rfl)
end Go.Eng.Try

namespace Go.Proofs.Ytcigcfneldipkaa.nordOwnDone
open Go.ChangeShapes Go.WideShapes Go.ChangeAt Go.RowKit
set_option linter.unusedVariables false

theorem own : ownKnob Try.prog.godebug = none := by kernel_rfl
theorem laidOut : laidOutB Try.prog = true := by kernel_rfl

theorem walk (a0 a1 : Int) (a2 : Option Addr) (len2 cap2 : Nat) (z2 : List Int) (a3 : Int) (w : World) (w2 : Go.Eng.IsRow .i64 w a2 len2 cap2 z2) :
    Calls Try.prog 4 #[.int .i64 a0, .int .i64 a1, .slice a2 len2 cap2, .int .i64 a3] w fun e w' => e = .returned (.bool true) ∧ Below w.heap.size w w' := by
  have hlen : len2 ≤ z2.length := by
    rcases w2 with ⟨_, h1, _, h2⟩ | ⟨x, _, h1, _, h2, _⟩
    · subst h1; exact Nat.zero_le _
    · omega
  exact Go.Eng.walk_of_con (by kernel_rfl) (Go.Eng.Try.con_nordOwn z2 len2 hlen a0 a1 a3 0) (.cons _ _ _ _ _ (.int _ _ _) (.cons _ _ _ _ _ (.int _ _ _) (.cons _ _ _ _ _ (Go.Eng.V_ints w2) (.cons _ _ _ _ _ (.int _ _ _) (.nil _)))))

set_option maxRecDepth 100000 in
theorem lifted (os : Os) (started : os.Started) (H : Type) (enc : TypeId × Value → H) :
    ReturnsInHanded {} Try.checked os 4 .any (Rows.nordOwnSpec.pre6 enc Try.prog Try.f4 Rows.nordOwnRow.domain false) (Rows.nordOwnSpec.post enc Try.prog Try.f4 false true false false) := by
  refine returnsInHanded_of_change (C := Try.checked) own started (by kernel_rfl) Try.func4
    (ChangeSpec.witness6 (enc := enc) (C := Try.checked) false ⟨#[], #[.int .i64 0, .int .i64 0, .slice none 0 0, .int .i64 0], []⟩ 8 (by kernel_rfl) (by kernel_rfl) (by kernel_rfl) (by kernel_rfl)) ?_
  intro W base args ds gs before hval0 hW hcnd _
  have hval : ∀ (j : Nat) t v, Try.f4.params[j]? = some t → args[j]? = some v → Value.okWide Try.prog W .any base t v := hval0
  have hW' := hW
  obtain ⟨p, q, hA0, hV, rfl, hfz, hnd⟩ := hW
  have hA : DataW.TrodAll enc Try.prog W 0 (fun _ => true) true Try.f4.params.toList args.toList ds p := hA0
  rw [Try.params4] at hA hval
  obtain ⟨v0, vs0, d0, ds0, p0, q0, hargs, rfl, rfl, h0, r0⟩ := trodAll_cons hA
  obtain ⟨v1, vs1, d1, ds1, p1, q1, rfl, rfl, rfl, h1, r1⟩ := trodAll_cons r0
  obtain ⟨v2, vs2, d2, ds2, p2, q2, rfl, rfl, rfl, h2, r2⟩ := trodAll_cons r1
  obtain ⟨v3, vs3, d3, ds3, p3, q3, rfl, rfl, rfl, h3, r3⟩ := trodAll_cons r2
  obtain ⟨rfl, rfl, rfl⟩ := trodAll_nil r3
  obtain rfl : args = #[v0, v1, v2, v3] := by cases args; simp_all
  obtain ⟨rfl, rfl⟩ := trodVars_none hV
  obtain ⟨a0, rfl, rfl, rfl, w0⟩ := open_int Try.underlying3 (hval 0 3 v0 rfl rfl) h0
  obtain ⟨a1, rfl, rfl, rfl, w1⟩ := open_int Try.underlying3 (hval 1 3 v1 rfl rfl) h1
  obtain ⟨a2, len2, cap2, rfl⟩ := okWide_slice Try.underlying22 (hval 2 22 v2 rfl rfl)
  have k2 := h2
  have lt2 : ∀ x ∈ p2, x.block < W.heap.size := by obtain ⟨m, hm⟩ := k2; exact DataW.trod_lt m _ _ _ hm
  obtain ⟨z2, w2⟩ : ∃ zs, Go.Eng.IsRow .i64 W a2 len2 cap2 zs := by
    obtain ⟨fuel, hf⟩ := h2
    rcases open_ints Try.underlying22 Try.underlying3 (by kernel_rfl) hf with ⟨hcs, _⟩ | ⟨x, l, c, zs, hcs, _, hl, hm, hz, _, hcell, hwz⟩
    · simp [Value.cells] at hcs
      obtain ⟨rfl, rfl, rfl⟩ := hcs
      exact ⟨[], .inl ⟨rfl, rfl, rfl, rfl⟩⟩
    · simp [Value.cells] at hcs
      obtain ⟨rfl, rfl, rfl⟩ := hcs
      exact ⟨zs, .inr ⟨_, rfl, hl, hm, by simpa using hz, hcell, hwz⟩⟩
  obtain ⟨a3, rfl, rfl, rfl, w3⟩ := open_int Try.underlying3 (hval 3 3 v3 rfl rfl) h3
  clear hA0 hval0
  refine (walk a0 a1 a2 len2 cap2 z2 a3 W w2).mono fun e W' ⟨he, bel⟩ => ?_
  subst he
  exact ⟨_, rfl, _, _, _, [], _, [], hW', trodAll_mk1 (shut_bool Try.underlying4 _), (trodAll_cons_mk (shut_int Try.underlying3 w0) (trodAll_cons_mk (shut_int Try.underlying3 w1) (trodAll_cons_mk (Below.trod laidOut (by kernel_rfl) (of_decide_eq_true (by kernel_rfl)) k2 bel lt2) (trodAll_cons_mk (shut_int Try.underlying3 w3) trodAll_mk0)))), rfl, bel.frame _, fun h => by cases h⟩

theorem over : Rows.nordOwnRow.holds Try.pinned (OpenSpec.ofChange Rows.nordOwnSpec) :=
  OpenClaim.holds_of_wide 4 Try.f4 rfl rfl rfl rfl rfl rfl rfl ⟨rfl, rfl, rfl, rfl, rfl⟩ rfl rfl rfl rfl rfl (by kernel_rfl) Try.func4 (by kernel_rfl)
    (of_decide_eq_true (by kernel_rfl)) (by unfold Func.isWrapper; first | (rw [if_pos (by decide +kernel)]; kernel_rfl) | (rw [if_neg (by decide +kernel)]; exact ⟨rfl, rfl⟩))
    (fun os started H enc _ => lifted os started H enc)

theorem proved : Rows.NordOwnSaid := over
#print axioms proved
end Go.Proofs.Ytcigcfneldipkaa.nordOwnDone
