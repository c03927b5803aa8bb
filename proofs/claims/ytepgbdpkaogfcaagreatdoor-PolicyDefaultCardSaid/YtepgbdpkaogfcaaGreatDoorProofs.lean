/-
  The law's function bolting/boltinglaw16.PolicyDefault returns true for every input, and its input reads behind the call as before. Conditions: those of the row (its seven listed package-level variables read as laid when the call begins).
-/
import Derived.Test.YtepgbdpkaogfcaaGreatDoorB4
import Derived.Test.YtepgbdpkaogfcaaGreatDoorRows
import Derived.WalkKit
import Derived.ProofKit
import Derived.OpenShut
import Derived.Lay
import Derived.LaidOnce
import Derived.Stop.Joined
set_option linter.unusedVariables false
namespace Go.Proofs.YtepgbdpkaogfcaaGreatDoor
open Go.ChangeShapes Go.WideShapes Go.ChangeAt Go.RowKit
theorem keptBut_of {W w' : World} {may : MemPlace → Prop} (h : Go.V.Keeps (fun _ => False) W w') : W.keptBut w' may := by
  refine ⟨h.os, h.output, fun i hi => ?_⟩
  rw [h.block i hi id]
  cases hh : W.heap[i]? with
  | none => rfl
  | some o => cases o <;> simp
namespace PolicyDefaultRow
theorem own : ownKnob Tryz.prog.godebug = none := by kernel_rfl

/-! ### The walk: the Go text returns true and turns nothing that it found. -/
set_option maxRecDepth 100000 in
theorem walk (a0 a1 : Int) (w : World) : Calls Tryz.prog 3 #[.int .i64 a0, .int .i64 a1] w fun e w' => e = .returned (.bool true) ∧ Go.V.Keeps (fun _ => False) w w' := by
  have hH : Go.V.HeapR Go.V.TT w [] (Go.V.bare fun _ => False) := Go.V.heapR_bare (fun _ h => h.elim) (by intro x hx; cases hx)
  have hr : Go.V.Ret Tryz.prog Go.V.TT 3 [.int .i64 a0, .int .i64 a1] (.bool true) := Go.V.s_policyDefault a0 a1
  have ha : Go.V.All2 (Go.V.FrzV Go.V.TT [] Go.V.Yes) [.int .i64 a0, .int .i64 a1] [.int .i64 a0, .int .i64 a1] := .cons (.of (.cell (.closed rfl))) (.cons (.of (.cell (.closed rfl))) .nil)
  have hi : ∀ n : Int, Go.V.RepV Go.V.TT w [] (Go.V.bare fun _ => False) (.int .i64 n) (.int .i64 n) := fun n => by simp only [Go.V.RepV, Go.V.RepA, Go.V.Rep1]; constructor
  have hv : Go.V.All2 (Go.V.RepV Go.V.TT w [] (Go.V.bare fun _ => False)) [.int .i64 a0, .int .i64 a1] [.int .i64 a0, .int .i64 a1] := .cons (hi a0) (.cons (hi a1) .nil)
  have hf : Go.V.Frees [] (Go.V.bare fun _ => False) Go.V.Yes (fun _ => False) := ⟨fun _ h => h.elim, fun _ h => h.elim⟩
  have h := Go.V.Ret.run (P := Tryz.prog) (T := Go.V.TT) (w := w) (H := []) (ρ := Go.V.bare fun _ => False) (f := 3) (D := Go.V.Yes) (F := fun _ => False) hr hH hf ha hv
  have hrun : (callFunc 3 #[.int .i64 a0, .int .i64 a1]).run Tryz.prog w = .ok (.enter 3 #[.int .i64 a0, .int .i64 a1]) w := by
    have e1 : Tryz.prog.funcs[3]? = some Tryz.f3 := Tryz.func3
    have e2 : (Tryz.f3.name == "runtime.NumGoroutine") = false := by kernel_rfl
    have e3 : Tryz.f3.body.isSome = true := by kernel_rfl
    obtain ⟨c, e3⟩ := Option.isSome_iff_exists.1 e3
    have hn' : ¬ Tryz.f3.name = "runtime.NumGoroutine" := by simpa using e2
    simp [callFunc, e1, hn', e3]
  unfold Go.V.ExecF at h
  rw [show ([Value.int .i64 a0, .int .i64 a1] : List Value).toArray = #[.int .i64 a0, .int .i64 a1] from rfl, hrun] at h
  simp only at h
  refine h.mono ?_
  rintro e w' ⟨v, rfl, h1, h2⟩
  exact ⟨by rw [Go.V.rep_bool h2], h1⟩

set_option maxRecDepth 100000 in
theorem lifted (os : Os) (started : os.Started) (H : Type) (enc : TypeId × Value → H) :
    ReturnsInHanded {} Tryz.checked os 3 .any (fun w args => (Rows.policyDefaultSpec.pre enc Tryz.prog Tryz.f3 [] false w args ∧ laidMetH Tryz.prog Rows.policyDefaultRow.laid w) ∧ sizedMet enc Tryz.prog Tryz.f3 (OpenSpec.ofChange Rows.policyDefaultSpec) false w args)
      (Rows.policyDefaultSpec.post enc Tryz.prog Tryz.f3 false true false false) := by
  refine returnsInHanded_of_change_and (C := Tryz.checked) (X := fun w _ => laidMetH Tryz.prog Rows.policyDefaultRow.laid w) (fun _ _ _ hh h => h.of_heap hh) own started (by kernel_rfl) Tryz.func3
    (ChangeSpec.witness_shaped (enc := enc) (C := Tryz.checked) (os := os) (X := fun w _ => laidMetH Tryz.prog Rows.policyDefaultRow.laid w) false (World.laidAll Tryz.prog os Rows.policyDefaultRow.laid) #[.int .i64 0, .int .i64 0] 8 (World.laidAll_os _ _ _)
      (World.shaped_of_ZipB (by kernel_rfl) (by kernel_rfl)) (by kernel_rfl) (by kernel_rfl) (by kernel_rfl)
      (by rw [MakeChecks.laidMetH_plain _ _ _ (by kernel_rfl)]; exact laidMet_laidAll _ (by kernel_rfl) (by kernel_rfl))) ?_
  intro W base args ds gs before hval0 hW _ _ hL _
  have hval : ∀ (j : Nat) t v, Tryz.f3.params[j]? = some t → args[j]? = some v → Value.okWide Tryz.prog W .any base t v := hval0
  have hW' := hW
  obtain ⟨p, q, hA0, hV, rfl, hfz, hnd⟩ := hW
  have hA : DataW.TrodAll enc Tryz.prog W 0 (fun _ => true) true Tryz.f3.params.toList args.toList ds p := hA0
  rw [Tryz.params3] at hA hval
  obtain ⟨v0, vs0, d0, ds0, p0, q0, hargs, rfl, rfl, h0, r0⟩ := trodAll_cons hA
  obtain ⟨v1, vs1, d1, ds1, p1, q1, rfl, rfl, rfl, h1, r1⟩ := trodAll_cons r0
  obtain ⟨rfl, rfl, rfl⟩ := trodAll_nil r1
  obtain rfl : args = #[v0, v1] := by cases args; simp_all
  obtain ⟨rfl, rfl⟩ := trodVars_none hV
  obtain ⟨a0, rfl, rfl, rfl, w0⟩ := open_int Tryz.underlying3 (hval 0 3 v0 rfl rfl) h0
  obtain ⟨a1, rfl, rfl, rfl, w1⟩ := open_int Tryz.underlying3 (hval 1 3 v1 rfl rfl) h1
  clear hA0 hval0
  simp only [List.append_nil] at hW'
  refine (walk a0 a1 W).mono fun e W' ⟨he, hg⟩ => ?_
  subst he
  exact ⟨_, rfl, _, _, _, [], [], [], hW', trodAll_mk1 (shut_bool Tryz.underlying4 _), trodAll_cons_mk (shut_int Tryz.underlying3 w0) (trodAll_cons_mk (shut_int Tryz.underlying3 w1) trodAll_mk0), rfl, keptBut_of hg, fun h => by cases h⟩

theorem proved : Rows.PolicyDefaultSaid :=
  OpenClaim.holds_of_wide 3 Tryz.f3 rfl rfl rfl rfl rfl rfl rfl ⟨rfl, rfl, rfl, rfl, rfl⟩ rfl rfl rfl rfl rfl (by kernel_rfl) Tryz.func3 (by kernel_rfl)
    (of_decide_eq_true (by kernel_rfl)) (by unfold Func.isWrapper; first | (rw [if_pos (by decide +kernel)]; kernel_rfl) | (rw [if_neg (by decide +kernel)]; exact ⟨rfl, rfl⟩))
    (fun os started H enc _ => lifted os started H enc)
#print axioms proved
end PolicyDefaultRow
end Go.Proofs.YtepgbdpkaogfcaaGreatDoor

