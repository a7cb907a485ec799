/-
  Proved: vivariumlaw16.FrameLimits returns true for every two whole numbers (as many frames as may be are pushed, and no more; what may not stand is refused), and leaves its input as it was.
  Conditions: none beyond the statement's own. (The frame is the guide's, printed by proof-skeleton.mjs and mkproof.py; the walk is 'limits_goes' of the text L4.)
-/
import Derived.Test.YtfppefhcmmfgcaaGreatRows
import Derived.WalkKit
import Derived.ProofKit
import Derived.OpenShut
import Derived.Below
import Derived.Carry
import Derived.Test.YtfppefhcmmfgcaaGreatL4
namespace Go.Proofs.YtfppefhcmmfgcaaGreat.frameLimits
open Go.ChangeShapes Go.WideShapes Go.ChangeAt Go.RowKit

theorem own : ownKnob Tryz.prog.godebug = none := by kernel_rfl

/-! ### STEP 1: THE WALK -/
set_option maxRecDepth 100000 in
theorem walk (a0 : Int) (a1 : Int) (w0 : (Lit.int .i64 a0).wf = true) (w1 : (Lit.int .i64 a1).wf = true) (w : World) :
    Calls Tryz.prog 4 #[.int .i64 a0, .int .i64 a1] w fun e w' => e = .returned (.bool true) ∧ Below w.heap.size w w' := by
  have b0 : -9223372036854775808 ≤ a0 ∧ a0 < 9223372036854775808 := by
    have h := w0
    simp [Lit.wf, IntKind.min, IntKind.max, IntKind.bits, IntKind.signed] at h
    omega
  have b1 : -9223372036854775808 ≤ a1 ∧ a1 < 9223372036854775808 := by
    have h := w1
    simp [Lit.wf, IntKind.min, IntKind.max, IntKind.bits, IntKind.signed] at h
    omega
  have h := Viv.limits_goes b0.1 b0.2 b1.1 b1.2 w
  unfold Viv.True' Viv.Goes at h
  rw [Tryz.call4] at h
  refine h.mono fun e w' ⟨v, he, hv, β, hs⟩ => ⟨by rw [he, hv], hs.os, hs.tape, hs.output, hs.size, hs.keep⟩

/-! ### THE ROW's STEP -/
set_option maxRecDepth 100000 in
theorem lifted (os : Os) (started : os.Started) (H : Type) (enc : TypeId × Value → H) :
    ReturnsInHanded {} Tryz.checked os 4 .any (Rows.frameLimitsSpec.pre6 enc Tryz.prog Tryz.f4 Rows.frameLimitsRow.domain false) (Rows.frameLimitsSpec.post enc Tryz.prog Tryz.f4 false true false false) := by
  refine returnsInHanded_of_change (C := Tryz.checked) own started (by kernel_rfl) Tryz.func4
    (ChangeSpec.witness6 (enc := enc) (C := Tryz.checked) false ⟨#[], #[.int .i64 0, .int .i64 0], []⟩ 8 (by kernel_rfl) (by kernel_rfl) (by kernel_rfl) (by kernel_rfl)) ?_
  intro W base args ds gs before hval0 hW hcnd _
  have hval : ∀ (j : Nat) t v, Tryz.f4.params[j]? = some t → args[j]? = some v → Value.okWide Tryz.prog W .any base t v := hval0
  have hW' := hW
  obtain ⟨p, q, hA0, hV, rfl, hfz, hnd⟩ := hW
  have hA : DataW.TrodAll enc Tryz.prog W 0 (fun _ => true) true Tryz.f4.params.toList args.toList ds p := hA0
  rw [Tryz.params4] at hA hval
  obtain ⟨v0, vs0, d0, ds0, p0, q0, hargs, rfl, rfl, h0, r0⟩ := trodAll_cons hA
  obtain ⟨v1, vs1, d1, ds1, p1, q1, rfl, rfl, rfl, h1, r1⟩ := trodAll_cons r0
  obtain ⟨rfl, rfl, rfl⟩ := trodAll_nil r1
  obtain rfl : args = #[v0, v1] := by cases args; simp_all
  obtain ⟨rfl, rfl⟩ := trodVars_none hV
  obtain ⟨a0, rfl, rfl, rfl, w0⟩ := open_int Tryz.underlying3 (hval 0 3 v0 rfl rfl) h0
  obtain ⟨a1, rfl, rfl, rfl, w1⟩ := open_int Tryz.underlying3 (hval 1 3 v1 rfl rfl) h1
  clear hA0 hval0
  simp only [List.append_nil] at hW'
  refine (walk a0 a1 w0 w1 W).mono fun e W' ⟨he, bel⟩ => ?_
  subst he
  exact ⟨_, rfl, _, _, _, [], _, [], hW', trodAll_mk1 (shut_bool Tryz.underlying4 _), (trodAll_cons_mk (shut_int Tryz.underlying3 w0) (trodAll_cons_mk (shut_int Tryz.underlying3 w1) trodAll_mk0)), rfl, bel.frame _, fun h => by cases h⟩

theorem and_t {a b : Bool} (ha : a = true) (hb : b = true) : (a && b) = true := by rw [ha, hb]; rfl
set_option maxRecDepth 100000 in
set_option maxHeartbeats 10000000 in
theorem closed : joinedFacts Tryz.prog 4 Tryz.f4 Rows.frameLimitsSpec Rows.frameLimitsRow = true := by
  unfold joinedFacts
  refine (and_t (and_t (and_t (and_t (and_t (and_t (and_t (and_t (and_t (and_t (and_t (and_t (and_t (and_t (and_t (and_t (and_t (and_t (and_t (and_t (and_t (and_t (and_t (and_t (and_t (and_t (and_t (and_t (and_t (and_t (and_t ?_ ?_) ?_) ?_) ?_) ?_) ?_) ?_) ?_) ?_) ?_) ?_) ?_) ?_) ?_) ?_) ?_) ?_) ?_) ?_) ?_) ?_) ?_) ?_) ?_) ?_) ?_) ?_) ?_) ?_) ?_) ?_)
  all_goals as_aux_lemma => kernel_rfl
set_option maxRecDepth 100000 in
theorem named : Tryz.pinned.checked.prog.funcNamed Rows.frameLimitsRow.func = some 4 := by kernel_rfl
set_option maxRecDepth 100000 in
theorem inst : Tryz.f4.isInstance Tryz.pinned.checked.prog Rows.frameLimitsRow.origin Rows.frameLimitsRow.targs := of_decide_eq_true (by kernel_rfl)
set_option maxRecDepth 100000 in
theorem wrap : Tryz.f4.isWrapper Tryz.pinned.checked.prog Rows.frameLimitsRow.wrapper Rows.frameLimitsRow.mainSum := by
  unfold Func.isWrapper
  first
  | (rw [if_pos (by decide +kernel)]; kernel_rfl)
  | (rw [if_neg (by decide +kernel)]; exact ⟨rfl, rfl⟩)
set_option maxRecDepth 100000 in
theorem over : Rows.frameLimitsRow.holds Tryz.pinned (OpenSpec.ofChange Rows.frameLimitsSpec) :=
  OpenClaim.holds_of_wide 4 Tryz.f4 rfl rfl rfl rfl rfl rfl rfl ⟨rfl, rfl, rfl, rfl, rfl⟩ rfl rfl rfl rfl rfl named Tryz.func4 closed
    inst wrap
    (fun os started H enc _ => lifted os started H enc)

/-- the statement -/
theorem proved : Rows.FrameLimitsSaid :=
  over
#print axioms proved
end Go.Proofs.YtfppefhcmmfgcaaGreat.frameLimits
