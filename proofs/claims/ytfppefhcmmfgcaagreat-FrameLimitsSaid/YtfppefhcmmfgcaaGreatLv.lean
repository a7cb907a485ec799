/-
  lives: THE DOCUMENT'S EXAMPLES OF LAYERS 12 AND 16: closed runs, evaluated by the kernel.
-/
import Derived.Test.YtfppefhcmmfgcaaGreatNwJ
set_option maxRecDepth 100000
namespace Viv
open Go (Value World IntKind Addr Program Act Exit Oper Operand Ending undef)
open Go.Proofs

/-- the table, with New as one step -/
noncomputable def FU : Tr FE := pset .no q20 (.sp sp_new0) FT
theorem FU_ok : ∀ f, FEok Tryz.prog (num f) (pget .no f FU) := FEok_pset (FT_ok ok341) (num_q (i := 20) rfl (.sp _ sp20))
theorem FU_snd (n : Nat) : CFSound Tryz.prog (callK FU n) := callK_sound mixed FU_ok n
noncomputable def kV : K := fun v s => .norm (.n .mt .mt v) s
noncomputable def isTT (r : RC) : Bool := match r with
  | .norm e _ => match pget .bad .h e with
    | .tt => true
    | _ => false
  | _ => false
theorem isTT_v {v : V} {s : St} (h : isTT (kV v s) = true) : v = .tt := by
  unfold kV isTT at h
  cases v <;> first | rfl | cases h
/-- a closed run that answers true -/
theorem closed_true {q : Pth} (h : isTT (callK FU 60 q [] ⟨.mt, .h⟩ kV) = true) (w : World) : Goes Tryz.prog (Go.callFunc (num q) #[]) w (fun x w' => x = .bool true ∧ ∃ β, Since w β w') := by
  rcases FU_snd 60 (fun _ => none) ⟨.mt, .h⟩ w q [] [] (sim_none w) .nil with ⟨why, hf⟩ | ⟨v, s', hk, hg⟩
  · rw [hf] at h; cases h
  · rw [hk] at h
    have hv := isTT_v h
    subst hv
    refine hg.mono fun x w' ⟨β', hx, hs', hp⟩ => ⟨?_, β', (Since.refl w).post hp⟩
    cases hx; rfl
theorem lives41_ev : isTT (callK FU 60 q41 [] ⟨.mt, .h⟩ kV) = true := by kernel_rfl
theorem lives36_ev : isTT (callK FU 60 q36 [] ⟨.mt, .h⟩ kV) = true := by kernel_rfl
end Viv
