/-
  A LAW'S OWN FUNCTIONS, one level above the table.
-/
import Derived.Test.YtfppefhcmmfgcaaGreatGw
import Derived.Test.YtfppefhcmmfgcaaGreatGk5
import Derived.Test.YtfppefhcmmfgcaaGreatL8
set_option maxRecDepth 100000
namespace Viv
open Go (Value World IntKind Addr Program Act Exit Oper Operand Ending undef)
open Go.Proofs
/-- the table FW, and beside it functions of the law's own that call c0 -/
noncomputable def lawC (H : Tr FE) (c0 : CF) : CF := fun q l s k => match pget .no q H with
  | .no => callK FW 61 q l s k
  | .fn A => callF (.fn A) c0 l s k
  | .sp x => x l s k
theorem lawC_snd {H : Tr FE} {c0 : CF} (hH : ∀ f, FEok Tryz.prog (num f) (pget .no f H)) (h0 : CFSound Tryz.prog c0) : CFSound Tryz.prog (lawC H c0) := fun β s w f ls args hs ha => by
  have := hH f
  have heq : ∀ k, lawC H c0 f ls s k = match pget .no f H with
    | .no => callK FW 61 f ls s k
    | .fn A => callF (.fn A) c0 ls s k
    | .sp x => x ls s k := fun k => rfl
  generalize pget .no f H = fe at this heq
  cases this with
  | no => exact (FW_snd 61 β s w f ls args hs ha).congr heq
  | fn A fn np sl pls htr hfn hcall => exact (func_out h0 mixed htr hfn hcall hs ha).congr heq
  | sp x hx => exact (hx β s w ls args hs ha).congr heq
  | like A h => exact (h _ h0 β s w ls args hs ha).congr heq
theorem true_ofC {c : CF} (hc : CFSound Tryz.prog c) {f : Nat} {fn : Go.Func} {np : Nat} {sl : List Nat} {pls : List PlanD} {A : AFunc} (htr : trFunc Tryz.prog fn np sl pls = some A) (hfn : Tryz.prog.funcs[f]? = some fn) (hcall : ∀ args w, (Go.callFunc f args).run Tryz.prog w = .ok (.enter f args) w)
    {l : List V} {args : List Value} {w : World} (ha : VRels (fun _ => none) l args) {s' : St} (h : ∀ k, callF (.fn A) c l ⟨.mt, .h⟩ k = k .tt s') : True' f args.toArray w := by
  rcases func_out hc mixed htr hfn hcall (sim_none w) ha with ⟨why, hbad⟩ | ⟨v2, s2, hk2, hg⟩
  · exact (not_fail h hbad).elim
  · obtain ⟨rfl, rfl⟩ := uniq h hk2
    refine hg.mono fun x w' ⟨β', hx, hs', hp⟩ => ⟨?_, β', (Since.refl w).post hp⟩
    cases hx; rfl
end Viv
