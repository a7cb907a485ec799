/-
  compile.literal: A DRAWN CHOICE BETWEEN TWO WAYS TO PUT ONE ELEMENT BEHIND A SLICE. First the draw.
-/
import Derived.Test.YtfppefhcmmfgcaaGreatF3
import Derived.Test.YtfppefhcmmfgcaaGreatSw
set_option maxRecDepth 100000
namespace Viv
open Go (Value World IntKind Addr Program Act Exit Oper Operand Ending undef)
open Go.Proofs

section
variable {P : Program} {β β' : Beta} {s s1 s2 : St} {w w' : World}
/-- states that say no more -/
theorem Sim.less (h : Sim β s1 w) (hn : s2.next = s1.next) (hg : ∀ i, s2.get i = s1.get i ∨ s2.get i = .none) : Sim β s2 w := by
  refine ⟨fun id loc hb => by rw [hn]; exact h.fresh id loc hb, fun id loc hb => ?_, fun id id' loc loc' h1 h2 g1 g2 => ?_⟩
  · rcases hg id with e | e
    · rw [e]; exact h.obj id loc hb
    · rw [e]; cases loc <;> trivial
  · have live : ∀ i, s2.get i ≠ .none → s1.get i ≠ .none := fun i hi => by
      rcases hg i with e | e
      · rw [← e]; exact hi
      · exact absurd e hi
    exact h.disj id id' loc loc' h1 h2 (live _ g1) (live _ g2)
theorem Post.less (h : Post β s w β' s1 w') (hn : s2.next = s1.next) (hg : ∀ i, s2.get i = s1.get i ∨ (s2.get i = .none ∧ num s.next ≤ num i)) : Post β s w β' s2 w' := by
  refine ⟨h.le, h.size, by rw [hn]; exact h.next, h.keep, h.new, fun id a b => ?_, fun id a b => ?_, h.tape, h.os, h.output⟩
  · rcases hg id with e | ⟨e, _⟩
    · rw [e]; exact h.dead id a b
    · exact e
  · rcases hg id with e | ⟨_, e⟩
    · rw [e]; exact h.ghost id a b
    · omega
end

section
variable {P : Program} {ops : Array Oper} {Q : Exit → Act → World → Prop} {md : Go.Region.Mode} {listed : Array Bool} {fuel i j : Nat} {a : Act} {w : World}
theorem any_one (hr : Go.Region.ready md ops listed = [i]) (h : Go.wpOp P ops Q i (Go.wpAny P md ops Q fuel (listed.setIfInBounds i true)) a w) : Go.wpAny P md ops Q (fuel + 1) listed a w :=
  ⟨(fun e => by rw [hr] at e; cases e), (fun j hj => by rw [hr] at hj; cases List.mem_singleton.1 hj; exact h)⟩
theorem any_two (hr : Go.Region.ready md ops listed = [i, j]) (h : Go.wpOp P ops Q i (Go.wpAny P md ops Q fuel (listed.setIfInBounds i true)) a w) (h' : Go.wpOp P ops Q j (Go.wpAny P md ops Q fuel (listed.setIfInBounds j true)) a w) : Go.wpAny P md ops Q (fuel + 1) listed a w :=
  ⟨(fun e => by rw [hr] at e; cases e), (fun x hj => by
    rw [hr] at hj
    rcases List.mem_cons.1 hj with rfl | hj
    · exact h
    · cases List.mem_singleton.1 hj; exact h')⟩
theorem any_nil (hr : Go.Region.ready md ops listed = []) (h : Q .normal a w) : Go.wpAny P md ops Q 0 listed a w := ⟨hr, h⟩
end

/-! the code, in pieces -/
def csA : Go.Code → Go.Code
  | .seq a _ => a
  | .cond _ a _ => a
  | c => c
def csB : Go.Code → Go.Code
  | .seq _ b => b
  | .cond _ _ b => b
  | c => c
def csX : Go.Code → Operand
  | .cond x _ _ => x
  | _ => .func 0
def opsR : Go.Code → Array Oper
  | .region _ ops _ => ops
  | _ => #[]
def idR : Go.Code → Nat
  | .region i _ _ => i
  | _ => 0
noncomputable def c341 : Go.Code := match Tryz.f341.body with
  | some c => c
  | none => .skip
noncomputable def d0 : Go.Code := csA c341
noncomputable def d1 : Go.Code := csA (csB c341)
noncomputable def dM : Go.Code := csA (csB (csB c341))
noncomputable def d8 : Go.Code := csB (csB (csB c341))
noncomputable def d2 : Go.Code := csA dM
noncomputable def d3 : Go.Code := csA (csA (csB dM))
noncomputable def dL : Go.Code := csB (csA (csB dM))
noncomputable def d4 : Go.Code := csA dL
noncomputable def d56 : Go.Code := csA (csB dL)
noncomputable def d7 : Go.Code := csB (csB dL)
theorem c341_eq : Tryz.f341.body = some (.seq d0 (.seq d1 (.seq (.seq d2 (.cond (.tmp 14) (.seq d3 (.seq d4 (.cond (.tmp 22) d56 d7))) .skip)) d8))) := by kernel_rfl
noncomputable def ops4 : Array Oper := opsR d4
theorem d4_eq : d4 = .region (idR d4) ops4 true := by kernel_rfl
theorem ops4_size : ops4.size = 4 := by kernel_rfl
theorem rd0 : Go.Region.ready .any ops4 (Array.replicate 4 false) = [0] := by kernel_rfl
theorem rd1 : Go.Region.ready .any ops4 ((Array.replicate 4 false).setIfInBounds 0 true) = [1, 2] := by kernel_rfl
theorem rd2 : Go.Region.ready .any ops4 (((Array.replicate 4 false).setIfInBounds 0 true).setIfInBounds 1 true) = [2] := by kernel_rfl
theorem rd2' : Go.Region.ready .any ops4 (((Array.replicate 4 false).setIfInBounds 0 true).setIfInBounds 2 true) = [1] := by kernel_rfl
theorem rd3 : Go.Region.ready .any ops4 ((((Array.replicate 4 false).setIfInBounds 0 true).setIfInBounds 1 true).setIfInBounds 2 true) = [3] := by kernel_rfl
theorem rd3' : Go.Region.ready .any ops4 ((((Array.replicate 4 false).setIfInBounds 0 true).setIfInBounds 2 true).setIfInBounds 1 true) = [3] := by kernel_rfl
theorem rd4 : Go.Region.ready .any ops4 (((((Array.replicate 4 false).setIfInBounds 0 true).setIfInBounds 1 true).setIfInBounds 2 true).setIfInBounds 3 true) = [] := by kernel_rfl
theorem rd4' : Go.Region.ready .any ops4 (((((Array.replicate 4 false).setIfInBounds 0 true).setIfInBounds 2 true).setIfInBounds 1 true).setIfInBounds 3 true) = [] := by kernel_rfl
theorem ac0 (c : CF) (ρ : Rho) (s : St) (k : K) : (ops4[0]?).map (fun o => (o.dst, gA ops4 o ρ, act Tryz.prog o.op c (val ρ) s k)) = some (some 21, some true, k (.ptr s.next 0) (s.push (.row [.ff]))) := by kernel_rfl
theorem ac1 (c : CF) (ρ : Rho) (s : St) (k : K) : (ops4[1]?).map (fun o => (o.dst, gA ops4 o ρ, act Tryz.prog o.op c (val ρ) s k)) = some (none, some true, stK (ρ 21) 1 .tt s k) := by kernel_rfl
theorem ac2 (c : CF) (ρ : Rho) (s : St) (k : K) : (ops4[2]?).map (fun o => (o.dst, gA ops4 o ρ, act Tryz.prog o.op c (val ρ) s k)) = some (none, some true, stK (ρ 21) 1 .ff s k) := by kernel_rfl
theorem ac3 (c : CF) (ρ : Rho) (s : St) (k : K) : (ops4[3]?).map (fun o => (o.dst, gA ops4 o ρ, act Tryz.prog o.op c (val ρ) s k)) = some (some 22, some true, ldK (ρ 21) s (fun v => k v s)) := by kernel_rfl
/-- one step of the draw, from its equation -/
theorem step4 {c : CF} (hc : CFSound Tryz.prog c) {i : Nat} {β : Beta} {s s' : St} {w : World} {ρ : Rho} {n : Nat} {a : Act} {dst : Option Nat} {v : V} (h : ∀ k, (ops4[i]?).map (fun o => (o.dst, gA ops4 o ρ, act Tryz.prog o.op c (val ρ) s k)) = some (dst, some true, k v s')) (hd : ∀ d, dst = some d → d < n)
    (hs : Sim β s w) (ht : Tied β ρ n a) {K : Act → World → Prop} {Q : Exit → Act → World → Prop} (hK : ∀ β' a' w', Sim β' s' w' → Post β s w β' s' w' → Tied β' (putR ρ dst v) n a' → K a' w') : Go.wpOp Tryz.prog ops4 Q i K a w := by
  cases ho : ops4[i]? with
  | none => have := h (fun _ _ => fl); rw [ho] at this; cases this
  | some o =>
    have h1 : ∀ k, (o.dst, gA ops4 o ρ, act Tryz.prog o.op c (val ρ) s k) = (dst, some true, k v s') := fun k => by have := h k; rw [ho] at this; exact Option.some.inj this
    have hdst : o.dst = dst := (Prod.mk.inj (h1 (fun _ _ => fl))).1
    have hg : gA ops4 o ρ = some true := (Prod.mk.inj (Prod.mk.inj (h1 (fun _ _ => fl))).2).1
    have ha : ∀ k, act Tryz.prog o.op c (val ρ) s k = k v s' := fun k => (Prod.mk.inj (Prod.mk.inj (h1 k)).2).2
    subst hdst
    exact StepOk.wp hc ho ⟨.inl ⟨hg, ha⟩⟩ hs ht hd hK
theorem st_row {S : St} {id : Pth} {b v : V} (hg : S.get id = .row [b]) (hv : v = .tt ∨ v = .ff) (k : K) : stK (.ptr id 0) 1 v S k = k (.tup []) (S.set id (.row [v])) := by
  rcases hv with rfl | rfl
  · show (wrObj (S.get id) 0 [.tt] (fun o => k (.tup []) (S.set id o)) : RC) = _
    rw [hg]; rfl
  · show (wrObj (S.get id) 0 [.ff] (fun o => k (.tup []) (S.set id o)) : RC) = _
    rw [hg]; rfl
theorem putR_some (ρ : Rho) (d : Nat) (v : V) : putR ρ (some d) v d = v := by simp [putR]
/-- the draw: a bool in temporary 22, one more object -/
theorem coin_wp {c : CF} (hc : CFSound Tryz.prog c) {β : Beta} {s : St} {w : World} {ρ : Rho} {n : Nat} {a : Act} (hn : 22 < n) (hs : Sim β s w) (ht : Tied β ρ n a) {Q : Exit → Act → World → Prop}
    (hQ : ∀ (b : Bool) (S : St) (β' : Beta) (a' : Act) (w' : World), S.next = inc s.next → (∀ i, i ≠ s.next → S.get i = s.get i) → Sim β' S w' → Post β s w β' S w' → Tied β' (putR (putR ρ (some 21) (.ptr s.next 0)) (some 22) (B b)) n a' → Q .normal a' w') : d4.wp Tryz.prog Q a w := by
  rw [d4_eq]
  refine Go.wp_region_any mixed ?_
  rw [ops4_size]
  have hs0 : Sim β s { w with drawn := w.drawn + 1 } := hs.world rfl
  have hp0 : Post β s w β s { w with drawn := w.drawn + 1 } := Post.world (Post.refl β s w) rfl rfl rfl rfl
  refine any_one rd0 (step4 hc (fun k => ac0 c ρ s k) (fun d hd => by cases hd; omega) hs0 ht fun β1 a1 w1 hs1 hp1 ht1 => ?_)
  have hp1' : Post β s w β1 (s.push (.row [.ff])) w1 := hp0.trans hp1
  have g1 : (s.push (.row [.ff])).get s.next = .row [.ff] := by simp [St.get_push]
  have r21 : putR ρ (some 21) (.ptr s.next 0) 21 = .ptr s.next 0 := putR_some _ _ _
  have e1 : ∀ (b : V) (S : St), S.get s.next = .row [b] → ∀ k, (ops4[1]?).map (fun o => (o.dst, gA ops4 o (putR ρ (some 21) (.ptr s.next 0)), act Tryz.prog o.op c (val (putR ρ (some 21) (.ptr s.next 0))) S k)) = some (none, some true, k (.tup []) (S.set s.next (.row [.tt]))) := fun b S hg k => by
    rw [ac1, r21, st_row hg (.inl rfl)]
  have e2 : ∀ (b : V) (S : St), S.get s.next = .row [b] → ∀ k, (ops4[2]?).map (fun o => (o.dst, gA ops4 o (putR ρ (some 21) (.ptr s.next 0)), act Tryz.prog o.op c (val (putR ρ (some 21) (.ptr s.next 0))) S k)) = some (none, some true, k (.tup []) (S.set s.next (.row [.ff]))) := fun b S hg k => by
    rw [ac2, r21, st_row hg (.inr rfl)]
  have e3 : ∀ (b : Bool) (S : St), S.get s.next = .row [B b] → ∀ k, (ops4[3]?).map (fun o => (o.dst, gA ops4 o (putR ρ (some 21) (.ptr s.next 0)), act Tryz.prog o.op c (val (putR ρ (some 21) (.ptr s.next 0))) S k)) = some (some 22, some true, k (B b) S) := fun b S hg k => by
    rw [ac3, r21, ldK_ptr, hg]; cases b <;> rfl
  have nx : ∀ (S : St) (o : AObj), (∀ i, i ≠ s.next → S.get i = s.get i) → ∀ i, i ≠ s.next → (S.set s.next o).get i = s.get i := fun S o h i hi => by rw [St.get_set_ne _ _ hi, h i hi]
  have n1 : ∀ i, i ≠ s.next → (s.push (.row [.ff])).get i = s.get i := fun i hi => by rw [St.get_push, if_neg hi]
  refine any_two rd1 (step4 hc (e1 _ _ g1) (fun d hd => by cases hd) hs1 ht1 fun β2 a2 w2 hs2 hp2 ht2 => ?_) (step4 hc (e2 _ _ g1) (fun d hd => by cases hd) hs1 ht1 fun β2 a2 w2 hs2 hp2 ht2 => ?_)
  · refine any_one rd2 (step4 hc (e2 _ _ (St.get_set_same _ _ _)) (fun d hd => by cases hd) hs2 ht2 fun β3 a3 w3 hs3 hp3 ht3 => ?_)
    refine any_one rd3 (step4 hc (e3 false _ (St.get_set_same _ _ _)) (fun d hd => by cases hd; omega) hs3 ht3 fun β4 a4 w4 hs4 hp4 ht4 => ?_)
    exact any_nil rd4 (hQ false _ β4 a4 w4 rfl (nx _ _ (nx _ _ n1)) hs4 (((hp1'.trans hp2).trans hp3).trans hp4) ht4)
  · refine any_one rd2' (step4 hc (e1 _ _ (St.get_set_same _ _ _)) (fun d hd => by cases hd) hs2 ht2 fun β3 a3 w3 hs3 hp3 ht3 => ?_)
    refine any_one rd3' (step4 hc (e3 true _ (St.get_set_same _ _ _)) (fun d hd => by cases hd; omega) hs3 ht3 fun β4 a4 w4 hs4 hp4 ht4 => ?_)
    exact any_nil rd4' (hQ true _ β4 a4 w4 rfl (nx _ _ (nx _ _ n1)) hs4 (((hp1'.trans hp2).trans hp3).trans hp4) ht4)
end Viv

/-
  compile.literal: THE TWO WAYS, EVALUATED.
-/
set_option maxRecDepth 100000
namespace Viv
open Go (Value World IntKind Addr Program Act Exit Oper Operand Ending undef)
open Go.Proofs

section
variable {α : Type}
theorem nset_same (v u : α) : ∀ (k : Nat) (t : NT α) (i : Nat), nset v k (nset u k t i) i = nset v k t i
  | 0, t, i => rfl
  | k + 1, t, i => by
    simp only [nset_succ]
    by_cases h : 2 ^ k ≤ i
    · simp only [if_pos h]; show NT.n _ (nset v k (nset u k (nR t) (i - 2 ^ k)) (i - 2 ^ k)) = _; rw [nset_same]; rfl
    · simp only [if_neg h]; show NT.n (nset v k (nset u k (nL t) i) i) _ = _; rw [nset_same]; rfl
theorem nset_comm (v u : α) : ∀ (k : Nat) (t : NT α) (i j : Nat), i ≠ j → i < 2 ^ k → j < 2 ^ k → nset v k (nset u k t j) i = nset u k (nset v k t i) j
  | 0, t, i, j, hne, hi, hj => by simp at hi hj; omega
  | k + 1, t, i, j, hne, hi, hj => by
    have hp : 2 ^ (k + 1) = 2 ^ k + 2 ^ k := by rw [Nat.pow_succ]; omega
    simp only [nset_succ]
    by_cases h : 2 ^ k ≤ i <;> by_cases g : 2 ^ k ≤ j
    · simp only [if_pos h, if_pos g]; show NT.n _ (nset v k (nset u k (nR t) (j - 2 ^ k)) (i - 2 ^ k)) = NT.n _ (nset u k (nset v k (nR t) (i - 2 ^ k)) (j - 2 ^ k)); rw [nset_comm v u k _ _ _ (by omega) (by omega) (by omega)]; rfl
    · simp only [if_pos h, if_neg g]; rfl
    · simp only [if_neg h, if_pos g]; rfl
    · simp only [if_neg h, if_neg g]; show NT.n (nset v k (nset u k (nL t) j) i) _ = NT.n (nset u k (nset v k (nL t) i) j) _; rw [nset_comm v u k _ _ _ hne (by omega) (by omega)]; rfl
end
theorem setMany_over {d i : Nat} (h : i + 4 ≤ 2 ^ d) (a b c e z0 z1 z2 z3 : V) (t : NT V) : setMany d [a, b, c, e] i (setMany d [z0, z1, z2, z3] i t) = setMany d [a, b, c, e] i t := by
  simp only [setMany_cons, setMany_nil]
  rw [nset_comm a z3 _ _ i (i + 1 + 1 + 1) (by omega) (by omega) (by omega), nset_comm a z2 _ _ i (i + 1 + 1) (by omega) (by omega) (by omega), nset_comm a z1 _ _ i (i + 1) (by omega) (by omega) (by omega), nset_same a z0,
    nset_comm b z3 _ _ (i + 1) (i + 1 + 1 + 1) (by omega) (by omega) (by omega), nset_comm b z2 _ _ (i + 1) (i + 1 + 1) (by omega) (by omega) (by omega), nset_same b z1, nset_comm c z3 _ _ (i + 1 + 1) (i + 1 + 1 + 1) (by omega) (by omega) (by omega), nset_same c z2, nset_same e z3]

noncomputable def a56 : ACode := (.seq (.reg (.p (mv e0) (.p (w1 nilcK l0) (.p (fad 0 l0) (.p (fad 4 l0) (.p (ld l0) (.d (w1 lenLK l0) q5 (.p (bslice 1 [(.p 0), (.str 0 0), (.p 0), .nils] [(0, 4, (cn (.agg [(.p 0), (.str 0 0), (.p 0), .nils])))]) (.d (app 4 l2 l0) q4 (.p (w1 nilcK (lo 7)) (.p (fad 0 l0) (.p (fad 4 l0) (.p (sto 1 l0 l3) .nil))))))))))))) (.reg (.p (ldA 4 e1) (.p (iad 4 e4 e5) (.p (sto 4 l0 l1) .nil)))))
noncomputable def a7 : ACode := (.reg (.p (mv e0) (.p (mv e0) (.p (w1 nilcK l0) (.p (fad 0 l0) (.p (fad 4 l0) (.p (ld l0) (.p (ldA 4 e1) (.p (bslice 1 [(.p 0), (.str 0 0), (.p 0), .nils] [(0, 4, l0)]) (.p (reS (ld l3) 2) (.p (app 4 l3 l1) (.p (w1 nilcK (lo 9)) (.p (fad 0 l0) (.p (fad 4 l0) (.p (sto 1 l0 l3) .nil)))))))))))))))
theorem t56 : trCode Tryz.prog sl341 Tryz.f341.ntmps pl341 d56 = a56 := by kernel_rfl
theorem t7 : trCode Tryz.prog sl341 Tryz.f341.ntmps pl341 d7 = a7 := by kernel_rfl
def zL : L := [.p 0, .str 0 0, .p 0, .nils]
section
variable {c : CF} {S : St} {id id3 : Pth} {o o3 : Nat} {a b d e : V} {o' : AObj}
@[simp] theorem okK_nils (kv : KV) : okK .nils kv = kv .nils := rfl
theorem parts4 (t : L) (ee : Env) (x : Opd) (a b d e : V) (h : x t ee = .agg [a, b, d, e]) (kl : L → RC) : partsV [(0, 4, x)] t ee (repL 1 [.p 0, .str 0 0, .p 0, .nils]) kl = kl [a, b, d, e] := by
  show partsV [(0, 4, x)] t ee zL kl = _
  unfold partsV
  simp only [h]
  rfl
theorem appX_nils (l : L) (s : St) (k : K) : appX .nils 4 1 l s k = k (.slc s.next 0 1 false 1 4) (s.push (mkVec l)) := rfl
theorem stK_slc (i : Pth) (x y z v : Nat) (ex : Bool) (s : St) (k : K) : stK (.ptr id o) 1 (.slc i x y ex z v) s k = wrObj (s.get id) o [.slc i x y ex z v] (fun o' => k (.tup []) (s.set id o')) := rfl
theorem stK_agg4 (s : St) (k : K) : stK (.ptr id o) 4 (.agg [a, b, d, e]) s k = wrObj (s.get id) o [a, b, d, e] (fun o' => k (.tup []) (s.set id o')) := rfl
theorem ldAK_ptr4 {s : St} (h : rdMany (s.get id) o 4 = [a, b, d, e]) (kv : KV) : ldAK (.ptr id o) 4 s kv = kv (.agg [a, b, d, e]) := by
  show (Bool.rec fl (kv (.agg (rdMany (s.get id) o 4))) (Nat.beq (len (rdMany (s.get id) o 4)) 4) : RC) = _
  rw [h]; rfl
theorem mkVec4 (a b d e : V) : mkVec [a, b, d, e] = .vec 2 (setMany 2 [a, b, d, e] 0 .mt) 4 .bad := by kernel_rfl
theorem rdVec4 (a b d e : V) : rdMany (mkVec [a, b, d, e]) 0 4 = [a, b, d, e] := by kernel_rfl
theorem app4 (v : V) (k : K) (S : St) : appK 4 v (.slc S.next 0 1 true 1 4) (S.push (mkVec [a, b, d, e])) k = appX v 4 1 [a, b, d, e] (S.push (mkVec [a, b, d, e])) k := by
  show newCells (.slc S.next 0 1 true 1 4) 4 (S.push (mkVec [a, b, d, e])) (fun m l => Bool.rec fl (appX v 4 m l (S.push (mkVec [a, b, d, e])) k) (Nat.ble m 1048576)) = _
  show (Bool.rec fl _ (Nat.beq (len (rdMany ((S.push (mkVec [a, b, d, e])).get S.next) 0 4)) 4) : RC) = _
  rw [St.get_push, if_pos rfl, rdVec4]; rfl
theorem wr4 (a b d e x y z v : V) (k : AObj → RC) : wrObj (mkVec [x, y, z, v]) 0 [a, b, d, e] k = k (mkVec [a, b, d, e]) := by
  rw [mkVec4, mkVec4]
  show k (.vec 2 (setMany 2 [a, b, d, e] 0 (setMany 2 [x, y, z, v] 0 .mt)) 4 .bad) = _
  rw [setMany_over (by decide)]
/-- the first part of the first way, for a slice in the struct -/
theorem br1_form {E : Env} (hx : pget .bad q0 E = .ptr id o) {v5 : V} (h5 : rdObj (S.get id) (o + 4) = v5) {n : Nat} (hok : ∀ kv, okK v5 kv = kv v5) (hlen : ∀ kv, lenLK v5 kv = kv (.p n)) : execK c a56 E S =
    seqK (appX v5 4 1 zL (S.push (mkVec zL)) (fun v s => stK (.ptr id (o + 4)) 1 v s (fun _ s => .norm (pset .bad q4 v (pset .bad q5 (.p n) E)) s))) (fun e s => ldAK (pget .bad q1 e) 4 s (fun u => iadK (pget .bad q4 e) (pget .bad q5 e) 4 (fun p => stK p 4 u s (fun _ s => .norm e s)))) := by
  have hz : ∀ (v : V) (k : K), appK 4 v (.slc S.next 0 1 true 1 4) (S.push (mkVec [.p 0, .str 0 0, .p 0, .nils])) k = appX v 4 1 zL (S.push (mkVec zL)) k := fun v k => app4 v k S
  have hp : ∀ t ee kl, partsV [(0, 4, cn (.agg [.p 0, .str 0 0, .p 0, .nils]))] t ee (repL 1 [.p 0, .str 0 0, .p 0, .nils]) kl = kl [.p 0, .str 0 0, .p 0, .nils] := fun t ee kl => parts4 t ee _ _ _ _ _ rfl kl
  have hl : len [V.p 0, V.str 0 0, V.p 0, V.nils] = 4 := rfl
  have hx' : pget V.bad Pth.h E = .ptr id o := hx
  simp [a56, e0, e1, e4, e5, hx', h5, hok, hlen, hp, hl, hz]
  rfl
/-- the second way -/
theorem br2_form {E : Env} (hx : pget .bad q0 E = .ptr id o) (hy : pget .bad q1 E = .ptr id3 o3) {v5 : V} (h5 : rdObj (S.get id) (o + 4) = v5) (hne : id ≠ S.next) (hcl : rdMany (S.get id3) o3 4 = [a, b, d, e]) (hok : ∀ kv, okK v5 kv = kv v5) (hsame : ∀ r, sameK v5 v5 r = r) : execK c a7 E S =
    appX v5 4 1 [a, b, d, e] (S.push (mkVec [a, b, d, e])) (fun v s => stK (.ptr id (o + 4)) 1 v s (fun _ s => .norm E s)) := by
  have hp : ∀ t ee kl, partsV [(0, 4, l0)] (.agg [a, b, d, e] :: t) ee (repL 1 [.p 0, .str 0 0, .p 0, .nils]) kl = kl [a, b, d, e] := fun t ee kl => parts4 _ ee _ _ _ _ _ rfl kl
  have hl : len [V.p 0, V.str 0 0, V.p 0, V.nils] = 4 := rfl
  have h6 : rdObj ((S.push (mkVec [a, b, d, e])).get id) (o + 4) = v5 := by rw [St.get_push, if_neg hne]; exact h5
  have hx' : pget V.bad Pth.h E = .ptr id o := hx
  have hy' : pget V.bad (Pth.o .h) E = .ptr id3 o3 := hy
  simp [a7, e0, e1, hx', hy', h5, hok, hl, ldAK_ptr4 hcl, hp, hsame, h6, app4]
end
end Viv

/-
  compile.literal: BOTH WAYS LEAVE WHAT lit1 SAYS.
-/
set_option maxRecDepth 100000
namespace Viv
open Go (Value World IntKind Addr Program Act Exit Oper Operand Ending undef)
open Go.Proofs

theorem ne14 : q1 ≠ q4 := by intro h; have := congrArg num h; revert this; decide
theorem ne15 : q1 ≠ q5 := by intro h; have := congrArg num h; revert this; decide
theorem ne54 : q5 ≠ q4 := by intro h; have := congrArg num h; revert this; decide
noncomputable def ddOf (d n : Nat) : Nat := (fun d' => Bool.rec d' d (Nat.ble d' d)) (depthOf (Nat.mul (Nat.add n 1) 4))
theorem ddOf_le (d n : Nat) : (n + 1) * 4 ≤ 2 ^ ddOf d n := by
  have h := depthOf_le ((n + 1) * 4)
  have : ddOf d n = if depthOf ((n + 1) * 4) ≤ d then d else depthOf ((n + 1) * 4) := by
    show (Bool.rec (depthOf ((n + 1) * 4)) d (Nat.ble (depthOf ((n + 1) * 4)) d) : Nat) = _
    rw [bleRec]
  rw [this]
  split
  · rename_i hd; exact Nat.le_trans h (Nat.pow_le_pow_right (by omega) hd)
  · exact h
noncomputable def vE (d n : Nat) (t : NT V) (z : V) (l : L) : AObj := .vec (ddOf d n) (setMany (ddOf d n) l (n * 4) (deepen (ddOf d n - d) t)) ((n + 1) * 4) z
theorem appX_E {T : St} {i5 : Pth} {d k0 n cc es : Nat} {t : NT V} {z : V} (hg : T.get i5 = .vec d t k0 z) (hc : ¬ n + 1 ≤ cc) (l : L) (k : K) : appX (.slc i5 0 n false cc es) 4 1 l T k = if es = 4 then (if n + 1 ≤ 16777216 then (if n * 4 ≤ k0 then k (.slc T.next 0 (n + 1) false (n + 1) 4) ((T.set i5 .none).push (vE d n t z l)) else fl) else fl) else fl := by
  show (Bool.rec fl (Bool.rec fl (appS 4 i5 0 n false cc 1 l T k) (Nat.ble (n + 1) 16777216)) (Nat.beq es 4) : RC) = _
  rw [beqRec, bleRec]
  have : appS 4 i5 0 n false cc 1 l T k = if n * 4 ≤ k0 then k (.slc T.next 0 (n + 1) false (n + 1) 4) ((T.set i5 .none).push (vE d n t z l)) else fl := by
    show (Bool.rec (appE (T.get i5) 4 i5 n 1 l T k) _ (Nat.ble (n + 1) cc) : RC) = _
    rw [bleRec, if_neg hc, hg]
    show (Bool.rec fl _ (Nat.ble (n * 4) k0) : RC) = _
    rw [bleRec]; rfl
  rw [this]
theorem appX_not {T : St} {i5 : Pth} {n cc es : Nat} (hg : ∀ d t k0 z, T.get i5 ≠ .vec d t k0 z) (hc : ¬ n + 1 ≤ cc) (l : L) (k : K) : appX (.slc i5 0 n false cc es) 4 1 l T k = fl := by
  show (Bool.rec fl (Bool.rec fl (appS 4 i5 0 n false cc 1 l T k) (Nat.ble (n + 1) 16777216)) (Nat.beq es 4) : RC) = _
  have : appS 4 i5 0 n false cc 1 l T k = fl := by
    show (Bool.rec (appE (T.get i5) 4 i5 n 1 l T k) _ (Nat.ble (n + 1) cc) : RC) = _
    rw [bleRec, if_neg hc]
    cases ho : T.get i5 with
    | vec d t k0 z => exact absurd ho (hg d t k0 z)
    | _ => rfl
  rw [this, beqRec, bleRec]; simp
/-- the one state says the other, or less of what is new -/
def Near (s S1 Sf : St) : Prop := Sf.next = S1.next ∧ ∀ i, Sf.get i = S1.get i ∨ (Sf.get i = .none ∧ num s.next ≤ num i)
/-- a state with two more ids -/
structure Two (s T : St) : Prop where
  next : T.next = inc (inc s.next)
  get : ∀ i, i ≠ s.next → i ≠ inc s.next → T.get i = s.get i
theorem two0 (s : St) : Two s ((s.push .none).push .none) := ⟨rfl, fun i h1 h2 => by rw [St.get_push, St.next_push, if_neg h2, St.get_push, if_neg h1]⟩
theorem two1 {s S : St} (hn : S.next = inc s.next) (hg : ∀ i, i ≠ s.next → S.get i = s.get i) (o : AObj) : Two s (S.push o) := ⟨by rw [St.next_push, hn], fun i h1 h2 => by rw [St.get_push, if_neg (by rw [hn]; exact h2), hg i h1]⟩
theorem ne_of_lt {p q : Pth} (h : num p < num q) : p ≠ q := fun e => by rw [e] at h; omega

section
variable {s T : St} {id id3 : Pth} {o o3 : Nat} {a b d e : V}
/-- the state at the end: nothing in the struct before -/
noncomputable def fN (T : St) (id : Pth) (o' : AObj) (l : L) : St := (T.push (mkVec l)).set id o'
noncomputable def fE (T : St) (id i5 : Pth) (o' v : AObj) : St := ((T.set i5 .none).push v).set id o'
theorem wrN (hT : Two s T) (h : num id < num s.next) (l : L) (k : V → K) : appX .nils 4 1 l T (fun v s1 => stK (.ptr id (o + 4)) 1 v s1 (k v)) = wrObj (s.get id) (o + 4) [.slc (inc (inc s.next)) 0 1 false 1 4] (fun o' => k (.slc (inc (inc s.next)) 0 1 false 1 4) (.tup []) (fN T id o' l)) := by
  have h1 := num_inc s.next
  have h2 := num_inc (inc s.next)
  rw [appX_nils, stK_slc, St.get_push, if_neg (by rw [hT.next]; exact ne_of_lt (by omega)), hT.get id (ne_of_lt (by omega)) (ne_of_lt (by omega)), hT.next]
  rfl
theorem wrE (hT : Two s T) (h : num id < num s.next) {i5 : Pth} {d k0 n cc : Nat} {t : NT V} {z : V} (hg : T.get i5 = .vec d t k0 z) (hc : ¬ n + 1 ≤ cc) (hb : n + 1 ≤ 16777216) (hk : n * 4 ≤ k0) (hne : i5 ≠ id) (l : L) (k : V → K) :
    appX (.slc i5 0 n false cc 4) 4 1 l T (fun v s1 => stK (.ptr id (o + 4)) 1 v s1 (k v)) = wrObj (s.get id) (o + 4) [.slc (inc (inc s.next)) 0 (n + 1) false (n + 1) 4] (fun o' => k (.slc (inc (inc s.next)) 0 (n + 1) false (n + 1) 4) (.tup []) (fE T id i5 o' (vE d n t z l))) := by
  have h1 := num_inc s.next
  have h2 := num_inc (inc s.next)
  rw [appX_E hg hc, if_pos rfl, if_pos hb, if_pos hk, stK_slc, St.get_push, if_neg (by rw [St.next_set, hT.next]; exact ne_of_lt (by omega)), St.get_set_ne _ _ hne.symm, hT.get id (ne_of_lt (by omega)) (ne_of_lt (by omega)), hT.next]
  rfl
theorem over_get {T : St} {m id : Pth} {o' v v2 : AObj} (hT : T.next = m) (hne : id ≠ m) (i : Pth) : (((T.push v).set id o').set m v2).get i = ((T.push v2).set id o').get i := by
  rw [St.get_set, St.get_set, St.get_set, St.get_push, St.get_push, hT]
  by_cases c2 : i = m
  · rw [if_pos c2, if_pos c2, if_neg (fun e => hne (e.symm.trans c2))]
  · rw [if_neg c2, if_neg c2, if_neg c2]
theorem near_N {T T' : St} (hT : Two s T) (hT' : Two s T') (hd : T'.get s.next = .none ∧ T'.get (inc s.next) = .none) (_h : num id < num s.next) (o' : AObj) (l : L) {S1 : St} (hn : S1.next = inc (inc (inc s.next))) (h1 : ∀ i, S1.get i = (fN T id o' l).get i) : Near s S1 (fN T' id o' l) := by
  have e1 := num_inc s.next
  refine ⟨by rw [hn]; show inc T'.next = _; rw [hT'.next], fun i => ?_⟩
  rw [h1 i]
  unfold fN
  rw [St.get_set, St.get_set, St.get_push, St.get_push, hT.next, hT'.next]
  by_cases c1 : i = id
  · rw [if_pos c1, if_pos c1]; exact .inl rfl
  rw [if_neg c1, if_neg c1]
  by_cases c2 : i = inc (inc s.next)
  · rw [if_pos c2, if_pos c2]; exact .inl rfl
  rw [if_neg c2, if_neg c2]
  by_cases c3 : i = s.next
  · subst c3; exact .inr ⟨hd.1, Nat.le_refl _⟩
  by_cases c4 : i = inc s.next
  · subst c4; exact .inr ⟨hd.2, by omega⟩
  rw [hT.get i c3 c4, hT'.get i c3 c4]; exact .inl rfl
theorem near_E {T T' : St} (hT : Two s T) (hT' : Two s T') (hd : T'.get s.next = .none ∧ T'.get (inc s.next) = .none) (_h : num id < num s.next) {i5 : Pth} (o' v : AObj) {S1 : St} (hn : S1.next = inc (inc (inc s.next))) (h1 : ∀ i, S1.get i = (fE T id i5 o' v).get i) : Near s S1 (fE T' id i5 o' v) := by
  have e1 := num_inc s.next
  refine ⟨by rw [hn]; show inc T'.next = _; rw [hT'.next], fun i => ?_⟩
  rw [h1 i]
  unfold fE
  rw [St.get_set, St.get_set, St.get_push, St.get_push, St.next_set, St.next_set, hT.next, hT'.next, St.get_set, St.get_set]
  by_cases c1 : i = id
  · rw [if_pos c1, if_pos c1]; exact .inl rfl
  rw [if_neg c1, if_neg c1]
  by_cases c2 : i = inc (inc s.next)
  · rw [if_pos c2, if_pos c2]; exact .inl rfl
  rw [if_neg c2, if_neg c2]
  by_cases c0 : i = i5
  · rw [if_pos c0, if_pos c0]; exact .inl rfl
  rw [if_neg c0, if_neg c0]
  by_cases c3 : i = s.next
  · subst c3; exact .inr ⟨hd.1, Nat.le_refl _⟩
  by_cases c4 : i = inc s.next
  · subst c4; exact .inr ⟨hd.2, by omega⟩
  rw [hT.get i c3 c4, hT'.get i c3 c4]; exact .inl rfl
theorem wrV {n : Nat} {d0 : Nat} {t : NT V} {z : V} (k : AObj → RC) : wrObj (vE d0 n t z zL) (n * 4) [a, b, d, e] k = k (vE d0 n t z [a, b, d, e]) := by
  show (Bool.rec fl (k (.vec (ddOf d0 n) (setMany (ddOf d0 n) [a, b, d, e] (n * 4) (setMany (ddOf d0 n) zL (n * 4) (deepen (ddOf d0 n - d0) t))) ((n + 1) * 4) z)) (Nat.ble (n * 4 + 4) ((n + 1) * 4)) : RC) = _
  rw [bleRec, if_pos (by omega)]
  unfold zL
  rw [setMany_over (by have := ddOf_le d0 n; omega)]
  rfl
theorem len4 {l : L} (h : l.length = 4) : ∃ a b d e, l = [a, b, d, e] := by
  match l, h with
  | [a, b, d, e], _ => exact ⟨a, b, d, e, rfl⟩
theorem litA_nptr {x y : V} (s : St) (k : K) (h : ∀ id o, x ≠ .ptr id o) : litA x y s k = fl := by
  cases x <;> first | rfl | exact absurd rfl (h _ _)
theorem litA_nptr' {id : Pth} {o : Nat} {y : V} (s : St) (k : K) (h : ∀ id o, y ≠ .ptr id o) : litA (.ptr id o) y s k = fl := by
  cases y <;> first | rfl | exact absurd rfl (h _ _)
/-- both ways end as lit1 says -/
theorem lit_main {x y : V} {s : St} (hne : ∃ k : K, litA x y s k ≠ fl) (hx : ∀ id o, x = .ptr id o → num id < num s.next) (hy : ∀ id o, y = .ptr id o → num id < num s.next) :
    ∃ Sf, (∀ k, litA x y s k = k (.tup []) Sf) ∧ ∀ S, S.next = inc s.next → (∀ i, i ≠ s.next → S.get i = s.get i) → ∀ c E, pget .bad q0 E = x → pget .bad q1 E = y → (∃ u v S1, execK c a56 E S = .norm (pset .bad q4 u (pset .bad q5 v E)) S1 ∧ Near s S1 Sf) ∧ (∃ S1, execK c a7 E S = .norm E S1 ∧ Near s S1 Sf) := by
  obtain ⟨k0, hne⟩ := hne
  by_cases hxp : ∃ id o, x = .ptr id o
  case neg => exact absurd (litA_nptr s k0 (fun id o e => hxp ⟨id, o, e⟩)) hne
  obtain ⟨id, o, rfl⟩ := hxp
  by_cases hyp : ∃ id o, y = .ptr id o
  case neg => exact absurd (litA_nptr' s k0 (fun id o e => hyp ⟨id, o, e⟩)) hne
  obtain ⟨id3, o3, rfl⟩ := hyp
  have hid := hx _ _ rfl
  have hid3 := hy _ _ rfl
  have e1 := num_inc s.next
  have e2 := num_inc (inc s.next)
  have hform : ∀ k, litA (.ptr id o) (.ptr id3 o3) s k = (match Nat.beq (len (rdMany (s.get id3) o3 4)) 4 && !(beqP id3 id) && freshV (rdObj (s.get id) (o + 4)) id id3 with
    | true => appX (rdObj (s.get id) (o + 4)) 4 1 (rdMany (s.get id3) o3 4) ((s.push .none).push .none) (fun v s1 => stK (.ptr id (o + 4)) 1 v s1 k)
    | false => fl) := fun k => rfl
  cases hb : (Nat.beq (len (rdMany (s.get id3) o3 4)) 4 && !(beqP id3 id) && freshV (rdObj (s.get id) (o + 4)) id id3) with
  | false => rw [hform, hb] at hne; exact absurd rfl hne
  | true =>
  simp only [hb] at hform
  rw [hform] at hne
  simp only [Bool.and_eq_true, Bool.not_eq_true'] at hb
  obtain ⟨⟨hl, hi3⟩, hf⟩ := hb
  rw [len_eq] at hl
  obtain ⟨a, b, d, e, hcl⟩ := len4 (Nat.eq_of_beq_eq_true hl)
  rw [hcl] at hform hne
  have hne3 : id3 ≠ id := fun h => by rw [(beqP_eq id3 id).2 h] at hi3; cases hi3
  have d0 : ((s.push .none).push .none).get s.next = .none ∧ ((s.push .none).push .none).get (inc s.next) = .none := by
    refine ⟨?_, by rw [St.get_push, St.next_push, if_pos rfl]⟩
    rw [St.get_push, St.next_push, if_neg (ne_of_lt (by omega)), St.get_push, if_pos rfl]
  cases h5 : rdObj (s.get id) (o + 4) with
  | nils =>
    rw [h5] at hform hne
    simp only [wrN (two0 s) hid] at hform hne
    rcases wrObj_spec (s.get id) (o + 4) [.slc (inc (inc s.next)) 0 1 false 1 4] with hw | ⟨o', _, hw, _⟩
    · exact absurd (hw _) hne
    refine ⟨fN ((s.push .none).push .none) id o' [a, b, d, e], fun k => by rw [hform, hw], fun S hn hg c E hE0 hE1 => ?_⟩
    have g5 : rdObj (S.get id) (o + 4) = .nils := by rw [hg id (ne_of_lt hid), h5]
    have gcl : rdMany (S.get id3) o3 4 = [a, b, d, e] := by rw [hg id3 (ne_of_lt hid3), hcl]
    constructor
    · rw [br1_form hE0 g5 (fun _ => rfl) (fun _ => rfl), wrN (two1 hn hg _) hid, hw, seqK_norm]
      have hld : rdMany ((fN (S.push (mkVec zL)) id o' zL).get id3) o3 4 = [a, b, d, e] := by
        unfold fN
        rw [St.get_set_ne _ _ hne3, St.get_push, if_neg (by rw [St.next_push, hn]; exact ne_of_lt (by omega)), St.get_push, if_neg (by rw [hn]; exact ne_of_lt (by omega)), gcl]
      have hq1 : ∀ u v : V, pget .bad q1 (pset .bad q4 u (pset .bad q5 v E)) = .ptr id3 o3 := fun _ _ => by rw [pget_pset_ne _ ne14, pget_pset_ne _ ne15, hE1]
      have hq4 : ∀ u v : V, pget .bad q4 (pset .bad q4 u (pset .bad q5 v E)) = u := fun _ _ => pget_pset_same _ _ _ _
      have hq5 : ∀ u v : V, pget .bad q5 (pset .bad q4 u (pset .bad q5 v E)) = v := fun _ _ => by rw [pget_pset_ne _ ne54, pget_pset_same]
      rw [hq1, ldAK_ptr4 hld, hq4, hq5, iadK_slc _ (show 0 < 1 by omega), stK_agg4]
      have hgv : (fN (S.push (mkVec zL)) id o' zL).get (inc (inc s.next)) = mkVec zL := by
        unfold fN
        rw [St.get_set_ne _ _ (ne_of_lt (by omega)).symm, St.get_push, if_pos (by rw [St.next_push, hn])]
      rw [hgv, show mkVec zL = mkVec [.p 0, .str 0 0, .p 0, .nils] from rfl, wr4]
      refine ⟨_, _, _, rfl, near_N (two1 hn hg (mkVec zL)) (two0 s) d0 hid o' [a, b, d, e] ?_ fun i => ?_⟩
      · show inc (inc S.next) = _; rw [hn]
      · exact over_get (by rw [St.next_push, hn]) (ne_of_lt (by omega)) i
    · rw [br2_form hE0 hE1 g5 (by rw [hn]; exact ne_of_lt (by omega)) gcl (fun _ => rfl) (fun r => sameK_ok rfl r), wrN (two1 hn hg _) hid, hw]
      refine ⟨_, rfl, near_N (two1 hn hg _) (two0 s) d0 hid o' _ ?_ fun i => rfl⟩
      show inc (inc S.next) = _; rw [hn]
  | slc i5 off n ex cc es =>
    rw [h5] at hform hne hf
    simp only [freshV, Bool.and_eq_true, Bool.not_eq_true'] at hf
    obtain ⟨⟨⟨⟨f1, f2⟩, f3⟩, f4⟩, f5⟩ := hf
    have f1 := Nat.eq_of_beq_eq_true f1
    subst f1 f2
    have f3 : ¬ n + 1 ≤ cc := fun h => by rw [Nat.ble_eq_true_of_le h] at f3; cases f3
    have f4 : i5 ≠ id := fun h => by rw [(beqP_eq i5 id).2 h] at f4; cases f4
    have f5 : i5 ≠ id3 := fun h => by rw [(beqP_eq i5 id3).2 h] at f5; cases f5
    by_cases hv : ∃ d t k0 z, ((s.push .none).push .none).get i5 = .vec d t k0 z
    case neg => exact absurd (appX_not (fun d t k0 z h => hv ⟨d, t, k0, z, h⟩) f3 _ _) hne
    obtain ⟨dd, t, k1, z, hv⟩ := hv
    have m0 : i5 ≠ s.next := fun h => by rw [h, d0.1] at hv; cases hv
    have m1 : i5 ≠ inc s.next := fun h => by rw [h, d0.2] at hv; cases hv
    have hv' : s.get i5 = .vec dd t k1 z := by rw [← (two0 s).get i5 m0 m1]; exact hv
    by_cases hes : es = 4
    case neg => exact absurd (by rw [appX_E hv f3, if_neg hes]) hne
    subst hes
    by_cases hb : n + 1 ≤ 16777216
    case neg => exact absurd (by rw [appX_E hv f3, if_pos rfl, if_neg hb]) hne
    by_cases hk : n * 4 ≤ k1
    case neg => exact absurd (by rw [appX_E hv f3, if_pos rfl, if_pos hb, if_neg hk]) hne
    simp only [wrE (two0 s) hid hv f3 hb hk f4] at hform hne
    rcases wrObj_spec (s.get id) (o + 4) [.slc (inc (inc s.next)) 0 (n + 1) false (n + 1) 4] with hw | ⟨o', _, hw, _⟩
    · exact absurd (hw _) hne
    refine ⟨fE ((s.push .none).push .none) id i5 o' (vE dd n t z [a, b, d, e]), fun k => by rw [hform, hw], fun S hn hg c E hE0 hE1 => ?_⟩
    have g5 : rdObj (S.get id) (o + 4) = .slc i5 0 n false cc 4 := by rw [hg id (ne_of_lt hid), h5]
    have gcl : rdMany (S.get id3) o3 4 = [a, b, d, e] := by rw [hg id3 (ne_of_lt hid3), hcl]
    have gv : ∀ ob, (S.push ob).get i5 = .vec dd t k1 z := fun ob => by rw [(two1 hn hg ob).get i5 m0 m1, hv']
    constructor
    · rw [br1_form hE0 g5 (fun _ => rfl) (fun _ => rfl), wrE (two1 hn hg _) hid (gv _) f3 hb hk f4, hw, seqK_norm]
      have hld : rdMany ((fE (S.push (mkVec zL)) id i5 o' (vE dd n t z zL)).get id3) o3 4 = [a, b, d, e] := by
        unfold fE
        rw [St.get_set_ne _ _ hne3, St.get_push, if_neg (by rw [St.next_set, St.next_push, hn]; exact ne_of_lt (by omega)), St.get_set_ne _ _ f5.symm, St.get_push, if_neg (by rw [hn]; exact ne_of_lt (by omega)), gcl]
      have hq1 : ∀ u v : V, pget .bad q1 (pset .bad q4 u (pset .bad q5 v E)) = .ptr id3 o3 := fun _ _ => by rw [pget_pset_ne _ ne14, pget_pset_ne _ ne15, hE1]
      have hq4 : ∀ u v : V, pget .bad q4 (pset .bad q4 u (pset .bad q5 v E)) = u := fun _ _ => pget_pset_same _ _ _ _
      have hq5 : ∀ u v : V, pget .bad q5 (pset .bad q4 u (pset .bad q5 v E)) = v := fun _ _ => by rw [pget_pset_ne _ ne54, pget_pset_same]
      rw [hq1, ldAK_ptr4 hld, hq4, hq5, iadK_slc _ (show n < n + 1 by omega), stK_agg4]
      have hgv : (fE (S.push (mkVec zL)) id i5 o' (vE dd n t z zL)).get (inc (inc s.next)) = vE dd n t z zL := by
        unfold fE
        rw [St.get_set_ne _ _ (ne_of_lt (by omega)).symm, St.get_push, if_pos (by rw [St.next_set, St.next_push, hn])]
      rw [hgv, Nat.zero_add, wrV]
      refine ⟨_, _, _, rfl, near_E (two1 hn hg (mkVec zL)) (two0 s) d0 hid o' _ ?_ fun i => ?_⟩
      · show inc (inc S.next) = _; rw [hn]
      · exact over_get (by rw [St.next_set, St.next_push, hn]) (ne_of_lt (by omega)) i
    · rw [br2_form hE0 hE1 g5 (by rw [hn]; exact ne_of_lt (by omega)) gcl (fun _ => rfl) (fun r => sameK_slc _ _ _ _ _ _ r), wrE (two1 hn hg _) hid (gv _) f3 hb hk f4, hw]
      refine ⟨_, rfl, near_E (two1 hn hg _) (two0 s) d0 hid o' _ ?_ fun i => rfl⟩
      show inc (inc S.next) = _; rw [hn]
  | _ => rw [h5] at hf; cases hf
end
end Viv

/-
  compile.literal: THE FUNCTION.
-/
set_option maxRecDepth 100000
namespace Viv
open Go (Value World IntKind Addr Program Act Exit Oper Operand Ending undef)
open Go.Proofs

def slT : List Nat := [0, 3, 5, 1, 0, 0, 14, 0, 4]
/-- code does as the evaluator says -/
def Alls (co : Go.Code) (ac : ACode) : Prop := ∀ (c : CF), CFSound Tryz.prog c → ∀ (e : Env) (s : St) (β : Beta) (w : World) (a : Act), Sim β s w → ERel slT Tryz.f341.ntmps β e a → Says Tryz.prog slT Tryz.f341.ntmps β s w a (execK c ac e s) co
theorem alls_code {co : Go.Code} {ac : ACode} (h : trCode Tryz.prog slT Tryz.f341.ntmps pl341 co = ac) : Alls co ac := fun c hc e s β w a hs he => by
  rw [← h]; exact code_says hc _ pl341 mixed co e s β w a hs he
theorem alls_seq {x y : Go.Code} {ax ay : ACode} (hx : Alls x ax) (hy : Alls y ay) : Alls (.seq x y) (.seq ax ay) := fun c hc e s β w a hs he Q hne hQ => by
  have heq : execK c (.seq ax ay) e s = seqK (execK c ax e s) (execK c ay) := rfl
  rw [heq] at hne hQ
  refine Go.wp_seq (hx c hc e s β w a hs he _ (fun why h => by rw [h] at hne; exact hne why rfl) fun ex e' s' β' a' w' hm hs' hp' he' => ?_)
  generalize execK c ax e s = r at hm hne hQ
  cases hm with
  | norm => exact hy c hc e' s' β' w' a' hs' he' Q hne fun ex e2 s2 β2 a2 w2 hm2 hs2 hp2 he2 => hQ ex e2 s2 β2 a2 w2 hm2 hs2 (hp'.trans hp2) he2
  | exit id => exact hQ _ _ _ _ _ _ (.exit id e' s') hs' hp' he'
  | ret => exact hQ _ _ _ _ _ _ (.ret e' s') hs' hp' he'
theorem alls_cond {x : Operand} {y z : Go.Code} {ay az : ACode} {ox : Opd} (hox : opd slT [] x = ox) (hy : Alls y ay) (hz : Alls z az) : Alls (.cond x y z) (.cond ox ay az) := fun c hc e s β w a hs he Q hne hQ => by
  have heq : execK c (.cond ox ay az) e s = condK (ox [] e) (execK c ay e s) (execK c az e s) := rfl
  rw [heq, ← hox] at hne hQ
  have hv := he.operand x
  generalize opd slT [] x [] e = v at hv hne hQ
  generalize hx : a.eval x = b at hv
  cases hv <;> first | exact absurd rfl (hne 0) | skip
  case tt => exact Go.wp_cond_true hx (hy c hc e s β w a hs he Q hne hQ)
  case ff => exact Go.wp_cond_false hx (hz c hc e s β w a hs he Q hne hQ)

/-! slots -/
theorem idxN_none {t : Nat} : ∀ {l : List Nat}, t ∉ l → idxN t l = none
  | [], _ => rfl
  | u :: r, h => by
    have h1 : u ≠ t := fun e => h (by simp [e])
    have h2 : t ∉ r := fun e => h (by simp [e])
    have hb : Nat.beq u t = false := by
      cases hx : Nat.beq u t with
      | false => rfl
      | true => exact absurd (Nat.eq_of_beq_eq_true hx) h1
    simp only [idxN, hb, idxN_none h2]
theorem slotOf_none {sl : List Nat} {t : Nat} (h : t ∉ sl) : slotOf sl t = none := by unfold slotOf; rw [idxN_none h]
theorem slotL {u : Nat} {p : Pth} (h : slotOf slT u = some p) : (u = 0 ∧ p = q0) ∨ (u = 3 ∧ p = q1) ∨ (u = 5 ∧ p = q2) ∨ (u = 1 ∧ p = q3) ∨ (u = 14 ∧ p = q6) ∨ (u = 4 ∧ p = q8) := by
  by_cases hu : u ∈ slT
  · simp only [slT, List.mem_cons, List.not_mem_nil, or_false] at hu
    have s0 : slotOf slT 0 = some q0 := by kernel_rfl
    have s3 : slotOf slT 3 = some q1 := by kernel_rfl
    have s5 : slotOf slT 5 = some q2 := by kernel_rfl
    have s1 : slotOf slT 1 = some q3 := by kernel_rfl
    have s14 : slotOf slT 14 = some q6 := by kernel_rfl
    have s4 : slotOf slT 4 = some q8 := by kernel_rfl
    rcases hu with rfl | rfl | rfl | rfl | rfl | rfl | rfl | rfl | rfl
    · rw [s0] at h; cases h; exact .inl ⟨rfl, rfl⟩
    · rw [s3] at h; cases h; exact .inr (.inl ⟨rfl, rfl⟩)
    · rw [s5] at h; cases h; exact .inr (.inr (.inl ⟨rfl, rfl⟩))
    · rw [s1] at h; cases h; exact .inr (.inr (.inr (.inl ⟨rfl, rfl⟩)))
    · rw [s0] at h; cases h; exact .inl ⟨rfl, rfl⟩
    · rw [s0] at h; cases h; exact .inl ⟨rfl, rfl⟩
    · rw [s14] at h; cases h; exact .inr (.inr (.inr (.inr (.inl ⟨rfl, rfl⟩))))
    · rw [s0] at h; cases h; exact .inl ⟨rfl, rfl⟩
    · rw [s4] at h; cases h; exact .inr (.inr (.inr (.inr (.inr ⟨rfl, rfl⟩))))
  · rw [slotOf_none hu] at h; cases h
theorem slot341 {u : Nat} {p : Pth} (h : slotOf sl341 u = some p) : p = q4 ∨ p = q5 ∨ p = q7 ∨ (slotOf slT u = some p ∧ u ≠ 21 ∧ u ≠ 22) := by
  by_cases hu : u ∈ sl341
  · simp only [sl341, List.mem_cons, List.not_mem_nil, or_false] at hu
    have e : ∀ u, u = 0 ∨ u = 3 ∨ u = 5 ∨ u = 1 ∨ u = 14 ∨ u = 4 → slotOf sl341 u = slotOf slT u := by
      rintro u (rfl | rfl | rfl | rfl | rfl | rfl) <;> kernel_rfl
    have s30 : slotOf sl341 30 = some q4 := by kernel_rfl
    have s28 : slotOf sl341 28 = some q5 := by kernel_rfl
    have s22 : slotOf sl341 22 = some q7 := by kernel_rfl
    rcases hu with rfl | rfl | rfl | rfl | rfl | rfl | rfl | rfl | rfl
    · exact .inr (.inr (.inr ⟨by rw [← e _ (by decide)]; exact h, by decide, by decide⟩))
    · exact .inr (.inr (.inr ⟨by rw [← e _ (by decide)]; exact h, by decide, by decide⟩))
    · exact .inr (.inr (.inr ⟨by rw [← e _ (by decide)]; exact h, by decide, by decide⟩))
    · exact .inr (.inr (.inr ⟨by rw [← e _ (by decide)]; exact h, by decide, by decide⟩))
    · rw [s30] at h; cases h; exact .inl rfl
    · rw [s28] at h; cases h; exact .inr (.inl rfl)
    · exact .inr (.inr (.inr ⟨by rw [← e _ (by decide)]; exact h, by decide, by decide⟩))
    · rw [s22] at h; cases h; exact .inr (.inr (.inl rfl))
    · exact .inr (.inr (.inr ⟨by rw [← e _ (by decide)]; exact h, by decide, by decide⟩))
  · rw [slotOf_none hu] at h; cases h
theorem slotL_ne {u : Nat} {p : Pth} (h : slotOf slT u = some p) : p ≠ q4 ∧ p ≠ q5 ∧ p ≠ q7 ∧ slotOf sl341 u = some p := by
  have ne : ∀ a b : Pth, num a ≠ num b → a ≠ b := fun a b h e => h (congrArg num e)
  rcases slotL h with ⟨rfl, rfl⟩ | ⟨rfl, rfl⟩ | ⟨rfl, rfl⟩ | ⟨rfl, rfl⟩ | ⟨rfl, rfl⟩ | ⟨rfl, rfl⟩ <;> exact ⟨ne _ _ (by decide), ne _ _ (by decide), ne _ _ (by decide), by kernel_rfl⟩
theorem nt341 : Tryz.f341.ntmps = 49 := by kernel_rfl
theorem dL_eq : dL = .seq d4 (.cond (.tmp 22) d56 d7) := by kernel_rfl
/-- the drawn choice: one element put behind -/
theorem lit_says : Alls dL (.reg (.p (lit1 e0 e1) .nil)) := fun c hc e s β w a hs he Q hne hQ => by
  have heq : execK c (.reg (.p (lit1 e0 e1) .nil)) e s = litA (pget .bad q0 e) (pget .bad q1 e) s (fun _ s' => .norm e s') := rfl
  rw [heq] at hne hQ
  have s0 : slotOf slT 0 = some q0 := by kernel_rfl
  have s3 : slotOf slT 3 = some q1 := by kernel_rfl
  have hfr : ∀ (v : V) (x : Value), VRel β v x → ∀ id o, v = .ptr id o → num id < num s.next := fun v x hv id o h => by
    subst h
    cases hv <;> exact hs.fresh _ _ (by assumption)
  obtain ⟨Sf, hl, hbr⟩ := lit_main ⟨_, fun h => hne 0 h⟩ (hfr _ _ (he.slot 0 q0 s0)) (hfr _ _ (he.slot 3 q1 s3))
  rw [hl] at hQ
  rw [dL_eq]
  refine Go.wp_seq (coin_wp hc (n := Tryz.f341.ntmps) (by rw [nt341]; decide) hs he.tied fun b S β1 a1 w1 hn hg hs1 hp1 ht1 => ?_)
  have hE : ERel sl341 Tryz.f341.ntmps β1 (pset .bad q4 .bad (pset .bad q5 .bad (pset .bad q7 .bad e))) a1 := by
    refine ⟨fun u p hu => ?_, ht1.size, ht1.defers⟩
    rw [pget_pset, pget_pset, pget_pset]
    by_cases c4 : p = q4
    · rw [if_pos c4]; exact .bad _
    by_cases c5 : p = q5
    · rw [if_neg c4, if_pos c5]; exact .bad _
    by_cases c7 : p = q7
    · rw [if_neg c4, if_neg c5, if_pos c7]; exact .bad _
    rw [if_neg c4, if_neg c5, if_neg c7]
    rcases slot341 hu with h | h | h | ⟨h, n21, n22⟩
    · exact absurd h c4
    · exact absurd h c5
    · exact absurd h c7
    · have := ht1.val u
      simp only [putR, if_neg n21, if_neg n22, rho0, h] at this
      exact this
  have back : ∀ (E1 : Env) (β' : Beta) (a' : Act), (∀ p, p ≠ q4 → p ≠ q5 → p ≠ q7 → pget .bad p E1 = pget .bad p e) → ERel sl341 Tryz.f341.ntmps β' E1 a' → ERel slT Tryz.f341.ntmps β' e a' := fun E1 β' a' hp h => by
    refine ⟨fun u p hu => ?_, h.size, h.defers⟩
    obtain ⟨c4, c5, c7, hu'⟩ := slotL_ne hu
    have := h.slot u p hu'
    rwa [hp p c4 c5 c7] at this
  have hEe : ∀ p, p ≠ q4 → p ≠ q5 → p ≠ q7 → pget .bad p (pset .bad q4 V.bad (pset .bad q5 .bad (pset .bad q7 .bad e))) = pget .bad p e := fun p c4 c5 c7 => by
    rw [pget_pset_ne _ c4, pget_pset_ne _ c5, pget_pset_ne _ c7]
  have hev : a1.eval (.tmp 22) = .bool b := by
    have h := ht1.val 22
    rw [putR_some] at h
    show a1.tmps.getD 22 undef = _
    generalize a1.tmps.getD 22 undef = x at h
    cases b <;> cases h <;> rfl
  obtain ⟨n04, n05, n07, _⟩ := slotL_ne s0
  obtain ⟨n14, n15, n17, _⟩ := slotL_ne s3
  obtain ⟨⟨u, v, S1, hr, hnear⟩, ⟨S2, hr2, hnear2⟩⟩ := hbr S hn hg c (pset .bad q4 .bad (pset .bad q5 .bad (pset .bad q7 .bad e))) (hEe q0 n04 n05 n07) (hEe q1 n14 n15 n17)
  cases b with
  | false =>
    refine Go.wp_cond_false hev (code_says hc Tryz.f341.ntmps pl341 mixed d7 _ S β1 w1 a1 hs1 hE _ (fun why h => by rw [t7, hr2] at h; cases h) fun ex e' s' β' a' w' hm hs' hp' he' => ?_)
    rw [t7, hr2] at hm
    cases hm
    exact hQ .normal e Sf β' a' w' (.norm e Sf) (hs'.less hnear2.1 fun i => (hnear2.2 i).imp id And.left) ((hp1.trans hp').less hnear2.1 hnear2.2) (back _ _ _ hEe he')
  | true =>
    refine Go.wp_cond_true hev (code_says hc Tryz.f341.ntmps pl341 mixed d56 _ S β1 w1 a1 hs1 hE _ (fun why h => by rw [t56, hr] at h; cases h) fun ex e' s' β' a' w' hm hs' hp' he' => ?_)
    rw [t56, hr] at hm
    cases hm
    exact hQ .normal e Sf β' a' w' (.norm e Sf) (hs'.less hnear.1 fun i => (hnear.2 i).imp id And.left) ((hp1.trans hp').less hnear.1 hnear.2) (back _ _ _ (fun p c4 c5 c7 => by rw [pget_pset_ne _ c4, pget_pset_ne _ c5]; exact hEe p c4 c5 c7) he')

/-! the function -/
noncomputable def aC0 : ACode := trCode Tryz.prog slT Tryz.f341.ntmps pl341 d0
noncomputable def aC1 : ACode := trCode Tryz.prog slT Tryz.f341.ntmps pl341 d1
noncomputable def aC2 : ACode := trCode Tryz.prog slT Tryz.f341.ntmps pl341 d2
noncomputable def aC3 : ACode := trCode Tryz.prog slT Tryz.f341.ntmps pl341 d3
noncomputable def aC8 : ACode := trCode Tryz.prog slT Tryz.f341.ntmps pl341 d8
noncomputable def aBody : ACode := .seq aC0 (.seq aC1 (.seq (.seq aC2 (.cond e6 (.seq aC3 (.reg (.p (lit1 e0 e1) .nil))) .skip)) aC8))
theorem c341_eq' : Tryz.f341.body = some (.seq d0 (.seq d1 (.seq (.seq d2 (.cond (.tmp 14) (.seq d3 dL) .skip)) d8))) := by kernel_rfl
theorem body_says : Alls (.seq d0 (.seq d1 (.seq (.seq d2 (.cond (.tmp 14) (.seq d3 dL) .skip)) d8))) aBody :=
  alls_seq (alls_code rfl) (alls_seq (alls_code rfl) (alls_seq (alls_seq (alls_code rfl) (alls_cond (by kernel_rfl) (alls_seq (alls_code rfl) lit_says) (alls_code rfl))) (alls_code rfl)))
theorem A341_eq : A341 = ⟨paramsOf slT 0 2, [(e8, none)], aBody⟩ := by kernel_rfl
theorem res341 : resOf Tryz.prog slT Tryz.f341.results.toList = some [(e8, none)] := by kernel_rfl
theorem ok341 : FEok Tryz.prog 341 (.fn A341) := .like A341 fun c hc β s w «as» args hs ha => by
  rw [A341_eq]
  exact func_says c341_eq' res341 Tryz.func341 Tryz.call341 (body_says c hc _ s β w _ hs (enter_rel (sl := slT) ha 2 Tryz.f341.ntmps))
end Viv
