/-
  STATES IN GENERAL: old ids and new ones, environments as functions, loops; a world of package kernel in a state.
-/
import Derived.Test.YtfppefhcmmfgcaaGreatShJ
import Derived.Test.YtfppefhcmmfgcaaGreatGp
set_option maxRecDepth 100000
namespace Viv
open Go (Value World IntKind Addr Program Act Exit Oper Operand Ending undef)
open Go.Proofs

/-! ### ids -/
theorem lt_inc {i p : Pth} (h : num i < num p) : num i < num (inc p) := by rw [num_inc]; omega
theorem old_ne {i p : Pth} (h : num i < num p) : (i = p) = False := eq_false fun e => by subst e; omega
theorem old_ne' {i p : Pth} (h : num i < num p) : (p = i) = False := eq_false fun e => by subst e; omega
theorem inc_eq {p q : Pth} : (inc p = inc q) = (p = q) := by
  apply propext
  refine ⟨fun h => num_inj ?_, fun h => by rw [h]⟩
  have := congrArg num h
  rw [num_inc, num_inc] at this; omega
theorem inc1 (p : Pth) : (inc p = p) = False := eq_false fun h => by have := congrArg num h; rw [num_inc] at this; omega
theorem inc2 (p : Pth) : (inc (inc p) = p) = False := eq_false fun h => by have := congrArg num h; simp only [num_inc] at this; omega
theorem inc3 (p : Pth) : (inc (inc (inc p)) = p) = False := eq_false fun h => by have := congrArg num h; simp only [num_inc] at this; omega
theorem inc4 (p : Pth) : (inc (inc (inc (inc p))) = p) = False := eq_false fun h => by have := congrArg num h; simp only [num_inc] at this; omega
theorem inc5 (p : Pth) : (inc (inc (inc (inc (inc p)))) = p) = False := eq_false fun h => by have := congrArg num h; simp only [num_inc] at this; omega
theorem inc6 (p : Pth) : (inc (inc (inc (inc (inc (inc p))))) = p) = False := eq_false fun h => by have := congrArg num h; simp only [num_inc] at this; omega
theorem cni1 (p : Pth) : (p = inc p) = False := eq_false fun h => by have := congrArg num h; rw [num_inc] at this; omega
theorem cni2 (p : Pth) : (p = inc (inc p)) = False := eq_false fun h => by have := congrArg num h; simp only [num_inc] at this; omega
theorem cni3 (p : Pth) : (p = inc (inc (inc p))) = False := eq_false fun h => by have := congrArg num h; simp only [num_inc] at this; omega
theorem cni4 (p : Pth) : (p = inc (inc (inc (inc p)))) = False := eq_false fun h => by have := congrArg num h; simp only [num_inc] at this; omega
theorem cni5 (p : Pth) : (p = inc (inc (inc (inc (inc p))))) = False := eq_false fun h => by have := congrArg num h; simp only [num_inc] at this; omega
theorem cni6 (p : Pth) : (p = inc (inc (inc (inc (inc (inc p)))))) = False := eq_false fun h => by have := congrArg num h; simp only [num_inc] at this; omega
/-- the ids that there are now are as they were, but for some -/
structure Keep (X : Pth → Prop) (s s' : St) : Prop where
  next : num s.next ≤ num s'.next
  same : ∀ id, num id < num s.next → ¬ X id → s'.get id = s.get id
theorem Keep.refl (X : Pth → Prop) (s : St) : Keep X s s := ⟨Nat.le_refl _, fun _ _ _ => rfl⟩
theorem Keep.trans {X : Pth → Prop} {s s1 s2 : St} (h : Keep X s s1) (h' : Keep X s1 s2) : Keep X s s2 :=
  ⟨Nat.le_trans h.next h'.next, fun id hi hx => by rw [h'.same id (Nat.lt_of_lt_of_le hi h.next) hx, h.same id hi hx]⟩
theorem Keep.push (X : Pth → Prop) (s : St) (o : AObj) : Keep X s (s.push o) :=
  ⟨by rw [St.num_push]; omega, fun id hi _ => by rw [St.get_push, if_neg (fun e => by subst e; omega)]⟩
theorem Keep.set {X : Pth → Prop} (s : St) {id : Pth} (o : AObj) (h : X id ∨ num s.next ≤ num id) : Keep X s (s.set id o) :=
  ⟨Nat.le_refl _, fun i hi hx => by
    rw [St.get_set, if_neg]
    rintro rfl
    rcases h with h | h
    · exact hx h
    · omega⟩
theorem Keep.mono {X Y : Pth → Prop} {s s' : St} (h : Keep X s s') (hx : ∀ i, num i < num s.next → X i → Y i) : Keep Y s s' := ⟨h.next, fun i hi hy => h.same i hi fun x => hy (hx i hi x)⟩

/-! ### calls -/
theorem callK_fn {F : Tr FE} {q : Pth} {A : AFunc} (h : pget .no q F = .fn A) (n : Nat) (l : L) (s : St) (k : K) : callK F (n + 1) q l s k = callF (.fn A) (callK F n) l s k := by
  show callF (pget .no q F) (callK F n) l s k = _
  rw [h]
theorem callK_sp {F : Tr FE} {q : Pth} {x : L → St → K → RC} (h : pget .no q F = .sp x) (n : Nat) (l : L) (s : St) (k : K) : callK F (n + 1) q l s k = x l s k := by
  show callF (pget .no q F) (callK F n) l s k = _
  rw [h]; rfl

/-! ### loops -/
theorem loopK_s (b : Env → St → RC) (n : Nat) (e : Env) (s : St) : loopK b (n + 1) e s = match b e s with
    | .f w => .f w
    | .norm e s => loopK b n e s
    | .exit id e s => .exit id e s
    | .ret e s => .ret e s := by
  show (RC.rec (motive := fun _ => (Env → St → RC) → RC) (fun w _ => .f w) (fun e s ih => ih e s) (fun id e s _ => .exit id e s) (fun e s _ => .ret e s) (b e s) (loopK b n)) = _
  cases b e s <;> rfl
theorem loop_norm {b : Env → St → RC} {n : Nat} {e e' : Env} {s s' : St} (h : b e s = .norm e' s') : loopK b (n + 1) e s = loopK b n e' s' := by rw [loopK_s, h]
theorem loop_exit {b : Env → St → RC} {n id : Nat} {e e' : Env} {s s' : St} (h : b e s = .exit id e' s') : loopK b (n + 1) e s = .exit id e' s' := by rw [loopK_s, h]
theorem loop_ret {b : Env → St → RC} {n : Nat} {e e' : Env} {s s' : St} (h : b e s = .ret e' s') : loopK b (n + 1) e s = .ret e' s' := by rw [loopK_s, h]

@[simp] theorem vI_2c (n : Nat) : vI (2 * (n : Int)) = .p (2 * n) := by
  have : (2 * (n : Int)) = ((2 * n : Nat) : Int) := by omega
  rw [this]; rfl
@[simp] theorem vI_2c1 (n : Nat) : vI (2 * (n : Int) + 1) = .p (2 * n + 1) := by
  have : (2 * (n : Int) + 1) = ((2 * n + 1 : Nat) : Int) := by omega
  rw [this]; rfl

/-! ### what an environment holds -/
def Has (e : Env) : List (Pth × V) → Prop
  | [] => True
  | p :: r => pget .bad p.1 e = p.2 ∧ Has e r
@[simp] theorem has_nil (e : Env) : Has e [] = True := rfl
@[simp] theorem has_cons (e : Env) (p : Pth) (v : V) (r : List (Pth × V)) : Has e ((p, v) :: r) = (pget .bad p e = v ∧ Has e r) := rfl

/-! ### a world in a state -/
structure Lay where
  q : Pth
  mem : Pth
  pl : Pth
  rt : Pth
  sy : Pth
  cl : Pth
/-- what a world holds: its memory (size, end, how many were made, words, places), its roots, its maps -/
structure Cont where
  N : Nat
  e : Nat
  made : Nat
  W : NT Int
  t : NT Bool
  rt : List Int
  sy : List Ent
  cs : Nat
  cl : List Ent
  cc : Nat
def Cont.m (L : Lay) (C : Cont) : Mem := ⟨.p C.N, C.e, C.made, C.W, L.pl⟩
structure At (L : Lay) (C : Cont) (s : St) : Prop where
  q : s.get L.q = .row [.ptr L.mem 0, .slc L.rt 0 18 true 18 1, .map L.sy, .map L.cl]
  mem : s.get L.mem = .mem (C.m L)
  pl : s.get L.pl = .set C.t
  rt : s.get L.rt = .row (C.rt.map vI)
  sy : s.get L.sy = .map C.sy C.cs
  cl : s.get L.cl = .map C.cl C.cc
  oq : num L.q < num s.next
  omem : num L.mem < num s.next
  opl : num L.pl < num s.next
  ort : num L.rt < num s.next
  osy : num L.sy < num s.next
  ocl : num L.cl < num s.next
  dq : L.q ≠ L.rt
  ds : L.sy ≠ L.cl
/-- the ids of a world that change -/
def Lay.of (L : Lay) (i : Pth) : Prop := i = L.mem ∨ i = L.pl ∨ i = L.rt ∨ i = L.sy ∨ i = L.cl
section
variable {L : Lay} {C : Cont} {s s' : St}
theorem At.d_mem_pl (h : At L C s) : L.mem ≠ L.pl := fun e => by have := h.mem; rw [e, h.pl] at this; cases this
theorem At.keep (h : At L C s) {X : Pth → Prop} (hk : Keep X s s') (hx : ∀ i, X i → i ≠ L.q ∧ ¬ L.of i) : At L C s' := by
  have hs : ∀ i, num i < num s.next → (i = L.q ∨ L.of i) → s'.get i = s.get i := fun i hi ho => hk.same i hi fun x => by
    have := hx i x
    rcases ho with ho | ho
    · exact this.1 ho
    · exact this.2 ho
  have hn := hk.next
  exact ⟨by rw [hs _ h.oq (.inl rfl)]; exact h.q, by rw [hs _ h.omem (.inr (.inl rfl))]; exact h.mem, by rw [hs _ h.opl (.inr (.inr (.inl rfl)))]; exact h.pl,
    by rw [hs _ h.ort (.inr (.inr (.inr (.inl rfl))))]; exact h.rt, by rw [hs _ h.osy (.inr (.inr (.inr (.inr (.inl rfl)))))]; exact h.sy, by rw [hs _ h.ocl (.inr (.inr (.inr (.inr (.inr rfl)))))]; exact h.cl,
    Nat.lt_of_lt_of_le h.oq hn, Nat.lt_of_lt_of_le h.omem hn, Nat.lt_of_lt_of_le h.opl hn, Nat.lt_of_lt_of_le h.ort hn, Nat.lt_of_lt_of_le h.osy hn, Nat.lt_of_lt_of_le h.ocl hn, h.dq, h.ds⟩
theorem At.push (h : At L C s) (o : AObj) : At L C (s.push o) := h.keep (X := fun _ => False) (Keep.push _ s o) (fun _ x => x.elim)
theorem At.set_new (h : At L C s) {id : Pth} (o : AObj) (hi : num s.next ≤ num id) : At L C (s.set id o) := h.keep (X := fun _ => False) (Keep.set s o (.inr hi)) (fun _ x => x.elim)
theorem At.set_other (h : At L C s) {id : Pth} (o : AObj) (h1 : id ≠ L.q) (h2 : ¬ L.of id) : At L C (s.set id o) :=
  h.keep (X := fun i => i = id) (Keep.set s o (.inl rfl)) (fun i x => by subst x; exact ⟨h1, h2⟩)
/-- the memory changes -/
theorem At.setMem (h : At L C s) (e made : Nat) (W : NT Int) : At L { C with e := e, made := made, W := W } (s.set L.mem (.mem ⟨.p C.N, e, made, W, L.pl⟩)) := by
  have d1 : L.q ≠ L.mem := fun x => by have := h.q; rw [x, h.mem] at this; cases this
  have d2 : L.pl ≠ L.mem := fun x => by have := h.pl; rw [x, h.mem] at this; cases this
  have d3 : L.rt ≠ L.mem := fun x => by have := h.rt; rw [x, h.mem] at this; cases this
  have d4 : L.sy ≠ L.mem := fun x => by have := h.sy; rw [x, h.mem] at this; cases this
  have d5 : L.cl ≠ L.mem := fun x => by have := h.cl; rw [x, h.mem] at this; cases this
  exact ⟨by rw [St.get_set_ne _ _ d1]; exact h.q, by rw [St.get_set_same]; rfl, by rw [St.get_set_ne _ _ d2]; exact h.pl, by rw [St.get_set_ne _ _ d3]; exact h.rt, by rw [St.get_set_ne _ _ d4]; exact h.sy, by rw [St.get_set_ne _ _ d5]; exact h.cl,
    h.oq, h.omem, h.opl, h.ort, h.osy, h.ocl, h.dq, h.ds⟩
theorem At.setPl (h : At L C s) (t : NT Bool) : At L { C with t := t } (s.set L.pl (.set t)) := by
  have d1 : L.q ≠ L.pl := fun x => by have := h.q; rw [x, h.pl] at this; cases this
  have d2 : L.mem ≠ L.pl := fun x => by have := h.mem; rw [x, h.pl] at this; cases this
  have d3 : L.rt ≠ L.pl := fun x => by have := h.rt; rw [x, h.pl] at this; cases this
  have d4 : L.sy ≠ L.pl := fun x => by have := h.sy; rw [x, h.pl] at this; cases this
  have d5 : L.cl ≠ L.pl := fun x => by have := h.cl; rw [x, h.pl] at this; cases this
  exact ⟨by rw [St.get_set_ne _ _ d1]; exact h.q, by rw [St.get_set_ne _ _ d2]; exact h.mem, by rw [St.get_set_same], by rw [St.get_set_ne _ _ d3]; exact h.rt, by rw [St.get_set_ne _ _ d4]; exact h.sy, by rw [St.get_set_ne _ _ d5]; exact h.cl,
    h.oq, h.omem, h.opl, h.ort, h.osy, h.ocl, h.dq, h.ds⟩
theorem At.setRt (h : At L C s) (l : List Int) : At L { C with rt := l } (s.set L.rt (.row (l.map vI))) := by
  have d1 : L.q ≠ L.rt := h.dq
  have d2 : L.mem ≠ L.rt := fun x => by have := h.mem; rw [x, h.rt] at this; cases this
  have d3 : L.pl ≠ L.rt := fun x => by have := h.pl; rw [x, h.rt] at this; cases this
  have d4 : L.sy ≠ L.rt := fun x => by have := h.sy; rw [x, h.rt] at this; cases this
  have d5 : L.cl ≠ L.rt := fun x => by have := h.cl; rw [x, h.rt] at this; cases this
  exact ⟨by rw [St.get_set_ne _ _ d1]; exact h.q, by rw [St.get_set_ne _ _ d2]; exact h.mem, by rw [St.get_set_ne _ _ d3]; exact h.pl, by rw [St.get_set_same], by rw [St.get_set_ne _ _ d4]; exact h.sy, by rw [St.get_set_ne _ _ d5]; exact h.cl,
    h.oq, h.omem, h.opl, h.ort, h.osy, h.ocl, h.dq, h.ds⟩
theorem At.setSy (h : At L C s) (l : List Ent) (c : Nat) : At L { C with sy := l, cs := c } (s.set L.sy (.map l c)) := by
  have d1 : L.q ≠ L.sy := fun x => by have := h.q; rw [x, h.sy] at this; cases this
  have d2 : L.mem ≠ L.sy := fun x => by have := h.mem; rw [x, h.sy] at this; cases this
  have d3 : L.pl ≠ L.sy := fun x => by have := h.pl; rw [x, h.sy] at this; cases this
  have d4 : L.rt ≠ L.sy := fun x => by have := h.rt; rw [x, h.sy] at this; cases this
  have d5 : L.cl ≠ L.sy := h.ds.symm
  exact ⟨by rw [St.get_set_ne _ _ d1]; exact h.q, by rw [St.get_set_ne _ _ d2]; exact h.mem, by rw [St.get_set_ne _ _ d3]; exact h.pl, by rw [St.get_set_ne _ _ d4]; exact h.rt, by rw [St.get_set_same], by rw [St.get_set_ne _ _ d5]; exact h.cl,
    h.oq, h.omem, h.opl, h.ort, h.osy, h.ocl, h.dq, h.ds⟩
theorem At.setCl (h : At L C s) (l : List Ent) (c : Nat) : At L { C with cl := l, cc := c } (s.set L.cl (.map l c)) := by
  have d1 : L.q ≠ L.cl := fun x => by have := h.q; rw [x, h.cl] at this; cases this
  have d2 : L.mem ≠ L.cl := fun x => by have := h.mem; rw [x, h.cl] at this; cases this
  have d3 : L.pl ≠ L.cl := fun x => by have := h.pl; rw [x, h.cl] at this; cases this
  have d4 : L.rt ≠ L.cl := fun x => by have := h.rt; rw [x, h.cl] at this; cases this
  have d5 : L.sy ≠ L.cl := h.ds
  exact ⟨by rw [St.get_set_ne _ _ d1]; exact h.q, by rw [St.get_set_ne _ _ d2]; exact h.mem, by rw [St.get_set_ne _ _ d3]; exact h.pl, by rw [St.get_set_ne _ _ d4]; exact h.rt, by rw [St.get_set_ne _ _ d5]; exact h.sy, by rw [St.get_set_same],
    h.oq, h.omem, h.opl, h.ort, h.osy, h.ocl, h.dq, h.ds⟩
theorem Lay.of_mem (L : Lay) : L.of L.mem := .inl rfl
theorem Lay.of_pl (L : Lay) : L.of L.pl := .inr (.inl rfl)
theorem Lay.of_rt (L : Lay) : L.of L.rt := .inr (.inr (.inl rfl))
theorem Lay.of_sy (L : Lay) : L.of L.sy := .inr (.inr (.inr (.inl rfl)))
theorem Lay.of_cl (L : Lay) : L.of L.cl := .inr (.inr (.inr (.inr rfl)))
end
end Viv
