/-
  KINDS OF OPERATIONS: pure, reading, making a row, loud; rows made late; ghosts.
-/
import Derived.Test.YtfppefhcmmfgcaaGreatActJ
namespace Viv
open Go (Value World IntKind Addr Program Act Exit Oper Operand Ending undef)

inductive Kind where | pure | load | alloc | loud
  deriving DecidableEq
def kindOf : Go.Op → Kind
  | .move _ => .pure
  | .assign _ => .pure
  | .pick _ _ _ => .pure
  | .build _ _ => .pure
  | .nilCheck _ => .pure
  | .binOp _ _ _ _ _ => .pure
  | .unOp .not _ _ => .pure
  | .unOp .neg _ _ => .pure
  | .slice _ _ _ _ _ => .pure
  | .fieldAddr _ _ _ => .pure
  | .field _ _ _ => .pure
  | .indexAddr _ _ _ => .pure
  | .index _ _ _ => .pure
  | .extract _ _ => .pure
  | .makeFunc (.func _) _ _ => .pure
  | .load _ _ => .load
  | .lookup _ _ _ _ => .load
  | .convert _ _ _ => .load
  | .alloc _ => .alloc
  | .box _ _ => .alloc
  | .buildSlice _ _ _ => .alloc
  | .call c => match c.callee with
    | .builtin .len => .load
    | _ => .loud
  | _ => .loud

section
variable {β : Beta} {P : Program} {s : St} {w : World}

theorem aBuild_form (P : Program) (t : Nat) (ps : List (Nat × Operand)) (ρ : Operand → V) : ∃ g : KV → RC, ∀ s k, aBuild P t ps ρ s k = g (fun v => k v s) :=
  ⟨fun kv => aBuild P t ps ρ ⟨.mt, .h⟩ (fun v _ => kv v), fun s k => by
    rfl⟩

theorem pure_form {op : Go.Op} (hk : kindOf op = .pure) (P : Program) (c : CF) (ρ : Operand → V) : ∃ g : KV → RC, ∀ s k, act P op c ρ s k = g (fun v => k v s) := by
  cases op <;> first | (simp only [kindOf, reduceCtorEq] at hk; done) | skip
  case move x => exact ⟨fun kv => kv (ρ x), fun s k => rfl⟩
  case assign x => exact ⟨fun kv => kv (ρ x), fun s k => rfl⟩
  case pick a b d => exact ⟨pickK (ρ a) (ρ b) (ρ d), fun s k => rfl⟩
  case build t ps => exact aBuild_form P t ps.toList ρ
  case nilCheck x => exact ⟨nilcK (ρ x), fun s k => rfl⟩
  case binOp b t x y ty => exact ⟨aBin P b t (ρ x) (ρ y), fun s k => rfl⟩
  case unOp b t x => cases b <;> first | (simp only [kindOf, reduceCtorEq] at hk; done) | exact ⟨notK (ρ x), fun s k => rfl⟩ | exact ⟨negK (ρ x), fun s k => rfl⟩
  case slice t x lo hi mx => exact ⟨aSl P t (ρ x) (lo.map ρ) (hi.map ρ) (mx.map ρ), fun s k => rfl⟩
  case fieldAddr t x n => exact ⟨aFad P t n (ρ x), fun s k => rfl⟩
  case field t x n => exact ⟨aFld P t n (ρ x), fun s k => rfl⟩
  case indexAddr t x i => exact ⟨aIad P t (ρ x) (ρ i), fun s k => rfl⟩
  case index t x i => exact ⟨aIdx P t (ρ x) (ρ i), fun s k => rfl⟩
  case extract x j => exact ⟨extK (ρ x) j, fun s k => rfl⟩
  case makeFunc f a b =>
    cases f <;> first | (simp only [kindOf, reduceCtorEq] at hk; done) | skip
    case func g =>
      cases hg : Nat.beq (num (pthF 20 g)) g with
      | true => exact ⟨fun kv => kv (.fn (pthF 20 g) (a.toList.map ρ) (b.toList.map ρ)), fun s k => by simp only [act, hg]⟩
      | false => exact ⟨fun _ => fl, fun s k => by simp only [act, hg]⟩
  case call d =>
    simp only [kindOf] at hk
    split at hk <;> cases hk

theorem load_form {op : Go.Op} (hk : kindOf op = .pure ∨ kindOf op = .load) (P : Program) (c : CF) (ρ : Operand → V) : ∃ g : St → KV → RC, ∀ s k, act P op c ρ s k = g s (fun v => k v s) := by
  rcases hk with hk | hk
  · obtain ⟨g, hg⟩ := pure_form hk P c ρ
    exact ⟨fun _ => g, hg⟩
  · cases op <;> first | (simp only [kindOf, reduceCtorEq] at hk; done) | skip
    case load t a => exact ⟨fun s => aLoad P t (ρ a) s, fun s k => rfl⟩
    case lookup t x i ok => exact ⟨fun s => aLook P t (ρ x) (ρ i) ok s, fun s k => rfl⟩
    case convert src dst x => exact ⟨fun s => aConv P src dst (ρ x) s, fun s k => rfl⟩
    case unOp b t x => cases b <;> simp only [kindOf, reduceCtorEq] at hk
    case makeFunc f a b => cases f <;> simp only [kindOf, reduceCtorEq] at hk
    case call d =>
      obtain ⟨callee, args, argTypes⟩ := d
      cases callee with
      | invoke r m => simp only [kindOf, reduceCtorEq] at hk
      | value f => simp only [kindOf, reduceCtorEq] at hk
      | builtin b =>
        cases b <;> first | (simp only [kindOf, reduceCtorEq] at hk; done) | skip
        obtain ⟨args⟩ := args; obtain ⟨argTypes⟩ := argTypes
        rcases argTypes with _ | ⟨t, _ | ⟨t2, r⟩⟩ <;> rcases args with _ | ⟨x, _ | ⟨y, r2⟩⟩ <;> first | exact ⟨fun _ _ => fl, fun s k => rfl⟩ | skip
        exact ⟨fun s => aLen P t (ρ x) s, fun s k => rfl⟩

/-- a pure step is the same in every state -/
theorem StepOk.pure {c : CF} {ops : Array Oper} {o : Oper} (hk : kindOf o.op = .pure) {ρ : Rho} {v : V} {s s' : St} (h : StepOk P c ops o ρ s v s') (s2 : St) : StepOk P c ops o ρ s2 v s2 := by
  rcases h.it with ⟨hg, ha⟩ | ⟨hg, hv, _⟩
  · refine ⟨.inl ⟨hg, fun k => ?_⟩⟩
    obtain ⟨g, hf⟩ := pure_form hk P c (val ρ)
    have := ha (fun v _ => k v s2)
    rw [hf] at this ⊢; exact this
  · exact ⟨.inr ⟨hg, hv, rfl⟩⟩
/-- a reading step leaves the state -/
theorem StepOk.load {c : CF} {ops : Array Oper} {o : Oper} (hk : kindOf o.op = .pure ∨ kindOf o.op = .load) {ρ : Rho} {v : V} {s s' : St} (h : StepOk P c ops o ρ s v s') : StepOk P c ops o ρ s v s := by
  rcases h.it with ⟨hg, ha⟩ | ⟨hg, hv, _⟩
  · refine ⟨.inl ⟨hg, fun k => ?_⟩⟩
    obtain ⟨g, hf⟩ := load_form hk P c (val ρ)
    have := ha (fun v _ => k v s)
    rw [hf] at this ⊢; exact this
  · exact ⟨.inr ⟨hg, hv, rfl⟩⟩
theorem StepOk.stays {c : CF} {ops : Array Oper} {o : Oper} (hk : kindOf o.op = .pure ∨ kindOf o.op = .load) {ρ : Rho} {v : V} {s s' : St} (h : StepOk P c ops o ρ s v s') : s' = s := by
  have h2 := StepOk.load hk h
  rcases h.it with ⟨hg, ha⟩ | ⟨hg, hv, hs⟩
  · rcases h2.it with ⟨_, hb⟩ | ⟨hg2, _⟩
    · exact (uniq ha hb).2
    · rw [hg] at hg2; cases hg2
  · exact hs

/-! ### rows that are made -/
structure NewRow (β : Beta) (o : AObj) (cells : List Value) : Prop where
  it : ∃ n, Viv.isRow o = some n ∧ (∀ d t m z, o = .vec d t m z → m ≤ 2 ^ d) ∧ n ≤ cells.length ∧ ∀ i, i < n → ∃ x : Value, cells[i]? = some x ∧ x.oneCell' = true ∧ VRel β (rdObj o i) x

/-- a ghost: an abstract row with no block yet -/
theorem Sim.ghost (h : Sim β s w) (o : AObj) : Sim β (s.push o) w := by
  have hlt : ∀ id l, β id = some l → id ≠ s.next := fun id l hb e => by subst e; rw [h.next_none] at hb; cases hb
  refine ⟨fun id l hid => by rw [St.num_push]; have := h.fresh id l hid; omega, fun id l hid => ?_, fun id id' l l' h1 h2 g1 g2 hne => ?_⟩
  · rw [St.get_push, if_neg (hlt id l hid)]; exact h.obj id l hid
  · rw [St.get_push, if_neg (hlt id l h1)] at g1
    rw [St.get_push, if_neg (hlt id' l' h2)] at g2
    exact h.disj id id' l l' h1 h2 g1 g2 hne
theorem Post.ghostPush {β0 : Beta} {s0 : St} {w0 : World} (h : Post β0 s0 w0 β s w) (hf : ∀ id l, β0 id = some l → num id < num s0.next) (o : AObj) : Post β0 s0 w0 β (s.push o) w := by
  refine ⟨h.le, h.size, by rw [St.num_push]; have := h.next; omega, h.keep, h.new, fun id hne hn => ?_, fun id hlt hn => ?_, h.tape, h.os, h.output⟩
  · have e : id ≠ s.next := fun e => by
      subst e
      cases hb : β0 s.next with
      | none => exact hne hb
      | some l => have := hf _ _ hb; have := h.next; omega
    rw [St.get_push, if_neg e]; exact h.dead id hne hn
  · have e : id ≠ s.next := fun e => by subst e; have := h.next; omega
    rw [St.get_push, if_neg e]; exact h.ghost id hlt hn

/-- a ghost gets its block -/
theorem Sim.born (h : Sim β s w) {id : Pth} {o : AObj} (hid : β id = none) (hlt : num id < num s.next) (ho : s.get id = o) {cells : List Value} (hn : NewRow β o cells) (e : Nat) :
    Sim (β.ext id (.row w.heap.size 0 cells.length)) s (w.alloc (.cells cells.toArray e)) := by
  have hle : β.le (β.ext id (.row w.heap.size 0 cells.length)) := Beta.le_ext hid
  have hblk : ∀ i l, β i = some l → s.get i ≠ .none → ∀ b ∈ l.blocks, b < w.heap.size := fun i l hb hne => (h.obj i l hb).lt hne
  have hold : ∀ b, b < w.heap.size → (w.alloc (.cells cells.toArray e)).heap[b]? = w.heap[b]? := fun b hb => Go.heap_alloc_old w _ b hb
  refine ⟨fun i l hi => ?_, fun i l hi => ?_, fun i i' l l' h1 h2 g1 g2 hne b hb1 hb2 => ?_⟩
  · by_cases c : i = id
    · subst c; exact hlt
    · rw [Beta.ext_ne _ _ c] at hi; exact h.fresh i l hi
  · by_cases c : i = id
    · subst c; rw [Beta.ext_same] at hi; cases hi
      rw [ho]
      obtain ⟨n, a1, a2, a3, a4⟩ := hn.it
      refine ObjRel.of_isRow a1 ⟨_, e, Go.heap_alloc_new w _, by simp, by omega, fun j hj => ?_⟩ a2
      obtain ⟨x, b1, b2, b3⟩ := a4 j hj
      exact ⟨x, by simpa using b1, b2, b3.mono hle⟩
    · rw [Beta.ext_ne _ _ c] at hi
      by_cases hl : s.get i = .none
      · rw [hl]; cases l <;> trivial
      · exact ((h.obj i l hi).world (fun b hb => hold b (hblk i l hi hl b hb))).mono hle
  · by_cases c : i = id
    · subst c; rw [Beta.ext_same] at h1; cases h1
      have c' : i' ≠ i := fun e => hne e.symm
      rw [Beta.ext_ne _ _ c'] at h2
      have := hblk i' l' h2 g2 b hb2
      simp only [Loc.blocks, List.mem_singleton] at hb1
      omega
    · rw [Beta.ext_ne _ _ c] at h1
      by_cases c' : i' = id
      · subst c'; rw [Beta.ext_same] at h2; cases h2
        have := hblk i l h1 g1 b hb1
        simp only [Loc.blocks, List.mem_singleton] at hb2
        omega
      · rw [Beta.ext_ne _ _ c'] at h2
        exact h.disj i i' l l' h1 h2 g1 g2 hne b hb1 hb2
theorem Post.born {β0 : Beta} {s0 : St} {w0 : World} (h : Post β0 s0 w0 β s w) {id : Pth} (hid : β id = none) (hge : num s0.next ≤ num id) {cells : List Value} (e : Nat) :
    Post β0 s0 w0 (β.ext id (.row w.heap.size 0 cells.length)) s (w.alloc (.cells cells.toArray e)) := by
  refine ⟨Beta.le_trans h.le (Beta.le_ext hid), by simp; have := h.size; omega, h.next, fun b hb hl => ?_, fun i l h1 h2 => ?_, h.dead, h.ghost, h.tape, h.os, h.output⟩
  · rw [Go.heap_alloc_old w _ b (Nat.lt_of_lt_of_le hb h.size)]; exact h.keep b hb hl
  · by_cases c : i = id
    · subst c; rw [Beta.ext_same] at h1; cases h1
      exact ⟨hge, fun b hb => .inl (by simp only [Loc.blocks, List.mem_singleton] at hb; have := h.size; omega)⟩
    · rw [Beta.ext_ne _ _ c] at h1; exact h.new i l h1 h2

theorem NewRow.of_list {l : L} {xs : List Value} (hr : VRels β l xs) (h1 : ∀ x ∈ xs, x.oneCell' = true) : NewRow β (.row l) xs :=
  ⟨l.length, rfl, (fun _ _ _ _ e => by cases e), by rw [hr.length]; exact Nat.le_refl _, fun i hi => by
    obtain ⟨x, a, b⟩ := hr.get i _ (List.getElem?_eq_getElem hi)
    exact ⟨x, a, h1 x (List.mem_of_getElem? a), by rw [rdObj_row, nth_eq, List.getElem?_eq_getElem hi]; exact b⟩⟩
theorem NewRow.of_vec {l : L} {xs : List Value} (hr : VRels β l xs) (h1 : ∀ x ∈ xs, x.oneCell' = true) : NewRow β (mkVec l) xs :=
  ⟨l.length, mkVec_row l, mkVec_ok l, by rw [hr.length]; exact Nat.le_refl _, fun i hi => by
    obtain ⟨x, a, b⟩ := hr.get i _ (List.getElem?_eq_getElem hi)
    exact ⟨x, a, h1 x (List.mem_of_getElem? a), by rw [mkVec_rd l i hi, List.getElem?_eq_getElem hi]; exact b⟩⟩

/-! ### what an operation that makes a row does -/
theorem cellsK_form (x : V) : (∀ k, cellsK x k = fl) ∨ ∃ l, ∀ k, cellsK x k = k l := by
  cases x <;> first | exact .inl fun k => rfl | exact .inr ⟨_, fun k => rfl⟩
theorem uniqL {g : (L → RC) → RC} {l l' : L} (h : ∀ k, g k = k l) (h' : ∀ k, g k = k l') : l = l' := by
  have := (h (fun l => .ret (.n .mt .mt (.agg l)) ⟨.mt, .h⟩)).symm.trans (h' _)
  simp only [RC.ret.injEq, Tr.n.injEq, V.agg.injEq, true_and, and_true] at this
  exact this
theorem not_failL {g : (L → RC) → RC} {l : L} (h : ∀ k, g k = k l) (h' : ∀ k, g k = fl) : False := by
  have := (h (fun l => .ret .mt ⟨.mt, .h⟩)).symm.trans (h' _)
  cases this
theorem partsV_form : ∀ (ps : List (Nat × Nat × Opd)) (t : L) (e : Env) (z : L), (∀ k, partsV ps t e z k = fl) ∨ ∃ l, ∀ k, partsV ps t e z k = k l
  | [], t, e, z => .inr ⟨z, fun k => rfl⟩
  | p :: ps, t, e, z => by
    rcases cellsK_form (p.2.2 t e) with hf | ⟨l, hl⟩
    · exact .inl fun k => by rw [partsV_cons, hf]
    · by_cases hc : l.length = p.2.1 ∧ p.1 + l.length ≤ z.length
      · rcases partsV_form ps t e (lsetMany l p.1 z) with hf | ⟨m, hm⟩
        · exact .inl fun k => by rw [partsV_cons, hl, if_pos hc, hf]
        · exact .inr ⟨m, fun k => by rw [partsV_cons, hl, if_pos hc, hm]⟩
      · exact .inl fun k => by rw [partsV_cons, hl, if_neg hc]

/-- the parts of an operation that makes one row -/
structure Makes (P : Program) (c : CF) (o : Oper) (ρ : Operand → V) (f : Pth → V) (obj : AObj) : Prop where
  act : ∀ s k, act P o.op c ρ s k = k (f s.next) (s.push obj)
  run : ∀ (β : Beta) (s : St) (w : World) (ρ' : Operand → Value), Sim β s w → (∀ x ∈ o.op.operands, VRel β (ρ x) (ρ' x)) → ∃ cells el x, (Go.execOp ρ' o).run P w = .ok (.value x) (w.alloc (.cells (List.toArray cells) el)) ∧ NewRow β obj cells ∧
    ∀ (β' : Beta) id, β' id = some (.row w.heap.size 0 cells.length) → VRel β' (f id) x

theorem slc_new {β' : Beta} {id : Pth} {b n m es _sz : Nat} (h : β' id = some (.row b 0 m)) (hm : n * es ≤ m) (hn : n < 281474976710656) : VRel β' (.slc id 0 n true n es) (.slice (some ⟨b, 0, none⟩) n n) := by
  have := VRel.slc (β := β') id 0 n true n es b 0 m n h (Nat.le_refl _) (Nat.le_refl _) (fun _ => rfl) (by omega) hn
  simpa using this

theorem fill_size : ∀ (qs : List (Nat × Value)) (zc cells : Array Value) (pl : Nat → Option (Nat × Nat)), Go.Instr.fill pl zc qs = some cells → cells.size = zc.size := by
  intro qs
  induction qs with
  | nil => intro zc cells pl hf; simp [Go.Instr.fill] at hf; rw [hf]
  | cons q qs ih =>
    intro zc cells pl hf
    obtain ⟨i, v⟩ := q
    simp only [Go.Instr.fill] at hf
    cases hpl : pl i with
    | none => rw [hpl] at hf; cases hf
    | some os =>
      obtain ⟨o, sz⟩ := os
      rw [hpl] at hf
      simp only at hf
      split at hf
      · cases hf
      · rw [ih _ _ _ hf]
        have hs : ∀ (r : List (Value × Nat)) (c : Array Value), (r.foldl (fun cs (p : Value × Nat) => cs.setIfInBounds (o + p.2) p.1) c).size = c.size := by
          intro r
          induction r with
          | nil => intro c; rfl
          | cons y r ih => intro c; rw [List.foldl_cons, ih]; simp
        rw [← Array.foldl_toList]; exact hs _ _

theorem makes_of (P : Program) (c : CF) {o : Oper} (hk : kindOf o.op = .alloc) (ρ : Operand → V) : (∀ s k, Viv.act P o.op c ρ s k = fl) ∨ ∃ f obj, Makes P c o ρ f obj := by
  cases hop : o.op <;> rw [hop] at hk <;> first | (simp only [kindOf, reduceCtorEq] at hk; done) | skip
  case alloc t =>
    cases hi : P.info? t with
    | none => exact .inl fun s k => by simp only [Viv.act, aAlloc, hi]
    | some i =>
      cases hz : i.zero with
      | none => exact .inl fun s k => by simp only [Viv.act, aAlloc, hi, hz]
      | some z =>
        cases hl : zeroL z with
        | none => exact .inl fun s k => by simp only [Viv.act, aAlloc, hi, hz, hl]
        | some l =>
          refine .inr ⟨fun id => .ptr id 0, .row l, fun s k => by rw [hop]; simp only [Viv.act, aAlloc, hi, hz, hl], fun β s w ρ' hs hr => ⟨z.cells.toList, t, .pointer (some ⟨w.heap.size, 0, none⟩), ?_, ?_, ?_⟩⟩
          · simp only [Go.execOp, hop, Go.Instr.alloc]
            simp [Go.zeroValue, Go.typeInfo, hi, hz, Go.newVar, Go.newRow]
          · obtain ⟨h1, h2⟩ := zeroL_rel (β := β) hl
            exact .of_list h1 h2
          · intro β' id hid; have := VRel.ptr (β := β') id 0 _ _ _ hid; simpa using this
  case box t x =>
    rcases cellsK_form (ρ x) with hf | ⟨l, hl⟩
    · exact .inl fun s k => by show cellsK (ρ x) _ = _; exact hf _
    · refine .inr ⟨fun id => .ptr id 0, .row l, fun s k => by rw [hop]; show cellsK (ρ x) _ = _; exact hl _, fun β s w ρ' hs hr => ?_⟩
      rw [hop] at hr
      rcases cellsK_out (hr x (by simp [Go.Op.operands])) with hf | ⟨l2, hl2, hrel, h1⟩
      · exact (not_failL hl hf).elim
      · have := uniqL hl hl2; subst this
        refine ⟨(ρ' x).cells.toList, t, .pointer (some ⟨w.heap.size, 0, none⟩), ?_, .of_list hrel h1, ?_⟩
        · simp only [Go.execOp, hop]
          simp [Go.Instr.box, Go.newVar, Go.newRow]
        · intro β' id hid; have := VRel.ptr (β := β') id 0 _ _ _ hid; simpa using this
  case buildSlice t n ps =>
    cases hu : P.underlying t with
    | none => exact .inl fun s k => by simp only [Viv.act, aBslice, hu]
    | some d =>
      cases d <;> first | (refine .inl fun s k => ?_; simp only [Viv.act, aBslice, hu]; done) | skip
      case slice el =>
      cases hi : P.info? el with
      | none => exact .inl fun s k => by simp only [Viv.act, aBslice, hu, hi]
      | some i =>
        cases hz : i.zero with
        | none => exact .inl fun s k => by simp only [Viv.act, aBslice, hu, hi, hz]
        | some z =>
          cases hl : zeroL z with
          | none => exact .inl fun s k => by simp only [Viv.act, aBslice, hu, hi, hz, hl]
          | some l =>
            cases hc : okBs i.size (len l) n with
            | false => exact .inl fun s k => by simp only [Viv.act, aBslice, hu, hi, hz, hl, hc]
            | true =>
              obtain ⟨e1, e2, e3⟩ := okBs_spec hc
              rw [len_eq] at e1 e2 e3
              rcases partsV_form (elemsL (len l) ρ ps.toList) [] .mt (repL n l) with hf | ⟨m, hm⟩
              · exact .inl fun s k => by simp only [Viv.act, aBslice, hu, hi, hz, hl, hc]; exact hf _
              · refine .inr ⟨fun id => .slc id 0 n true n (len l), mkVec m, fun s k => by rw [hop]; simp only [Viv.act, aBslice, hu, hi, hz, hl, hc]; exact hm _, fun β s w ρ' hs hr => ?_⟩
                rw [hop] at hr
                obtain ⟨h1, h2⟩ := zeroL_rel (β := β) hl
                have hrel := elemsL_rel (β := β) (n := l.length) (ps := ps.toList) (ρ := ρ) (ρ' := ρ') fun p hp => hr p.2 (by simp only [Go.Op.operands]; exact List.mem_toArray.2 (List.mem_map.2 ⟨p, hp, rfl⟩))
                have hzl := h1.length
                simp at hzl
                rcases partsV_out hrel (repL_rel h1 n) (rep_one h2 n (.inr (by omega))) with hf | ⟨m2, cells, hm2, hfill, hrl, hone⟩
                · rw [len_eq] at hm; exact (not_failL hm hf).elim
                · rw [len_eq] at hm
                  have := uniqL hm hm2; subst this
                  have hsize := fill_size _ _ _ _ hfill
                  simp at hsize
                  refine ⟨cells.toList, el, .slice (some ⟨w.heap.size, 0, none⟩) n n, ?_, .of_vec hrl hone, ?_⟩
                  · have hng : ¬ (n * l.length > 2 ^ 24) := by omega
                    have hfill' : Go.Instr.fill (fun i => some (i * l.length, l.length)) (Array.map (fun x => z.cells[x % z.cells.size]!) (Array.range (n * l.length))) (ps.map fun (i, x) => (i, ρ' x)).toList = some cells := by
                      rw [hzl]; rw [hzl] at hfill; rw [Array.toList_map]; exact hfill
                    have hsz : (P.info? el).map (·.size) = some l.length := by rw [hi]; simp [e1]
                    have hrun : (Go.Instr.buildSlice t n (ps.map fun (i, x) => (i, ρ' x))).run P w = .ok (.slice (some ⟨w.heap.size, 0, none⟩) n n) (w.alloc (.cells cells el)) := by
                      by_cases hn0 : n = 0
                      · subst hn0
                        have hfill0 : Go.Instr.fill (fun i => some (i * l.length, l.length)) #[] (List.map (fun x => (x.fst, ρ' x.snd)) ps.toList) = some cells := by simpa [show Array.range 0 = #[] from rfl] using hfill'
                        simp [Go.Instr.buildSlice, run_und hu, run_sizeOf hsz, Go.newRow]
                        rw [show Array.map (fun _ => (default : Value)) (Array.range 0) = #[] by apply Array.ext <;> simp [show Array.range 0 = #[] from rfl], hfill0]; simp
                      · have hnz : ¬ (n * l.length = 0) := by have := Nat.mul_ne_zero hn0 (by omega : l.length ≠ 0); exact this
                        simp [Go.Instr.buildSlice, run_und hu, run_sizeOf hsz, hng, hnz, Go.zeroValue, Go.typeInfo, hi, hz, Go.newRow] 
                        have hf2 : Go.Instr.fill (fun i => some (i * l.length, l.length)) (Array.map (fun x => z.cells[x % z.cells.size]!) (Array.range (n * l.length))) (List.map (fun x => (x.fst, ρ' x.snd)) ps.toList) = some cells := by simpa using hfill'
                        rw [hf2]; simp
                    simp only [Go.execOp, hop]
                    rw [Go.Sem.run_bind, hrun]; simp
                  · intro β' id hid
                    rw [len_eq]
                    refine slc_new (_sz := 0) hid ?_ ?_
                    · simp [hsize, hzl]
                    · have : n ≤ n * l.length := Nat.le_mul_of_pos_right _ e3
                      omega
  case unOp b t x => cases b <;> simp only [kindOf, reduceCtorEq] at hk
  case makeFunc f a b => cases f <;> simp only [kindOf, reduceCtorEq] at hk
  case call d =>
    simp only [kindOf] at hk
    split at hk <;> cases hk
end
end Viv

/-
  A REGION IN ANY ORDER.
-/
namespace Viv
open Go (Value World IntKind Addr Program Act Exit Oper Operand Ending undef)

inductive Item where | op (i : Nat) | re (i : Nat)
  deriving DecidableEq
/-- what changes the state -/
def changing (o : Oper) : Prop := kindOf o.op = .alloc ∨ kindOf o.op = .loud
def still (o : Oper) : Prop := kindOf o.op = .pure ∨ kindOf o.op = .load
theorem still_or (o : Oper) : still o ∨ changing o := by
  unfold still changing
  cases kindOf o.op <;> simp
def bound (e : Go.Edge) : Prop := Go.Region.binds .any e = true

structure PlanOk (ops : Array Oper) (plan : List Item) (pos : Nat → Nat) (anc : Nat → Nat → Prop) (n : Nat) : Prop where
  at_ : ∀ i, i < ops.size → plan[pos i]? = some (Item.op i)
  only : ∀ (m i : Nat), plan[m]? = some (Item.op i) → i < ops.size ∧ pos i = m
  reOnly : ∀ (m i : Nat), plan[m]? = some (Item.re i) → i < ops.size
  dst : ∀ (i : Nat) o, ops[i]? = some o → ∀ d, o.dst = some d → d < n
  dep : ∀ (i : Nat) o, ops[i]? = some o → ∀ e ∈ o.after, bound e → e.on < ops.size ∧ pos e.on < pos i
  anc_ok : ∀ x i, anc x i → ∃ o, ops[x]? = some o ∧ ∃ e ∈ o.after, bound e ∧ (e.on = i ∨ anc e.on i)
  apart : ∀ (i x : Nat) oi ox, ops[i]? = some oi → ops[x]? = some ox → pos i < pos x → ¬ anc x i → oi.apart ops ox = true
  louds : ∀ (i x : Nat) oi ox, ops[i]? = some oi → ops[x]? = some ox → pos i < pos x → kindOf oi.op = .loud → changing ox → anc x i
  last : ∀ (i x : Nat) oi ox, ops[i]? = some oi → ops[x]? = some ox → pos i < pos x → changing oi → kindOf ox.op = .load → anc x i ∨ ∃ z oz, ops[z]? = some oz ∧ changing oz ∧ pos i < pos z ∧ pos z < pos x ∧ anc x z
  re : ∀ (i y : Nat) oi oy, ops[i]? = some oi → ops[y]? = some oy → kindOf oi.op = .load → changing oy → pos i < pos y → ¬ anc y i → ∃ m, pos y < m ∧ plan[m]? = some (Item.re i) ∧
    (∀ (z : Nat) oz, ops[z]? = some oz → changing oz → ¬ (pos y < pos z ∧ pos z < m)) ∧ (∀ (x : Nat) ox d, ops[x]? = some ox → pos i ≤ pos x → pos x < m → ox.dst = some d → d ∉ oi.looksAt ops)

/-- the canonical run -/
structure Flat (P : Program) (c : CF) (ops : Array Oper) (plan : List Item) (vals : Nat → V) (rho : Nat → Rho) (st : Nat → St) : Prop where
  op : ∀ (m i : Nat) o, plan[m]? = some (Item.op i) → ops[i]? = some o → StepOk P c ops o (rho m) (st m) (vals i) (st (m + 1)) ∧ rho (m + 1) = putR (rho m) o.dst (vals i)
  re : ∀ (m i : Nat) o, plan[m]? = some (Item.re i) → ops[i]? = some o → ((∃ s2, StepOk P c ops o (rho m) (st m) (vals i) s2) ∨ gA ops o (rho m) = some false) ∧ st (m + 1) = st m ∧ rho (m + 1) = rho m

section
variable {P : Program} {c : CF} {ops : Array Oper} {plan : List Item} {vals : Nat → V} {rho : Nat → Rho} {st : Nat → St} {pos : Nat → Nat} {anc : Nat → Nat → Prop} {n : Nat}

/-! ### congruence -/
theorem placesL_congr {pl : List (Nat × Nat)} {ρ ρ' : Operand → V} : ∀ {ps : List (Nat × Operand)}, (∀ p ∈ ps, ρ p.2 = ρ' p.2) → placesL pl ρ ps = placesL pl ρ' ps
  | [], _ => rfl
  | (i, x) :: ps, h => by
    simp only [placesL]
    rw [placesL_congr (ps := ps) fun p hp => h p (by simp [hp])]
    have := h (i, x) (by simp)
    simp only at this
    simp only [this]
theorem elemsL_congr {n : Nat} {ρ ρ' : Operand → V} : ∀ {ps : List (Nat × Operand)}, (∀ p ∈ ps, ρ p.2 = ρ' p.2) → elemsL n ρ ps = elemsL n ρ' ps
  | [], _ => rfl
  | (i, x) :: ps, h => by
    simp only [elemsL]
    rw [elemsL_congr (ps := ps) fun p hp => h p (by simp [hp])]
    have := h (i, x) (by simp)
    simp only at this
    simp only [this]
theorem map_congrL {ρ ρ' : Operand → V} {l : List Operand} (h : ∀ x ∈ l, ρ x = ρ' x) : l.map ρ = l.map ρ' := List.map_congr_left h
theorem act_congr (P : Program) (c : CF) {op : Go.Op} {ρ ρ' : Operand → V} (h : ∀ x ∈ op.operands, ρ x = ρ' x) (s : St) (k : K) : act P op c ρ s k = act P op c ρ' s k := by
  cases op <;> first | rfl | skip
  case build t ps =>
    have : ∀ pl, placesL pl ρ ps.toList = placesL pl ρ' ps.toList := fun pl => placesL_congr fun p hp => h p.2 (by simp only [Go.Op.operands]; exact List.mem_toArray.2 (List.mem_map.2 ⟨p, hp, rfl⟩))
    simp only [act, aBuild, this]
  case buildSlice t n ps =>
    have : ∀ m, elemsL m ρ ps.toList = elemsL m ρ' ps.toList := fun pl => elemsL_congr fun p hp => h p.2 (by simp only [Go.Op.operands]; exact List.mem_toArray.2 (List.mem_map.2 ⟨p, hp, rfl⟩))
    simp only [act, aBslice, this]
  case makeFunc f a b =>
    have h1 : a.toList.map ρ = a.toList.map ρ' := map_congrL fun x hx => h x (by simp [Go.Op.operands]; exact .inl (by simpa using hx))
    have h2 : b.toList.map ρ = b.toList.map ρ' := map_congrL fun x hx => h x (by simp [Go.Op.operands]; exact .inr (by simpa using hx))
    cases f <;> first | rfl | skip
    simp only [act, h1, h2]
  case slice t x lo hi mx =>
    have h1 : lo.map ρ = lo.map ρ' := by cases lo with | none => rfl | some y => simp only [Option.map_some]; rw [h y (by simp [Go.Op.operands])]
    have h2 : hi.map ρ = hi.map ρ' := by cases hi with | none => rfl | some y => simp only [Option.map_some]; rw [h y (by simp [Go.Op.operands])]
    have h3 : mx.map ρ = mx.map ρ' := by cases mx with | none => rfl | some y => simp only [Option.map_some]; rw [h y (by simp [Go.Op.operands])]
    simp only [act, h1, h2, h3]
    rw [h x (by simp [Go.Op.operands])]
  case call d =>
    obtain ⟨callee, args, argTypes⟩ := d
    cases callee with
    | invoke r m => rfl
    | builtin b =>
      have hr' : ∀ x ∈ args.toList, ρ x = ρ' x := fun x hx => h x (by simp [Go.Op.operands, Go.Call.operands] at hx ⊢; exact hx)
      cases b <;> first | rfl | skip
      case append =>
        obtain ⟨args⟩ := args; obtain ⟨argTypes⟩ := argTypes
        rcases argTypes with _ | ⟨t, _ | ⟨t2, _ | ⟨t3, r⟩⟩⟩ <;> rcases args with _ | ⟨x, _ | ⟨y, _ | ⟨z, r2⟩⟩⟩ <;> first | rfl | skip
        simp only [act, aCall]; rw [hr' x (by simp), hr' y (by simp)]
      case len =>
        obtain ⟨args⟩ := args; obtain ⟨argTypes⟩ := argTypes
        rcases argTypes with _ | ⟨t, _ | ⟨t2, r⟩⟩ <;> rcases args with _ | ⟨x, _ | ⟨y, r2⟩⟩ <;> first | rfl | skip
        simp only [act, aCall]; rw [hr' x (by simp)]
      case clear =>
        obtain ⟨args⟩ := args; obtain ⟨argTypes⟩ := argTypes
        rcases argTypes with _ | ⟨t, _ | ⟨t2, r⟩⟩ <;> rcases args with _ | ⟨x, _ | ⟨y, r2⟩⟩ <;> first | rfl | skip
        simp only [act, aCall]; rw [hr' x (by simp)]
      case min =>
        obtain ⟨args⟩ := args
        rcases args with _ | ⟨x, _ | ⟨y, _ | ⟨z, r2⟩⟩⟩ <;> first | rfl | skip
        simp only [act, aCall]; rw [hr' x (by simp), hr' y (by simp)]
    | value f =>
      have h1 : args.toList.map ρ = args.toList.map ρ' := map_congrL fun x hx => h x (by simp [Go.Op.operands, Go.Call.operands] at hx ⊢; exact .inr hx)
      have h2 : ρ f = ρ' f := h f (by simp [Go.Op.operands, Go.Call.operands])
      cases f <;> simp only [act, aCall, h1, h2]
  case makeMap t r => cases r <;> rfl
  case next x b => cases b <;> first | rfl | (simp only [act]; rw [h x (by simp [Go.Op.operands])])
  case unOp b t x => cases b <;> first | rfl | (simp only [act]; rw [h x (by simp [Go.Op.operands])])
  all_goals
    simp only [Go.Op.operands] at h
    simp only [act]
    first
    | (rename_i x; rw [h x (by simp)]; done)
    | simp [h]

theorem gA_congr {o : Oper} {ρ ρ' : Rho} (e : ∀ t ∈ o.looksAt ops, ρ t = ρ' t) : gA ops o ρ = gA ops o ρ' := by
  unfold gA
  cases hgd : o.guard with
  | none => rfl
  | some jb =>
    obtain ⟨j, b⟩ := jb
    simp only
    cases hd : (ops[j]?).bind (·.dst) with
    | none => rfl
    | some d =>
      simp only
      rw [e d (by simp [Go.Oper.looksAt, hgd, hd])]
theorem StepOk.congr {o : Oper} {ρ ρ' : Rho} {s s' : St} {v : V} (h : StepOk P c ops o ρ s v s') (e : ∀ t ∈ o.looksAt ops, ρ t = ρ' t) : StepOk P c ops o ρ' s v s' := by
  have hval : ∀ x ∈ o.op.operands, val ρ x = val ρ' x := fun x hx => by
    cases x with
    | tmp t => exact e t (List.mem_append_left _ (List.mem_filterMap.2 ⟨.tmp t, by simpa using hx, rfl⟩))
    | const v => rfl
    | func f => rfl
    | global g => rfl
  have hg := gA_congr e
  rcases h.it with ⟨h1, h2⟩ | ⟨h1, h2⟩
  · exact ⟨.inl ⟨hg ▸ h1, fun k => by rw [← act_congr P c hval]; exact h2 k⟩⟩
  · exact ⟨.inr ⟨hg ▸ h1, h2⟩⟩
end
end Viv

/-
  A REGION IN ANY ORDER: the theorem.
-/
namespace Viv
open Go (Value World IntKind Addr Program Act Exit Oper Operand Ending undef)

section
variable {P : Program} {c : CF} {ops : Array Oper} {plan : List Item} {vals : Nat → V} {rho : Nat → Rho} {st : Nat → St} {pos : Nat → Nat} {anc : Nat → Nat → Prop} {n : Nat}

/-- a step of a region, carried out: with the value -/
theorem StepOk.wp' {β : Beta} {s : St} {w : World} (hc : CFSound P c) {i : Nat} {o : Oper} (hi : ops[i]? = some o) {ρ : Rho} {v : V} {s' : St} {n : Nat} {a : Act} (h : StepOk P c ops o ρ s v s') (hs : Sim β s w) (ht : Tied β ρ n a)
    {K : Act → World → Prop} {Q : Exit → Act → World → Prop}
    (hK : ∀ β' x w', Sim β' s' w' → Post β s w β' s' w' → VRel β' v x → K (a.put o.dst x) w') : Go.wpOp P ops Q i K a w := by
  unfold Go.wpOp
  rw [hi]
  simp only
  rcases h.goes hc hs ht with ⟨hw, hg⟩ | ⟨hw, rfl, rfl⟩
  · rw [if_pos hw]
    refine .inl (upon_of_goes hg fun x w' hx => ?_)
    obtain ⟨β', hv, hs', hp⟩ := hx
    exact hK β' x w' hs' hp hv
  · rw [if_neg (by rw [hw]; exact Bool.false_ne_true)]
    exact hK β undef w hs (.refl β _ w) undef_rel

def isDone (listed : Array Bool) (i : Nat) : Prop := listed.getD i false = true
theorem isDone_set {listed : Array Bool} {i j : Nat} (hi : i < listed.size) : isDone (listed.setIfInBounds i true) j ↔ j = i ∨ isDone listed j := by
  unfold isDone
  by_cases e : j = i
  · subst e; simp [hi]
  · simp only [e, false_or]
    rw [Array.getD_eq_getD_getElem?, Array.getD_eq_getD_getElem?, Array.getElem?_setIfInBounds_ne (fun h => e h.symm)]
theorem not_done {listed : Array Bool} {i : Nat} : listed.getD i true = false ↔ i < listed.size ∧ ¬ isDone listed i := by
  unfold isDone
  rw [Array.getD_eq_getD_getElem?, Array.getD_eq_getD_getElem?]
  by_cases h : i < listed.size
  · simp [h]
  · simp [h]

/-- an unlisted alloc that the abstract state holds already -/
def Ghost (ops : Array Oper) (rho : Nat → Rho) (pos : Nat → Nat) (listed : Array Bool) (J i : Nat) : Prop :=
  ∃ o, ops[i]? = some o ∧ kindOf o.op = .alloc ∧ ¬ isDone listed i ∧ pos i < J ∧ gA ops o (rho (pos i)) = some true

structure Inv (P : Program) (ops : Array Oper) (plan : List Item) (vals : Nat → V) (rho : Nat → Rho) (st : Nat → St) (pos : Nat → Nat) (n : Nat) (β0 : Beta) (w0 : World) (listed : Array Bool) (J : Nat) (β : Beta) (w : World) (a : Act) : Prop where
  size : listed.size = ops.size
  asize : n ≤ a.tmps.size
  defers : a.defers = []
  closed : ∀ (i : Nat) o, ops[i]? = some o → isDone listed i → ∀ e ∈ o.after, bound e → isDone listed e.on
  sim : Sim β (st J) w
  post : Post β0 (st 0) w0 β (st J) w
  jle : J ≤ plan.length
  below : ∀ (i : Nat) o, ops[i]? = some o → changing o → isDone listed i → pos i < J
  top : J = 0 ∨ ∃ (y : Nat) (o : Oper), ops[y]? = some o ∧ changing o ∧ isDone listed y ∧ pos y + 1 = J
  louds : ∀ (i : Nat) o, ops[i]? = some o → kindOf o.op = .loud → pos i < J → isDone listed i
  ghost : ∀ (i : Nat), Ghost ops rho pos listed J i → β (st (pos i)).next = none ∧ num (st (pos i)).next < num (st J).next ∧ num (st 0).next ≤ num (st (pos i)).next ∧ (st J).get (st (pos i)).next = (st (pos i + 1)).get (st (pos i)).next
  ghosts : ∀ (i j : Nat), Ghost ops rho pos listed J i → Ghost ops rho pos listed J j → i ≠ j → (st (pos i)).next ≠ (st (pos j)).next
  free : ∀ (t : Nat), (∀ (x : Nat) o, ops[x]? = some o → isDone listed x → o.dst ≠ some t) → VRel β (rho 0 t) (a.tmps.getD t undef)
  held : ∀ (x : Nat) o (t : Nat), ops[x]? = some o → isDone listed x → o.dst = some t → (∀ (y : Nat) oy, ops[y]? = some oy → isDone listed y → oy.dst = some t → pos y ≤ pos x) → VRel β (vals x) (a.tmps.getD t undef)

/-- what the canonical temporaries hold -/
theorem rho_free (hf : Flat P c ops plan vals rho st) (hp : PlanOk ops plan pos anc n) {t : Nat} : ∀ m, m ≤ plan.length → (∀ (x : Nat) o, ops[x]? = some o → pos x < m → o.dst ≠ some t) → rho m t = rho 0 t
  | 0, _, _ => rfl
  | m + 1, hm, h => by
    have ih := rho_free hf hp m (by omega) (fun x o hx hlt => h x o hx (by omega))
    obtain ⟨it, hit⟩ : ∃ it, plan[m]? = some it := ⟨_, List.getElem?_eq_getElem (by omega)⟩
    cases it with
    | re i =>
      obtain ⟨o, ho⟩ : ∃ o, ops[i]? = some o := ⟨_, Array.getElem?_eq_getElem (hp.reOnly m i hit)⟩
      rw [(hf.re m i o hit ho).2.2, ih]
    | op i =>
      obtain ⟨hlt, hpos⟩ := hp.only m i hit
      obtain ⟨o, ho⟩ : ∃ o, ops[i]? = some o := ⟨_, Array.getElem?_eq_getElem hlt⟩
      rw [(hf.op m i o hit ho).2]
      have := h i o ho (by omega)
      unfold putR
      cases hd : o.dst with
      | none => simp only; exact ih
      | some d =>
        simp only
        rw [if_neg (fun e => this (by rw [hd, e]))]; exact ih
theorem rho_held (hf : Flat P c ops plan vals rho st) (hp : PlanOk ops plan pos anc n) {t x : Nat} {ox : Oper} (hx : ops[x]? = some ox) (hd : ox.dst = some t) : ∀ m, m ≤ plan.length → pos x < m →
    (∀ (y : Nat) o, ops[y]? = some o → pos x < pos y → pos y < m → o.dst ≠ some t) → rho m t = vals x
  | 0, _, h, _ => by omega
  | m + 1, hm, hlt, h => by
    obtain ⟨it, hit⟩ : ∃ it, plan[m]? = some it := ⟨_, List.getElem?_eq_getElem (by omega)⟩
    by_cases e : pos x = m
    · subst e
      have hxlt : x < ops.size := (Array.getElem?_eq_some_iff.1 hx).1
      have := hp.at_ x hxlt
      rw [(hf.op _ x ox this hx).2]
      simp [putR, hd]
    · have ih := rho_held hf hp hx hd m (by omega) (by omega) (fun y o hy h1 h2 => h y o hy h1 (by omega))
      cases it with
      | re i =>
        obtain ⟨o, ho⟩ : ∃ o, ops[i]? = some o := ⟨_, Array.getElem?_eq_getElem (hp.reOnly m i hit)⟩
        rw [(hf.re m i o hit ho).2.2, ih]
      | op i =>
        obtain ⟨hlt', hpos⟩ := hp.only m i hit
        obtain ⟨o, ho⟩ : ∃ o, ops[i]? = some o := ⟨_, Array.getElem?_eq_getElem hlt'⟩
        rw [(hf.op m i o hit ho).2]
        have := h i o ho (by omega) (by omega)
        unfold putR
        cases hd' : o.dst with
        | none => simp only; exact ih
        | some d =>
          simp only
          rw [if_neg (fun e => this (by rw [hd', e]))]; exact ih

theorem pos_inj (hp : PlanOk ops plan pos anc n) {i j : Nat} (hi : i < ops.size) (hj : j < ops.size) (h : pos i = pos j) : i = j := by
  have a := hp.at_ i hi; have b := hp.at_ j hj
  rw [h] at a; rw [a] at b; cases b; rfl
theorem pos_lt (hp : PlanOk ops plan pos anc n) {i : Nat} (hi : i < ops.size) : pos i < plan.length := by
  have := hp.at_ i hi
  exact (List.getElem?_eq_some_iff.1 this).1
theorem lt_of_some {i : Nat} {o : Oper} (h : ops[i]? = some o) : i < ops.size := (Array.getElem?_eq_some_iff.1 h).1

/-- the last of some operations below a bound -/
theorem exists_last (p : Nat → Prop) (pos : Nat → Nat) : ∀ m, (∃ x, p x ∧ pos x < m) → ∃ x, p x ∧ pos x < m ∧ ∀ y, p y → pos y < m → pos y ≤ pos x
  | 0, ⟨x, _, h⟩ => by omega
  | m + 1, ⟨x, hx, h⟩ => by
    by_cases hm : ∃ y, p y ∧ pos y = m
    · obtain ⟨y, hy, e⟩ := hm
      exact ⟨y, hy, by omega, fun z _ hz => by omega⟩
    · have hx' : pos x < m := by
        have : pos x ≠ m := fun e => hm ⟨x, hx, e⟩
        omega
      obtain ⟨y, hy, h1, h2⟩ := exists_last p pos m ⟨x, hx, hx'⟩
      refine ⟨y, hy, by omega, fun z hz hlt => ?_⟩
      have : pos z ≠ m := fun e => hm ⟨z, hz, e⟩
      exact h2 z hz (by omega)

/-- ancestors of what is listed, or ready, are listed -/
theorem anc_done (hp : PlanOk ops plan pos anc n) {listed : Array Bool} (hcl : ∀ (i : Nat) o, ops[i]? = some o → isDone listed i → ∀ e ∈ o.after, bound e → isDone listed e.on) : ∀ (m x : Nat), pos x < m → ∀ i o, ops[x]? = some o →
    (∀ e ∈ o.after, bound e → isDone listed e.on) → anc x i → isDone listed i
  | 0, x, h, _, _, _, _, _ => by omega
  | m + 1, x, h, i, o, ho, hall, ha => by
    obtain ⟨o', ho', e, he, hb, hor⟩ := hp.anc_ok x i ha
    rw [ho] at ho'; cases ho'
    have hdone := hall e he hb
    rcases hor with rfl | hanc
    · exact hdone
    · obtain ⟨hlt, hpl⟩ := hp.dep x o ho e he hb
      obtain ⟨oe, hoe⟩ : ∃ oe, ops[e.on]? = some oe := ⟨_, Array.getElem?_eq_getElem hlt⟩
      exact anc_done hp hcl m e.on (by omega) i oe hoe (hcl e.on oe hoe hdone) hanc

variable {β0 : Beta} {w0 : World} {listed : Array Bool} {J : Nat} {β : Beta} {w : World} {a : Act}

theorem Inv.ancDone (h : Inv P ops plan vals rho st pos n β0 w0 listed J β w a) (hp : PlanOk ops plan pos anc n) {x i : Nat} {o : Oper} (ho : ops[x]? = some o) (hr : isDone listed x ∨ ∀ e ∈ o.after, bound e → isDone listed e.on) (ha : anc x i) : isDone listed i := by
  refine anc_done hp h.closed (pos x + 1) x (by omega) i o ho ?_ ha
  rcases hr with hd | hr
  · exact h.closed x o ho hd
  · exact hr

/-- the operands of what is ready read as in the canonical run -/
theorem Inv.looks (h : Inv P ops plan vals rho st pos n β0 w0 listed J β w a) (hf : Flat P c ops plan vals rho st) (hp : PlanOk ops plan pos anc n) {i : Nat} {o : Oper} (ho : ops[i]? = some o) (hn : ¬ isDone listed i) (hr : ∀ e ∈ o.after, bound e → isDone listed e.on)
    {t : Nat} (ht : t ∈ o.looksAt ops) : VRel β (rho (pos i) t) (a.tmps.getD t undef) := by
  have hi := lt_of_some ho
  have hlen := pos_lt hp hi
  -- a writer that is listed lies before it, one that is not listed does not
  have w1 : ∀ (x : Nat) ox, ops[x]? = some ox → ox.dst = some t → (isDone listed x ↔ pos x < pos i) := by
    intro x ox hx hd
    have hxlt := lt_of_some hx
    constructor
    · intro hdone
      rcases Nat.lt_or_ge (pos x) (pos i) with hlt | hge
      · exact hlt
      · exfalso
        have hne : x ≠ i := fun e => hn (e ▸ hdone)
        have hlt : pos i < pos x := by
          have : pos i ≠ pos x := fun e => hne (pos_inj hp hi hxlt e).symm
          omega
        by_cases ha : anc x i
        · exact hn (h.ancDone hp hx (.inl hdone) ha)
        · have := (Go.Oper.apart_spec (hp.apart i x o ox ho hx hlt ha)).2.2 t hd
          exact this ht
    · intro hlt
      by_cases ha : anc i x
      · exact h.ancDone hp ho (.inr hr) ha
      · have := (Go.Oper.apart_spec (hp.apart x i ox o hx ho hlt ha)).1 t hd
        exact absurd ht this
  by_cases hex : ∃ x, (∃ ox, ops[x]? = some ox ∧ ox.dst = some t) ∧ pos x < pos i
  · obtain ⟨x, ⟨ox, hx, hd⟩, hlt, hmax⟩ := exists_last _ pos _ hex
    rw [rho_held hf hp hx hd (pos i) (by omega) hlt (fun y oy hy h1 h2 e => by have := hmax y ⟨oy, hy, e⟩ h2; omega)]
    refine h.held x ox t hx ((w1 x ox hx hd).2 hlt) hd (fun y oy hy hdone hdy => ?_)
    exact hmax y ⟨oy, hy, hdy⟩ ((w1 y oy hy hdy).1 hdone)
  · have hno : ∀ (x : Nat) ox, ops[x]? = some ox → pos x < pos i → ox.dst ≠ some t := fun x ox hx hlt hd => hex ⟨x, ⟨ox, hx, hd⟩, hlt⟩
    rw [rho_free hf hp (pos i) (by omega) hno]
    exact h.free t (fun x ox hx hdone hd => hno x ox hx ((w1 x ox hx hd).1 hdone) hd)
end
end Viv

/-
  A REGION IN ANY ORDER: the walk.
-/
namespace Viv
open Go (Value World IntKind Addr Program Act Exit Oper Operand Ending undef)

section
variable {P : Program} {c : CF} {ops : Array Oper} {plan : List Item} {vals : Nat → V} {rho : Nat → Rho} {st : Nat → St} {pos : Nat → Nat} {anc : Nat → Nat → Prop} {n : Nat}
variable {β0 : Beta} {w0 : World} {listed : Array Bool} {J : Nat} {β : Beta} {w : World} {a : Act}

theorem put_other {o : Option Nat} {t : Nat} (h : o ≠ some t) (a : Act) (x : Value) : (a.put o x).tmps.getD t undef = a.tmps.getD t undef := by
  cases o with
  | none => rfl
  | some d =>
    simp only [Act.put]
    rw [Array.getD_eq_getD_getElem?, Array.getD_eq_getD_getElem?, Array.getElem?_setIfInBounds_ne (fun e => h (by rw [e]))]
theorem put_same {t : Nat} (a : Act) (x : Value) (h : t < a.tmps.size) : (a.put (some t) x).tmps.getD t undef = x := by
  simp only [Act.put]
  rw [Array.getD_eq_getD_getElem?]; simp [h]
theorem put_size (o : Option Nat) (a : Act) (x : Value) : (a.put o x).tmps.size = a.tmps.size := by cases o <;> simp [Act.put]
theorem put_def (o : Option Nat) (a : Act) (x : Value) : (a.put o x).defers = a.defers := by cases o <;> rfl

theorem Inv.tmps (h : Inv P ops plan vals rho st pos n β0 w0 listed J β w a) (hp : PlanOk ops plan pos anc n) {i : Nat} {o : Oper} (ho : ops[i]? = some o) (hn : ¬ isDone listed i) {β' : Beta} (hle : β.le β') {x : Value} (hv : VRel β' (vals i) x) :
    (∀ (t : Nat), (∀ (x : Nat) o, ops[x]? = some o → isDone (listed.setIfInBounds i true) x → o.dst ≠ some t) → VRel β' (rho 0 t) ((a.put o.dst x).tmps.getD t undef)) ∧
    (∀ (y : Nat) oy (t : Nat), ops[y]? = some oy → isDone (listed.setIfInBounds i true) y → oy.dst = some t → (∀ (z : Nat) oz, ops[z]? = some oz → isDone (listed.setIfInBounds i true) z → oz.dst = some t → pos z ≤ pos y) → VRel β' (vals y) ((a.put o.dst x).tmps.getD t undef)) := by
  have hi := lt_of_some ho
  have hL : ∀ j, isDone (listed.setIfInBounds i true) j ↔ j = i ∨ isDone listed j := fun j => isDone_set (by rw [h.size]; exact hi)
  constructor
  · intro t hno
    rw [put_other (hno i o ho ((hL i).2 (.inl rfl)))]
    exact (h.free t (fun z oz hz hd => hno z oz hz ((hL z).2 (.inr hd)))).mono hle
  · intro y oy t hy hd hdst hmax
    rcases (hL y).1 hd with rfl | hdone
    · rw [ho] at hy; cases hy
      rw [hdst, put_same _ _ (Nat.lt_of_lt_of_le (hp.dst y o ho t hdst) h.asize)]; exact hv
    · by_cases e : o.dst = some t
      · exfalso
        have hne : y ≠ i := fun e => hn (e ▸ hdone)
        have hle := hmax i o ho ((hL i).2 (.inl rfl)) e
        have hlt : pos i < pos y := by
          have : pos i ≠ pos y := fun e => hne (pos_inj hp hi (lt_of_some hy) e).symm
          omega
        by_cases ha : anc y i
        · exact hn (h.ancDone hp hy (.inl hdone) ha)
        · exact (Go.Oper.apart_spec (hp.apart i y o oy ho hy hlt ha)).2.1 t e hdst
      · rw [put_other e]
        exact (h.held y oy t hy hdone hdst (fun z oz hz hdz he => hmax z oz hz ((hL z).2 (.inr hdz)) he)).mono hle

theorem st_same (hf : Flat P c ops plan vals rho st) (hp : PlanOk ops plan pos anc n) {J : Nat} : ∀ m, J ≤ m → m ≤ plan.length → (∀ (x : Nat) o, ops[x]? = some o → changing o → ¬ (J ≤ pos x ∧ pos x < m)) → st m = st J
  | 0, h, _, _ => by have : J = 0 := by omega
                     rw [this]
  | m + 1, h, hm, hno => by
    by_cases e : J = m + 1
    · rw [e]
    · have ih := st_same hf hp (J := J) m (by omega) (by omega) (fun x o hx hc hlt => hno x o hx hc ⟨hlt.1, by omega⟩)
      obtain ⟨it, hit⟩ : ∃ it, plan[m]? = some it := ⟨_, List.getElem?_eq_getElem (by omega)⟩
      cases it with
      | re i =>
        obtain ⟨o, ho⟩ : ∃ o, ops[i]? = some o := ⟨_, Array.getElem?_eq_getElem (hp.reOnly m i hit)⟩
        rw [(hf.re m i o hit ho).2.1, ih]
      | op i =>
        obtain ⟨hlt, hpos⟩ := hp.only m i hit
        obtain ⟨o, ho⟩ : ∃ o, ops[i]? = some o := ⟨_, Array.getElem?_eq_getElem hlt⟩
        rcases still_or o with hs | hc
        · rw [(hf.op m i o hit ho).1.stays hs, ih]
        · exact absurd ⟨by omega, by omega⟩ (hno i o ho hc)

/-- what is known of the ghosts -/
structure GF (ops : Array Oper) (rho : Nat → Rho) (st : Nat → St) (pos : Nat → Nat) (listed : Array Bool) (J : Nat) (β : Beta) : Prop where
  ghost : ∀ (i : Nat), Ghost ops rho pos listed J i → β (st (pos i)).next = none ∧ num (st (pos i)).next < num (st J).next ∧ num (st 0).next ≤ num (st (pos i)).next ∧ (st J).get (st (pos i)).next = (st (pos i + 1)).get (st (pos i)).next
  ghosts : ∀ (i j : Nat), Ghost ops rho pos listed J i → Ghost ops rho pos listed J j → i ≠ j → (st (pos i)).next ≠ (st (pos j)).next

theorem GF.same {m : Nat} (h : GF ops rho st pos listed m β) (hst : st (m + 1) = st m) (hno : ∀ i, Ghost ops rho pos listed (m + 1) i → Ghost ops rho pos listed m i) : GF ops rho st pos listed (m + 1) β :=
  ⟨fun i hi => by rw [hst]; exact h.ghost i (hno i hi), fun i j hi hj => h.ghosts i j (hno i hi) (hno j hj)⟩

theorem advance (hf : Flat P c ops plan vals rho st) (hp : PlanOk ops plan pos anc n) (hfresh : ∀ id l, β0 id = some l → num id < num (st 0).next) {J : Nat} (hs : Sim β (st J) w) (hpost : Post β0 (st 0) w0 β (st J) w) (hg : GF ops rho st pos listed J β) :
    ∀ m, J ≤ m → m ≤ plan.length → (∀ (x : Nat) o, ops[x]? = some o → changing o → J ≤ pos x → pos x < m → kindOf o.op = .alloc ∧ ¬ isDone listed x) → Sim β (st m) w ∧ Post β0 (st 0) w0 β (st m) w ∧ GF ops rho st pos listed m β
  | 0, h, _, _ => by have : J = 0 := by omega
                     subst this; exact ⟨hs, hpost, hg⟩
  | m + 1, h, hm, hall => by
    by_cases e : J = m + 1
    · subst e; exact ⟨hs, hpost, hg⟩
    · obtain ⟨i1, i2, i3⟩ := advance hf hp hfresh hs hpost hg m (by omega) (by omega) (fun x o hx hc h1 h2 => hall x o hx hc h1 (by omega))
      obtain ⟨it, hit⟩ : ∃ it, plan[m]? = some it := ⟨_, List.getElem?_eq_getElem (by omega)⟩
      have keep : st (m + 1) = st m → (∀ i, Ghost ops rho pos listed (m + 1) i → Ghost ops rho pos listed m i) → Sim β (st (m + 1)) w ∧ Post β0 (st 0) w0 β (st (m + 1)) w ∧ GF ops rho st pos listed (m + 1) β :=
        fun hst hno => ⟨hst ▸ i1, hst ▸ i2, i3.same hst hno⟩
      have at_m : ∀ i, Ghost ops rho pos listed (m + 1) i → ¬ Ghost ops rho pos listed m i → plan[m]? = some (.op i) := by
        intro i hgi hng
        obtain ⟨o, a1, a2, a3, a4, a5⟩ := hgi
        have hpi : pos i = m := by
          rcases Nat.lt_or_ge (pos i) m with hlt | hge
          · exact absurd ⟨o, a1, a2, a3, hlt, a5⟩ hng
          · omega
        rw [← hpi]; exact hp.at_ i (lt_of_some a1)
      cases it with
      | re i =>
        obtain ⟨o, ho⟩ : ∃ o, ops[i]? = some o := ⟨_, Array.getElem?_eq_getElem (hp.reOnly m i hit)⟩
        refine keep (hf.re m i o hit ho).2.1 (fun j hj => ?_)
        by_cases hng : Ghost ops rho pos listed m j
        · exact hng
        · have := at_m j hj hng; rw [hit] at this; cases this
      | op i =>
        obtain ⟨hlt, hpos⟩ := hp.only m i hit
        obtain ⟨o, ho⟩ : ∃ o, ops[i]? = some o := ⟨_, Array.getElem?_eq_getElem hlt⟩
        have hstep := (hf.op m i o hit ho).1
        rcases still_or o with hsl | hch
        · refine keep (hstep.stays hsl) (fun j hj => ?_)
          by_cases hng : Ghost ops rho pos listed m j
          · exact hng
          · have := at_m j hj hng; rw [hit] at this; cases this
            obtain ⟨o', a1, a2, _⟩ := hj
            rw [ho] at a1; cases a1
            rcases hsl with hsl | hsl <;> rw [hsl] at a2 <;> cases a2
        · obtain ⟨hk, hnd⟩ := hall i o ho hch (by omega) (by omega)
          rcases hstep.it with ⟨hgA, hact⟩ | ⟨hgA, hv, hst⟩
          · rcases makes_of P c hk (val (rho m)) with hfl | ⟨f, obj, hmk⟩
            · exact (not_fail hact (fun k => hfl _ k)).elim
            · obtain ⟨hv, hst⟩ := uniq hact (hmk.act (st m))
              refine ⟨by rw [hst]; exact i1.ghost obj, by rw [hst]; exact i2.ghostPush hfresh obj, ⟨fun j hj => ?_, fun j k hj hk hne => ?_⟩⟩
              · by_cases hng : Ghost ops rho pos listed m j
                · obtain ⟨b1, b2, b3, b4⟩ := i3.ghost j hng
                  refine ⟨b1, by rw [hst, St.num_push]; omega, b3, ?_⟩
                  rw [hst, St.get_push, if_neg (fun e => by rw [e] at b2; omega), b4]
                · have := at_m j hj hng; rw [hit] at this; cases this
                  rw [hpos]
                  exact ⟨i1.next_none, by rw [hst, St.num_push]; omega, i2.next, rfl⟩
              · by_cases hngj : Ghost ops rho pos listed m j
                · by_cases hngk : Ghost ops rho pos listed m k
                  · exact i3.ghosts j k hngj hngk hne
                  · have := at_m k hk hngk; rw [hit] at this; cases this
                    have := (i3.ghost j hngj).2.1
                    rw [hpos]; intro e; rw [e] at this; omega
                · have := at_m j hj hngj; rw [hit] at this; cases this
                  by_cases hngk : Ghost ops rho pos listed m k
                  · have := (i3.ghost k hngk).2.1
                    rw [hpos]; intro e; rw [← e] at this; omega
                  · have := at_m k hk hngk; rw [hit] at this; cases this
                    exact absurd rfl hne
          · refine keep hst (fun j hj => ?_)
            by_cases hng : Ghost ops rho pos listed m j
            · exact hng
            · have := at_m j hj hng; rw [hit] at this; cases this
              obtain ⟨o', a1, a2, a3, a4, a5⟩ := hj
              rw [ho] at a1; cases a1
              rw [hpos, hgA] at a5; cases a5
end
end Viv

/-
  A REGION IN ANY ORDER: the end.
-/
namespace Viv
open Go (Value World IntKind Addr Program Act Exit Oper Operand Ending undef)

/-- how many are to come -/
def todo (l : Array Bool) : Nat → Nat
  | 0 => 0
  | k + 1 => todo l k + (if l.getD k true then 0 else 1)
theorem todo_far {l : Array Bool} {i : Nat} : ∀ k, k ≤ i → todo (l.setIfInBounds i true) k = todo l k
  | 0, _ => rfl
  | k + 1, h => by
    simp only [todo]
    rw [todo_far k (by omega), Go.getD_set_ne true (show i ≠ k by omega)]
theorem todo_set {l : Array Bool} {i : Nat} (hl : l.getD i true = false) : ∀ k, i < k → todo (l.setIfInBounds i true) k + 1 = todo l k
  | 0, h => by omega
  | k + 1, h => by
    simp only [todo]
    by_cases e : i = k
    · subst e
      rw [todo_far i (Nat.le_refl _), hl]
      have : (l.setIfInBounds i true).getD i true = true := by
        have := (not_done.1 hl).1
        simp [this]
      rw [this]; simp
    · rw [← todo_set hl k (by omega), Go.getD_set_ne true e]; omega
theorem todo_zero {l : Array Bool} : ∀ k, todo l k = 0 → ∀ i, i < k → l.getD i true = true
  | 0, _, i, h => by omega
  | k + 1, h0, i, h => by
    simp only [todo] at h0
    by_cases e : i = k
    · subst e
      cases hc : l.getD i true with
      | true => rfl
      | false => rw [hc] at h0; simp at h0
    · exact todo_zero k (by omega) i (by omega)

section
variable {P : Program} {c : CF} {ops : Array Oper} {plan : List Item} {vals : Nat → V} {rho : Nat → Rho} {st : Nat → St} {pos : Nat → Nat} {anc : Nat → Nat → Prop} {n : Nat}
variable {β0 : Beta} {w0 : World} {listed : Array Bool} {J : Nat} {β : Beta} {w : World} {a : Act}

theorem Inv.gf (h : Inv P ops plan vals rho st pos n β0 w0 listed J β w a) : GF ops rho st pos listed J β := ⟨h.ghost, h.ghosts⟩

/-- the invariant behind one more operation -/
theorem Inv.next (h : Inv P ops plan vals rho st pos n β0 w0 listed J β w a) (hp : PlanOk ops plan pos anc n) {i : Nat} {o : Oper} (ho : ops[i]? = some o) (hn : ¬ isDone listed i) (hr : ∀ e ∈ o.after, bound e → isDone listed e.on)
    {J' : Nat} {β' : Beta} {w' : World} {x : Value} (hle : β.le β') (hv : VRel β' (vals i) x) (hs : Sim β' (st J') w') (hpost : Post β0 (st 0) w0 β' (st J') w') (hj : J ≤ J') (hj2 : J' ≤ plan.length)
    (hbelow : changing o → pos i < J') (htop : J' = J ∨ (J' = pos i + 1 ∧ changing o)) (hg : GF ops rho st pos (listed.setIfInBounds i true) J' β') :
    Inv P ops plan vals rho st pos n β0 w0 (listed.setIfInBounds i true) J' β' w' (a.put o.dst x) := by
  have hi := lt_of_some ho
  have hL : ∀ j, isDone (listed.setIfInBounds i true) j ↔ j = i ∨ isDone listed j := fun j => isDone_set (by rw [h.size]; exact hi)
  obtain ⟨t1, t2⟩ := h.tmps hp ho hn hle hv
  refine ⟨by simp [h.size], by rw [put_size]; exact h.asize, by rw [put_def]; exact h.defers, ?_, hs, hpost, hj2, ?_, ?_, ?_, hg.ghost, hg.ghosts, t1, t2⟩
  · intro j oj hoj hd e he hb
    refine (hL _).2 (.inr ?_)
    rcases (hL j).1 hd with rfl | hd
    · rw [ho] at hoj; cases hoj; exact hr e he hb
    · exact h.closed j oj hoj hd e he hb
  · intro j oj hoj hc hd
    rcases (hL j).1 hd with rfl | hd
    · rw [ho] at hoj; cases hoj; exact hbelow hc
    · have := h.below j oj hoj hc hd; omega
  · rcases htop with rfl | ⟨rfl, hc⟩
    · rcases h.top with h0 | ⟨y, oy, a1, a2, a3, a4⟩
      · exact .inl h0
      · exact .inr ⟨y, oy, a1, a2, (hL y).2 (.inr a3), a4⟩
    · exact .inr ⟨i, o, ho, hc, (hL i).2 (.inl rfl), rfl⟩
  · intro z oz hoz hk hlt
    refine (hL z).2 ?_
    by_cases e : z = i
    · exact .inl e
    · refine .inr ?_
      rcases htop with rfl | ⟨rfl, hc⟩
      · exact h.louds z oz hoz hk hlt
      · rcases Nat.lt_or_ge (pos z) J with hz | hz
        · exact h.louds z oz hoz hk hz
        · have hne : pos z ≠ pos i := fun e' => e (pos_inj hp (lt_of_some hoz) hi e')
          exact h.ancDone hp ho (.inr hr) (hp.louds z i oz o hoz ho (by omega) hk hc)

/-- ghosts stay ghosts over a step -/
theorem GF.step {m J' : Nat} {β' : Beta} {w' : World} (hg : GF ops rho st pos listed m β) (hp : Post β (st m) w β' (st J') w') {listed' : Array Bool} (hsub : ∀ j, Ghost ops rho pos listed' J' j → Ghost ops rho pos listed m j) :
    GF ops rho st pos listed' J' β' := by
  refine ⟨fun j hj => ?_, fun j k hj hk hne => hg.ghosts j k (hsub j hj) (hsub k hk) hne⟩
  obtain ⟨b1, b2, b3, b4⟩ := hg.ghost j (hsub j hj)
  refine ⟨?_, Nat.lt_of_lt_of_le b2 hp.next, b3, ?_⟩
  · cases hb : β' (st (pos j)).next with
    | none => rfl
    | some l =>
      have := (hp.new _ l hb b1).1
      omega
  · rw [hp.ghost _ b2 b1, b4]

theorem rho_between (hf : Flat P c ops plan vals rho st) (hp : PlanOk ops plan pos anc n) {t m0 : Nat} : ∀ m, m0 ≤ m → m ≤ plan.length → (∀ (x : Nat) o, ops[x]? = some o → m0 ≤ pos x → pos x < m → o.dst ≠ some t) → rho m t = rho m0 t
  | 0, h, _, _ => by have : m0 = 0 := by omega
                     rw [this]
  | m + 1, h, hm, hno => by
    by_cases e : m0 = m + 1
    · rw [e]
    · have ih := rho_between hf hp (m0 := m0) (t := t) m (by omega) (by omega) (fun x o hx h1 h2 => hno x o hx h1 (by omega))
      obtain ⟨it, hit⟩ : ∃ it, plan[m]? = some it := ⟨_, List.getElem?_eq_getElem (by omega)⟩
      cases it with
      | re i =>
        obtain ⟨o, ho⟩ : ∃ o, ops[i]? = some o := ⟨_, Array.getElem?_eq_getElem (hp.reOnly m i hit)⟩
        rw [(hf.re m i o hit ho).2.2, ih]
      | op i =>
        obtain ⟨hlt', hpos⟩ := hp.only m i hit
        obtain ⟨o, ho⟩ : ∃ o, ops[i]? = some o := ⟨_, Array.getElem?_eq_getElem hlt'⟩
        rw [(hf.op m i o hit ho).2]
        have := hno i o ho (by omega) (by omega)
        unfold putR
        cases hd' : o.dst with
        | none => simp only; exact ih
        | some d =>
          simp only
          rw [if_neg (fun e => this (by rw [hd', e]))]; exact ih

/-- one ready operation -/
theorem Inv.step (hc : CFSound P c) (hf : Flat P c ops plan vals rho st) (hp : PlanOk ops plan pos anc n) (hfresh : ∀ id l, β0 id = some l → num id < num (st 0).next)
    (h : Inv P ops plan vals rho st pos n β0 w0 listed J β w a) {i : Nat} {o : Oper} (ho : ops[i]? = some o) (hn : ¬ isDone listed i) (hr : ∀ e ∈ o.after, bound e → isDone listed e.on)
    {K : Act → World → Prop} {Q : Exit → Act → World → Prop} (hK : ∀ J' β' w' a', Inv P ops plan vals rho st pos n β0 w0 (listed.setIfInBounds i true) J' β' w' a' → K a' w') : Go.wpOp P ops Q i K a w := by
  have hi := lt_of_some ho
  have hlen := pos_lt hp hi
  have hL : ∀ j, isDone (listed.setIfInBounds i true) j ↔ j = i ∨ isDone listed j := fun j => isDone_set (by rw [h.size]; exact hi)
  have gsub : ∀ J' j, Ghost ops rho pos (listed.setIfInBounds i true) J' j → j ≠ i ∧ ∃ oj, ops[j]? = some oj ∧ kindOf oj.op = .alloc ∧ ¬ isDone listed j ∧ pos j < J' ∧ gA ops oj (rho (pos j)) = some true := by
    intro J' j ⟨oj, a1, a2, a3, a4, a5⟩
    exact ⟨fun e => a3 ((hL j).2 (.inl e)), oj, a1, a2, fun hd => a3 ((hL j).2 (.inr hd)), a4, a5⟩
  -- the operands
  let ρ' : Rho := fun t => if t ∈ o.looksAt ops then rho (pos i) t else .bad
  have hρ : ∀ t ∈ o.looksAt ops, rho (pos i) t = ρ' t := fun t ht => by simp only [ρ']; rw [if_pos ht]
  have htied : Tied β ρ' n a := ⟨fun t => by
    simp only [ρ']
    by_cases ht : t ∈ o.looksAt ops
    · rw [if_pos ht]; exact h.looks hf hp ho hn hr ht
    · rw [if_neg ht]; exact .bad _, h.asize, h.defers⟩
  have step0 := (hf.op (pos i) i o (hp.at_ i hi) ho).1
  -- a step that leaves the state
  have stay : StepOk P c ops o ρ' (st J) (vals i) (st J) → (changing o → pos i < J) → Go.wpOp P ops Q i K a w := fun hstep hb => by
    refine hstep.wp' hc ho h.sim htied fun β' x w' hs' hp' hv => hK J β' w' _ ?_
    exact h.next hp ho hn hr hp'.le hv hs' (h.post.trans hp') (Nat.le_refl _) h.jle hb (.inl rfl) (h.gf.step hp' fun j hj => by
      obtain ⟨_, oj, b⟩ := gsub J j hj
      exact ⟨oj, b⟩)
  rcases still_or o with hsl | hch
  · -- pure, or reading
    refine stay ?_ (fun hch => by rcases hsl with h1 | h1 <;> rcases hch with h2 | h2 <;> rw [h1] at h2 <;> cases h2)
    rcases hsl with hpure | hload
    · exact (step0.pure hpure (st J)).congr hρ
    · rcases Nat.lt_or_ge (pos i) J with hlt | hge
      · -- behind something that changes the state: it has been read again
        rcases h.top with h0 | ⟨y, oy, hy, hcy, hdy, hyJ⟩
        · omega
        · have hne : i ≠ y := fun e => hn (e ▸ hdy)
          have hlt' : pos i < pos y := by
            have : pos i ≠ pos y := fun e => hne (pos_inj hp hi (lt_of_some hy) e)
            omega
          have hna : ¬ anc y i := fun ha => hn (h.ancDone hp hy (.inl hdy) ha)
          obtain ⟨m, hm, hre, hquiet, hw⟩ := hp.re i y o oy ho hy hload hcy hlt' hna
          have hmlen : m < plan.length := (List.getElem?_eq_some_iff.1 hre).1
          have hst : st m = st J := st_same hf hp m (by omega) (by omega) (fun z oz hz hcz hb => hquiet z oz hz hcz ⟨by omega, hb.2⟩)
          have hsame : ∀ t ∈ o.looksAt ops, rho m t = rho (pos i) t := fun t ht =>
            rho_between hf hp m (by omega) (by omega) (fun x ox hx h1 h2 e => hw x ox t hx h1 h2 e ht)
          rcases (hf.re m i o hre ho).1 with ⟨s2, hs2⟩ | hgf
          · rw [hst] at hs2
            exact (hs2.load (.inr hload)).congr fun t ht => by rw [← hρ t ht]; exact hsame t ht
          · rw [gA_congr hsame] at hgf
            rcases step0.it with ⟨hg1, _⟩ | ⟨hg1, hv1, _⟩
            · rw [hgf] at hg1; cases hg1
            · exact StepOk.congr ⟨.inr ⟨hgf, hv1, rfl⟩⟩ hρ
      · -- nothing has changed since
        have hst : st (pos i) = st J := st_same hf hp (pos i) hge (by omega) (fun x ox hx hcx hb => by
          rcases hp.last x i ox o hx ho hb.2 hcx hload with ha | ⟨z, oz, hz, hcz, h1, h2, ha⟩
          · have := h.below x ox hx hcx (h.ancDone hp ho (.inr hr) ha); omega
          · have := h.below z oz hz hcz (h.ancDone hp ho (.inr hr) ha); omega)
        rw [hst] at step0
        exact (step0.load (.inr hload)).congr hρ
  · rcases Nat.lt_or_ge (pos i) J with hlt | hge
    · -- late: it is no loud one
      have hal : kindOf o.op = .alloc := by
        rcases hch with ha | hl
        · exact ha
        · exact absurd (h.louds i o ho hl hlt) hn
      rcases step0.it with ⟨hgA, hact⟩ | ⟨hgA, hv, hst⟩
      · -- a ghost gets its block
        have hgh : Ghost ops rho pos listed J i := ⟨o, ho, hal, hn, hlt, hgA⟩
        obtain ⟨g1, g2, g3, g4⟩ := h.ghost i hgh
        rcases makes_of P c hal (val (rho (pos i))) with hfl | ⟨f, obj, hmk⟩
        · exact (not_fail hact (fun k => hfl _ k)).elim
        · obtain ⟨hv, hst⟩ := uniq hact (hmk.act (st (pos i)))
          have hobj : (st J).get (st (pos i)).next = obj := by rw [g4, hst, St.get_push, if_pos rfl]
          obtain ⟨cells, el, x, hrun, hnew, hval⟩ := hmk.run β (st J) w a.eval h.sim (fun y hy => by
            cases y with
            | tmp t => exact h.looks hf hp ho hn hr (List.mem_append_left _ (List.mem_filterMap.2 ⟨.tmp t, by simpa using hy, rfl⟩))
            | const v => exact toV_rel v
            | func g => exact toFn_rel g
            | global g => exact .bad _)
          have hwanted : Go.Region.wanted o (Go.yielded ops a.tmps) = true := by
            refine gA_ok htied (g := true) ?_
            rw [← hgA]
            unfold gA
            cases hgd : o.guard with
            | none => rfl
            | some jb =>
              obtain ⟨j, b⟩ := jb
              simp only
              cases hd : (ops[j]?).bind (·.dst) with
              | none => rfl
              | some d =>
                simp only
                rw [hρ d (by simp [Go.Oper.looksAt, hgd, hd])]
          unfold Go.wpOp
          rw [ho]
          simp only
          rw [if_pos hwanted]
          refine .inl ?_
          unfold Go.Oper.wp
          rw [hrun]
          show K (a.put o.dst x) _
          have hle : β.le (β.ext (st (pos i)).next (.row w.heap.size 0 cells.length)) := Beta.le_ext g1
          refine hK J _ _ _ (h.next hp ho hn hr hle (by rw [hv]; exact hval _ _ (Beta.ext_same _ _ _)) (h.sim.born g1 g2 hobj hnew el) (h.post.born g1 g3 el) (Nat.le_refl _) h.jle (fun _ => hlt) (.inl rfl) ⟨fun j hj => ?_, fun j k hj hk hne => ?_⟩)
          · obtain ⟨hne, oj, b⟩ := gsub J j hj
            have hgj : Ghost ops rho pos listed J j := ⟨oj, b⟩
            obtain ⟨b1, b2, b3, b4⟩ := h.ghost j hgj
            exact ⟨by rw [Beta.ext_ne _ _ (h.ghosts j i hgj hgh hne)]; exact b1, b2, b3, b4⟩
          · obtain ⟨_, oj, bj⟩ := gsub J j hj
            obtain ⟨_, ok, bk⟩ := gsub J k hk
            exact h.ghosts j k ⟨oj, bj⟩ ⟨ok, bk⟩ hne
      · refine stay ?_ (fun _ => hlt)
        exact StepOk.congr ⟨.inr ⟨hgA, hv, rfl⟩⟩ hρ
    · -- in its turn: what lies between is made of ghosts
      obtain ⟨s1, p1, gf1⟩ := advance hf hp hfresh h.sim h.post h.gf (pos i) hge (by omega) (fun x ox hx hcx h1 h2 => by
        have hnd : ¬ isDone listed x := fun hd => by have := h.below x ox hx hcx hd; omega
        refine ⟨?_, hnd⟩
        rcases hcx with ha | hl
        · exact ha
        · exact absurd (h.ancDone hp ho (.inr hr) (hp.louds x i ox o hx ho h2 hl hch)) hnd)
      refine (step0.congr hρ).wp' hc ho s1 htied fun β' x w' hs' hp' hv => hK (pos i + 1) β' w' _ ?_
      exact h.next hp ho hn hr hp'.le hv hs' (p1.trans hp') (by omega) (by omega) (fun _ => by omega) (.inr ⟨rfl, hch⟩) (gf1.step hp' fun j hj => by
        obtain ⟨hne, oj, b1, b2, b3, b4, b5⟩ := gsub _ j hj
        have : pos j ≠ pos i := fun e => hne (pos_inj hp (lt_of_some b1) hi e)
        exact ⟨oj, b1, b2, b3, by omega, b5⟩)

/-- all orders -/
theorem region_any (hc : CFSound P c) (hf : Flat P c ops plan vals rho st) (hp : PlanOk ops plan pos anc n) (hfresh : ∀ id l, β0 id = some l → num id < num (st 0).next) {Q : Exit → Act → World → Prop}
    (hQ : ∀ β w a, Sim β (st plan.length) w → Post β0 (st 0) w0 β (st plan.length) w → Tied β (rho plan.length) n a → Q .normal a w) :
    ∀ fuel listed J β w a, Inv P ops plan vals rho st pos n β0 w0 listed J β w a → todo listed ops.size ≤ fuel → Go.wpAny P .any ops Q fuel listed a w := by
  intro fuel
  have fin : ∀ (listed : Array Bool) J β w a, Inv P ops plan vals rho st pos n β0 w0 listed J β w a → (∀ i, i < ops.size → isDone listed i) → Q .normal a w := by
    intro listed J β w a h hall
    obtain ⟨s1, p1, _⟩ := advance hf hp hfresh h.sim h.post h.gf plan.length h.jle (Nat.le_refl _) (fun x ox hx hcx h1 h2 => by
      have := h.below x ox hx hcx (hall x (lt_of_some hx)); omega)
    refine hQ β w a s1 p1 ⟨fun t => ?_, h.asize, h.defers⟩
    by_cases hex : ∃ x, (∃ ox, ops[x]? = some ox ∧ ox.dst = some t) ∧ pos x < plan.length
    · obtain ⟨x, ⟨ox, hx, hd⟩, hlt, hmax⟩ := exists_last _ pos _ hex
      rw [rho_held hf hp hx hd plan.length (Nat.le_refl _) hlt (fun y oy hy h1 h2 e => by have := hmax y ⟨oy, hy, e⟩ h2; omega)]
      exact h.held x ox t hx (hall x (lt_of_some hx)) hd (fun y oy hy _ hdy => hmax y ⟨oy, hy, hdy⟩ (pos_lt hp (lt_of_some hy)))
    · have hno : ∀ (x : Nat) ox, ops[x]? = some ox → ox.dst ≠ some t := fun x ox hx hd => hex ⟨x, ⟨ox, hx, hd⟩, pos_lt hp (lt_of_some hx)⟩
      rw [rho_free hf hp plan.length (Nat.le_refl _) (fun x ox hx _ => hno x ox hx)]
      exact h.free t (fun x ox hx _ => hno x ox hx)
  have full : ∀ (listed : Array Bool) J β w a, Inv P ops plan vals rho st pos n β0 w0 listed J β w a → Go.Region.ready .any ops listed = [] → ∀ m i, pos i < m → i < ops.size → isDone listed i := by
    intro listed J β w a h hrd m
    induction m with
    | zero => intro i h1; omega
    | succ m ih =>
      intro i h1 h2
      by_cases hd : isDone listed i
      · exact hd
      · exfalso
        obtain ⟨o, ho⟩ : ∃ o, ops[i]? = some o := ⟨_, Array.getElem?_eq_getElem h2⟩
        have : i ∈ Go.Region.ready .any ops listed := Go.mem_ready.2 ⟨not_done.2 ⟨by rw [h.size]; exact h2, hd⟩, o, ho, fun e he hb => by
          obtain ⟨a1, a2⟩ := hp.dep i o ho e he hb
          exact ih e.on (by omega) a1⟩
        rw [hrd] at this; cases this
  induction fuel with
  | zero =>
    intro listed J β w a h ht
    have hall : ∀ i, i < ops.size → isDone listed i := fun i hi => by
      have h1 := todo_zero (l := listed) ops.size (by omega) i hi
      by_cases hd : isDone listed i
      · exact hd
      · have h2 := not_done.2 ⟨by rw [h.size]; exact hi, hd⟩
        rw [h1] at h2; cases h2
    refine ⟨?_, fin listed J β w a h hall⟩
    cases hrd : Go.Region.ready .any ops listed with
    | nil => rfl
    | cons i r =>
      have hm : i ∈ Go.Region.ready .any ops listed := by rw [hrd]; simp
      obtain ⟨h1, o, ho, _⟩ := Go.mem_ready.1 hm
      exact absurd (hall i (lt_of_some ho)) (not_done.1 h1).2
  | succ fuel ih =>
    intro listed J β w a h ht
    refine ⟨fun hrd => fin listed J β w a h (fun i hi => full listed J β w a h hrd (pos i + 1) i (by omega) hi), fun i hi => ?_⟩
    obtain ⟨h1, o, ho, hall⟩ := Go.mem_ready.1 hi
    have hn := (not_done.1 h1).2
    refine h.step hc hf hp hfresh ho hn (fun e he hb => hall e he hb) fun J' β' w' a' h' => ih _ J' β' w' a' h' ?_
    have := todo_set h1 ops.size (lt_of_some ho)
    omega
end
end Viv

/-
  REGIONS, TRANSLATED: from a plan to the evaluator's operations, and back.
-/
namespace Viv
open Go (Value World IntKind Addr Program Act Exit Oper Operand Ending undef)

def idxO (t : Nat) : List (Option Nat) → Option Nat
  | [] => none
  | none :: r => match idxO t r with
    | none => none
    | some j => some (j + 1)
  | some u :: r => match Nat.beq u t with
    | true => some 0
    | false => match idxO t r with
      | none => none
      | some j => some (j + 1)
def idxN (t : Nat) : List Nat → Option Nat
  | [] => none
  | u :: r => match Nat.beq u t with
    | true => some 0
    | false => match idxN t r with
      | none => none
      | some j => some (j + 1)
def slotOf (sl : List Nat) (t : Nat) : Option Pth :=
  match idxN t sl with
  | none => none
  | some j => match Nat.beq (num (pthF 20 j)) j with
    | true => some (pthF 20 j)
    | false => none
def slotD (sl : List Nat) : Option Nat → Option Pth
  | none => none
  | some d => slotOf sl d
noncomputable def opd (sl : List Nat) (ds : List (Option Nat)) : Operand → Opd
  | .tmp t => match idxO t ds with
    | some j => lo j
    | none => match slotOf sl t with
      | some p => ev p
      | none => cn .bad
  | .const v => cn (toV v)
  | .func f => cn (toFn f)
  | .global _ => cn .bad
noncomputable def sfOf (P : Program) (sl : List Nat) (ds : List (Option Nat)) (op : Go.Op) : SF := fun c t e s k => act P op c (fun x => opd sl ds x t e) s k
def guardPos (ops : Array Oper) (ds : List (Option Nat)) (j : Nat) : Option Nat :=
  match (ops[j]?).bind (·.dst) with
  | none => none
  | some d => idxO d ds
noncomputable def trOps (P : Program) (sl : List Nat) (ops : Array Oper) : List Item → List (Option Nat) → List (Option Nat) → AOps
  | [], _, _ => .nil
  | .op i :: r, ds, tg => match ops[i]? with
    | none => .p (unsup 51) .nil
    | some o => match o.guard with
      | none => match slotD sl o.dst with
        | none => .p (sfOf P sl ds o.op) (trOps P sl ops r (o.dst :: ds) (some i :: tg))
        | some q => .d (sfOf P sl ds o.op) q (trOps P sl ops r (o.dst :: ds) (some i :: tg))
      | some (j, b) => match guardPos ops ds j with
        | none => .p (unsup 52) .nil
        | some p => match slotD sl o.dst with
          | none => .g p b (sfOf P sl ds o.op) (trOps P sl ops r (o.dst :: ds) (some i :: tg))
          | some q => .gd p b (sfOf P sl ds o.op) q (trOps P sl ops r (o.dst :: ds) (some i :: tg))
  | .re i :: r, ds, tg => match ops[i]? with
    | none => .p (unsup 53) .nil
    | some o => match idxO i tg with
      | none => .p (unsup 54) .nil
      | some pos => match o.guard with
        | none => .p (reS (sfOf P sl ds o.op) pos) (trOps P sl ops r (none :: ds) (none :: tg))
        | some (j, b) => match guardPos ops ds j with
          | none => .p (unsup 52) .nil
          | some p => .g p b (reS (sfOf P sl ds o.op) pos) (trOps P sl ops r (none :: ds) (none :: tg))

/-! ### laws -/
theorem idxO_cons (t : Nat) (x : Option Nat) (r : List (Option Nat)) : idxO t (x :: r) = if x = some t then some 0 else (idxO t r).map (· + 1) := by
  cases x with
  | none => simp only [idxO, reduceCtorEq, if_false]; cases idxO t r <;> rfl
  | some u =>
    simp only [idxO, Option.some.injEq]
    by_cases e : u = t
    · subst e; simp [Nat.beq_refl]
    · rw [if_neg e]
      have : Nat.beq u t = false := by rw [beq_dec]; simp [e]
      rw [this]; cases idxO t r <;> rfl
theorem idxN_get : ∀ {sl : List Nat} {t j : Nat}, idxN t sl = some j → sl[j]? = some t
  | [], t, j, h => by cases h
  | u :: r, t, j, h => by
    simp only [idxN] at h
    cases hb : Nat.beq u t with
    | true => rw [hb] at h; cases h; have := Nat.eq_of_beq_eq_true hb; simp [this]
    | false =>
      rw [hb] at h
      cases hi : idxN t r with
      | none => rw [hi] at h; cases h
      | some k => rw [hi] at h; cases h; simpa using idxN_get hi
theorem slotOf_inj {sl : List Nat} {t u : Nat} {p : Pth} (h : slotOf sl t = some p) (h' : slotOf sl u = some p) : t = u := by
  unfold slotOf at h h'
  cases hi : idxN t sl with
  | none => rw [hi] at h; cases h
  | some j =>
    cases hi' : idxN u sl with
    | none => rw [hi'] at h'; cases h'
    | some j' =>
      rw [hi] at h; rw [hi'] at h'
      simp only at h h'
      cases hb : Nat.beq (num (pthF 20 j)) j with
      | false => rw [hb] at h; cases h
      | true =>
        cases hb' : Nat.beq (num (pthF 20 j')) j' with
        | false => rw [hb'] at h'; cases h'
        | true =>
          rw [hb] at h; rw [hb'] at h'
          cases h
          have e1 := Nat.eq_of_beq_eq_true hb
          have e2 := Nat.eq_of_beq_eq_true hb'
          simp only [Option.some.injEq] at h'
          rw [h', e1] at e2
          subst e2
          have a := idxN_get hi; have b := idxN_get hi'
          rw [a] at b; cases b; rfl

/-- the evaluator's lists hold what rho says -/
structure Lk (sl : List Nat) (ds : List (Option Nat)) (t : L) (e : Env) (ρ : Rho) : Prop where
  inL : ∀ u j, idxO u ds = some j → nth j t = ρ u
  inE : ∀ u p, slotOf sl u = some p → pget .bad p e = ρ u
  out : ∀ u, idxO u ds = none → slotOf sl u = none → ρ u = .bad

theorem Lk.opd {sl : List Nat} {ds : List (Option Nat)} {t : L} {e : Env} {ρ : Rho} (h : Lk sl ds t e ρ) (x : Operand) : Viv.opd sl ds x t e = val ρ x := by
  cases x with
  | tmp u =>
    simp only [Viv.opd, val]
    cases hi : idxO u ds with
    | some j => exact h.inL u j hi
    | none =>
      cases hs : slotOf sl u with
      | some p => exact h.inE u p hs
      | none => exact (h.out u hi hs).symm
  | const v => rfl
  | func f => rfl
  | global g => rfl
theorem nth_cons_succ (j : Nat) (v : V) (t : L) : nth (j + 1) (v :: t) = nth j t := by rw [nth_eq, nth_eq]; rfl
theorem nth_cons_zero (v : V) (t : L) : nth 0 (v :: t) = v := by rw [nth_eq]; rfl
/-- one more value -/
theorem Lk.put {sl : List Nat} {ds : List (Option Nat)} {t : L} {e e' : Env} {ρ : Rho} (h : Lk sl ds t e ρ) (dst : Option Nat) (v : V)
    (he : e' = match slotD sl dst with | none => e | some q => pset .bad q v e) : Lk sl (dst :: ds) (v :: t) e' (putR ρ dst v) := by
  subst he
  refine ⟨fun u j hj => ?_, fun u p hp => ?_, fun u hi hs => ?_⟩
  · rw [idxO_cons] at hj
    by_cases c : dst = some u
    · rw [if_pos c] at hj; cases hj
      rw [nth_cons_zero, c]; simp [putR]
    · rw [if_neg c] at hj
      cases hi : idxO u ds with
      | none => rw [hi] at hj; cases hj
      | some k =>
        rw [hi] at hj; cases hj
        rw [nth_cons_succ, h.inL u k hi]
        cases dst with
        | none => rfl
        | some d => simp only [putR]; rw [if_neg (fun e => c (by rw [e]))]
  · cases dst with
    | none => exact h.inE u p hp
    | some d =>
      simp only [putR, slotD]
      by_cases c : u = d
      · subst c; rw [hp, if_pos rfl]; exact pget_pset_same _ _ _ _
      · rw [if_neg c]
        cases hq : slotOf sl d with
        | none => exact h.inE u p hp
        | some q =>
          have : p ≠ q := fun e => c (slotOf_inj hp (e ▸ hq))
          simp only
          rw [pget_pset_ne _ this]; exact h.inE u p hp
  · rw [idxO_cons] at hi
    by_cases c : dst = some u
    · rw [if_pos c] at hi; cases hi
    · rw [if_neg c] at hi
      have hi' : idxO u ds = none := by cases hx : idxO u ds with | none => rfl | some k => rw [hx] at hi; cases hi
      cases dst with
      | none => exact h.out u hi' hs
      | some d => simp only [putR]; rw [if_neg (fun e => c (by rw [e]))]; exact h.out u hi' hs

theorem guardK_eq (v : V) (b : Bool) (x y : RC) : guardK v b x y = match gB b v with | none => fl | some true => x | some false => y := by
  cases v <;> cases b <;> rfl

/-! same -/
theorem beqB_eq {a b : Bool} (h : beqB a b = true) : a = b := by cases a <;> cases b <;> first | rfl | cases h
theorem same0_eq {x y : V} (h : same0 x y = true) : x = y := by
  have b2 : ∀ (c d : Bool), (Bool.rec false c d : Bool) = true → d = true ∧ c = true := fun c d h => by cases d; cases h; exact ⟨rfl, h⟩
  cases x <;> cases y <;> first | rfl | (cases h; done) | skip
  case p.p n m => rw [Nat.eq_of_beq_eq_true h]
  case m.m n m => rw [Nat.eq_of_beq_eq_true h]
  case by.by n m => rw [Nat.eq_of_beq_eq_true h]
  case k.k a n b m => obtain ⟨h1, h2⟩ := b2 _ _ h; rw [Nat.eq_of_beq_eq_true h1, Nat.eq_of_beq_eq_true h2]
  case sym.sym a n b m => obtain ⟨h1, h2⟩ := b2 _ _ h; rw [Nat.eq_of_beq_eq_true h1, Nat.eq_of_beq_eq_true h2]
  case str.str a n b m => obtain ⟨h1, h2⟩ := b2 _ _ h; rw [Nat.eq_of_beq_eq_true h1, Nat.eq_of_beq_eq_true h2]
  case ptr.ptr a n b m => obtain ⟨h1, h2⟩ := b2 _ _ h; rw [(beqP_eq _ _).1 h1, Nat.eq_of_beq_eq_true h2]
  case slc.slc a1 a2 a3 a4 a5 a6 b1 b2' b3 b4 b5 b6 =>
    obtain ⟨h1, h⟩ := b2 _ _ h
    obtain ⟨h2, h⟩ := b2 _ _ h
    obtain ⟨h3, h⟩ := b2 _ _ h
    obtain ⟨h4, h⟩ := b2 _ _ h
    obtain ⟨h5, h6⟩ := b2 _ _ h
    rw [(beqP_eq _ _).1 h1, Nat.eq_of_beq_eq_true h2, Nat.eq_of_beq_eq_true h3, beqB_eq h4, Nat.eq_of_beq_eq_true h5, Nat.eq_of_beq_eq_true h6]
  case map.map a b => rw [(beqP_eq _ _).1 h]
theorem sameL_eq : ∀ {l m : L}, sameL l m = true → l = m
  | [], [], _ => rfl
  | [], _ :: _, h => by cases h
  | _ :: _, [], h => by cases h
  | a :: l, b :: m, h => by
    have h' : (Bool.rec false (sameL l m) (same0 a b) : Bool) = true := h
    cases hs : same0 a b with
    | false => rw [hs] at h'; cases h'
    | true => rw [hs] at h'; rw [same0_eq hs, sameL_eq h']
theorem sameB_eq {x y : V} (h : sameB x y = true) : x = y := by
  cases x <;> first | exact same0_eq h | skip
  case agg l => cases y <;> first | (cases h; done) | (rw [sameL_eq h])
end Viv

/-
  REGIONS, TRANSLATED: what the evaluator's run says.
-/
namespace Viv
open Go (Value World IntKind Addr Program Act Exit Oper Operand Ending undef)

def cons' {α : Type} (x : α) (f : Nat → α) : Nat → α
  | 0 => x
  | m + 1 => f m
theorem evalK_nil (c : CF) (t : L) (e : Env) (s : St) : evalK c .nil t e s = .norm e s := rfl
theorem evalK_p (c : CF) (f : SF) (r : AOps) (t : L) (e : Env) (s : St) : evalK c (.p f r) t e s = f c t e s (fun v s => evalK c r (v :: t) e s) := rfl
theorem evalK_d (c : CF) (f : SF) (q : Pth) (r : AOps) (t : L) (e : Env) (s : St) : evalK c (.d f q r) t e s = f c t e s (fun v s => evalK c r (v :: t) (pset .bad q v e) s) := rfl
theorem evalK_g (c : CF) (j : Nat) (b : Bool) (f : SF) (r : AOps) (t : L) (e : Env) (s : St) : evalK c (.g j b f r) t e s = guardK (nth j t) b (f c t e s (fun v s => evalK c r (v :: t) e s)) (evalK c r (.tup [] :: t) e s) := rfl
theorem evalK_gd (c : CF) (j : Nat) (b : Bool) (f : SF) (q : Pth) (r : AOps) (t : L) (e : Env) (s : St) :
    evalK c (.gd j b f q r) t e s = guardK (nth j t) b (f c t e s (fun v s => evalK c r (v :: t) (pset .bad q v e) s)) (evalK c r (.tup [] :: t) (pset .bad q (.tup []) e) s) := rfl

section
variable {P : Program} {c : CF} {ops : Array Oper}

/-- the operation of a plan, put to the evaluator -/
theorem evalK_op (P : Program) (c : CF) (sl : List Nat) (ops : Array Oper) (i : Nat) (r : List Item) (ds tg : List (Option Nat)) {o : Oper} (ho : ops[i]? = some o) {t : L} {e : Env} {ρ : Rho} (hl : Lk sl ds t e ρ) (s : St) :
    (∃ why, evalK c (trOps P sl ops (.op i :: r) ds tg) t e s = .f why) ∨
    (gA ops o ρ = some true ∧ evalK c (trOps P sl ops (.op i :: r) ds tg) t e s = act P o.op c (val ρ) s (fun v s => evalK c (trOps P sl ops r (o.dst :: ds) (some i :: tg)) (v :: t) (match slotD sl o.dst with | none => e | some q => pset .bad q v e) s)) ∨
    (gA ops o ρ = some false ∧ evalK c (trOps P sl ops (.op i :: r) ds tg) t e s = evalK c (trOps P sl ops r (o.dst :: ds) (some i :: tg)) (.tup [] :: t) (match slotD sl o.dst with | none => e | some q => pset .bad q (.tup []) e) s) := by
  have hval : (fun x => opd sl ds x t e) = val ρ := funext fun x => hl.opd x
  have hsf : ∀ k, sfOf P sl ds o.op c t e s k = act P o.op c (val ρ) s k := fun k => by unfold sfOf; rw [hval]
  simp only [trOps, ho]
  cases hg : o.guard with
  | none =>
    have hgA : gA ops o ρ = some true := by simp only [gA, hg]
    cases hs : slotD sl o.dst with
    | none => exact .inr (.inl ⟨hgA, by simp only [evalK_p, hsf]⟩)
    | some q => exact .inr (.inl ⟨hgA, by simp only [evalK_d, hsf]⟩)
  | some jb =>
    obtain ⟨j, b⟩ := jb
    simp only
    cases hp : guardPos ops ds j with
    | none => exact .inl ⟨52, rfl⟩
    | some p =>
      have hgA : gA ops o ρ = gB b (nth p t) := by
        simp only [gA, hg]
        unfold guardPos at hp
        cases hd : (ops[j]?).bind (·.dst) with
        | none => rw [hd] at hp; cases hp
        | some d => rw [hd] at hp; simp only at hp ⊢; rw [hl.inL d p hp]
      rw [hgA]
      cases hs : slotD sl o.dst with
      | none =>
        simp only [evalK_g, guardK_eq, hsf]
        cases hb : gB b (nth p t) with
        | none => exact .inl ⟨0, rfl⟩
        | some g => cases g <;> simp
      | some q =>
        simp only [evalK_gd, guardK_eq, hsf]
        cases hb : gB b (nth p t) with
        | none => exact .inl ⟨0, rfl⟩
        | some g => cases g <;> simp

/-- what is read again -/
theorem evalK_re (P : Program) (c : CF) (sl : List Nat) (ops : Array Oper) (i : Nat) (r : List Item) (ds tg : List (Option Nat)) {t : L} {e : Env} {ρ : Rho} (hl : Lk sl ds t e ρ) (s : St) :
    (∃ why, evalK c (trOps P sl ops (.re i :: r) ds tg) t e s = .f why) ∨
    ∃ o pos, ops[i]? = some o ∧ idxO i tg = some pos ∧
    ((gA ops o ρ = some true ∧ evalK c (trOps P sl ops (.re i :: r) ds tg) t e s = act P o.op c (val ρ) s (fun v _ => sameK (nth pos t) v (evalK c (trOps P sl ops r (none :: ds) (none :: tg)) (.tup [] :: t) e s))) ∨
     (gA ops o ρ = some false ∧ evalK c (trOps P sl ops (.re i :: r) ds tg) t e s = evalK c (trOps P sl ops r (none :: ds) (none :: tg)) (.tup [] :: t) e s)) := by
  have hval : (fun x => opd sl ds x t e) = val ρ := funext fun x => hl.opd x
  simp only [trOps]
  cases ho : ops[i]? with
  | none => exact .inl ⟨53, rfl⟩
  | some o =>
    have hsf : ∀ k, sfOf P sl ds o.op c t e s k = act P o.op c (val ρ) s k := fun k => by unfold sfOf; rw [hval]
    simp only
    cases hi : idxO i tg with
    | none => exact .inl ⟨54, rfl⟩
    | some pos =>
      simp only
      cases hg : o.guard with
      | none =>
        have hgA : gA ops o ρ = some true := by simp only [gA, hg]
        exact .inr ⟨o, pos, rfl, rfl, .inl ⟨hgA, by simp only [evalK_p, reS, hsf]⟩⟩
      | some jb =>
        obtain ⟨j, b⟩ := jb
        simp only
        cases hp : guardPos ops ds j with
        | none => exact .inl ⟨52, rfl⟩
        | some p =>
          have hgA : gA ops o ρ = gB b (nth p t) := by
            simp only [gA, hg]
            unfold guardPos at hp
            cases hd : (ops[j]?).bind (·.dst) with
            | none => rw [hd] at hp; cases hp
            | some d => rw [hd] at hp; simp only at hp ⊢; rw [hl.inL d p hp]
          simp only [evalK_g, guardK_eq, reS, hsf]
          cases hb : gB b (nth p t) with
          | none => exact .inl ⟨0, rfl⟩
          | some g =>
            refine .inr ⟨o, pos, rfl, rfl, ?_⟩
            rw [hgA, hb]
            cases g <;> simp

theorem sameK_eq (x y : V) (r : RC) : sameK x y r = if sameB x y = true then r else fl := by
  unfold sameK; cases sameB x y <;> rfl

/-- the run of a plan -/
structure Ran (P : Program) (c : CF) (sl : List Nat) (ops : Array Oper) (plan : List Item) (ρ : Rho) (s : St) (old : Nat → V) (res : RC) : Prop where
  it : ∃ vals rho st e', Flat P c ops plan vals rho st ∧ rho 0 = ρ ∧ st 0 = s ∧ res = .norm e' (st plan.length) ∧ (∀ u p, slotOf sl u = some p → pget .bad p e' = rho plan.length u) ∧ (∀ i, Item.op i ∉ plan → vals i = old i) ∧
    ∃ (_β0 β' : Beta) (_w0 w' : World), Sim β' (st plan.length) w'

theorem extract (hc : CFSound P c) {sl : List Nat} {n : Nat} : ∀ (plan : List Item) (ds tg : List (Option Nat)) (t : L) (e : Env) (s : St) (ρ : Rho) (old : Nat → V) (β : Beta) (w : World) (a : Act),
    Lk sl ds t e ρ → (∀ i pos, idxO i tg = some pos → nth pos t = old i ∧ Item.op i ∉ plan) → plan.Pairwise (fun x y => ∀ i, x = .op i → y ≠ .op i) → Sim β s w → Tied β ρ n a → (∀ (i : Nat) o, ops[i]? = some o → ∀ d, o.dst = some d → d < n) →
    (∀ why, evalK c (trOps P sl ops plan ds tg) t e s ≠ .f why) → Ran P c sl ops plan ρ s old (evalK c (trOps P sl ops plan ds tg) t e s)
  | [], ds, tg, t, e, s, ρ, old, β, w, a, hl, htg, hnd, hs, ht, hd, hne =>
    ⟨old, fun _ => ρ, fun _ => s, e, ⟨fun m i o h _ => by simp at h, fun m i o h _ => by simp at h⟩, rfl, rfl, rfl, hl.inE, fun _ _ => rfl, β, β, w, w, hs⟩
  | .op i :: r, ds, tg, t, e, s, ρ, old, β, w, a, hl, htg, hnd, hs, ht, hd, hne => by
    obtain ⟨hnd1, hnd2⟩ := List.pairwise_cons.1 hnd
    have hir : Item.op i ∉ r := fun hm => hnd1 _ hm i rfl rfl
    cases ho : ops[i]? with
    | none => exact absurd (show evalK c (trOps P sl ops (.op i :: r) ds tg) t e s = .f 51 by simp only [trOps, ho]; rfl) (hne 51)
    | some o =>
      -- what comes behind
      have rest : ∀ (v : V) (s1 : St) (β1 : Beta) (w1 : World) (x : Value), StepOk P c ops o ρ s v s1 → Sim β1 s1 w1 → Post β s w β1 s1 w1 → VRel β1 v x →
          evalK c (trOps P sl ops (.op i :: r) ds tg) t e s = evalK c (trOps P sl ops r (o.dst :: ds) (some i :: tg)) (v :: t) (match slotD sl o.dst with | none => e | some q => pset .bad q v e) s1 →
          Ran P c sl ops (.op i :: r) ρ s old (evalK c (trOps P sl ops (.op i :: r) ds tg) t e s) := by
        intro v s1 β1 w1 x hstep hs1 hp1 hv heq
        rw [heq]
        rw [heq] at hne
        obtain ⟨vals, rho, st, e', hf, h0, hs0, hres, hend, hold, hw⟩ := (extract hc r (o.dst :: ds) (some i :: tg) (v :: t) _ s1 (putR ρ o.dst v) (fun j => if j = i then v else old j) β1 w1 (a.put o.dst x) (hl.put o.dst v rfl)
          (fun j pos hj => by
            rw [idxO_cons] at hj
            by_cases ej : j = i
            · subst ej; rw [if_pos rfl] at hj; cases hj
              exact ⟨by rw [nth_cons_zero, if_pos rfl], hir⟩
            · rw [if_neg (fun e => ej (by cases e; rfl))] at hj
              cases hx : idxO j tg with
              | none => rw [hx] at hj; cases hj
              | some k =>
                rw [hx] at hj; cases hj
                obtain ⟨b1, b2⟩ := htg j k hx
                exact ⟨by rw [nth_cons_succ, if_neg ej]; exact b1, fun hm => b2 (List.mem_cons_of_mem _ hm)⟩)
          hnd2 hs1 ((ht.mono hp1.le).put o.dst (hd i o ho) hv) hd hne).it
        have hvi : vals i = v := by rw [hold i hir]; exact if_pos rfl
        refine ⟨vals, cons' ρ rho, cons' s st, e', ⟨fun m j oj hm hoj => ?_, fun m j oj hm hoj => ?_⟩, rfl, rfl, hres, hend, fun j hj => ?_, hw⟩
        · cases m with
          | zero =>
            simp only [List.getElem?_cons_zero, Option.some.injEq, Item.op.injEq] at hm; subst hm
            rw [ho] at hoj; cases hoj
            rw [hvi]
            exact ⟨by show StepOk P c ops o ρ s v (st 0); rw [hs0]; exact hstep, by show rho 0 = _; rw [h0]; rfl⟩
          | succ m => exact hf.op m j oj (by simpa using hm) hoj
        · cases m with
          | zero => simp at hm
          | succ m => exact hf.re m j oj (by simpa using hm) hoj
        · rw [hold j (fun hm => hj (List.mem_cons_of_mem _ hm)), if_neg (fun e => hj (by rw [e]; exact List.mem_cons_self))]
      rcases evalK_op P c sl ops i r ds tg ho hl s with ⟨why, hf⟩ | ⟨hg, heq⟩ | ⟨hg, heq⟩
      · exact absurd hf (hne why)
      · rcases act_out (P := P) hc hs o (ρ := val ρ) (ρ' := a.eval) (fun g => rfl) (fun x _ => ht.operand x) with ⟨why, hf⟩ | ⟨v, s1, hk, hgo⟩
        · exact absurd (heq.trans (hf _)) (hne why)
        · obtain ⟨x, w1, β1, hv, hs1, hp1⟩ := goes_some hgo
          exact rest v s1 β1 w1 x ⟨.inl ⟨hg, hk⟩⟩ hs1 hp1 hv (heq.trans (hk _))
      · exact rest (.tup []) s β w undef ⟨.inr ⟨hg, rfl, rfl⟩⟩ hs (.refl β s w) undef_rel heq
  | .re i :: r, ds, tg, t, e, s, ρ, old, β, w, a, hl, htg, hnd, hs, ht, hd, hne => by
    obtain ⟨hnd1, hnd2⟩ := List.pairwise_cons.1 hnd
    have rest : ∀ (o : Oper) (pos : Nat), ops[i]? = some o → idxO i tg = some pos → ((∃ s2, StepOk P c ops o ρ s (old i) s2) ∨ gA ops o ρ = some false) →
        evalK c (trOps P sl ops (.re i :: r) ds tg) t e s = evalK c (trOps P sl ops r (none :: ds) (none :: tg)) (.tup [] :: t) e s →
        Ran P c sl ops (.re i :: r) ρ s old (evalK c (trOps P sl ops (.re i :: r) ds tg) t e s) := by
      intro o pos ho hpos hstep heq
      rw [heq]
      rw [heq] at hne
      have hir : Item.op i ∉ r := fun hm => (htg i pos hpos).2 (List.mem_cons_of_mem _ hm)
      have hlk : Lk sl (none :: ds) (.tup [] :: t) e ρ := hl.put none (.tup []) rfl
      obtain ⟨vals, rho, st, e', hf, h0, hs0, hres, hend, hold, hw⟩ := (extract hc r (none :: ds) (none :: tg) (.tup [] :: t) e s ρ old β w a hlk
        (fun j k hj => by
          rw [idxO_cons, if_neg (fun e => by cases e)] at hj
          cases hx : idxO j tg with
          | none => rw [hx] at hj; cases hj
          | some k' =>
            rw [hx] at hj; cases hj
            obtain ⟨b1, b2⟩ := htg j k' hx
            exact ⟨by rw [nth_cons_succ]; exact b1, fun hm => b2 (List.mem_cons_of_mem _ hm)⟩)
        hnd2 hs ht hd hne).it
      refine ⟨vals, cons' ρ rho, cons' s st, e', ⟨fun m j oj hm hoj => ?_, fun m j oj hm hoj => ?_⟩, rfl, rfl, hres, hend, fun j hj => hold j (fun hm => hj (List.mem_cons_of_mem _ hm)), hw⟩
      · cases m with
        | zero => simp at hm
        | succ m => exact hf.op m j oj (by simpa using hm) hoj
      · cases m with
        | zero =>
          simp only [List.getElem?_cons_zero, Option.some.injEq, Item.re.injEq] at hm; subst hm
          rw [ho] at hoj; cases hoj
          rw [hold i hir]
          exact ⟨hstep, hs0, h0⟩
        | succ m => exact hf.re m j oj (by simpa using hm) hoj
    rcases evalK_re P c sl ops i r ds tg hl s with ⟨why, hf⟩ | ⟨o, pos, ho, hpos, ⟨hg, heq⟩ | ⟨hg, heq⟩⟩
    · exact absurd hf (hne why)
    · rcases act_out (P := P) hc hs o (ρ := val ρ) (ρ' := a.eval) (fun g => rfl) (fun x _ => ht.operand x) with ⟨why, hf⟩ | ⟨v, s1, hk, hgo⟩
      · exact absurd (heq.trans (hf _)) (hne why)
      · have h2 := heq.trans (hk _)
        simp only [sameK_eq] at h2
        by_cases hsm : sameB (nth pos t) v = true
        · rw [if_pos hsm] at h2
          have e1 := sameB_eq hsm
          rw [(htg i pos hpos).1] at e1
          exact rest o pos ho hpos (.inl ⟨s1, ⟨.inl ⟨hg, by rw [e1]; exact hk⟩⟩⟩) h2
        · rw [if_neg hsm] at h2; exact absurd h2 (hne 0)
    · exact rest o pos ho hpos (.inr hg) heq
end
end Viv

/-
  PLANS, CHECKED.
-/
namespace Viv
open Go (Value World IntKind Addr Program Act Exit Oper Operand Ending undef)

def isLoad (o : Oper) : Bool := match kindOf o.op with | .load => true | _ => false
def isLoud (o : Oper) : Bool := match kindOf o.op with | .loud => true | _ => false
def isChg (o : Oper) : Bool := match kindOf o.op with | .loud => true | .alloc => true | _ => false
theorem isLoad_iff {o : Oper} : isLoad o = true ↔ kindOf o.op = .load := by unfold isLoad; cases kindOf o.op <;> simp
theorem isLoud_iff {o : Oper} : isLoud o = true ↔ kindOf o.op = .loud := by unfold isLoud; cases kindOf o.op <;> simp
theorem isChg_iff {o : Oper} : isChg o = true ↔ changing o := by unfold isChg changing; cases kindOf o.op <;> simp

structure RowP where
  i : Nat
  o : Oper
  p : Nat
  m : Nat
def rowsP : Nat → List Oper → List Nat → List Nat → List RowP
  | i, o :: os, p :: ps, m :: ms => ⟨i, o, p, m⟩ :: rowsP (i + 1) os ps ms
  | _, _, _, _ => []
theorem rowsP_mem : ∀ {os : List Oper} {ps ms : List Nat} {i0 i : Nat} {o : Oper} {p m : Nat}, os[i]? = some o → ps[i]? = some p → ms[i]? = some m → (⟨i0 + i, o, p, m⟩ : RowP) ∈ rowsP i0 os ps ms
  | [], _, _, _, i, _, _, _, h, _, _ => by simp at h
  | _ :: _, [], _, _, i, _, _, _, _, h, _ => by simp at h
  | _ :: _, _ :: _, [], _, i, _, _, _, _, _, h => by simp at h
  | o' :: os, p' :: ps, m' :: ms, i0, 0, o, p, m, h1, h2, h3 => by
    simp only [List.getElem?_cons_zero, Option.some.injEq] at h1 h2 h3
    subst h1; subst h2; subst h3
    simp [rowsP]
  | o' :: os, p' :: ps, m' :: ms, i0, i + 1, o, p, m, h1, h2, h3 => by
    simp only [List.getElem?_cons_succ] at h1 h2 h3
    have := rowsP_mem (i0 := i0 + 1) h1 h2 h3
    simp only [rowsP]
    refine List.mem_cons_of_mem _ ?_
    rw [show i0 + (i + 1) = i0 + 1 + i by omega]; exact this
theorem rowsP_of : ∀ {os : List Oper} {ps ms : List Nat} {i0 : Nat} {r : RowP}, r ∈ rowsP i0 os ps ms → ∃ i, r.i = i0 + i ∧ os[i]? = some r.o ∧ ps[i]? = some r.p ∧ ms[i]? = some r.m
  | [], _, _, _, r, h => by simp [rowsP] at h
  | _ :: _, [], _, _, r, h => by simp [rowsP] at h
  | _ :: _, _ :: _, [], _, r, h => by simp [rowsP] at h
  | o' :: os, p' :: ps, m' :: ms, i0, r, h => by
    simp only [rowsP, List.mem_cons] at h
    rcases h with rfl | h
    · exact ⟨0, by simp, by simp, by simp, by simp⟩
    · obtain ⟨i, a, b, c, d⟩ := rowsP_of h
      exact ⟨i + 1, by omega, by simpa using b, by simpa using c, by simpa using d⟩

def items : Nat → List Item → List (Nat × Item)
  | _, [] => []
  | m, it :: r => (m, it) :: items (m + 1) r
theorem items_mem : ∀ {l : List Item} {m0 m : Nat} {it : Item}, l[m]? = some it → (m0 + m, it) ∈ items m0 l
  | [], _, m, _, h => by simp at h
  | x :: l, m0, 0, it, h => by simp only [List.getElem?_cons_zero, Option.some.injEq] at h; subst h; simp [items]
  | x :: l, m0, m + 1, it, h => by
    simp only [List.getElem?_cons_succ] at h
    have := items_mem (m0 := m0 + 1) h
    simp only [items]
    refine List.mem_cons_of_mem _ ?_
    rw [show m0 + (m + 1) = m0 + 1 + m by omega]; exact this
theorem items_of : ∀ {l : List Item} {m0 : Nat} {q : Nat × Item}, q ∈ items m0 l → ∃ m, q.1 = m0 + m ∧ l[m]? = some q.2
  | [], _, q, h => by simp [items] at h
  | x :: l, m0, q, h => by
    simp only [items, List.mem_cons] at h
    rcases h with rfl | h
    · exact ⟨0, by simp, by simp⟩
    · obtain ⟨m, a, b⟩ := items_of h
      exact ⟨m + 1, by omega, by simpa using b⟩

def depMask (ms : List Nat) (es : List Go.Edge) : Nat := es.foldl (fun acc e => if Go.Region.binds .any e then acc ||| (1 <<< e.on) ||| ms.getD e.on 0 else acc) 0
def isOp (i : Nat) : Item → Bool
  | .op j => Nat.beq i j
  | .re _ => false
def isRe (i : Nat) : Item → Bool
  | .re j => Nat.beq i j
  | .op _ => false
def reCheck (ops : Array Oper) (R : List RowP) (its : List (Nat × Item)) (ri rx : RowP) : Bool :=
  its.any fun q => isRe ri.i q.2 && Nat.blt rx.p q.1 && R.all (fun z => (!isChg z.o || !(Nat.blt rx.p z.p && Nat.blt z.p q.1)) && (!(Nat.ble ri.p z.p && Nat.blt z.p q.1) || match z.o.dst with | none => true | some d => !(ri.o.looksAt ops).contains d))
def pairCheck (ops : Array Oper) (R : List RowP) (its : List (Nat × Item)) (ri rx : RowP) : Bool :=
  !Nat.blt ri.p rx.p || Nat.testBit rx.m ri.i ||
    (ri.o.apart ops rx.o && !(isLoud ri.o && isChg rx.o) && (!(isChg ri.o && isLoad rx.o) || R.any (fun z => isChg z.o && Nat.blt ri.p z.p && Nat.blt z.p rx.p && Nat.testBit rx.m z.i)) && (!(isLoad ri.o && isChg rx.o) || reCheck ops R its ri rx))
def itemCheck (n : Nat) (ps : List Nat) (q : Nat × Item) : Bool :=
  match q.2 with
  | .op i => match ps[i]? with
    | some p => Nat.beq p q.1 && Nat.blt i n
    | none => false
  | .re i => Nat.blt i n
def rowCheck (n : Nat) (plan : List Item) (ps ms : List Nat) (nt : Nat) (r : RowP) : Bool :=
  (match plan[r.p]? with | some it => isOp r.i it | none => false) && (match r.o.dst with | none => true | some d => Nat.blt d nt) &&
  r.o.after.toList.all (fun e => !Go.Region.binds .any e || (match ps[e.on]? with | some p => Nat.blt p r.p && Nat.blt e.on n | none => false)) && Nat.beq r.m (depMask ms r.o.after.toList)
def planCheck (ops : Array Oper) (plan : List Item) (ps ms : List Nat) (nt : Nat) : Bool :=
  Nat.beq ps.length ops.toList.length && Nat.beq ms.length ops.toList.length && (items 0 plan).all (itemCheck ops.toList.length ps) &&
    (fun R its => R.all (rowCheck ops.toList.length plan ps ms nt) && R.all (fun ri => R.all (fun rx => pairCheck ops R its ri rx))) (rowsP 0 ops.toList ps ms) (items 0 plan)

theorem depMask_or (ms : List Nat) : ∀ (es : List Go.Edge) (acc i : Nat), Nat.testBit (es.foldl (fun acc e => if Go.Region.binds .any e then acc ||| (1 <<< e.on) ||| ms.getD e.on 0 else acc) acc) i = true →
    Nat.testBit acc i = true ∨ ∃ e ∈ es, Go.Region.binds .any e = true ∧ (e.on = i ∨ Nat.testBit (ms.getD e.on 0) i = true)
  | [], acc, i, h => .inl h
  | e :: es, acc, i, h => by
    rw [List.foldl_cons] at h
    rcases depMask_or ms es _ i h with h | ⟨e', he, hb, hor⟩
    · by_cases hb : Go.Region.binds .any e = true
      · rw [if_pos hb] at h
        rw [Nat.testBit_or, Nat.testBit_or, Bool.or_eq_true, Bool.or_eq_true] at h
        rcases h with (h | h) | h
        · exact .inl h
        · refine .inr ⟨e, by simp, hb, .inl ?_⟩
          rw [Nat.one_shiftLeft, Nat.testBit_two_pow] at h
          simpa using h
        · exact .inr ⟨e, by simp, hb, .inr h⟩
      · rw [if_neg hb] at h; exact .inl h
    · exact .inr ⟨e', List.mem_cons_of_mem _ he, hb, hor⟩

theorem planCheck_ok {ops : Array Oper} {plan : List Item} {ps ms : List Nat} {nt : Nat} (h : planCheck ops plan ps ms nt = true) :
    PlanOk ops plan (fun i => ps.getD i 0) (fun x i => Nat.testBit (ms.getD x 0) i = true) nt := by
  simp only [planCheck, Bool.and_eq_true] at h
  obtain ⟨⟨⟨h1, h2⟩, h3⟩, h4, h5⟩ := h
  have hps := Nat.eq_of_beq_eq_true h1
  have hms := Nat.eq_of_beq_eq_true h2
  have hn : ops.toList.length = ops.size := by simp
  -- the row of an operation
  have row : ∀ (i : Nat) o, ops[i]? = some o → (⟨i, o, ps.getD i 0, ms.getD i 0⟩ : RowP) ∈ rowsP 0 ops.toList ps ms := by
    intro i o ho
    have hi : i < ops.size := lt_of_some ho
    have := rowsP_mem (i0 := 0) (os := ops.toList) (ps := ps) (ms := ms) (i := i) (o := o) (p := ps.getD i 0) (m := ms.getD i 0) (by simpa using ho)
      (by rw [List.getD_eq_getElem?_getD, List.getElem?_eq_getElem (by omega)]; rfl) (by rw [List.getD_eq_getElem?_getD, List.getElem?_eq_getElem (by omega)]; rfl)
    simpa using this
  have rows : ∀ r ∈ rowsP 0 ops.toList ps ms, ops[r.i]? = some r.o ∧ r.p = ps.getD r.i 0 ∧ r.m = ms.getD r.i 0 := by
    intro r hr
    obtain ⟨i, a, b, c, d⟩ := rowsP_of hr
    simp only [Nat.zero_add] at a; subst a
    exact ⟨by simpa using b, by rw [List.getD_eq_getElem?_getD, c]; rfl, by rw [List.getD_eq_getElem?_getD, d]; rfl⟩
  have rc : ∀ (i : Nat) o, ops[i]? = some o → rowCheck ops.toList.length plan ps ms nt ⟨i, o, ps.getD i 0, ms.getD i 0⟩ = true := fun i o ho => List.all_eq_true.1 h4 _ (row i o ho)
  have pc : ∀ (i x : Nat) oi ox, ops[i]? = some oi → ops[x]? = some ox → pairCheck ops (rowsP 0 ops.toList ps ms) (items 0 plan) ⟨i, oi, ps.getD i 0, ms.getD i 0⟩ ⟨x, ox, ps.getD x 0, ms.getD x 0⟩ = true := fun i x oi ox hi hx =>
    List.all_eq_true.1 (List.all_eq_true.1 h5 _ (row i oi hi)) _ (row x ox hx)
  have pc' : ∀ (i x : Nat) oi ox, ops[i]? = some oi → ops[x]? = some ox → ps.getD i 0 < ps.getD x 0 → ¬ Nat.testBit (ms.getD x 0) i = true →
      oi.apart ops ox = true ∧ ¬ (isLoud oi = true ∧ isChg ox = true) ∧ ((isChg oi = true ∧ isLoad ox = true) → (rowsP 0 ops.toList ps ms).any (fun z => isChg z.o && Nat.blt (ps.getD i 0) z.p && Nat.blt z.p (ps.getD x 0) && Nat.testBit (ms.getD x 0) z.i) = true) ∧
      ((isLoad oi = true ∧ isChg ox = true) → reCheck ops (rowsP 0 ops.toList ps ms) (items 0 plan) ⟨i, oi, ps.getD i 0, ms.getD i 0⟩ ⟨x, ox, ps.getD x 0, ms.getD x 0⟩ = true) := by
    intro i x oi ox hi hx hlt hna
    have := pc i x oi ox hi hx
    simp only [pairCheck, Bool.or_eq_true, Bool.and_eq_true, Bool.not_eq_true', Bool.and_eq_false_iff] at this
    rcases this with (h | h) | ⟨⟨⟨a, b⟩, c⟩, d⟩
    · rw [(blt_iff _ _).2 hlt] at h; cases h
    · exact absurd h hna
    · refine ⟨a, fun hb => ?_, fun hc => ?_, fun hd => ?_⟩
      · rcases b with b | b
        · rw [hb.1] at b; cases b
        · rw [hb.2] at b; cases b
      · rcases c with (c | c) | c
        · rw [hc.1] at c; cases c
        · rw [hc.2] at c; cases c
        · exact c
      · rcases d with (d | d) | d
        · rw [hd.1] at d; cases d
        · rw [hd.2] at d; cases d
        · exact d
  refine ⟨?_, ?_, ?_, ?_, ?_, ?_, ?_, ?_, ?_, ?_⟩
  · intro i hi
    obtain ⟨o, ho⟩ : ∃ o, ops[i]? = some o := ⟨_, Array.getElem?_eq_getElem hi⟩
    have := rc i o ho
    simp only [rowCheck, Bool.and_eq_true] at this
    obtain ⟨⟨⟨a, b⟩, c⟩, d⟩ := this
    cases hp : plan[ps.getD i 0]? with
    | none => simp only [hp] at a; cases a
    | some it =>
      simp only [hp] at a
      cases it with
      | re j => cases a
      | op j => rw [Nat.eq_of_beq_eq_true a]
  · intro m i hm
    have := List.all_eq_true.1 h3 _ (items_mem (m0 := 0) hm)
    simp only [itemCheck, Nat.zero_add] at this
    cases hp : ps[i]? with
    | none => rw [hp] at this; cases this
    | some p =>
      rw [hp] at this
      simp only [Bool.and_eq_true] at this
      refine ⟨by have := (blt_iff _ _).1 this.2; omega, ?_⟩
      show ps.getD i 0 = m
      rw [List.getD_eq_getElem?_getD, hp]; exact Nat.eq_of_beq_eq_true this.1
  · intro m i hm
    have := List.all_eq_true.1 h3 _ (items_mem (m0 := 0) hm)
    simp only [itemCheck] at this
    have := (blt_iff _ _).1 this; omega
  · intro i o ho d hd
    have := rc i o ho
    simp only [rowCheck, Bool.and_eq_true, hd] at this
    exact (blt_iff _ _).1 this.1.1.2
  · intro i o ho e he hb
    have := rc i o ho
    simp only [rowCheck, Bool.and_eq_true] at this
    have := List.all_eq_true.1 this.1.2 e (by simpa using he)
    have hb' : Go.Region.binds .any e = true := hb
    rw [hb'] at this
    simp only [Bool.not_true, Bool.false_or] at this
    cases hp : ps[e.on]? with
    | none => rw [hp] at this; cases this
    | some p =>
      rw [hp] at this
      simp only [Bool.and_eq_true] at this
      refine ⟨by have := (blt_iff _ _).1 this.2; omega, ?_⟩
      show ps.getD e.on 0 < ps.getD i 0
      rw [List.getD_eq_getElem?_getD (l := ps) (i := e.on), hp]; exact (blt_iff _ _).1 this.1
  · intro x i ha
    have hx : x < ops.size := by
      rcases Nat.lt_or_ge x ops.size with h | h
      · exact h
      · rw [List.getD_eq_getElem?_getD, List.getElem?_eq_none (by omega)] at ha; simp at ha
    obtain ⟨o, ho⟩ : ∃ o, ops[x]? = some o := ⟨_, Array.getElem?_eq_getElem hx⟩
    have := rc x o ho
    simp only [rowCheck, Bool.and_eq_true] at this
    have hm := Nat.eq_of_beq_eq_true this.2
    rw [hm] at ha
    rcases depMask_or ms _ 0 i ha with h | ⟨e, he, hb, hor⟩
    · simp at h
    · exact ⟨o, ho, e, by simpa using he, hb, hor⟩
  · intro i x oi ox hi hx hlt hna
    exact (pc' i x oi ox hi hx hlt hna).1
  · intro i x oi ox hi hx hlt hl hc
    by_cases ha : Nat.testBit (ms.getD x 0) i = true
    · exact ha
    · exact absurd ⟨isLoud_iff.2 hl, isChg_iff.2 hc⟩ (pc' i x oi ox hi hx hlt ha).2.1
  · intro i x oi ox hi hx hlt hc hl
    by_cases ha : Nat.testBit (ms.getD x 0) i = true
    · exact .inl ha
    · have := (pc' i x oi ox hi hx hlt ha).2.2.1 ⟨isChg_iff.2 hc, isLoad_iff.2 hl⟩
      obtain ⟨z, hz, hh⟩ := List.any_eq_true.1 this
      simp only [Bool.and_eq_true] at hh
      obtain ⟨⟨⟨a, b⟩, c⟩, d⟩ := hh
      obtain ⟨r1, r2, r3⟩ := rows z hz
      exact .inr ⟨z.i, z.o, r1, isChg_iff.1 a, by have := (blt_iff _ _).1 b; rw [r2] at this; exact this, by have := (blt_iff _ _).1 c; rw [r2] at this; exact this, d⟩
  · intro i y oi oy hi hy hl hc hlt hna
    have := (pc' i y oi oy hi hy hlt hna).2.2.2 ⟨isLoad_iff.2 hl, isChg_iff.2 hc⟩
    obtain ⟨q, hq, hh⟩ := List.any_eq_true.1 this
    simp only [Bool.and_eq_true] at hh
    obtain ⟨⟨a, b⟩, d⟩ := hh
    obtain ⟨m, hm, hp⟩ := items_of hq
    simp only [Nat.zero_add] at hm
    have hq2 : q.2 = .re i := by
      cases hq2 : q.2 with
      | op j => rw [hq2] at a; cases a
      | re j => rw [hq2] at a; rw [Nat.eq_of_beq_eq_true a]
    refine ⟨m, by have := (blt_iff _ _).1 b; omega, by rw [hp, hq2], fun z oz hz hcz hb => ?_, fun z oz dd hz h1 h2 hd => ?_⟩
    · have := List.all_eq_true.1 d _ (row z oz hz)
      simp only [Bool.and_eq_true, Bool.or_eq_true, Bool.not_eq_true', isChg_iff.2 hcz, Bool.and_eq_false_iff] at this
      rcases this.1 with h | h | h
      · cases h
      · rw [(blt_iff _ _).2 hb.1] at h; cases h
      · rw [(blt_iff _ _).2 (by omega)] at h; cases h
    · have := List.all_eq_true.1 d _ (row z oz hz)
      simp only [Bool.and_eq_true, Bool.or_eq_true, Bool.not_eq_true', Bool.and_eq_false_iff, hd] at this
      rcases this.2 with (h | h) | h
      · rw [(ble_iff _ _).2 h1] at h; cases h
      · rw [(blt_iff _ _).2 (by omega)] at h; cases h
      · intro hm; rw [List.contains_eq_mem] at h; simp [hm] at h
end Viv
