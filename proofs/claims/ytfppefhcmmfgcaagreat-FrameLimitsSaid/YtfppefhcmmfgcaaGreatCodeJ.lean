/-
  CODE, TRANSLATED.
-/
import Derived.Test.YtfppefhcmmfgcaaGreatReg1J
import Derived.Scope
namespace Viv
open Go (Value World IntKind Addr Program Act Exit Oper Operand Ending undef)

structure PlanD where
  id : Nat
  plan : List Item
  ps : List Nat
  ms : List Nat
def findPlan (id : Nat) : List PlanD → Option PlanD
  | [] => none
  | p :: r => match Nat.beq p.id id with
    | true => some p
    | false => findPlan id r
def straight : Nat → Nat → List Item
  | _, 0 => []
  | i, n + 1 => .op i :: straight (i + 1) n
def dstOk (nt : Nat) (o : Oper) : Bool := match o.dst with | none => true | some d => Nat.blt d nt
noncomputable def trCode (P : Program) (sl : List Nat) (nt : Nat) (pls : List PlanD) : Go.Code → ACode
  | .skip => .skip
  | .region _id ops false => match ops.toList.all (dstOk nt) with
    | true => .reg (trOps P sl ops (straight 0 ops.toList.length) [] [])
    | false => .unsup
  | .region id ops true => match findPlan id pls with
    | none => .unsup
    | some p => match planCheck ops p.plan p.ps p.ms nt with
      | true => .reg (trOps P sl ops p.plan [] [])
      | false => .unsup
  | .seq a b => .seq (trCode P sl nt pls a) (trCode P sl nt pls b)
  | .cond x a b => .cond (opd sl [] x) (trCode P sl nt pls a) (trCode P sl nt pls b)
  | .block id a => .block id (trCode P sl nt pls a)
  | .loop a => .loop (trCode P sl nt pls a)
  | .scope a => trCode P sl nt pls a
  | .exit id => .exit id
  | .label _ => .skip
  | .ret => .ret
  | _ => .unsup

/-- the temporaries that are kept between regions -/
structure ERel (sl : List Nat) (n : Nat) (β : Beta) (e : Env) (a : Act) : Prop where
  slot : ∀ u p, slotOf sl u = some p → VRel β (pget .bad p e) (a.tmps.getD u undef)
  size : n ≤ a.tmps.size
  defers : a.defers = []
noncomputable def rho0 (sl : List Nat) (e : Env) : Rho := fun u => match slotOf sl u with | some p => pget .bad p e | none => .bad

section
variable {P : Program} {c : CF} {sl : List Nat} {n : Nat} {β : Beta} {s : St} {w : World} {e : Env} {a : Act}

theorem lk0 : Lk sl [] [] e (rho0 sl e) :=
  ⟨(fun u j h => by cases h), (fun u p h => by simp only [rho0, h]), (fun u _ h => by simp only [rho0, h])⟩
theorem ERel.tied (h : ERel sl n β e a) : Tied β (rho0 sl e) n a := ⟨fun u => by
  unfold rho0
  cases hs : slotOf sl u with
  | none => exact .bad _
  | some p => exact h.slot u p hs, h.size, h.defers⟩
theorem ERel.operand (h : ERel sl n β e a) (x : Operand) : VRel β (opd sl [] x [] e) (a.eval x) := by
  rw [lk0.opd x]; exact h.tied.operand x

inductive Meets : RC → Exit → Env → St → Prop
  | norm (e : Env) (s : St) : Meets (.norm e s) .normal e s
  | exit (id : Nat) (e : Env) (s : St) : Meets (.exit id e s) (.exit id) e s
  | ret (e : Env) (s : St) : Meets (.ret e s) .ret e s

/-- what a run says of the code -/
def Says (P : Program) (sl : List Nat) (n : Nat) (β : Beta) (s : St) (w : World) (a : Act) (r : RC) (co : Go.Code) : Prop :=
  ∀ Q : Exit → Act → World → Prop, (∀ why, r ≠ .f why) → (∀ ex e' s' β' a' w', Meets r ex e' s' → Sim β' s' w' → Post β s w β' s' w' → ERel sl n β' e' a' → Q ex a' w') → co.wp P Q a w

theorem straight_get : ∀ (m i j : Nat), j < m → (straight i m)[j]? = some (.op (i + j))
  | 0, i, j, h => by omega
  | m + 1, i, 0, h => by simp [straight]
  | m + 1, i, j + 1, h => by simp only [straight, List.getElem?_cons_succ]; rw [straight_get m (i + 1) j (by omega)]; congr 2; omega
theorem straight_len : ∀ (m i : Nat), (straight i m).length = m
  | 0, i => rfl
  | m + 1, i => by simp [straight, straight_len m (i + 1)]
theorem straight_mem : ∀ (m i j : Nat), Item.op j ∈ straight i m → i ≤ j
  | 0, i, j, h => by simp [straight] at h
  | m + 1, i, j, h => by
    simp only [straight, List.mem_cons, Item.op.injEq] at h
    rcases h with rfl | h
    · exact Nat.le_refl _
    · have := straight_mem m (i + 1) j h; omega
theorem straight_nodup : ∀ (m i : Nat), (straight i m).Pairwise (fun x y => ∀ i, x = .op i → y ≠ .op i)
  | 0, i => .nil
  | m + 1, i => by
    refine List.pairwise_cons.2 ⟨fun y hy j hj => ?_, straight_nodup m (i + 1)⟩
    cases hj
    intro e; subst e
    have := straight_mem m (i + 1) i hy; omega

/-- the operations in their order -/
theorem ops_in_order (hc : CFSound P c) {ops : Array Oper} {plan : List Item} {vals : Nat → V} {rho : Nat → Rho} {st : Nat → St} (hf : Flat P c ops plan vals rho st) (hplan : ∀ j, j < ops.size → plan[j]? = some (.op j)) (hd : ∀ (i : Nat) o, ops[i]? = some o → ∀ d, o.dst = some d → d < n)
    {β0 : Beta} {w0 : World} {Q : Exit → Act → World → Prop} (hQ : ∀ β w a, Sim β (st ops.size) w → Post β0 (st 0) w0 β (st ops.size) w → Tied β (rho ops.size) n a → Q .normal a w) :
    ∀ (m k : Nat) (β : Beta) (w : World) (a : Act), k + m = ops.size → Sim β (st k) w → Post β0 (st 0) w0 β (st k) w → Tied β (rho k) n a → Go.wpOps P ops Q (List.range' k m) a w
  | 0, k, β, w, a, hk, hs, hp, ht => by
    have : k = ops.size := by omega
    subst this
    exact hQ β w a hs hp ht
  | m + 1, k, β, w, a, hk, hs, hp, ht => by
    rw [List.range'_succ, Go.wpOps_cons]
    obtain ⟨o, ho⟩ : ∃ o, ops[k]? = some o := ⟨_, Array.getElem?_eq_getElem (by omega)⟩
    obtain ⟨hstep, hrho⟩ := hf.op k k o (hplan k (by omega)) ho
    refine hstep.wp hc ho hs ht (hd k o ho) fun β' a' w' hs' hp' ht' => ?_
    exact ops_in_order hc hf hplan hd hQ m (k + 1) β' w' a' (by omega) hs' (hp.trans hp') (by rw [hrho]; exact ht')

theorem pairwise_of_only {ops : Array Oper} {plan : List Item} {pos : Nat → Nat} {anc : Nat → Nat → Prop} (hp : PlanOk ops plan pos anc n) : plan.Pairwise (fun x y => ∀ i, x = .op i → y ≠ .op i) := by
  rw [List.pairwise_iff_getElem]
  intro i j hi hj hlt k e1 e2
  have a1 := (hp.only i k (by rw [List.getElem?_eq_getElem hi, e1])).2
  have a2 := (hp.only j k (by rw [List.getElem?_eq_getElem hj, e2])).2
  omega

theorem region_says (hc : CFSound P c) (nt : Nat) (pls : List PlanD) (hm : P.follows .mixedOrders = true) (id : Nat) (ops : Array Oper) (draw : Bool) (hs : Sim β s w) (he : ERel sl nt β e a) :
    Says P sl nt β s w a (execK c (trCode P sl nt pls (.region id ops draw)) e s) (.region id ops draw) := by
  intro Q hne hQ
  cases draw with
  | false =>
    simp only [trCode] at hne hQ
    cases hall : ops.toList.all (dstOk nt) with
    | false => rw [hall] at hne; exact absurd rfl (hne 45)
    | true =>
      rw [hall] at hne hQ
      have hd : ∀ (i : Nat) o, ops[i]? = some o → ∀ d, o.dst = some d → d < nt := fun i o ho d hd => by
        have := List.all_eq_true.1 hall o (by simpa using Array.mem_of_getElem? ho)
        simp only [dstOk, hd] at this
        exact (blt_iff _ _).1 this
      obtain ⟨vals, rho, st, e', hf, h0, hs0, hres, hend, _, _⟩ := (extract (P := P) hc (straight 0 ops.toList.length) [] [] [] e s (rho0 sl e) (fun _ => .bad) β w a lk0 (fun i pos h => by cases h) (straight_nodup _ _) hs he.tied hd (fun why h => hne why h)).it
      have hlen : (straight 0 ops.toList.length).length = ops.size := by rw [straight_len]; simp
      rw [hlen] at hres hend
      refine Go.wp_region ?_
      rw [List.range_eq_range']
      refine ops_in_order hc hf (fun j hj => by rw [straight_get _ _ _ (by simpa using hj)]; simp) hd (β0 := β) (w0 := w) (fun β' w' a' hs' hp' ht' => ?_) ops.size 0 β w a (by omega) (by rw [hs0]; exact hs) (by rw [hs0]; exact .refl β s w) (by rw [h0]; exact he.tied)
      refine hQ .normal e' (st ops.size) β' a' w' ?_ hs' (by rw [hs0] at hp'; exact hp') ⟨fun u p hu => by rw [hend u p hu]; exact ht'.val u, ht'.size, ht'.defers⟩
      have : execK c (ACode.reg (trOps P sl ops (straight 0 ops.toList.length) [] [])) e s = .norm e' (st ops.size) := hres
      simp only
      rw [this]; exact .norm _ _
  | true =>
    simp only [trCode] at hne hQ
    cases hfp : findPlan id pls with
    | none => rw [hfp] at hne; exact absurd rfl (hne 45)
    | some p =>
      rw [hfp] at hne hQ
      simp only at hne hQ
      cases hck : planCheck ops p.plan p.ps p.ms nt with
      | false => rw [hck] at hne; exact absurd rfl (hne 45)
      | true =>
        rw [hck] at hne hQ
        have hp := planCheck_ok hck
        obtain ⟨vals, rho, st, e', hf, h0, hs0, hres, hend, _, _⟩ := (extract (P := P) hc p.plan [] [] [] e s (rho0 sl e) (fun _ => .bad) β w a lk0 (fun i pos h => by cases h) (pairwise_of_only hp) hs he.tied hp.dst (fun why h => hne why h)).it
        have hres' : execK c (ACode.reg (trOps P sl ops p.plan [] [])) e s = .norm e' (st p.plan.length) := hres
        simp only at hQ
        rw [hres'] at hQ
        refine Go.wp_region_any hm ?_
        have hall : ∀ i, ¬ isDone (Array.replicate ops.size false) i := fun i h => by
          unfold isDone at h
          rw [Array.getD_eq_getD_getElem?, Array.getElem?_replicate] at h
          split at h <;> simp at h
        have hs1 : Sim β (st 0) { w with drawn := w.drawn + 1 } := by rw [hs0]; exact hs.world rfl
        have hinv : Inv P ops p.plan vals rho st (fun i => p.ps.getD i 0) nt β w (Array.replicate ops.size false) 0 β { w with drawn := w.drawn + 1 } a := by
          refine ⟨by simp, he.size, he.defers, fun i o _ h => absurd h (hall i), hs1, ?_, Nat.zero_le _, fun i o _ _ h => absurd h (hall i), .inl rfl, fun i o _ _ h => absurd h (Nat.not_lt_zero _), ?_, ?_, fun t _ => by rw [h0]; exact he.tied.val t, fun x o t _ h => absurd h (hall x)⟩
          · exact (Post.refl β (st 0) w).world rfl rfl rfl rfl
          · intro i hi; obtain ⟨o, _, _, _, h, _⟩ := hi; exact absurd h (Nat.not_lt_zero _)
          · intro i j hi; obtain ⟨o, _, _, _, h, _⟩ := hi; exact absurd h (Nat.not_lt_zero _)
        refine region_any hc hf hp (fun id l h => by rw [hs0]; exact hs.fresh id l h) (fun β' w' a' hs' hp' ht' => ?_) ops.size _ 0 β _ a hinv ?_
        · exact hQ .normal e' (st p.plan.length) β' a' w' (.norm _ _) hs' (by rw [hs0] at hp'; exact hp') ⟨fun u q hu => by rw [hend u q hu]; exact ht'.val u, ht'.size, ht'.defers⟩
        · have : ∀ (l : Array Bool) k, todo l k ≤ k := by
            intro l k
            induction k with
            | zero => exact Nat.le_refl _
            | succ k ih => simp only [todo]; split <;> omega
          exact this _ _
end
end Viv

/-
  CODE AND FUNCTIONS, TRANSLATED.
-/
namespace Viv
open Go (Value World IntKind Addr Program Act Exit Oper Operand Ending undef)

section
variable {P : Program} {c : CF} {sl : List Nat} {n : Nat}

theorem seqK_norm (e : Env) (s : St) (f : Env → St → RC) : seqK (.norm e s) f = f e s := rfl
theorem blockK_exit (id j : Nat) (e : Env) (s : St) : blockK id (.exit j e s) = if j = id then .norm e s else .exit j e s := by
  show (Bool.rec (.exit j e s) (.norm e s) (Nat.beq j id) : RC) = _
  rw [beqRec]
theorem loopK_zero (f : Env → St → RC) (e : Env) (s : St) : loopK f 0 e s = .f 43 := rfl
theorem loopK_succ (f : Env → St → RC) (m : Nat) (e : Env) (s : St) : loopK f (m + 1) e s = match f e s with | .f w => .f w | .norm e s => loopK f m e s | .exit id e s => .exit id e s | .ret e s => .ret e s := by
  show (RC.rec (motive := fun _ => (Env → St → RC) → RC) (fun w _ => .f w) (fun e s ih => ih e s) (fun id e s _ => .exit id e s) (fun e s _ => .ret e s) (f e s) (loopK f m) : RC) = _
  cases f e s <;> rfl

theorem Says.rounds {co : Go.Code} {body : Env → St → RC} (ih : ∀ (e : Env) (s : St) (β : Beta) (w : World) (a : Act), Sim β s w → ERel sl n β e a → Says P sl n β s w a (body e s) co) :
    ∀ (m : Nat) (e : Env) (s : St) (β : Beta) (w : World) (a : Act), Sim β s w → ERel sl n β e a → ∀ Q : Exit → Act → World → Prop, (∀ why, loopK body m e s ≠ .f why) →
      (∀ ex e' s' β' a' w', Meets (loopK body m e s) ex e' s' → Sim β' s' w' → Post β s w β' s' w' → ERel sl n β' e' a' → Q ex a' w') → Go.Code.rounds P co Q m a w
  | 0, e, s, β, w, a, hs, he, Q, hne, hQ => absurd rfl (hne 43)
  | m + 1, e, s, β, w, a, hs, he, Q, hne, hQ => by
    rw [Go.rounds_succ]
    rw [loopK_succ] at hne hQ
    refine ih e s β w a hs he _ (fun why h => by rw [h] at hne; exact hne why rfl) fun ex e' s' β' a' w' hm hs' hp' he' => ?_
    generalize body e s = r at hm hne hQ
    cases hm with
    | norm =>
      exact Says.rounds ih m e' s' β' w' a' hs' he' Q hne fun ex e2 s2 β2 a2 w2 hm2 hs2 hp2 he2 => hQ ex e2 s2 β2 a2 w2 hm2 hs2 (hp'.trans hp2) he2
    | exit id => exact hQ _ _ _ _ _ _ (.exit id e' s') hs' hp' he'
    | ret => exact hQ _ _ _ _ _ _ (.ret e' s') hs' hp' he'

theorem code_says (hc : CFSound P c) (nt : Nat) (pls : List PlanD) (hmx : P.follows .mixedOrders = true) : ∀ (co : Go.Code) (e : Env) (s : St) (β : Beta) (w : World) (a : Act), Sim β s w → ERel sl nt β e a →
    Says P sl nt β s w a (execK c (trCode P sl nt pls co) e s) co := by
  intro co
  have unsup : ∀ {co : Go.Code} {e : Env} {s : St} {β : Beta} {w : World} {a : Act}, Says P sl nt β s w a (execK c .unsup e s) co := fun Q hne => absurd rfl (hne 45)
  induction co with
  | skip =>
    intro e s β w a hs he Q hne hQ
    exact Go.wp_skip (hQ .normal e s β a w (.norm e s) hs (.refl β s w) he)
  | region id ops draw => intro e s β w a hs he; exact region_says hc nt pls hmx id ops draw hs he
  | seq x y ihx ihy =>
    intro e s β w a hs he Q hne hQ
    have heq : execK c (trCode P sl nt pls (.seq x y)) e s = seqK (execK c (trCode P sl nt pls x) e s) (execK c (trCode P sl nt pls y)) := rfl
    rw [heq] at hne hQ
    refine Go.wp_seq (ihx e s β w a hs he _ (fun why h => by rw [h] at hne; exact hne why rfl) fun ex e' s' β' a' w' hm hs' hp' he' => ?_)
    generalize execK c (trCode P sl nt pls x) e s = r at hm hne hQ
    cases hm with
    | norm =>
      exact ihy e' s' β' w' a' hs' he' Q hne fun ex e2 s2 β2 a2 w2 hm2 hs2 hp2 he2 => hQ ex e2 s2 β2 a2 w2 hm2 hs2 (hp'.trans hp2) he2
    | exit id => exact hQ _ _ _ _ _ _ (.exit id e' s') hs' hp' he'
    | ret => exact hQ _ _ _ _ _ _ (.ret e' s') hs' hp' he'
  | cond x y z ihy ihz =>
    intro e s β w a hs he Q hne hQ
    have heq : execK c (trCode P sl nt pls (.cond x y z)) e s = condK (opd sl [] x [] e) (execK c (trCode P sl nt pls y) e s) (execK c (trCode P sl nt pls z) e s) := rfl
    rw [heq] at hne hQ
    have hv := he.operand x
    generalize opd sl [] x [] e = v at hv hne hQ
    generalize hx : a.eval x = b at hv
    cases hv <;> first | exact absurd rfl (hne 0) | skip
    case tt => exact Go.wp_cond_true hx (ihy e s β w a hs he Q hne hQ)
    case ff => exact Go.wp_cond_false hx (ihz e s β w a hs he Q hne hQ)
  | block id x ih =>
    intro e s β w a hs he Q hne hQ
    have heq : execK c (trCode P sl nt pls (.block id x)) e s = blockK id (execK c (trCode P sl nt pls x) e s) := rfl
    rw [heq] at hne hQ
    refine Go.wp_block (ih e s β w a hs he _ (fun why h => by rw [h] at hne; exact hne why rfl) fun ex e' s' β' a' w' hm hs' hp' he' => ?_)
    generalize execK c (trCode P sl nt pls x) e s = r at hm hne hQ
    cases hm with
    | norm => exact hQ _ _ _ _ _ _ (.norm e' s') hs' hp' he'
    | exit j =>
      rw [blockK_exit] at hQ
      show (if j = id then Q .normal a' w' else Q (.exit j) a' w')
      by_cases hj : j = id
      · rw [if_pos hj] at hQ ⊢; exact hQ _ _ _ _ _ _ (.norm e' s') hs' hp' he'
      · rw [if_neg hj] at hQ ⊢; exact hQ _ _ _ _ _ _ (.exit j e' s') hs' hp' he'
    | ret => exact hQ _ _ _ _ _ _ (.ret e' s') hs' hp' he'
  | loop x ih =>
    intro e s β w a hs he Q hne hQ
    exact Go.wp_loop_rounds 100000 (Says.rounds ih 100000 e s β w a hs he Q hne hQ)
  | rangeFunc f ps x y _ _ => intro e s β w a hs he; exact unsup
  | exit id =>
    intro e s β w a hs he Q hne hQ
    exact Go.wp_exit (hQ (.exit id) e s β a w (.exit id e s) hs (.refl β s w) he)
  | scope x ih =>
    intro e s β w a hs he Q hne hQ
    refine Go.wp_scope_straight (ih e s β w a hs he _ hne fun ex e' s' β' a' w' hm hs' hp' he' => ?_)
    have := hQ ex e' s' β' a' w' hm hs' hp' he'
    generalize execK c (trCode P sl nt pls x) e s = r at hm
    cases hm <;> exact this
  | label l =>
    intro e s β w a hs he Q hne hQ
    exact Go.wp_label (hQ .normal e s β a w (.norm e s) hs (.refl β s w) he)
  | goto l => intro e s β w a hs he; exact unsup
  | ret =>
    intro e s β w a hs he Q hne hQ
    exact Go.wp_ret (hQ .ret e s β a w (.ret e s) hs (.refl β s w) he)
  | refuse why => intro e s β w a hs he; exact unsup
end
end Viv

/-
  FUNCTIONS, TRANSLATED; the table.
-/
namespace Viv
open Go (Value World IntKind Addr Program Act Exit Oper Operand Ending undef)

def paramsOf (sl : List Nat) : Nat → Nat → List (Option Pth)
  | _, 0 => []
  | i, m + 1 => slotOf sl i :: paramsOf sl (i + 1) m
/-- how a result that lies in a cell is read: 0: one cell -/
def cellN (P : Program) (t : Nat) : Option Nat :=
  match P.underlying t with
  | none => none
  | some d => match aggB d with
    | false => some 0
    | true => match P.info? t with
      | none => none
      | some i => match Nat.beq i.size 0 with
        | true => none
        | false => some i.size
noncomputable def resOf (P : Program) (sl : List Nat) : List Go.ResultVar → Option (List (Opd × Option Nat))
  | [] => some []
  | .tmp t :: r => match resOf P sl r with
    | none => none
    | some l => some ((opd sl [] (.tmp t), none) :: l)
  | .cell a t :: r => match cellN P t with
    | none => none
    | some n => match resOf P sl r with
      | none => none
      | some l => some ((opd sl [] (.tmp a), some n) :: l)
/-- a function of the program, as the evaluator has it; np: how many parameters it takes -/
noncomputable def trFunc (P : Program) (fn : Go.Func) (np : Nat) (sl : List Nat) (pls : List PlanD) : Option AFunc :=
  match fn.body with
  | none => none
  | some co => match resOf P sl fn.results.toList with
    | none => none
    | some rs => some ⟨paramsOf sl 0 np, rs, trCode P sl fn.ntmps pls co⟩

section
variable {P : Program} {c : CF} {sl : List Nat} {n : Nat} {β : Beta} {s : St} {w : World} {e : Env} {a : Act}

theorem bindP_nil (l : L) : bindP [] l = .mt := rfl
theorem bindP_cons (p : Option Pth) (ps : List (Option Pth)) (l : L) : bindP (p :: ps) l = match p with | none => bindP ps (tl l) | some q => pset .bad q (hd l) (bindP ps (tl l)) := by
  cases p <;> rfl
theorem bindP_get : ∀ (m i : Nat) (l : L) (u : Nat) (p : Pth), slotOf sl u = some p → pget .bad p (bindP (paramsOf sl i m) l) = if i ≤ u ∧ u < i + m then nth (u - i) l else .bad
  | 0, i, l, u, p, h => by rw [if_neg (by omega)]; exact pget_e _ p
  | m + 1, i, l, u, p, h => by
    simp only [paramsOf]
    rw [bindP_cons]
    have ih := bindP_get m (i + 1) (tl l) u p h
    have hn : ∀ j, nth j (tl l) = nth (j + 1) l := fun j => by
      cases l with
      | nil => rw [nth_eq, nth_eq]; rfl
      | cons v l => rw [nth_cons_succ]; rfl
    by_cases e : u = i
    · subst e
      rw [h]
      simp only
      rw [pget_pset_same, if_pos (by omega), Nat.sub_self]
      cases l with
      | nil => rfl
      | cons v l => rw [nth_cons_zero]; rfl
    · have rest : pget .bad p (bindP (paramsOf sl (i + 1) m) (tl l)) = if i ≤ u ∧ u < i + (m + 1) then nth (u - i) l else .bad := by
        rw [ih]
        by_cases hc : i + 1 ≤ u ∧ u < i + 1 + m
        · rw [if_pos hc, if_pos (by omega), hn, show u - (i + 1) + 1 = u - i by omega]
        · rw [if_neg hc, if_neg (by omega)]
      cases hs : slotOf sl i with
      | none => exact rest
      | some q =>
        simp only
        rw [pget_pset_ne _ (fun e' => e (slotOf_inj h (by rw [e']; exact hs)))]
        exact rest

theorem enter_rel {as : L} {args : List Value} (ha : VRels β as args) (np nt : Nat) :
    ERel sl nt β (bindP (paramsOf sl 0 np) as) { tmps := args.toArray ++ Array.replicate (nt - args.toArray.size) undef, defers := [] } := by
  refine ⟨fun u p hu => ?_, by simp; omega, rfl⟩
  rw [bindP_get np 0 as u p hu]
  by_cases hc : 0 ≤ u ∧ u < 0 + np
  · rw [if_pos hc, Nat.sub_zero]
    by_cases hb : nth u as = .bad
    · rw [hb]; exact .bad _
    · obtain ⟨h1, h2⟩ := nth_ne_bad hb
      obtain ⟨x, hx, hr⟩ := ha.get u _ h2
      have hlt : u < args.length := by rw [← ha.length]; exact h1
      have : (args.toArray ++ Array.replicate (nt - args.toArray.size) undef)[u]? = some x := by
        rw [Array.getElem?_append_left (by simpa using hlt)]; simpa using hx
      rw [Array.getD_eq_getD_getElem?, this]; exact hr
  · rw [if_neg hc]; exact .bad _

theorem resL_nil (e : Env) (s : St) (k : L → RC) : resL [] e s k = k [] := rfl
theorem resL_cons (x : Opd) (rs : List (Opd × Option Nat)) (e : Env) (s : St) (k : L → RC) : resL ((x, none) :: rs) e s k = resL rs e s (fun l => k (x [] e :: l)) := rfl
theorem resL_cell (x : Opd) (n : Nat) (rs : List (Opd × Option Nat)) (e : Env) (s : St) (k : L → RC) :
    resL ((x, some n) :: rs) e s k = if n = 0 then ldK (x [] e) s (fun v => resL rs e s (fun l => k (v :: l))) else ldAK (x [] e) n s (fun v => resL rs e s (fun l => k (v :: l))) := by
  show (Bool.rec (ldAK (x [] e) n s (fun v => resL rs e s (fun l => k (v :: l)))) (ldK (x [] e) s (fun v => resL rs e s (fun l => k (v :: l)))) (Nat.beq n 0) : RC) = _
  rw [beqRec]
theorem ldK_form (x : V) (s : St) : (∀ k, ldK x s k = fl) ∨ ∃ v, ∀ k, ldK x s k = k v := by
  cases x <;> first | exact .inl fun k => rfl | skip
  case ptr id off =>
    by_cases hb : rdObj (s.get id) off = .bad
    · exact .inl fun k => by show okK (rdObj (s.get id) off) k = _; rw [hb]; rfl
    · exact .inr ⟨_, fun k => by show okK (rdObj (s.get id) off) k = _; rw [okK_eq hb]⟩
theorem ldAK_form (x : V) (n : Nat) (s : St) : (∀ k, ldAK x n s k = fl) ∨ ∃ v, ∀ k, ldAK x n s k = k v := by
  cases x <;> first | exact .inl fun k => rfl | skip
  case ptr id off =>
    have e : ∀ k, ldAK (.ptr id off) n s k = if (rdMany (s.get id) off n).length = n then k (.agg (rdMany (s.get id) off n)) else fl := fun k => by
      show (Bool.rec fl (k (.agg (rdMany (s.get id) off n))) (Nat.beq (len (rdMany (s.get id) off n)) n) : RC) = _
      rw [beqRec, len_eq]
    by_cases h : (rdMany (s.get id) off n).length = n
    · exact .inr ⟨_, fun k => by rw [e, if_pos h]⟩
    · exact .inl fun k => by rw [e, if_neg h]
theorem uniqV {g : KV → RC} {v v' : V} (h : ∀ k, g k = k v) (h' : ∀ k, g k = k v') : v = v' := by
  have := (h (fun v => .ret (.n .mt .mt v) ⟨.mt, .h⟩)).symm.trans (h' _)
  simp only [RC.ret.injEq, Tr.n.injEq, true_and, and_true] at this
  exact this
theorem not_failV {g : KV → RC} {v : V} (h : ∀ k, g k = k v) {why : Nat} (h' : ∀ k, g k = .f why) : False := by
  have := (h (fun v => .ret .mt ⟨.mt, .h⟩)).symm.trans (h' _)
  cases this
/-- a result in a cell, read -/
noncomputable def cellK (n : Nat) (x : V) (s : St) (k : KV) : RC := if n = 0 then ldK x s k else ldAK x n s k
theorem cellK_form (n : Nat) (x : V) (s : St) : (∀ k, cellK n x s k = fl) ∨ ∃ v, ∀ k, cellK n x s k = k v := by
  unfold cellK
  by_cases h : n = 0
  · simp only [if_pos h]; exact ldK_form x s
  · simp only [if_neg h]; exact ldAK_form x n s
theorem cellK_out {t n : Nat} (hn : cellN P t = some n) (h : Sim β s w) {x : V} {x' : Value} (hx : VRel β x x') : PureOut β (cellK n x s) P (Go.Instr.loadAt t x') w := by
  unfold cellN at hn
  cases hu : P.underlying t with
  | none => rw [hu] at hn; cases hn
  | some d =>
    rw [hu] at hn
    cases hd : aggB d with
    | false =>
      simp only [hd] at hn; cases hn
      exact (ldK_out h hu hd hx).congr fun k => by unfold cellK; rw [if_pos rfl]
    | true =>
      cases hi : P.info? t with
      | none => simp only [hd, hi] at hn; cases hn
      | some i =>
        cases hz : Nat.beq i.size 0 with
        | true => simp only [hd, hi, hz] at hn; cases hn
        | false =>
          simp only [hd, hi, hz] at hn; cases hn
          have hn' : i.size ≠ 0 := fun e => by rw [e] at hz; cases hz
          exact (ldAK_out h hu hd (by rw [hi]; rfl) hn' hx).congr fun k => by unfold cellK; rw [if_neg hn']
theorem loadVar_of {t : Nat} {x' y : Value} (h : (Go.Instr.loadAt t x').run P w = .ok y w) : (do Go.loadVar t (← Go.asAddr x') : Go.Sem Value).run P w = .ok y w := by
  unfold Go.Instr.loadAt at h
  cases x' <;> first | (simp [Go.Instr.sureAddr] at h; done) | skip
  case pointer a =>
    cases a with
    | none => simp [Go.Instr.sureAddr] at h
    | some a => simpa [Go.Instr.sureAddr, Go.asAddr] using h

theorem res_form : ∀ {rv : List Go.ResultVar} {rs : List (Opd × Option Nat)}, resOf P sl rv = some rs → ∀ (e : Env) (s : St), (∀ k, resL rs e s k = fl) ∨ ∃ l, ∀ k, resL rs e s k = k l
  | [], rs, h, e, s => by cases h; exact .inr ⟨[], fun k => rfl⟩
  | .tmp t :: r, rs, h, e, s => by
    simp only [resOf] at h
    cases hr : resOf P sl r with
    | none => rw [hr] at h; cases h
    | some l =>
      rw [hr] at h; cases h
      rcases res_form hr e s with hf | ⟨m, hm⟩
      · exact .inl fun k => by rw [resL_cons, hf]
      · exact .inr ⟨_, fun k => by rw [resL_cons, hm]⟩
  | .cell a t :: r, rs, h, e, s => by
    simp only [resOf] at h
    cases hn : cellN P t with
    | none => rw [hn] at h; cases h
    | some n =>
      cases hr : resOf P sl r with
      | none => simp only [hn, hr] at h; cases h
      | some l =>
        simp only [hn, hr] at h; cases h
        have he : ∀ k, resL ((opd sl [] (.tmp a), some n) :: l) e s k = cellK n (opd sl [] (.tmp a) [] e) s (fun v => resL l e s (fun l => k (v :: l))) := fun k => resL_cell _ _ _ _ _ _
        rcases cellK_form n (opd sl [] (.tmp a) [] e) s with hf | ⟨v, hv⟩
        · exact .inl fun k => by rw [he, hf]
        · rcases res_form hr e s with hf | ⟨m, hm⟩
          · exact .inl fun k => by rw [he, hv, hf]
          · exact .inr ⟨_, fun k => by rw [he, hv, hm]⟩
theorem res_out {g : Go.ResultVar → Go.Sem Value} (hg1 : ∀ t, g (.tmp t) = pure (a.tmps.getD t undef)) (hg2 : ∀ b t, g (.cell b t) = do Go.loadVar t (← Go.asAddr (a.tmps.getD b undef))) (hs : Sim β s w) (he : ERel sl n β e a) :
    ∀ {rv : List Go.ResultVar} {rs : List (Opd × Option Nat)}, resOf P sl rv = some rs → (∀ k, resL rs e s k = fl) ∨ ∃ l xs, (∀ k, resL rs e s k = k l) ∧ VRels β l xs ∧ (rv.mapM g).run P w = .ok xs w
  | [], rs, h => by cases h; exact .inr ⟨[], [], fun k => rfl, .nil, by simp⟩
  | .tmp t :: r, rs, h => by
    simp only [resOf] at h
    cases hr : resOf P sl r with
    | none => rw [hr] at h; cases h
    | some l =>
      rw [hr] at h; cases h
      rcases res_out hg1 hg2 hs he hr with hf | ⟨m, xs, hm, hrel, hrun⟩
      · exact .inl fun k => by rw [resL_cons, hf]
      · refine .inr ⟨_, _, fun k => by rw [resL_cons, hm], .cons _ _ _ _ (he.operand (.tmp t)) hrel, ?_⟩
        rw [List.mapM_cons, Go.Sem.run_bind, hg1]
        simp only [Go.Sem.run_pure, Go.Result.andThen_ok, Go.Sem.run_bind, hrun]
        rfl
  | .cell b t :: r, rs, h => by
    simp only [resOf] at h
    cases hn : cellN P t with
    | none => rw [hn] at h; cases h
    | some n' =>
      cases hr : resOf P sl r with
      | none => simp only [hn, hr] at h; cases h
      | some l =>
        simp only [hn, hr] at h; cases h
        have hcl : ∀ k, resL ((opd sl [] (.tmp b), some n') :: l) e s k = cellK n' (opd sl [] (.tmp b) [] e) s (fun v => resL l e s (fun l => k (v :: l))) := fun k => resL_cell _ _ _ _ _ _
        rcases cellK_out (P := P) hn hs (he.operand (.tmp b)) with ⟨why, hf⟩ | ⟨v, x, hv, hvr, hrun1⟩
        · rcases cellK_form n' (opd sl [] (.tmp b) [] e) s with hf2 | ⟨v, hv⟩
          · exact .inl fun k => by rw [hcl, hf2]
          · exact (not_failV hv hf).elim
        · rcases res_out hg1 hg2 hs he hr with hf | ⟨m, xs, hm, hrel, hrun⟩
          · exact .inl fun k => by rw [hcl, hv, hf]
          · refine .inr ⟨_, _, fun k => by rw [hcl, hv, hm], .cons _ _ _ _ hvr hrel, ?_⟩
            have h1 := loadVar_of hrun1
            rw [List.mapM_cons, Go.Sem.run_bind, hg2, show a.tmps.getD b undef = a.eval (.tmp b) from rfl, h1]
            simp only [Go.Sem.run_pure, Go.Result.andThen_ok, Go.Sem.run_bind, hrun]
theorem res2_out {l : L} {xs : List Value} (h : VRels β l xs) : ∃ v, (∀ k, res2 l k = k v) ∧ VRel β v (if hh : xs.toArray.size = 1 then xs.toArray[0] else .tuple xs.toArray) := by
  cases h with
  | nil => exact ⟨.tup [], fun k => rfl, undef_rel⟩
  | cons v x l l' a b =>
    cases b with
    | nil => exact ⟨v, fun k => rfl, by simpa using a⟩
    | cons v2 x2 l2 l2' a2 b2 =>
      refine ⟨.tup (v :: v2 :: l2), fun k => rfl, ?_⟩
      rw [dif_neg (by simp)]
      exact .tup _ _ (.cons _ _ _ _ a (.cons _ _ _ _ a2 b2))
theorem results_out {fn : Go.Func} {rs : List (Opd × Option Nat)} (hr : resOf P sl fn.results.toList = some rs) (hs : Sim β s w) (he : ERel sl n β e a) :
    (∀ k, resL rs e s k = fl) ∨ ∃ l xs, (∀ k, resL rs e s k = k l) ∧ VRels β l xs ∧ (Go.results fn a.tmps).run P w = .ok (if hh : xs.toArray.size = 1 then xs.toArray[0] else .tuple xs.toArray) w := by
  rcases res_out (g := fun | Go.ResultVar.tmp t => pure (a.tmps.getD t undef) | .cell b t => do Go.loadVar t (← Go.asAddr (a.tmps.getD b undef))) (fun t => rfl) (fun b t => rfl) hs he hr with hf | ⟨l, xs, hk, hrel, hrun⟩
  · exact .inl hf
  · refine .inr ⟨l, xs, hk, hrel, ?_⟩
    have hres : fn.results = fn.results.toList.toArray := by simp
    unfold Go.results
    rw [hres, List.mapM_toArray, Go.Sem.run_bind, Go.Sem.run_map]
    erw [hrun]
    simp

theorem finK_norm (e : Env) (s : St) (rs : List (Opd × Option Nat)) (k : K) : finK (.norm e s) rs k = resL rs e s (fun l => res2 l (fun v => k v s)) := rfl
theorem finK_ret (e : Env) (s : St) (rs : List (Opd × Option Nat)) (k : K) : finK (.ret e s) rs k = resL rs e s (fun l => res2 l (fun v => k v s)) := rfl

/-- the temporaries at the begin of a call -/
def actOf (args : List Value) (nt : Nat) : Act := { tmps := args.toArray ++ Array.replicate (nt - args.toArray.size) undef, defers := [] }
theorem func_says {f : Nat} {fn : Go.Func} {np : Nat} {rs : List (Opd × Option Nat)} {co : Go.Code} {ac : ACode} (hb : fn.body = some co) (hr : resOf P sl fn.results.toList = some rs) (hfn : P.funcs[f]? = some fn)
    (hcall : ∀ args w, (Go.callFunc f args).run P w = .ok (.enter f args) w) {as : L} {args : List Value} (hsays : Says P sl fn.ntmps β s w (actOf args fn.ntmps) (execK c ac (bindP (paramsOf sl 0 np) as) s) co) :
    Out β s w P (fun k => callF (.fn ⟨paramsOf sl 0 np, rs, ac⟩) c as s k) (Go.callFunc f args.toArray) := by
  have heq : ∀ k, callF (.fn ⟨paramsOf sl 0 np, rs, ac⟩) c as s k = finK (execK c (ac) (bindP (paramsOf sl 0 np) as) s) rs k := fun k => rfl
  generalize execK c (ac) (bindP (paramsOf sl 0 np) as) s = r at heq hsays
  -- the two ways to end
  have fin : ∀ (ex : Exit) (e' : Env) (s' : St), (∀ why, r ≠ .f why) → (∀ ex' e2 s2, Meets r ex' e2 s2 → ex' = ex ∧ e2 = e' ∧ s2 = s') → (ex = .normal ∨ ex = .ret) → (∀ k, finK r rs k = resL rs e' s' (fun l => res2 l (fun v => k v s'))) →
      Out β s w P (fun k => callF (.fn ⟨paramsOf sl 0 np, rs, ac⟩) c as s k) (Go.callFunc f args.toArray) := by
    intro ex e' s' hne hm hex hk
    rcases res_form hr e' s' with hfl | ⟨l, hl⟩
    · exact .inl ⟨0, fun k => ((heq k).trans (hk k)).trans (hfl _)⟩
    have hv : ∃ v, ∀ k : KV, res2 l k = k v := by
      rcases l with _ | ⟨v, _ | ⟨v2, l⟩⟩
      · exact ⟨.tup [], fun k => rfl⟩
      · exact ⟨v, fun k => rfl⟩
      · exact ⟨.tup (v :: v2 :: l), fun k => rfl⟩
    obtain ⟨v, hv⟩ := hv
    refine .inr ⟨v, s', fun k => ((heq k).trans (hk k)).trans (by rw [hl, hv]), ?_⟩
    unfold Goes
    rw [hcall]
    refine Go.calls_of_wp hfn hb (hsays _ hne fun ex' e2 s2 β' a' w' hmeet hs' hp' he' => ?_)
    obtain ⟨rfl, rfl, rfl⟩ := hm ex' e2 s2 hmeet
    have hdone : a'.defers = [] ∧ ∃ x, (Go.results fn a'.tmps).run P w' = .ok x w' ∧ ∃ y, Ending.returned x = .returned y ∧ After β s w v s2 y w' := by
      rcases results_out hr hs' he' with hfl | ⟨l2, xs, hl2, hrel, hrun⟩
      · exact (not_failL hl hfl).elim
      · have := uniqL hl hl2; subst this
        obtain ⟨v', hv', hvr⟩ := res2_out hrel
        have := uniqV hv' hv; subst this
        exact ⟨he'.defers, _, hrun, _, rfl, β', hvr, hs', hp'⟩
    rcases hex with rfl | rfl
    · exact hdone
    · exact hdone
  cases r with
  | f why => exact .inl ⟨why, fun k => heq k⟩
  | exit id e' s' => exact .inl ⟨0, fun k => heq k⟩
  | norm e' s' => exact fin .normal e' s' (fun why h => by cases h) (fun ex' e2 s2 h => by cases h; exact ⟨rfl, rfl, rfl⟩) (.inl rfl) (fun k => finK_norm e' s' rs k)
  | ret e' s' => exact fin .ret e' s' (fun why h => by cases h) (fun ex' e2 s2 h => by cases h; exact ⟨rfl, rfl, rfl⟩) (.inr rfl) (fun k => finK_ret e' s' rs k)
theorem func_out (hc : CFSound P c) (hmx : P.follows .mixedOrders = true) {f : Nat} {fn : Go.Func} {np : Nat} {pls : List PlanD} {A : AFunc} (htr : trFunc P fn np sl pls = some A) (hfn : P.funcs[f]? = some fn)
    (hcall : ∀ args w, (Go.callFunc f args).run P w = .ok (.enter f args) w) {as : L} {args : List Value} (hs : Sim β s w) (ha : VRels β as args) : Out β s w P (fun k => callF (.fn A) c as s k) (Go.callFunc f args.toArray) := by
  unfold trFunc at htr
  cases hb : fn.body with
  | none => rw [hb] at htr; cases htr
  | some co =>
    cases hr : resOf P sl fn.results.toList with
    | none => simp only [hb, hr] at htr; cases htr
    | some rs =>
      simp only [hb, hr] at htr; cases htr
      exact func_says hb hr hfn hcall (code_says hc fn.ntmps pls hmx co (bindP (paramsOf sl 0 np) as) s β w _ hs (enter_rel (sl := sl) ha np fn.ntmps))

/-- a special's contract -/
def SpOk (P : Program) (f : Nat) (x : L → St → K → RC) : Prop :=
  ∀ (β : Beta) (s : St) (w : World) (as : L) (args : List Value), Sim β s w → VRels β as args → Out β s w P (x as s) (Go.callFunc f args.toArray)
/-- an entry of the table is right -/
inductive FEok (P : Program) (f : Nat) : FE → Prop
  | no : FEok P f .no
  | fn (A : AFunc) (fn : Go.Func) (np : Nat) (sl : List Nat) (pls : List PlanD) : trFunc P fn np sl pls = some A → P.funcs[f]? = some fn → (∀ args w, (Go.callFunc f args).run P w = .ok (.enter f args) w) → FEok P f (.fn A)
  | sp (x : L → St → K → RC) : SpOk P f x → FEok P f (.sp x)
  | like (A : AFunc) : (∀ (c : CF), CFSound P c → ∀ (β : Beta) (s : St) (w : World) (as : L) (args : List Value), Sim β s w → VRels β as args → Out β s w P (fun k => callF (.fn A) c as s k) (Go.callFunc f args.toArray)) → FEok P f (.fn A)

theorem callK_sound (hmx : P.follows .mixedOrders = true) {F : Tr FE} (hF : ∀ f : Pth, FEok P (num f) (pget .no f F)) : ∀ n, CFSound P (callK F n)
  | 0 => fun β s w f as args hs ha => .inl ⟨46, fun k => rfl⟩
  | n + 1 => fun β s w f as args hs ha => by
    have heq : ∀ k, callK F (n + 1) f as s k = callF (pget .no f F) (callK F n) as s k := fun k => rfl
    have ih := callK_sound hmx hF n
    have := hF f
    generalize pget .no f F = fe at this heq
    cases this with
    | no => exact .inl ⟨47, fun k => heq k⟩
    | fn A fn np sl pls htr hfn hcall => exact (func_out ih hmx htr hfn hcall hs ha).congr heq
    | sp x hx => exact (hx β s w as args hs ha).congr heq
    | like A h => exact (h _ ih β s w as args hs ha).congr heq
end
end Viv

/-
  A MEMORY OF PACKAGE HEAP, SEEN AS PLAIN ROWS: what its own functions do, carried over to worlds that hold more.
-/
namespace Viv
open Go (Value World IntKind Addr Program Act Exit Oper Operand Ending undef)

section
variable {P : Program} {β : Beta} {s s' : St} {w w' : World}

/-- some objects have changed, in their own blocks -/
theorem Sim.change (h : Sim β s w) (X : Pth → Prop) (hn : s'.next = s.next) (hX : ∀ id, X id → s.get id ≠ .none ∧ β id ≠ none) (hsame : ∀ id, ¬ X id → s'.get id = s.get id)
    (hs : w.heap.size ≤ w'.heap.size) (hold : ∀ b, b < w.heap.size → (∀ id loc, X id → β id = some loc → b ∉ loc.blocks) → w'.heap[b]? = w.heap[b]?)
    (ho : ∀ id loc, X id → β id = some loc → ObjRel β w' (s'.get id) loc) (ht : w'.tape = w.tape) (hos : w'.os = w.os) (hout : w'.output = w.output) :
    Sim β s' w' ∧ Post β s w β s' w' := by
  classical
  refine ⟨⟨fun id loc hb => by rw [hn]; exact h.fresh id loc hb, ?_, ?_⟩, ⟨Beta.le_refl β, hs, by rw [hn]; exact Nat.le_refl _, ?_, ?_, ?_, ?_, ht, hos, hout⟩⟩
  · intro id loc hb
    by_cases hx : X id
    · exact ho id loc hx hb
    · rw [hsame id hx]
      by_cases hl : s.get id = .none
      · rw [hl]; cases loc <;> trivial
      · refine (h.obj id loc hb).world fun b hm => hold b ((h.obj id loc hb).lt hl b hm) fun id' loc' hx' hb' hm' => ?_
        exact h.disj id id' loc loc' hb hb' hl (hX id' hx').1 (fun e => hx (e ▸ hx')) b hm hm'
  · intro id id' loc loc' h1 h2 g1 g2 hne
    have live : ∀ i, s'.get i ≠ .none → s.get i ≠ .none := fun i hi => by
      by_cases hx : X i
      · exact (hX i hx).1
      · rw [← hsame i hx]; exact hi
    exact h.disj id id' loc loc' h1 h2 (live _ g1) (live _ g2) hne
  · intro b hb hl
    exact hold b hb fun id loc hx hbb hm => hl ⟨id, loc, hbb, (hX id hx).1, hm⟩
  · intro id loc h1 h2; rw [h1] at h2; cases h2
  · intro id hne hnone
    have hx : ¬ X id := fun hx => (hX id hx).1 hnone
    rw [hsame id hx]; exact hnone
  · intro id _ hnone
    have hx : ¬ X id := fun hx => (hX id hx).2 hnone
    exact hsame id hx

theorem Goes.mono {sem : Go.Sem Go.Next} {R R' : Value → World → Prop} (h : Goes P sem w R) (hr : ∀ v w', R v w' → R' v w') : Goes P sem w R' := by
  unfold Goes at h ⊢
  split at h
  · exact hr _ _ h
  · exact hr _ _ h
  · exact Go.Calls.mono h fun e w'' ⟨v, e1, e2⟩ => ⟨v, e1, hr _ _ e2⟩
  · exact h.elim

/-! values without memory -/
def Scal : V → Prop
  | .p _ | .m _ | .tt | .ff => True
  | .tup l => ∀ v ∈ l, match v with | .p _ | .m _ | .tt | .ff => True | _ => False
  | _ => False
theorem scal0 {β' : Beta} {v : V} {x : Value} (hv : match v with | .p _ | .m _ | .tt | .ff => True | _ => False) (h : VRel β v x) : VRel β' v x := by
  cases h <;> first | exact hv.elim | skip
  case tt => exact .tt
  case ff => exact .ff
  case p n hn => exact .p n hn
  case m n hn => exact .m n hn
theorem scals {β' : Beta} {l : L} {l' : List Value} (hv : ∀ v ∈ l, match v with | .p _ | .m _ | .tt | .ff => True | _ => False) (h : VRels β l l') : VRels β' l l' := by
  induction l generalizing l' with
  | nil => cases h; exact .nil
  | cons v l ih => cases h with | cons _ x _ l' a b => exact .cons _ _ _ _ (scal0 (hv v (by simp)) a) (ih (fun u hu => hv u (by simp [hu])) b)
theorem Scal.rel {β' : Beta} {v : V} {x : Value} (hv : Scal v) (h : VRel β v x) : VRel β' v x := by
  cases v <;> simp only [Scal] at hv
  case tup l => cases h with | tup _ l' hl => exact .tup _ _ (scals hv hl)
  all_goals exact scal0 trivial h
theorem scal_vI (n : Int) : Scal (vI n) := by cases n <;> exact trivial
theorem scal_B (b : Bool) : Scal (B b) := by cases b <;> exact trivial
theorem vI_rel {n : Int} (h1 : -9223372036854775808 ≤ n) (h2 : n < 9223372036854775808) : VRel β (vI n) (.int .i64 n) := by
  cases n with
  | ofNat n => exact .p n (by simp only [Int.ofNat_eq_natCast] at h2; omega)
  | negSucc n => exact .m n (by simp only [Int.negSucc_eq] at h1; omega)
theorem vI_of_rel {n : Int} {x : Value} (h : VRel β (vI n) x) : x = .int .i64 n ∧ -9223372036854775808 ≤ n ∧ n < 9223372036854775808 := by
  cases n with
  | ofNat n => cases h with | p _ h => exact ⟨rfl, by simp only [Int.ofNat_eq_natCast]; omega, by simp only [Int.ofNat_eq_natCast]; omega⟩
  | negSucc n => cases h with | m _ h => exact ⟨rfl, by rw [Int.negSucc_eq]; omega, by rw [Int.negSucc_eq]; omega⟩

/-! the words as values -/
def ntmap {α γ : Type} (f : α → γ) : NT α → NT γ
  | .mt => .mt
  | .l v => .l (f v)
  | .n a b => .n (ntmap f a) (ntmap f b)
theorem nget_map {α γ : Type} (f : α → γ) (d : α) : ∀ (k : Nat) (t : NT α) (i : Nat), nget (f d) k (ntmap f t) i = f (nget d k t i)
  | 0, t, i => by cases t <;> rfl
  | k + 1, t, i => by
    rw [nget_succ, nget_succ]
    have hl : nL (ntmap f t) = ntmap f (nL t) := by cases t <;> rfl
    have hr : nR (ntmap f t) = ntmap f (nR t) := by cases t <;> rfl
    rw [hl, hr, nget_map f d k, nget_map f d k]
    split <;> rfl

/-! the view -/
noncomputable def vw (T : NT V) (e k sz : Nat) (l : List Ent) (c : Nat) : St :=
  ⟨.n (.n .mt .mt (.vec 17 T sz (.p 0))) (.n .mt .mt (.map l c)) (.row [.slc (.o .h) 0 sz true sz 1, .p e, .p k, .map (.i .h)]), .o (.o .h)⟩
theorem vb_cases {x : ML} {bp : Nat} {i : Pth} {loc : Loc} (h : vb x bp i = some loc) :
    (i = .h ∧ loc = .row x.b x.o x.sb) ∨ (i = .o .h ∧ loc = .row x.bw x.ow x.sw) ∨ (i = .i .h ∧ loc = .map bp) := by
  unfold vb at h
  split at h <;> simp_all

structure Viewed (β : Beta) (m : Mem) (t : NT Bool) (x : ML) (bp sz : Nat) (l : List Ent) (c : Nat) (w : World) : Prop where
  ne : x.b ≠ x.bw ∧ x.b ≠ bp ∧ x.bw ≠ bp
  wf : MemWf m sz
  pl : β m.pl = some (.map bp)
  set : SetRel t l
  born : Born l c
  sim : Sim (vb x bp) (vw (ntmap vI m.words) m.endd m.made sz l c) w

theorem view (h : Sim β s w) {id : Pth} {loc : Loc} {m : Mem} {t : NT Bool} (hid : β id = some loc) (hm : s.get id = .mem m) (ht : s.get m.pl = .set t) :
    ∃ x bp sz l c, loc = .mem x ∧ Viewed β m t x bp sz l c w := by
  have ho := h.obj id loc hid
  rw [hm] at ho
  cases loc <;> simp only [ObjRel] at ho
  case mem x =>
  obtain ⟨hne, sz, bp, hwf, hpl, h1, h2⟩ := ho
  have hp := h.obj m.pl _ hpl
  rw [ht] at hp
  obtain ⟨es, c, l, h3, hes, hborn, hset⟩ := hp
  have hdis : ∀ y ∈ (Loc.mem x).blocks, y ∉ (Loc.map bp).blocks := by
    refine h.disj id m.pl _ _ hid hpl (by rw [hm]; simp) (by rw [ht]; simp) (fun e => ?_)
    rw [← e, hm] at ht; cases ht
  have d1 : x.b ≠ bp := fun e => hdis x.b (by simp [Loc.blocks]) (by simp [Loc.blocks, e])
  have d2 : x.bw ≠ bp := fun e => hdis x.bw (by simp [Loc.blocks]) (by simp [Loc.blocks, e])
  refine ⟨x, bp, sz, l, c, rfl, ⟨hne, d1, d2⟩, hwf, hpl, hset, hborn, ⟨?_, ?_, ?_⟩⟩
  · intro i loc hi
    rcases vb_cases hi with ⟨rfl, _⟩ | ⟨rfl, _⟩ | ⟨rfl, _⟩ <;> (show _ < num (Pth.o (.o .h)); simp [num])
  · intro i loc hi
    rcases vb_cases hi with ⟨rfl, rfl⟩ | ⟨rfl, rfl⟩ | ⟨rfl, rfl⟩
    · exact h1
    · refine ⟨?_, hwf.hi⟩
      have hf : (fun i => nget (V.p 0) 17 (ntmap vI m.words) i) = fun i => vI (m.word i) := funext fun i => nget_map vI 0 17 m.words i
      show RowRel (vb x bp) w sz (fun i => nget (V.p 0) 17 (ntmap vI m.words) i) x.bw x.ow x.sw
      rw [hf]; exact h2
    · refine ⟨es, h3, hes.mono (fun _ _ h => by cases h), hborn⟩
  · intro i i' l1 l2 hi hi' _ _ hne2 y hy hy'
    rcases vb_cases hi with ⟨rfl, rfl⟩ | ⟨rfl, rfl⟩ | ⟨rfl, rfl⟩ <;> rcases vb_cases hi' with ⟨rfl, rfl⟩ | ⟨rfl, rfl⟩ | ⟨rfl, rfl⟩ <;> simp [Loc.blocks] at hy hy' hne2 <;> omega

/-- what was seen, behind a call -/
theorem unview (h : Sim β s w) {id : Pth} {m : Mem} {t : NT Bool} {x : ML} {bp sz c : Nat} {l : List Ent} (hid : β id = some (.mem x)) (hm : s.get id = .mem m) (ht : s.get m.pl = .set t)
    (hv : Viewed β m t x bp sz l c w) {s3 s'' : St} {m' : Mem} {t' : NT Bool} {T' : NT V} {l' : List Ent} {c' : Nat} {v : V} {sem : Go.Sem Go.Next}
    (hg : Goes P sem w (After (vb x bp) (vw (ntmap vI m.words) m.endd m.made sz l c) w v s3)) (hsc : Scal v)
    (g0 : s3.get .h = .row (memRow m' sz)) (g1 : s3.get (.o .h) = .vec 17 T' sz (.p 0)) (g2 : s3.get (.i .h) = .map l' c')
    (hT : ∀ i, i < sz → nget (.p 0) 17 T' i = vI (m'.word i)) (hwf : MemWf m' sz) (hpl : m'.pl = m.pl) (hset : SetRel t' l')
    (hn : s''.next = s.next) (q0 : s''.get id = .mem m') (q1 : s''.get m.pl = .set t') (q2 : ∀ i, i ≠ id → i ≠ m.pl → s''.get i = s.get i) :
    Goes P sem w (After β s w v s'') := by
  refine hg.mono fun y w' hA => ?_
  obtain ⟨β3, hx, hs3, hp3⟩ := hA
  have b0 : β3 .h = some (.row x.b x.o x.sb) := hp3.le _ _ rfl
  have b1 : β3 (.o .h) = some (.row x.bw x.ow x.sw) := hp3.le _ _ rfl
  have b2 : β3 (.i .h) = some (.map bp) := hp3.le _ _ rfl
  have o0 := hs3.obj _ _ b0
  have o1 := hs3.obj _ _ b1
  have o2 := hs3.obj _ _ b2
  rw [g0] at o0; rw [g1] at o1; rw [g2] at o2
  obtain ⟨cur0, e0, k0, z0, z0', r0⟩ := o0
  obtain ⟨⟨cur1, e1, k1, z1, z1', r1⟩, -⟩ := o1
  obtain ⟨es, k2, hes, hborn⟩ := o2
  refine ⟨β, hsc.rel hx, ?_⟩
  refine h.change (fun i => i = id ∨ i = m.pl) hn ?_ (fun i hi => q2 i (fun e => hi (.inl e)) (fun e => hi (.inr e))) hp3.size ?_ ?_ hp3.tape hp3.os hp3.output
  · rintro i (rfl | rfl)
    · rw [hm, hid]; simp
    · rw [ht, hv.pl]; simp
  · intro b' hb' hno
    refine hp3.keep b' hb' fun hl => ?_
    obtain ⟨i, loc, hi, _, hmem⟩ := hl
    have n1 := hno id _ (.inl rfl) hid
    have n2 := hno m.pl _ (.inr rfl) hv.pl
    simp only [Loc.blocks, List.mem_cons, List.not_mem_nil, or_false, not_or] at n1 n2
    rcases vb_cases hi with ⟨rfl, rfl⟩ | ⟨rfl, rfl⟩ | ⟨rfl, rfl⟩ <;> simp only [Loc.blocks, List.mem_cons, List.not_mem_nil, or_false] at hmem
    · exact n1.1 hmem
    · exact n1.2 hmem
    · exact n2 hmem
  · rintro i loc (rfl | rfl) hloc
    · rw [hid] at hloc; cases hloc
      rw [q0]
      show MemRel β m' x w'
      refine ⟨hv.ne.1, sz, bp, hwf, by rw [hpl]; exact hv.pl, ⟨cur0, e0, k0, z0, z0', fun i hi => ?_⟩, ⟨cur1, e1, k1, z1, z1', fun i hi => ?_⟩⟩
      · obtain ⟨y, hy, hone, hr⟩ := r0 i hi
        refine ⟨y, hy, hone, ?_⟩
        clear hy r0
        match i, hi with
        | 0, _ =>
          cases hr with
          | slc _ _ _ _ _ _ b' o' sz' c2 hb' h1 h2 h3 h4 h5 =>
            rw [b1] at hb'; cases hb'
            exact .slc _ _ _ _ _ _ x.bw x.ow x.sw c2 rfl h1 h2 h3 h4 h5
        | 1, _ => cases hr with | p _ h => exact .p _ h
        | 2, _ => cases hr with | p _ h => exact .p _ h
        | 3, _ => cases hr with | map _ b' hb' => rw [b2] at hb'; cases hb'; exact .map _ bp rfl
      · obtain ⟨y, hy, hone, hr⟩ := r1 i hi
        have hr' : VRel β3 (vI (m'.word i)) y := by rw [← hT i hi]; exact hr
        exact ⟨y, hy, hone, (scal_vI _).rel hr'⟩
    · rw [hv.pl] at hloc; cases hloc
      rw [q1]
      refine ⟨es, c', l', k2, ?_, hborn, hset⟩
      clear hT r0 r1
      have hall := hset.all
      revert hes
      generalize es.toList = el
      intro hes
      clear hset hborn k2 g2
      induction hes with
      | nil => exact .nil
      | cons e me l1 l2 a _ ih =>
        obtain ⟨k, _, hk, hvv, _⟩ := hall e (by simp)
        refine .cons _ _ _ _ ⟨?_, ?_, a.born⟩ (ih fun x hx => hall x (by simp [hx]))
        · have := a.key; rw [hk] at this ⊢; exact scal0 trivial this
        · have := a.val; rw [hvv] at this ⊢; exact scal0 trivial this
end
end Viv

/-
  FUNCTIONS OF THE PROGRAM, AS THE EVALUATOR HAS THEM. Printed by TrP.lean and mkF.py of wip/.
-/
set_option maxRecDepth 100000
namespace Viv
def q0 : Pth := .h
def q1 : Pth := .o q0
def q2 : Pth := .i q0
def q3 : Pth := .o q1
def q4 : Pth := .i q1
def q5 : Pth := .o q2
def q6 : Pth := .i q2
def q7 : Pth := .o q3
def q8 : Pth := .i q3
def q9 : Pth := .o q4
def q10 : Pth := .i q4
def q11 : Pth := .o q5
def q12 : Pth := .i q5
def q13 : Pth := .o q6
def q14 : Pth := .i q6
def q15 : Pth := .o q7
def q16 : Pth := .i q7
def q17 : Pth := .o q8
def q18 : Pth := .i q8
def q19 : Pth := .o q9
def q20 : Pth := .i q9
def q21 : Pth := .o q10
def q22 : Pth := .i q10
def q23 : Pth := .o q11
def q24 : Pth := .i q11
def q25 : Pth := .o q12
def q26 : Pth := .i q12
def q27 : Pth := .o q13
def q28 : Pth := .i q13
def q29 : Pth := .o q14
def q30 : Pth := .i q14
def q31 : Pth := .o q15
def q32 : Pth := .i q15
def q33 : Pth := .o q16
def q34 : Pth := .i q16
def q35 : Pth := .o q17
def q36 : Pth := .i q17
def q37 : Pth := .o q18
def q38 : Pth := .i q18
def q39 : Pth := .o q19
def q40 : Pth := .i q19
def q41 : Pth := .o q20
def q42 : Pth := .i q20
def q43 : Pth := .o q21
def q44 : Pth := .i q21
def q45 : Pth := .o q22
def q46 : Pth := .i q22
def q47 : Pth := .o q23
def q48 : Pth := .i q23
def q49 : Pth := .o q24
def q50 : Pth := .i q24
def q51 : Pth := .o q25
def q52 : Pth := .i q25
def q53 : Pth := .o q26
def q54 : Pth := .i q26
def q55 : Pth := .o q27
def q56 : Pth := .i q27
def q57 : Pth := .o q28
def q58 : Pth := .i q28
def q59 : Pth := .o q29
def q60 : Pth := .i q29
def q61 : Pth := .o q30
def q62 : Pth := .i q30
def q63 : Pth := .o q31
def q64 : Pth := .i q31
def q65 : Pth := .o q32
def q66 : Pth := .i q32
def q67 : Pth := .o q33
def q68 : Pth := .i q33
def q69 : Pth := .o q34
def q70 : Pth := .i q34
def q71 : Pth := .o q35
def q72 : Pth := .i q35
def q73 : Pth := .o q36
def q74 : Pth := .i q36
def q75 : Pth := .o q37
def q76 : Pth := .i q37
def q77 : Pth := .o q38
def q78 : Pth := .i q38
def q79 : Pth := .o q39
def q80 : Pth := .i q39
def q81 : Pth := .o q40
def q82 : Pth := .i q40
def q83 : Pth := .o q41
def q84 : Pth := .i q41
def q85 : Pth := .o q42
def q86 : Pth := .i q42
def q87 : Pth := .o q43
def q88 : Pth := .i q43
def q89 : Pth := .o q44
def q90 : Pth := .i q44
def q91 : Pth := .o q45
def q92 : Pth := .i q45
def q93 : Pth := .o q46
def q94 : Pth := .i q46
def q95 : Pth := .o q47
def q96 : Pth := .i q47
def q97 : Pth := .o q48
def q98 : Pth := .i q48
def q99 : Pth := .o q49
def q100 : Pth := .i q49
def q101 : Pth := .o q50
def q102 : Pth := .i q50
def q103 : Pth := .o q51
def q104 : Pth := .i q51
def q105 : Pth := .o q52
def q106 : Pth := .i q52
def q107 : Pth := .o q53
def q108 : Pth := .i q53
def q109 : Pth := .o q54
def q110 : Pth := .i q54
def q111 : Pth := .o q55
def q112 : Pth := .i q55
def q113 : Pth := .o q56
def q114 : Pth := .i q56
def q115 : Pth := .o q57
def q116 : Pth := .i q57
def q117 : Pth := .o q58
def q118 : Pth := .i q58
def q119 : Pth := .o q59
def q120 : Pth := .i q59
def q121 : Pth := .o q60
def q122 : Pth := .i q60
def q123 : Pth := .o q61
def q124 : Pth := .i q61
def q125 : Pth := .o q62
def q126 : Pth := .i q62
def q127 : Pth := .o q63
def q128 : Pth := .i q63
def q129 : Pth := .o q64
def q130 : Pth := .i q64
def q131 : Pth := .o q65
def q132 : Pth := .i q65
def q133 : Pth := .o q66
def q134 : Pth := .i q66
def q135 : Pth := .o q67
def q136 : Pth := .i q67
def q137 : Pth := .o q68
def q138 : Pth := .i q68
def q139 : Pth := .o q69
def q140 : Pth := .i q69
def q141 : Pth := .o q70
def q142 : Pth := .i q70
def q143 : Pth := .o q71
def q144 : Pth := .i q71
def q145 : Pth := .o q72
def q146 : Pth := .i q72
def q147 : Pth := .o q73
def q148 : Pth := .i q73
def q149 : Pth := .o q74
def q150 : Pth := .i q74
def q151 : Pth := .o q75
def q152 : Pth := .i q75
def q153 : Pth := .o q76
def q154 : Pth := .i q76
def q155 : Pth := .o q77
def q156 : Pth := .i q77
def q157 : Pth := .o q78
def q158 : Pth := .i q78
def q159 : Pth := .o q79
def q160 : Pth := .i q79
def q161 : Pth := .o q80
def q162 : Pth := .i q80
def q163 : Pth := .o q81
def q164 : Pth := .i q81
def q165 : Pth := .o q82
def q166 : Pth := .i q82
def q167 : Pth := .o q83
def q168 : Pth := .i q83
def q169 : Pth := .o q84
def q170 : Pth := .i q84
def q171 : Pth := .o q85
def q172 : Pth := .i q85
def q173 : Pth := .o q86
def q174 : Pth := .i q86
def q175 : Pth := .o q87
def q176 : Pth := .i q87
def q177 : Pth := .o q88
def q178 : Pth := .i q88
def q179 : Pth := .o q89
def q180 : Pth := .i q89
def q181 : Pth := .o q90
def q182 : Pth := .i q90
def q183 : Pth := .o q91
def q184 : Pth := .i q91
def q185 : Pth := .o q92
def q186 : Pth := .i q92
def q187 : Pth := .o q93
def q188 : Pth := .i q93
def q189 : Pth := .o q94
def q190 : Pth := .i q94
def q191 : Pth := .o q95
def q192 : Pth := .i q95
def q193 : Pth := .o q96
def q194 : Pth := .i q96
def q195 : Pth := .o q97
def q196 : Pth := .i q97
def q197 : Pth := .o q98
def q198 : Pth := .i q98
def q199 : Pth := .o q99
def q200 : Pth := .i q99
def q201 : Pth := .o q100
def q202 : Pth := .i q100
def q203 : Pth := .o q101
def q204 : Pth := .i q101
def q205 : Pth := .o q102
def q206 : Pth := .i q102
def q207 : Pth := .o q103
def q208 : Pth := .i q103
def q209 : Pth := .o q104
def q210 : Pth := .i q104
def q211 : Pth := .o q105
def q212 : Pth := .i q105
def q213 : Pth := .o q106
def q214 : Pth := .i q106
def q215 : Pth := .o q107
def q216 : Pth := .i q107
def q217 : Pth := .o q108
def q218 : Pth := .i q108
def q219 : Pth := .o q109
def q220 : Pth := .i q109
def q221 : Pth := .o q110
def q222 : Pth := .i q110
def q223 : Pth := .o q111
def q224 : Pth := .i q111
def q225 : Pth := .o q112
def q226 : Pth := .i q112
def q227 : Pth := .o q113
def q228 : Pth := .i q113
def q229 : Pth := .o q114
def q230 : Pth := .i q114
def q231 : Pth := .o q115
def q232 : Pth := .i q115
def q233 : Pth := .o q116
def q234 : Pth := .i q116
def q235 : Pth := .o q117
def q236 : Pth := .i q117
def q237 : Pth := .o q118
def q238 : Pth := .i q118
def q239 : Pth := .o q119
def q240 : Pth := .i q119
def q241 : Pth := .o q120
def q242 : Pth := .i q120
def q243 : Pth := .o q121
def q244 : Pth := .i q121
def q245 : Pth := .o q122
def q246 : Pth := .i q122
def q247 : Pth := .o q123
def q248 : Pth := .i q123
def q249 : Pth := .o q124
def q250 : Pth := .i q124
def q251 : Pth := .o q125
def q252 : Pth := .i q125
def q253 : Pth := .o q126
def q254 : Pth := .i q126
def q255 : Pth := .o q127
def q256 : Pth := .i q127
def q257 : Pth := .o q128
def q258 : Pth := .i q128
def q259 : Pth := .o q129
def q260 : Pth := .i q129
def q261 : Pth := .o q130
def q262 : Pth := .i q130
def q263 : Pth := .o q131
def q264 : Pth := .i q131
def q265 : Pth := .o q132
def q266 : Pth := .i q132
def q267 : Pth := .o q133
def q268 : Pth := .i q133
def q269 : Pth := .o q134
def q270 : Pth := .i q134
def q271 : Pth := .o q135
def q272 : Pth := .i q135
def q273 : Pth := .o q136
def q274 : Pth := .i q136
def q275 : Pth := .o q137
def q276 : Pth := .i q137
def q277 : Pth := .o q138
def q278 : Pth := .i q138
def q279 : Pth := .o q139
def q280 : Pth := .i q139
def q281 : Pth := .o q140
def q282 : Pth := .i q140
def q283 : Pth := .o q141
def q284 : Pth := .i q141
def q285 : Pth := .o q142
def q286 : Pth := .i q142
def q287 : Pth := .o q143
def q288 : Pth := .i q143
def q289 : Pth := .o q144
def q290 : Pth := .i q144
def q291 : Pth := .o q145
def q292 : Pth := .i q145
def q293 : Pth := .o q146
def q294 : Pth := .i q146
def q295 : Pth := .o q147
def q296 : Pth := .i q147
def q297 : Pth := .o q148
def q298 : Pth := .i q148
def q299 : Pth := .o q149
def q300 : Pth := .i q149
def q301 : Pth := .o q150
def q302 : Pth := .i q150
def q303 : Pth := .o q151
def q304 : Pth := .i q151
def q305 : Pth := .o q152
def q306 : Pth := .i q152
def q307 : Pth := .o q153
def q308 : Pth := .i q153
def q309 : Pth := .o q154
def q310 : Pth := .i q154
def q311 : Pth := .o q155
def q312 : Pth := .i q155
def q313 : Pth := .o q156
def q314 : Pth := .i q156
def q315 : Pth := .o q157
def q316 : Pth := .i q157
def q317 : Pth := .o q158
def q318 : Pth := .i q158
def q319 : Pth := .o q159
def q320 : Pth := .i q159
def q321 : Pth := .o q160
def q322 : Pth := .i q160
def q323 : Pth := .o q161
def q324 : Pth := .i q161
def q325 : Pth := .o q162
def q326 : Pth := .i q162
def q327 : Pth := .o q163
def q328 : Pth := .i q163
def q329 : Pth := .o q164
def q330 : Pth := .i q164
def q331 : Pth := .o q165
def q332 : Pth := .i q165
def q333 : Pth := .o q166
def q334 : Pth := .i q166
def q335 : Pth := .o q167
def q336 : Pth := .i q167
def q337 : Pth := .o q168
def q338 : Pth := .i q168
def q339 : Pth := .o q169
def q340 : Pth := .i q169
def q341 : Pth := .o q170
def q342 : Pth := .i q170
def q343 : Pth := .o q171
def q344 : Pth := .i q171
def q345 : Pth := .o q172
def q346 : Pth := .i q172
def q347 : Pth := .o q173
def q348 : Pth := .i q173
def q349 : Pth := .o q174
def q350 : Pth := .i q174
def q351 : Pth := .o q175
def q352 : Pth := .i q175
def q353 : Pth := .o q176
def q354 : Pth := .i q176
def q355 : Pth := .o q177
def q356 : Pth := .i q177
def q357 : Pth := .o q178
def q358 : Pth := .i q178
def q359 : Pth := .o q179
def q360 : Pth := .i q179
def q361 : Pth := .o q180
def q362 : Pth := .i q180
def q363 : Pth := .o q181
def q364 : Pth := .i q181
def q365 : Pth := .o q182
def q366 : Pth := .i q182
def q367 : Pth := .o q183
def q368 : Pth := .i q183
def q369 : Pth := .o q184
def q370 : Pth := .i q184
def q371 : Pth := .o q185
def q372 : Pth := .i q185
def q373 : Pth := .o q186
def q374 : Pth := .i q186
def q375 : Pth := .o q187
def q376 : Pth := .i q187
def q377 : Pth := .o q188
def q378 : Pth := .i q188
def q379 : Pth := .o q189
def q380 : Pth := .i q189
def q381 : Pth := .o q190
def q382 : Pth := .i q190
def q383 : Pth := .o q191
def q384 : Pth := .i q191
def q385 : Pth := .o q192
def q386 : Pth := .i q192
def q387 : Pth := .o q193
def q388 : Pth := .i q193
def q389 : Pth := .o q194
def q390 : Pth := .i q194
def q391 : Pth := .o q195
def q392 : Pth := .i q195
def q393 : Pth := .o q196
def q394 : Pth := .i q196
def q395 : Pth := .o q197
def q396 : Pth := .i q197
def q397 : Pth := .o q198
def q398 : Pth := .i q198
def q399 : Pth := .o q199
def q400 : Pth := .i q199
def q401 : Pth := .o q200
def q402 : Pth := .i q200
def q403 : Pth := .o q201
def q404 : Pth := .i q201
def q405 : Pth := .o q202
def q406 : Pth := .i q202
def q407 : Pth := .o q203
def q408 : Pth := .i q203
def q409 : Pth := .o q204
def q410 : Pth := .i q204
def q411 : Pth := .o q205
def q412 : Pth := .i q205
def q413 : Pth := .o q206
def q414 : Pth := .i q206
def q415 : Pth := .o q207
def q416 : Pth := .i q207
def q417 : Pth := .o q208
def q418 : Pth := .i q208
def q419 : Pth := .o q209
def q420 : Pth := .i q209
def q421 : Pth := .o q210
def q422 : Pth := .i q210
def q423 : Pth := .o q211
def q424 : Pth := .i q211
def q425 : Pth := .o q212
def q426 : Pth := .i q212
def q427 : Pth := .o q213
def q428 : Pth := .i q213
def q429 : Pth := .o q214
def q430 : Pth := .i q214
noncomputable def e0 : Opd := ev q0
noncomputable def e1 : Opd := ev q1
noncomputable def e2 : Opd := ev q2
noncomputable def e3 : Opd := ev q3
noncomputable def e4 : Opd := ev q4
noncomputable def e5 : Opd := ev q5
noncomputable def e6 : Opd := ev q6
noncomputable def e7 : Opd := ev q7
noncomputable def e8 : Opd := ev q8
noncomputable def e9 : Opd := ev q9
noncomputable def e10 : Opd := ev q10
noncomputable def e11 : Opd := ev q11
noncomputable def e12 : Opd := ev q12
noncomputable def e13 : Opd := ev q13
noncomputable def e14 : Opd := ev q14
noncomputable def e15 : Opd := ev q15
noncomputable def e16 : Opd := ev q16
noncomputable def e17 : Opd := ev q17
noncomputable def e18 : Opd := ev q18
noncomputable def e19 : Opd := ev q19
noncomputable def e20 : Opd := ev q20
noncomputable def e21 : Opd := ev q21
noncomputable def e22 : Opd := ev q22
noncomputable def e23 : Opd := ev q23
noncomputable def e24 : Opd := ev q24
noncomputable def e25 : Opd := ev q25
noncomputable def e26 : Opd := ev q26
noncomputable def e27 : Opd := ev q27
noncomputable def e28 : Opd := ev q28
noncomputable def e29 : Opd := ev q29
noncomputable def e30 : Opd := ev q30
noncomputable def e31 : Opd := ev q31
noncomputable def e32 : Opd := ev q32
noncomputable def e33 : Opd := ev q33
noncomputable def e34 : Opd := ev q34
noncomputable def e35 : Opd := ev q35
noncomputable def e36 : Opd := ev q36
noncomputable def e37 : Opd := ev q37
noncomputable def e38 : Opd := ev q38
/-- one element (four cells, behind a pointer) put behind the slice in the fifth cell of a struct; two ids are passed over -/
noncomputable def ptrO (v : V) (k : Pth → Nat → RC) : RC := match v with
  | .ptr id off => k id off
  | _ => fl
/-- a slice behind which a new element takes new room; its object is neither of two others -/
noncomputable def freshV (v : V) (id id3 : Pth) : Bool := match v with
  | .nils => true
  | .slc i off n ex c _ => Nat.beq off 0 && !ex && !(Nat.ble (n + 1) c) && !(beqP i id) && !(beqP i id3)
  | _ => false
noncomputable def litA (x y : V) (s : St) (k : K) : RC := ptrO x (fun id o => ptrO y (fun id3 o3 => match Nat.beq (len (rdMany (s.get id3) o3 4)) 4 && !(beqP id3 id) && freshV (rdObj (s.get id) (o + 4)) id id3 with
  | true => appX (rdObj (s.get id) (o + 4)) 4 1 (rdMany (s.get id3) o3 4) ((s.push .none).push .none) (fun v s1 => stK (.ptr id (o + 4)) 1 v s1 k)
  | false => fl))
noncomputable def lit1 (x y : Opd) : SF := fun _ t e s k => litA (x t e) (y t e) s k
end Viv
