/-
  A STATE CUT DOWN TO A LIST OF ROWS, checked by a Boolean; a run of code from one cut to the next.
-/
import Derived.Test.YtfppefhcmmfgcaaGreatCodeJ
namespace Viv
open Go (Value World IntKind Addr Program Act Exit Oper Operand Ending undef)

/-! ### data -/
noncomputable def mkE (l : List (Pth × V)) : Env := List.rec .mt (fun p _ ih => pset .bad p.1 p.2 ih) l
noncomputable def mkR (l : List (Pth × AObj)) : Tr AObj := List.rec .mt (fun p _ ih => pset .none p.1 p.2 ih) l
noncomputable def mkK (l : List (Pth × AObj)) : Tr Bool := List.rec .mt (fun p _ ih => pset false p.1 true ih) l
noncomputable def isBad (v : V) : Bool := match v with | .bad => true | _ => false
/-- the ids in a value are kept -/
def refOk0 (kp : Pth → Bool) : V → Bool
  | .ptr id _ => kp id
  | .slc id _ _ _ _ _ => kp id
  | .map id => kp id
  | .fn _ _ _ => false
  | .agg _ => false
  | .tup _ => false
  | _ => true
def refOk (kp : Pth → Bool) : V → Bool
  | .agg l => l.all (refOk0 kp)
  | v => refOk0 kp v
/-- a value that says no more: unknown, or the same -/
noncomputable def leV (kp : Pth → Bool) (v u : V) : Bool := match v with
  | .bad => true
  | _ => sameB v u && refOk kp v
noncomputable def leRow (kp : Pth → Bool) (o : AObj) : Nat → L → Bool
  | _, [] => true
  | i, v :: l => !isBad (rdObj o i) && leV kp v (rdObj o i) && leRow kp o (i + 1) l
noncomputable def leEnts (kp : Pth → Bool) : List Ent → List Ent → Bool
  | [], [] => true
  | a :: l, b :: m => sameB a.key b.key && refOk kp a.key && sameB a.val b.val && refOk kp a.val && Nat.beq a.born b.born && leEnts kp l m
  | _, _ => false
noncomputable def eqNT {α : Type} (f : α → α → Bool) (d : α) : NT α → NT α → Bool
  | .mt, t => allNT t
  | .l v, t => match t with
    | .l u => f v u
    | .mt => f v d
    | .n _ _ => false
  | .n a b, t => match t with
    | .n c e => eqNT f d a c && eqNT f d b e
    | .mt => eqNT f d a .mt && eqNT f d b .mt
    | .l _ => false
where allNT : NT α → Bool
  | .mt => true
  | .l v => f d v
  | .n a b => allNT a && allNT b
def intEq (a b : Int) : Bool := match a, b with | .ofNat x, .ofNat y => Nat.beq x y | .negSucc x, .negSucc y => Nat.beq x y | _, _ => false
/-- an object that says no more; of a memory the size is handed on -/
noncomputable def leO (kp : Pth → Bool) (o' o : AObj) : Option (List V) :=
  match o' with
  | .none => some []
  | .row l => match isRow o with
    | some n => match Nat.ble (len l) n && leRow kp o 0 l with | true => some [] | false => none
    | none => none
  | .map l c => match o with
    | .map m d => match Nat.beq c d && leEnts kp l m with | true => some [] | false => none
    | _ => none
  | .set t => match o with
    | .set u => match eqNT beqB false t u with | true => some [] | false => none
    | _ => none
  | .mem m => match o with
    | .mem n => match Nat.beq m.endd n.endd && Nat.beq m.made n.made && beqP m.pl n.pl && kp m.pl && eqNT intEq 0 m.words n.words with | true => some [n.size] | false => none
    | _ => none
  | _ => none
noncomputable def leOs (kp : Pth → Bool) (s : St) : List (Pth × AObj) → Option (List V)
  | [] => some []
  | p :: r => match leO kp p.2 (s.get p.1) with
    | none => none
    | some a => match leOs kp s r with
      | none => none
      | some b => some (a ++ b)
noncomputable def leE (kp : Pth → Bool) (e : Env) : List (Pth × V) → Bool
  | [] => true
  | p :: r => leV kp p.2 (pget .bad p.1 e) && leE kp e r
def inNext (nx : Nat) : List (Pth × AObj) → Bool
  | [] => true
  | p :: r => Nat.blt (num p.1) nx && inNext nx r
/-- the sizes that the list's memories say -/
def sizesOf : List (Pth × AObj) → List V
  | [] => []
  | p :: r => match p.2 with
    | .mem m => m.size :: sizesOf r
    | _ => sizesOf r
noncomputable def chk (r : RC) (lE : List (Pth × V)) (lS : List (Pth × AObj)) (nx : Pth) : Option (List V) :=
  match r with
  | .norm e s => match leE (fun i => pget false i (mkK lS)) e lE && inNext (num nx) lS with
    | true => leOs (fun i => pget false i (mkK lS)) s lS
    | false => none
  | _ => none

/-! ### laws -/
theorem mkE_get (l : List (Pth × V)) (q : Pth) : pget .bad q (mkE l) = .bad ∨ (q, pget .bad q (mkE l)) ∈ l := by
  induction l with
  | nil => exact .inl (pget_e _ q)
  | cons p r ih =>
    show pget .bad q (pset .bad p.1 p.2 (mkE r)) = .bad ∨ (q, pget .bad q (pset .bad p.1 p.2 (mkE r))) ∈ _
    rw [pget_pset]
    by_cases h : q = p.1
    · rw [if_pos h]; right; subst h; exact List.mem_cons_self
    · rw [if_neg h]; exact ih.imp id (List.mem_cons_of_mem _)
theorem mkR_get (l : List (Pth × AObj)) (q : Pth) : (pget .none q (mkR l) = .none ∧ pget false q (mkK l) = false) ∨ ((q, pget .none q (mkR l)) ∈ l ∧ pget false q (mkK l) = true) := by
  induction l with
  | nil => exact .inl ⟨pget_e _ q, pget_e _ q⟩
  | cons p r ih =>
    show (pget .none q (pset .none p.1 p.2 (mkR r)) = .none ∧ pget false q (pset false p.1 true (mkK r)) = false) ∨ ((q, pget .none q (pset .none p.1 p.2 (mkR r))) ∈ _ ∧ pget false q (pset false p.1 true (mkK r)) = true)
    rw [pget_pset, pget_pset]
    by_cases h : q = p.1
    · rw [if_pos h, if_pos h]; right; subst h; exact ⟨List.mem_cons_self, rfl⟩
    · rw [if_neg h, if_neg h]; exact ih.imp id (fun h => ⟨List.mem_cons_of_mem _ h.1, h.2⟩)

section
variable {P : Program} {β : Beta} {s : St} {w : World}
def Beta.cut (β : Beta) (kp : Pth → Bool) : Beta := fun i => match kp i with | true => β i | false => none
theorem Beta.cut_kept {kp : Pth → Bool} {i : Pth} (h : kp i = true) : β.cut kp i = β i := by simp [Beta.cut, h]
theorem Beta.cut_le (kp : Pth → Bool) : (β.cut kp).le β := by
  intro i l h
  unfold Beta.cut at h
  cases hk : kp i <;> rw [hk] at h
  · cases h
  · exact h
theorem down0 {kp : Pth → Bool} {v : V} {x : Value} (hr : refOk0 kp v = true) (h : VRel β v x) : VRel (β.cut kp) v x := by
  cases h <;> simp only [refOk0, Bool.false_eq_true] at hr
  case bad => exact .bad _
  case tt => exact .tt
  case ff => exact .ff
  case p n hn => exact .p n hn
  case m n hn => exact .m n hn
  case «by» n hn => exact .by n hn
  case k2 n hn => exact .k2 n hn
  case k3 n hn => exact .k3 n hn
  case sym lo n a b => exact .sym lo n a b
  case str l s b a c d => exact .str l s b a c d
  case ptr id off b o sz e => exact .ptr id off b o sz (by rw [Beta.cut_kept hr]; exact e)
  case ptrm id off y e => exact .ptrm id off y (by rw [Beta.cut_kept hr]; exact e)
  case ptri id off b e => exact .ptri id off b (by rw [Beta.cut_kept hr]; exact e)
  case nilp => exact .nilp
  case slc id off n ex c es b o sz c' e a1 a2 a3 a4 a5 => exact .slc id off n ex c es b o sz c' (by rw [Beta.cut_kept hr]; exact e) a1 a2 a3 a4 a5
  case esl a c' => exact .esl a c'
  case nils => exact .nils
  case map id b e => exact .map id b (by rw [Beta.cut_kept hr]; exact e)
  case nilm => exact .nilm
  case nilf => exact .nilf
theorem downs {kp : Pth → Bool} {l : L} {l' : List Value} (hr : l.all (refOk0 kp) = true) (h : VRels β l l') : VRels (β.cut kp) l l' := by
  induction l generalizing l' with
  | nil => cases h; exact .nil
  | cons v l ih =>
    simp only [List.all_cons, Bool.and_eq_true] at hr
    cases h with | cons _ x _ l' a b => exact .cons _ _ _ _ (down0 hr.1 a) (ih hr.2 b)
theorem down {kp : Pth → Bool} {v : V} {x : Value} (hr : refOk kp v = true) (h : VRel β v x) : VRel (β.cut kp) v x := by
  cases v
  case agg l => cases h with | agg _ l' hl ho => exact .agg _ _ (downs hr hl) ho
  all_goals exact down0 hr h
theorem leV_rel {kp : Pth → Bool} {v u : V} {x : Value} (hl : leV kp v u = true) (h : VRel β u x) : VRel (β.cut kp) v x := by
  by_cases hb : v = .bad
  · subst hb; exact .bad x
  · have : sameB v u = true ∧ refOk kp v = true := by
      cases v <;> simp only [leV, Bool.and_eq_true] at hl <;> first | exact hl | exact absurd rfl hb
    have e := sameB_eq this.1
    subst e
    exact down this.2 h

theorem leRow_rel {kp : Pth → Bool} {o : AObj} : ∀ {l : L} {i : Nat}, leRow kp o i l = true → ∀ j, j < l.length → rdObj o (i + j) ≠ .bad ∧ leV kp (nth j l) (rdObj o (i + j)) = true
  | [], i, _, j, hj => absurd hj (Nat.not_lt_zero _)
  | v :: l, i, h, 0, _ => by
    simp only [leRow, Bool.and_eq_true, Bool.not_eq_true'] at h
    refine ⟨fun e => ?_, ?_⟩
    · rw [Nat.add_zero] at e; rw [e] at h; exact absurd h.1.1 (by simp [isBad])
    · rw [Nat.add_zero, nth_cons_zero]; exact h.1.2
  | v :: l, i, h, j + 1, hj => by
    simp only [leRow, Bool.and_eq_true, Bool.not_eq_true'] at h
    have := leRow_rel (i := i + 1) h.2 j (by simpa using hj)
    rw [nth_cons_succ, show i + (j + 1) = i + 1 + j by omega]
    exact this
theorem leEnts_rel {kp : Pth → Bool} : ∀ {l m : List Ent} {es : List Go.MapEntry} {c : Nat}, leEnts kp l m = true → EntsRel β m es → Born m c → EntsRel (β.cut kp) l es ∧ Born l c ∧ l.map (·.born) = m.map (·.born)
  | [], [], es, c, _, h, hb => by cases h; exact ⟨.nil, .nil c, rfl⟩
  | [], _ :: _, es, c, h, _, _ => by cases h
  | _ :: _, [], es, c, h, _, _ => by cases h
  | a :: l, b :: m, es, c, h, he, hb => by
    simp only [leEnts, Bool.and_eq_true] at h
    obtain ⟨⟨⟨⟨⟨h1, h2⟩, h3⟩, h4⟩, h5⟩, h6⟩ := h
    cases he with
    | cons _ me _ es' hh hr =>
      cases hb with
      | cons _ _ _ hlt hle hborn =>
        obtain ⟨i1, i2, i3⟩ := leEnts_rel h6 hr hborn
        have e1 := sameB_eq h1
        have e2 := sameB_eq h3
        have e3 := Nat.eq_of_beq_eq_true h5
        refine ⟨.cons _ _ _ _ ⟨?_, ?_, by rw [hh.born, e3]⟩ i1, .cons _ _ _ (by rw [e3]; exact hlt) ?_ i2, by simp [e3, i3]⟩
        · have hk := hh.key; rw [← e1] at hk; exact down h2 hk
        · have hk := hh.val; rw [← e2] at hk; exact down h4 hk
        · intro x hx
          have hx' : x.born ∈ m.map (·.born) := by rw [← i3]; exact List.mem_map.2 ⟨x, hx, rfl⟩
          obtain ⟨y, hy, hyb⟩ := List.mem_map.1 hx'
          rw [e3, ← hyb]; exact hle y hy
theorem allNT_get {α : Type} {f : α → α → Bool} {d : α} (hf : ∀ a b, f a b = true → a = b) : ∀ {t : NT α}, eqNT.allNT f d t = true → ∀ (k i : Nat), nget d k t i = d
  | .mt, _, k, i => nget_e d k i
  | .l v, h, 0, i => (hf _ _ h).symm
  | .l v, h, k + 1, i => by rw [nget_succ]; show (if _ then nget d k .mt _ else nget d k .mt _) = d; rw [nget_e, nget_e]; split <;> rfl
  | .n a b, h, 0, i => rfl
  | .n a b, h, k + 1, i => by
    simp only [eqNT.allNT, Bool.and_eq_true] at h
    rw [nget_succ]
    show (if _ then nget d k b _ else nget d k a _) = d
    rw [allNT_get hf h.1 k, allNT_get hf h.2 k]; split <;> rfl
theorem eqNT_get {α : Type} {f : α → α → Bool} {d : α} (hf : ∀ a b, f a b = true → a = b) : ∀ {t u : NT α}, eqNT f d t u = true → ∀ (k i : Nat), nget d k t i = nget d k u i
  | .mt, u, h, k, i => by rw [nget_e, allNT_get hf (by simpa [eqNT] using h) k i]
  | .l v, .l u, h, 0, i => by
    have : f v u = true := by simpa [eqNT] using h
    exact hf _ _ this
  | .l v, .l u, h, k + 1, i => by rw [nget_succ, nget_succ]; rfl
  | .l v, .mt, h, 0, i => by
    have : f v d = true := by simpa [eqNT] using h
    exact hf _ _ this
  | .l v, .mt, h, k + 1, i => by rw [nget_succ, nget_succ]; rfl
  | .l v, .n _ _, h, k, i => by simp [eqNT] at h
  | .n a b, .n c e, h, 0, i => rfl
  | .n a b, .n c e, h, k + 1, i => by
    simp only [eqNT, Bool.and_eq_true] at h
    rw [nget_succ, nget_succ]
    show (if _ then nget d k b _ else nget d k a _) = (if _ then nget d k e _ else nget d k c _)
    rw [eqNT_get hf h.1 k, eqNT_get hf h.2 k]
  | .n a b, .mt, h, 0, i => rfl
  | .n a b, .mt, h, k + 1, i => by
    simp only [eqNT, Bool.and_eq_true] at h
    rw [nget_succ, nget_succ]
    show (if _ then nget d k b _ else nget d k a _) = (if _ then nget d k .mt _ else nget d k .mt _)
    rw [eqNT_get hf h.1 k, eqNT_get hf h.2 k]
  | .n a b, .l _, h, k, i => by simp [eqNT] at h
theorem intEq_eq {a b : Int} (h : intEq a b = true) : a = b := by
  cases a <;> cases b <;> simp only [intEq, Bool.false_eq_true] at h
  · rw [Nat.eq_of_beq_eq_true h]
  · rw [Nat.eq_of_beq_eq_true h]

theorem leO_rel {kp : Pth → Bool} {o' o : AObj} {loc : Loc} {zs : List V} (h : leO kp o' o = some zs) (hz : ∀ m, o' = .mem m → zs = [m.size]) (ho : ObjRel β w o loc) : ObjRel (β.cut kp) w o' loc := by
  cases o' with
  | none => cases loc <;> exact trivial
  | iter a b c => cases h
  | vec d t n z => cases h
  | row l =>
    simp only [leO] at h
    cases hn : isRow o with
    | none => rw [hn] at h; cases h
    | some n =>
      rw [hn] at h
      simp only at h
      cases hl : (Nat.ble (len l) n && leRow kp o 0 l) with
      | false => rw [hl] at h; cases h
      | true =>
        simp only [Bool.and_eq_true] at hl
        have hle := (ble_iff _ _).1 hl.1
        rw [len_eq] at hle
        have hr := leRow_rel hl.2
        have hloc : ∃ b off sz, loc = .row b off sz := by
          cases loc <;> first | exact ⟨_, _, _, rfl⟩ | (cases o <;> first | (cases hn; done) | exact ho.elim)
        obtain ⟨b, off, sz, rfl⟩ := hloc
        rcases ho.isRow with h0 | ⟨n', hn', cur, e, h1, h2, h3, h4⟩
        · subst h0; cases hn
        · rw [hn] at hn'; cases hn'
          refine ⟨cur, e, h1, h2, by omega, fun i hi => ?_⟩
          obtain ⟨x, a, b, c⟩ := h4 i (by omega)
          have := (hr i hi).2
          rw [Nat.zero_add] at this
          exact ⟨x, a, b, leV_rel this c⟩
  | map l c =>
    cases o <;> first | (cases h; done) | skip
    case map m d =>
      simp only [leO] at h
      cases hl : (Nat.beq c d && leEnts kp l m) with
      | false => rw [hl] at h; cases h
      | true =>
        simp only [Bool.and_eq_true] at hl
        have := Nat.eq_of_beq_eq_true hl.1; subst this
        cases loc <;> first | exact ho.elim | skip
        obtain ⟨es, h1, h2, h3⟩ := ho
        obtain ⟨i1, i2, _⟩ := leEnts_rel hl.2 h2 h3
        exact ⟨es, h1, i1, i2⟩
  | set t =>
    cases o <;> first | (cases h; done) | skip
    case set u =>
      simp only [leO] at h
      cases hl : eqNT beqB false t u with
      | false => rw [hl] at h; cases h
      | true =>
        have hg := eqNT_get (fun a b h => beqB_eq h) hl 17
        cases loc <;> first | exact ho.elim | skip
        obtain ⟨es, c, l, h1, h2, h3, h4⟩ := ho
        exact ⟨es, c, l, h1, h2, h3, ⟨fun x hx => by obtain ⟨a, e1, e2, e3, e4⟩ := h4.all x hx; exact ⟨a, e1, e2, e3, by rw [hg]; exact e4⟩, fun a ha hta => h4.has a ha (by rw [← hg]; exact hta), by rw [hg]; exact h4.top⟩⟩
  | mem m =>
    cases o <;> first | (cases h; done) | skip
    case mem n =>
      simp only [leO] at h
      cases hl : (Nat.beq m.endd n.endd && Nat.beq m.made n.made && beqP m.pl n.pl && kp m.pl && eqNT intEq 0 m.words n.words) with
      | false => rw [hl] at h; cases h
      | true =>
        rw [hl] at h
        have hsz : n.size = m.size := by cases h; have := hz m rfl; simpa using this
        simp only [Bool.and_eq_true] at hl
        obtain ⟨⟨⟨⟨a1, a2⟩, a3⟩, a4⟩, a5⟩ := hl
        have a1 := Nat.eq_of_beq_eq_true a1
        have a2 := Nat.eq_of_beq_eq_true a2
        have a3 := (beqP_eq _ _).1 a3
        have hg : ∀ i, m.word i = n.word i := fun i => eqNT_get (fun a b h => intEq_eq h) a5 17 i
        cases loc <;> first | exact ho.elim | skip
        obtain ⟨hne, sz, bp, hwf, hpl, h1, h2⟩ := ho
        have hrow : memRow m sz = memRow n sz := by unfold memRow; rw [a1, a2]
        have hfun : (fun i => vI (m.word i)) = fun i => vI (n.word i) := funext fun i => by rw [hg]
        refine ⟨hne, sz, bp, ⟨hwf.lo, hwf.hi, by rw [← hsz]; exact hwf.size, by rw [a1]; exact hwf.end1, by rw [a1]; exact hwf.end2, by rw [a2]; exact hwf.made, fun i hi h => by rw [hg]; exact hwf.rest i (by rw [← a1]; exact hi) h, fun i hi => by rw [hg]; exact hwf.range i hi⟩, ?_, by rw [hrow]; exact h1, by rw [hfun]; exact h2⟩
        rw [Beta.cut_kept a4, a3]; exact hpl

theorem leOs_mem {kp : Pth → Bool} : ∀ {l : List (Pth × AObj)} {zs : List V}, leOs kp s l = some zs → zs = sizesOf l → ∀ p ∈ l, ∃ z, leO kp p.2 (s.get p.1) = some z ∧ ∀ m, p.2 = .mem m → z = [m.size]
  | [], _, _, _, p, hp => by cases hp
  | q :: r, zs, h, hz, p, hp => by
    simp only [leOs] at h
    cases h1 : leO kp q.2 (s.get q.1) with
    | none => rw [h1] at h; cases h
    | some a =>
      cases h2 : leOs kp s r with
      | none => simp only [h1, h2] at h; cases h
      | some b =>
        simp only [h1, h2, Option.some.injEq] at h
        have hlen : a = (match q.2 with | .mem m => [m.size] | _ => []) ∧ b = sizesOf r := by
          have hs : sizesOf (q :: r) = (match q.2 with | .mem m => [m.size] | _ => []) ++ sizesOf r := by
            simp only [sizesOf]; split <;> rfl
          rw [hs] at hz
          rw [← h] at hz
          have la : a.length = (match q.2 with | .mem m => [m.size] | _ => [] : List V).length := by
            revert h1
            cases hq : q.2 <;> simp only [leO] <;> intro h1
            case none => cases h1; rfl
            case row l =>
              split at h1
              · split at h1
                · cases h1; rfl
                · cases h1
              · cases h1
            case vec => cases h1
            case map l c =>
              split at h1
              · split at h1
                · cases h1; rfl
                · cases h1
              · cases h1
            case iter => cases h1
            case mem m =>
              split at h1
              · split at h1
                · cases h1; rfl
                · cases h1
              · cases h1
            case set t =>
              split at h1
              · split at h1
                · cases h1; rfl
                · cases h1
              · cases h1
          exact List.append_inj hz la
        rcases List.mem_cons.1 hp with rfl | hp
        · refine ⟨a, h1, fun m hm => ?_⟩
          rw [hlen.1, hm]
        · exact leOs_mem h2 hlen.2 p hp
theorem leE_mem {kp : Pth → Bool} {e : Env} : ∀ {l : List (Pth × V)}, leE kp e l = true → ∀ p ∈ l, leV kp p.2 (pget .bad p.1 e) = true
  | [], _, p, hp => by cases hp
  | q :: r, h, p, hp => by
    simp only [leE, Bool.and_eq_true] at h
    rcases List.mem_cons.1 hp with rfl | hp
    · exact h.1
    · exact leE_mem h.2 p hp
theorem inNext_mem {nx : Nat} : ∀ {l : List (Pth × AObj)}, inNext nx l = true → ∀ p ∈ l, num p.1 < nx
  | [], _, p, hp => by cases hp
  | q :: r, h, p, hp => by
    simp only [inNext, Bool.and_eq_true] at h
    rcases List.mem_cons.1 hp with rfl | hp
    · exact (blt_iff _ _).1 h.1
    · exact inNext_mem h.2 p hp

/-- what was checked, of a state and an environment -/
theorem cut_ok {sl : List Nat} {n : Nat} {e : Env} {a : Act} {lE : List (Pth × V)} {lS : List (Pth × AObj)} {nx : Pth} (hc : chk (.norm e s) lE lS nx = some (sizesOf lS)) (hs : Sim β s w) (he : ERel sl n β e a) :
    ∃ β', β'.le β ∧ Sim β' ⟨mkR lS, nx⟩ w ∧ ERel sl n β' (mkE lE) a := by
  unfold chk at hc
  simp only at hc
  cases hb : (leE (fun i => pget false i (mkK lS)) e lE && inNext (num nx) lS) with
  | false => rw [hb] at hc; cases hc
  | true =>
    rw [hb] at hc
    simp only [Bool.and_eq_true] at hb
    have h1 := leE_mem hb.1
    have h2 := inNext_mem hb.2
    have h3 := leOs_mem hc rfl
    have hget : ∀ i, St.get ⟨mkR lS, nx⟩ i = pget .none i (mkR lS) := fun i => rfl
    refine ⟨β.cut fun i => pget false i (mkK lS), Beta.cut_le _, ⟨?_, ?_, ?_⟩, ⟨fun u p hu => ?_, he.size, he.defers⟩⟩
    · intro id loc hid
      rcases mkR_get lS id with ⟨_, hk⟩ | ⟨hm, _⟩
      · simp only [Beta.cut, hk] at hid; cases hid
      · exact h2 _ hm
    · intro id loc hid
      rw [hget]
      rcases mkR_get lS id with ⟨_, hk⟩ | ⟨hm, hk⟩
      · simp only [Beta.cut, hk] at hid; cases hid
      · obtain ⟨z, hz, hz2⟩ := h3 _ hm
        exact leO_rel hz hz2 (hs.obj id loc (Beta.cut_le _ _ _ hid))
    · intro id id' loc loc' hi hi' g g' hne
      have live : ∀ i l, (β.cut fun i => pget false i (mkK lS)) i = some l → St.get ⟨mkR lS, nx⟩ i ≠ .none → s.get i ≠ .none := by
        intro i l hi hg hn
        rw [hget] at hg
        rcases mkR_get lS i with ⟨h0, _⟩ | ⟨hm, hk⟩
        · exact hg h0
        · obtain ⟨z, hz, _⟩ := h3 _ hm
          simp only at hz
          rw [hn] at hz
          generalize pget .none i (mkR lS) = o at hz hg
          cases o <;> first | exact hg rfl | (simp [leO, isRow] at hz)
      exact hs.disj id id' loc loc' (Beta.cut_le _ _ _ hi) (Beta.cut_le _ _ _ hi') (live _ _ hi g) (live _ _ hi' g') hne
    · rcases mkE_get lE p with h0 | hm
      · rw [h0]; exact .bad _
      · exact leV_rel (h1 _ hm) (he.slot u p hu)

/-! ### what lies behind a world -/
/-- all of β's blocks are new since w0, and what was there is as it was -/
structure Since (w0 : World) (β : Beta) (w : World) : Prop where
  size : w0.heap.size ≤ w.heap.size
  keep : ∀ b, b < w0.heap.size → w.heap[b]? = w0.heap[b]?
  new : ∀ id loc, β id = some loc → ∀ b ∈ loc.blocks, w0.heap.size ≤ b
  tape : w.tape = w0.tape
  os : w.os = w0.os
  output : w.output = w0.output
theorem Since.refl (w : World) : Since w (fun _ => none) w := ⟨Nat.le_refl _, fun _ _ => rfl, (fun _ _ h => by cases h), rfl, rfl, rfl⟩
theorem Since.post {w0 w' : World} {β' : Beta} {s' : St} (h : Since w0 β w) (hp : Post β s w β' s' w') : Since w0 β' w' := by
  refine ⟨Nat.le_trans h.size hp.size, fun b hb => ?_, fun id loc hid b hm => ?_, hp.tape.trans h.tape, hp.os.trans h.os, hp.output.trans h.output⟩
  · rw [hp.keep b (Nat.lt_of_lt_of_le hb h.size) ?_]
    · exact h.keep b hb
    · rintro ⟨id, loc, hi, _, hm⟩
      exact absurd hb (Nat.not_lt.2 (h.new id loc hi b hm))
  · cases hb : β id with
    | none =>
      rcases (hp.new id loc hid hb).2 b hm with hx | ⟨i, l, hi, _, hm⟩
      · exact Nat.le_trans h.size hx
      · exact h.new i l hi b hm
    | some l =>
      have := hp.le id l hb
      rw [this] at hid; cases hid
      exact h.new id _ hb b hm
theorem Since.le {w0 : World} {β' : Beta} (h : Since w0 β w) (hl : β'.le β) : Since w0 β' w :=
  ⟨h.size, h.keep, fun id loc hid => h.new id loc (hl _ _ hid), h.tape, h.os, h.output⟩
end
end Viv

/-
  RUNS FROM CUT TO CUT.
-/
set_option maxRecDepth 100000
namespace Viv
open Go (Value World IntKind Addr Program Act Exit Oper Operand Ending undef)

section
variable {P : Program} {c : CF} {sl : List Nat} {nt : Nat} {pls : List PlanD}

def thenC : List Go.Code → Go.Code → Go.Code
  | [], r => r
  | x :: xs, r => .seq x (thenC xs r)
noncomputable def preA (tr : Go.Code → ACode) : List Go.Code → ACode
  | [] => .skip
  | [x] => tr x
  | x :: y :: r => .seq (tr x) (preA tr (y :: r))
/-- code, piece by piece, that ends normally -/
theorem pre_wp (hc : CFSound P c) (hmx : P.follows .mixedOrders = true) {Q : Exit → Act → World → Prop} {r : Go.Code} : ∀ (xs : List Go.Code) (e : Env) (s : St) (β : Beta) (w : World) (a : Act) (e1 : Env) (s1 : St), xs ≠ [] → Sim β s w → ERel sl nt β e a →
    execK c (preA (trCode P sl nt pls) xs) e s = .norm e1 s1 → (∀ β' a' w', Sim β' s1 w' → Post β s w β' s1 w' → ERel sl nt β' e1 a' → r.wp P Q a' w') → (thenC xs r).wp P Q a w
  | [], _, _, _, _, _, _, _, h, _, _, _, _ => absurd rfl h
  | [x], e, s, β, w, a, e1, s1, _, hs, he, hr, hk => by
    have hr' : execK c (trCode P sl nt pls x) e s = .norm e1 s1 := hr
    refine Go.wp_seq (code_says hc nt pls hmx x e s β w a hs he _ (fun why h => by rw [hr'] at h; cases h) fun ex e' s' β' a' w' hm hs' hp' he' => ?_)
    rw [hr'] at hm
    cases hm
    exact hk β' a' w' hs' hp' he'
  | x :: y :: xs, e, s, β, w, a, e1, s1, _, hs, he, hr, hk => by
    have hr' : seqK (execK c (trCode P sl nt pls x) e s) (execK c (preA (trCode P sl nt pls) (y :: xs))) = .norm e1 s1 := hr
    cases hx : execK c (trCode P sl nt pls x) e s with
    | f why => rw [hx] at hr'; cases hr'
    | exit id e2 s2 => rw [hx] at hr'; cases hr'
    | ret e2 s2 => rw [hx] at hr'; cases hr'
    | norm e2 s2 =>
      rw [hx] at hr'
      refine Go.wp_seq (code_says hc nt pls hmx x e s β w a hs he _ (fun why h => by rw [hx] at h; cases h) fun ex e' s' β' a' w' hm hs' hp' he' => ?_)
      rw [hx] at hm
      cases hm
      exact pre_wp hc hmx (y :: xs) e2 s2 β' w' a' e1 s1 (by simp) hs' he' hr' fun β2 a2 w2 hs2 hp2 he2 => hk β2 a2 w2 hs2 (hp'.trans hp2) he2

/-- temporaries and world as a cut says; all of it new since w0 -/
def RelC (sl : List Nat) (nt : Nat) (w0 : World) (lE : List (Pth × V)) (lS : List (Pth × AObj)) (nx : Pth) (a : Act) (w : World) : Prop :=
  ∃ β, Sim β ⟨mkR lS, nx⟩ w ∧ ERel sl nt β (mkE lE) a ∧ Since w0 β w
theorem chk_norm {r : RC} {lE : List (Pth × V)} {lS : List (Pth × AObj)} {nx : Pth} {zs : List V} (h : chk r lE lS nx = some zs) : ∃ e s, r = .norm e s := by
  cases r with
  | norm e s => exact ⟨e, s, rfl⟩
  | f why => cases h
  | exit id e s => cases h
  | ret e s => cases h
theorem relC_of {w0 w w' : World} {β β' : Beta} {e1 : Env} {s s1 : St} {a' : Act} {lE : List (Pth × V)} {lS : List (Pth × AObj)} {nx : Pth} (hck : chk (.norm e1 s1) lE lS nx = some (sizesOf lS)) (hsi : Since w0 β w) (hs' : Sim β' s1 w') (hp : Post β s w β' s1 w') (he' : ERel sl nt β' e1 a') : RelC sl nt w0 lE lS nx a' w' := by
  obtain ⟨β2, hle, h1, h2⟩ := cut_ok hck hs' he'
  exact ⟨β2, h1, h2, (hsi.post hp).le hle⟩
/-- one piece of code, from cut to cut -/
theorem cut_wp (hc : CFSound P c) (hmx : P.follows .mixedOrders = true) {w0 : World} {co : Go.Code} {lE lE' : List (Pth × V)} {lS lS' : List (Pth × AObj)} {nx nx' : Pth} (hck : chk (execK c (trCode P sl nt pls co) (mkE lE) ⟨mkR lS, nx⟩) lE' lS' nx' = some (sizesOf lS'))
    {Q : Exit → Act → World → Prop} {a : Act} {w : World} (hr : RelC sl nt w0 lE lS nx a w) (h : ∀ a' w', RelC sl nt w0 lE' lS' nx' a' w' → Q .normal a' w') : co.wp P Q a w := by
  obtain ⟨β, hs, he, hsi⟩ := hr
  obtain ⟨e1, s1, hr1⟩ := chk_norm hck
  refine code_says hc nt pls hmx co (mkE lE) _ β w a hs he _ (fun why h => by rw [hr1] at h; cases h) fun ex e' s' β' a' w' hm hs' hp' he' => ?_
  rw [hr1] at hm hck
  cases hm
  exact h a' w' (relC_of hck hsi hs' hp' he')
/-- one piece of code that leaves a block -/
theorem exit_wp (hc : CFSound P c) (hmx : P.follows .mixedOrders = true) {w0 : World} {co : Go.Code} {lE lE' : List (Pth × V)} {lS lS' : List (Pth × AObj)} {nx nx' : Pth} {id : Nat} {e1 : Env} {s1 : St} (hr1 : execK c (trCode P sl nt pls co) (mkE lE) ⟨mkR lS, nx⟩ = .exit id e1 s1) (hck : chk (.norm e1 s1) lE' lS' nx' = some (sizesOf lS'))
    {Q : Exit → Act → World → Prop} {a : Act} {w : World} (hr : RelC sl nt w0 lE lS nx a w) (h : ∀ a' w', RelC sl nt w0 lE' lS' nx' a' w' → Q (.exit id) a' w') : co.wp P Q a w := by
  obtain ⟨β, hs, he, hsi⟩ := hr
  refine code_says hc nt pls hmx co (mkE lE) _ β w a hs he _ (fun why h => by rw [hr1] at h; cases h) fun ex e' s' β' a' w' hm hs' hp' he' => ?_
  rw [hr1] at hm
  cases hm
  exact h a' w' (relC_of hck hsi hs' hp' he')
/-- one round of a loop, from cut to cut -/
theorem round_cut (hc : CFSound P c) (hmx : P.follows .mixedOrders = true) {w0 : World} {co : Go.Code} {lE lE' : List (Pth × V)} {lS lS' : List (Pth × AObj)} {nx nx' : Pth} (hck : chk (execK c (trCode P sl nt pls co) (mkE lE) ⟨mkR lS, nx⟩) lE' lS' nx' = some (sizesOf lS'))
    {Q : Exit → Act → World → Prop} {m : Nat} (h : ∀ a' w', RelC sl nt w0 lE' lS' nx' a' w' → Go.Code.rounds P co Q m a' w') {a : Act} {w : World} (hr : RelC sl nt w0 lE lS nx a w) : Go.Code.rounds P co Q (m + 1) a w := by
  rw [Go.rounds_succ]
  exact cut_wp hc hmx hck hr h
end
end Viv
