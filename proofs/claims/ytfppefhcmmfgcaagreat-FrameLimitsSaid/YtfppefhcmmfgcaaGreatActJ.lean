/-
  ONE OPERATION, ABSTRACTLY: what the evaluator does at an operation of the program's form, and that it is right.
-/
import Derived.Test.YtfppefhcmmfgcaaGreatMem3J
import Derived.Laws.StructEq
namespace Viv
open Go (Value World IntKind Addr Program Act Exit Oper Operand Ending undef)

/-! ### constants -/
/-- the path of a number -/
def pthF : Nat → Nat → Pth
  | 0, _ => .h
  | k + 1, n => match n with
    | 0 => .h
    | m + 1 => match Nat.beq (m % 2) 0 with
      | true => .o (pthF k (m / 2))
      | false => .i (pthF k (m / 2))
def toFn (f : Nat) : V := match Nat.beq (num (pthF 20 f)) f with
  | true => .fn (pthF 20 f) [] []
  | false => .bad
def toInt : IntKind → Int → V
  | .i64, .ofNat n => match Nat.ble n 9223372036854775807 with | true => .p n | false => .bad
  | .i64, .negSucc n => match Nat.ble n 9223372036854775807 with | true => .m n | false => .bad
  | .u8, .ofNat n => match Nat.ble n 255 with | true => .by n | false => .bad
  | .i32, .ofNat n => match Nat.ble n 2147483647 with | true => .k 2 n | false => .bad
  | .u64, .ofNat n => match Nat.ble n 9223372036854775807 with | true => .k 3 n | false => .bad
  | _, _ => .bad
def toV0 : Value → V
  | .bool true => .tt
  | .bool false => .ff
  | .int k n => toInt k n
  | .string s => match Nat.ble s.size 281474976710655 with | true => .str s.size (bnum s.data.toList) | false => .bad
  | .pointer none => .nilp
  | .slice none 0 0 => .nils
  | .map none => .nilm
  | .nilFunc => .nilf
  | .func (.func f) ⟨[]⟩ ⟨[]⟩ => toFn f
  | _ => .bad
def toV : Value → V
  | .agg ⟨l⟩ => match l.all Value.oneCell' with
    | true => .agg (l.map toV0)
    | false => .bad
  | .tuple ⟨l⟩ => .tup (l.map toV0)
  | v => toV0 v
/-- the cells of a value that is laid into memory -/
def zeroL : Value → Option L
  | .agg ⟨l⟩ => match l.all Value.oneCell' with
    | true => some (l.map toV0)
    | false => none
  | .tuple _ => none
  | v => some [toV0 v]

section
variable {β : Beta} {P : Program} {s : St} {w : World}

theorem toFn_rel (f : Nat) : VRel β (toFn f) (.func (.func f) #[] #[]) := by
  unfold toFn
  cases h : Nat.beq (num (pthF 20 f)) f with
  | false => exact .bad _
  | true =>
    have e := (beq_iff _ _).1 h
    have := VRel.fn (β := β) (pthF 20 f) [] [] [] [] .nil .nil
    rw [e] at this
    exact this
theorem toInt_rel (k : IntKind) (n : Int) : VRel β (toInt k n) (.int k n) := by
  cases k <;> cases n <;> try exact .bad _
  all_goals
    simp only [toInt]
    split
    · rename_i h
      have h' := (ble_iff _ _).1 h
      first
      | exact .p _ (by omega)
      | exact .m _ (by omega)
      | exact .by _ (by omega)
      | exact .k2 _ (by omega)
      | exact .k3 _ (by omega)
    · exact .bad _
theorem toV0_rel (v : Value) : VRel β (toV0 v) v := by
  unfold toV0
  split <;> first
    | exact .bad _
    | exact .tt
    | exact .ff
    | exact toInt_rel _ _
    | exact .nilp
    | exact .nils
    | exact .nilm
    | exact .nilf
    | exact toFn_rel _
    | skip
  split
  · rename_i s h
    have h' := (ble_iff _ _).1 h
    exact .str _ _ _ rfl rfl (by omega)
  · exact .bad _
theorem toV0s_rel : ∀ l : List Value, VRels β (l.map toV0) l
  | [] => .nil
  | v :: l => .cons _ _ _ _ (toV0_rel v) (toV0s_rel l)
theorem toV_rel (v : Value) : VRel β (toV v) v := by
  unfold toV
  split
  · rename_i l
    split
    · rename_i h
      exact .agg _ l (toV0s_rel l) (List.all_eq_true.1 h)
    · exact .bad _
  · rename_i l; exact .tup _ l (toV0s_rel l)
  · exact toV0_rel _
theorem zeroL_rel {v : Value} {l : L} (h : zeroL v = some l) : VRels β l v.cells.toList ∧ ∀ x ∈ v.cells.toList, x.oneCell' = true := by
  unfold zeroL at h
  split at h
  · rename_i m
    split at h
    · rename_i h'
      cases h
      exact ⟨toV0s_rel m, List.all_eq_true.1 h'⟩
    · cases h
  · cases h
  · rename_i h1 h2
    cases h
    have hc : v.cells.toList = [v] := by
      cases v <;> first | rfl | skip
      exact absurd rfl (h1 _)
    rw [hc]
    refine ⟨.cons _ _ _ _ (toV0_rel v) .nil, fun x hx => ?_⟩
    simp at hx
    rw [hx]
    cases v <;> first | rfl | skip
    · exact absurd rfl (h1 _)
    · exact absurd rfl (h2 _)

/-! ### the pieces -/
noncomputable def aLoad (P : Program) (t : Nat) (x : V) (s : St) (k : KV) : RC :=
  match P.underlying t with
  | none => fl
  | some d => match aggB d with
    | false => ldK x s k
    | true => match P.info? t with
      | none => fl
      | some i => match Nat.beq i.size 0 with
        | true => fl
        | false => ldAK x i.size s k
theorem aLoad_out (h : Sim β s w) {x : V} {x' : Value} (t : Nat) (hx : VRel β x x') : PureOut β (aLoad P t x s) P (Go.Instr.loadAt t x') w := by
  cases hu : P.underlying t with
  | none => exact .fail fun k => by simp only [aLoad, hu]
  | some d =>
    cases hd : aggB d with
    | false => exact (ldK_out h hu hd hx).congr fun k => by simp only [aLoad, hu, hd]
    | true =>
      cases hi : P.info? t with
      | none => exact .fail fun k => by simp only [aLoad, hu, hd, hi]
      | some i =>
        cases hn : Nat.beq i.size 0 with
        | true => exact .fail fun k => by simp only [aLoad, hu, hd, hi, hn]
        | false =>
          have hn' : i.size ≠ 0 := fun e => by rw [e] at hn; cases hn
          exact (ldAK_out h hu hd (by rw [hi]; rfl) hn' hx).congr fun k => by simp only [aLoad, hu, hd, hi, hn]

noncomputable def aStore (P : Program) (t : Nat) (a x : V) (s : St) (k : K) : RC :=
  match P.info? t with
  | none => fl
  | some i => stK a i.size x s k
theorem Out.fail {g : K → RC} {sem : Go.Sem Go.Next} (h : ∀ k, g k = fl) : Out β s w P g sem := .inl ⟨0, h⟩
theorem Out.congr {g g' : K → RC} {sem : Go.Sem Go.Next} (h : Out β s w P g sem) (e : ∀ k, g' k = g k) : Out β s w P g' sem := by
  have : g' = g := funext e
  rw [this]; exact h
theorem aStore_out (h : Sim β s w) {a x : V} {a' x' : Value} (t : Nat) (ha : VRel β a a') (hx : VRel β x x') : Out β s w P (aStore P t a x s) (skipOf (Go.Instr.storeAt t a' x')) := by
  cases hi : P.info? t with
  | none => exact .fail fun k => by simp only [aStore, hi]
  | some i => exact (stK_out h (by rw [hi]; rfl) ha hx).congr fun k => by simp only [aStore, hi]

noncomputable def aAlloc (P : Program) (t : Nat) (s : St) (k : K) : RC :=
  match P.info? t with
  | none => fl
  | some i => match i.zero with
    | none => fl
    | some z => match zeroL z with
      | none => fl
      | some l => k (.ptr s.next 0) (s.push (.row l))
theorem aAlloc_out (h : Sim β s w) (t : Nat) : Out β s w P (aAlloc P t s) (valueOf (Go.Instr.alloc t true (.tuple #[]))) := by
  cases hi : P.info? t with
  | none => exact .fail fun k => by simp only [aAlloc, hi]
  | some i =>
    cases hz : i.zero with
    | none => exact .fail fun k => by simp only [aAlloc, hi, hz]
    | some z =>
      cases hl : zeroL z with
      | none => exact .fail fun k => by simp only [aAlloc, hi, hz, hl]
      | some l =>
        obtain ⟨h1, h2⟩ := zeroL_rel (β := β) hl
        exact (alloc_out (P := P) h (t := t) (z := z) (l := l) (by rw [hi]; exact hz) h1 h2).congr fun k => by simp only [aAlloc, hi, hz, hl]

/-- one value of a struct, by parts -/
def sizesL (P : Program) : List Go.Field → Option (List (Nat × Nat))
  | [] => some []
  | f :: fs => match P.info? f.type with
    | none => none
    | some i => match sizesL P fs with
      | none => none
      | some l => some ((f.offset, i.size) :: l)
theorem sizesL_eq (P : Program) : ∀ fs : List Go.Field, fs.mapM (fun f => (P.info? f.type).map fun i => (f.offset, i.size)) = sizesL P fs
  | [] => rfl
  | f :: fs => by
    rw [List.mapM_cons, sizesL_eq P fs]
    simp only [sizesL]
    cases P.info? f.type with
    | none => rfl
    | some i => cases sizesL P fs <;> rfl
def placesL (pl : List (Nat × Nat)) (ρ : Operand → V) : List (Nat × Operand) → Option (List (Nat × Nat × Opd))
  | [] => some []
  | (i, x) :: ps => match pl[i]? with
    | none => none
    | some (o, n) => match placesL pl ρ ps with
      | none => none
      | some l => some ((o, n, fun _ _ => ρ x) :: l)
theorem placesL_rel {ρ : Operand → V} {ρ' : Operand → Value} {pl : List (Nat × Nat)} : ∀ {ps : List (Nat × Operand)} {l : List (Nat × Nat × Opd)}, placesL pl ρ ps = some l → (∀ p ∈ ps, VRel β (ρ p.2) (ρ' p.2)) →
    PartsRel β [] .mt (pl.toArray[·]?) l (ps.map fun p => (p.1, ρ' p.2))
  | [], l, h, _ => by cases h; exact .nil
  | (i, x) :: ps, l, h, hr => by
    simp only [placesL] at h
    cases hi : pl[i]? with
    | none => rw [hi] at h; cases h
    | some on =>
      obtain ⟨o, n⟩ := on
      rw [hi] at h
      cases hp : placesL pl ρ ps with
      | none => rw [hp] at h; cases h
      | some m =>
        rw [hp] at h; cases h
        refine .cons _ _ _ _ ⟨by simpa using hi, hr (i, x) (by simp)⟩ (placesL_rel hp fun p hp => hr p (by simp [hp]))
noncomputable def aBuild (P : Program) (t : Nat) (ps : List (Nat × Operand)) (ρ : Operand → V) (s : St) (k : K) : RC :=
  match P.underlying t with
  | some (.struct fields) => match P.info? t with
    | none => fl
    | some i => match i.zero with
      | none => fl
      | some z => match zeroL z with
        | none => fl
        | some l => match sizesL P fields.toList with
          | none => fl
          | some pl => match placesL pl ρ ps with
            | none => fl
            | some q => partsV q [] .mt l (fun l => k (.agg l) s)
  | _ => fl
theorem aBuild_out (h : Sim β s w) (t : Nat) (ps : Array (Nat × Operand)) {ρ : Operand → V} {ρ' : Operand → Value} (hr : ∀ p ∈ ps.toList, VRel β (ρ p.2) (ρ' p.2)) :
    Out β s w P (aBuild P t ps.toList ρ s) (valueOf (Go.Instr.build t (ps.map fun (i, x) => (i, ρ' x)))) := by
  cases hu : P.underlying t with
  | none => exact .fail fun k => by simp only [aBuild, hu]
  | some d =>
    cases d <;> first | (refine .fail fun k => ?_; simp only [aBuild, hu]; done) | skip
    case struct fields =>
    cases hi : P.info? t with
    | none => exact .fail fun k => by simp only [aBuild, hu, hi]
    | some i =>
      cases hz : i.zero with
      | none => exact .fail fun k => by simp only [aBuild, hu, hi, hz]
      | some z =>
        cases hl : zeroL z with
        | none => exact .fail fun k => by simp only [aBuild, hu, hi, hz, hl]
        | some l =>
          cases hp : sizesL P fields.toList with
          | none => exact .fail fun k => by simp only [aBuild, hu, hi, hz, hl, hp]
          | some pl =>
            cases hq : placesL pl ρ ps.toList with
            | none => exact .fail fun k => by simp only [aBuild, hu, hi, hz, hl, hp, hq]
            | some q =>
              obtain ⟨h1, h2⟩ := zeroL_rel (β := β) hl
              have hrel := placesL_rel hq hr
              have hb := build_out (P := P) h (ty := t) (t := []) (e := .mt) (ps := q) (qs := ps.map fun (i, x) => (i, ρ' x)) (z := l) (zv := z) (fields := fields) (places := pl) (by rw [hi]; exact hz) hu (by rw [sizesL_eq]; exact hp) h1 h2 (by rw [Array.toList_map]; exact hrel)
              refine hb.congr fun k => ?_
              simp only [aBuild, hu, hi, hz, hl, hp, hq]

def elemsL (n : Nat) (ρ : Operand → V) : List (Nat × Operand) → List (Nat × Nat × Opd)
  | [] => []
  | (i, x) :: ps => (i * n, n, fun _ _ => ρ x) :: elemsL n ρ ps
theorem elemsL_rel {ρ : Operand → V} {ρ' : Operand → Value} {n : Nat} : ∀ {ps : List (Nat × Operand)}, (∀ p ∈ ps, VRel β (ρ p.2) (ρ' p.2)) →
    PartsRel β [] .mt (fun i => some (i * n, n)) (elemsL n ρ ps) (ps.map fun p => (p.1, ρ' p.2))
  | [], _ => .nil
  | (i, x) :: ps, hr => .cons _ _ _ _ ⟨rfl, hr (i, x) (by simp)⟩ (elemsL_rel fun p hp => hr p (by simp [hp]))
def okBs (m l n : Nat) : Bool := Nat.beq m l && Nat.ble (Nat.mul n l) 16777216 && Nat.ble 1 l
theorem okBs_spec {m l n : Nat} (h : okBs m l n = true) : m = l ∧ n * l ≤ 16777216 ∧ 1 ≤ l := by
  simp only [okBs, Bool.and_eq_true] at h
  obtain ⟨⟨a, b⟩, c⟩ := h
  exact ⟨(beq_iff _ _).1 a, (ble_iff _ _).1 b, (ble_iff _ _).1 c⟩
noncomputable def aBslice (P : Program) (t n : Nat) (ps : List (Nat × Operand)) (ρ : Operand → V) (s : St) (k : K) : RC :=
  match P.underlying t with
  | some (.slice el) => match P.info? el with
    | none => fl
    | some i => match i.zero with
      | none => fl
      | some z => match zeroL z with
        | none => fl
        | some l => match okBs i.size (len l) n with
          | true => partsV (elemsL (len l) ρ ps) [] .mt (repL n l) (fun m => k (.slc s.next 0 n true n (len l)) (s.push (mkVec m)))
          | false => fl
  | _ => fl
theorem aBslice_out (h : Sim β s w) (t n : Nat) (ps : Array (Nat × Operand)) {ρ : Operand → V} {ρ' : Operand → Value} (hr : ∀ p ∈ ps.toList, VRel β (ρ p.2) (ρ' p.2)) :
    Out β s w P (aBslice P t n ps.toList ρ s) (valueOf (Go.Instr.buildSlice t n (ps.map fun (i, x) => (i, ρ' x)))) := by
  cases hu : P.underlying t with
  | none => exact .fail fun k => by simp only [aBslice, hu]
  | some d =>
    cases d <;> first | (refine .fail fun k => ?_; simp only [aBslice, hu]; done) | skip
    case slice el =>
    cases hi : P.info? el with
    | none => exact .fail fun k => by simp only [aBslice, hu, hi]
    | some i =>
      cases hz : i.zero with
      | none => exact .fail fun k => by simp only [aBslice, hu, hi, hz]
      | some z =>
        cases hl : zeroL z with
        | none => exact .fail fun k => by simp only [aBslice, hu, hi, hz, hl]
        | some l =>
          cases hc : okBs i.size (len l) n with
          | false => exact .fail fun k => by simp only [aBslice, hu, hi, hz, hl, hc]
          | true =>
            obtain ⟨e1, e2, e3⟩ := okBs_spec hc
            rw [len_eq] at e1 e2 e3
            obtain ⟨h1, h2⟩ := zeroL_rel (β := β) hl
            have hrel := elemsL_rel (β := β) (n := l.length) hr
            have hb := bslice_out (P := P) h (ty := t) (el := el) (t := []) (e := .mt) (n := n) (ps := elemsL l.length ρ ps.toList) (qs := ps.map fun (i, x) => (i, ρ' x)) (z := l) (zv := z) hu (by rw [hi]; exact hz) (by rw [hi]; simp [e1]) e2 (by omega) h1 h2 (by rw [Array.toList_map]; exact hrel)
            refine hb.congr fun k => ?_
            simp only [aBslice, hu, hi, hz, hl, hc]
            rw [len_eq]

/-! equality and arithmetic -/
noncomputable def eqD : Go.TypeDesc → Option (V → V → KV → RC)
  | .int _ => some eq0
  | .string => some eq0
  | .bool => some eqBo
  | .pointer _ => some eqNp
  | .slice _ => some eqNs
  | .map _ _ => some eqNm
  | .func _ _ _ => some eqNf
  | _ => none
theorem eq0_guard {x y : V} {x' y' : Value} (hx : VRel β x x') (hy : VRel β y y') : (∃ why, ∀ k, eq0 x y k = .f why) ∨ (x' ≠ .nilIface ∧ ∀ l, x' ≠ .agg l) := by
  rcases eq0_cases hx hy with h | ⟨c, hk, ⟨kd, a, b, rfl, rfl, rfl⟩ | ⟨a, b, rfl, rfl, rfl⟩⟩
  · exact .inl h
  · exact .inr ⟨(fun e => by cases e), (fun l e => by cases e)⟩
  · exact .inr ⟨(fun e => by cases e), (fun l e => by cases e)⟩
theorem eqD_out {t : Nat} {d : Go.TypeDesc} (hu : P.underlying t = some d) {f : V → V → KV → RC} (hf : eqD d = some f) {x y : V} {x' y' : Value} (hx : VRel β x x') (hy : VRel β y y') (xo yo : Operand) :
    PureOut β (f x y) P (do Go.eqGuard .eql t xo yo x' y'; Go.binOp .eql t x' y') w ∧ PureOut β (fun k => f x y (fun v => notK v k)) P (do Go.eqGuard .neq t xo yo x' y'; Go.binOp .neq t x' y') w := by
  have seq : ∀ (op : Go.BinOp), x' ≠ .nilIface → (∀ l, x' ≠ .agg l) → (do Go.eqGuard op t xo yo x' y'; Go.binOp op t x' y' : Go.Sem Value).run P w = (Go.binOp op t x' y').run P w := fun op h1 h2 => by
    rw [Go.Sem.run_bind, eqGuard_ok (fun h => h1 h.1) h2]; rfl
  have num : f = eq0 → PureOut β (f x y) P (do Go.eqGuard .eql t xo yo x' y'; Go.binOp .eql t x' y') w ∧ PureOut β (fun k => f x y (fun v => notK v k)) P (do Go.eqGuard .neq t xo yo x' y'; Go.binOp .neq t x' y') w := by
    rintro rfl
    rcases eq0_guard hx hy with ⟨why, h⟩ | ⟨h1, h2⟩
    · exact ⟨.inl ⟨why, h⟩, .inl ⟨why, fun k => h _⟩⟩
    · constructor
      · rcases eq0_out (P := P) (w := w) t hx hy with h | ⟨v, z, a, b, c⟩
        · exact .inl h
        · exact .inr ⟨v, z, a, b, by rw [seq _ h1 h2]; exact c⟩
      · rcases ne0_out (P := P) (w := w) t hx hy with h | ⟨v, z, a, b, c⟩
        · exact .inl h
        · exact .inr ⟨v, z, a, b, by rw [seq _ h1 h2]; exact c⟩
  have oth : ((f = eqBo ∧ d = .bool) ∨ (f = eqNp ∧ ∃ e, d = .pointer e) ∨ (f = eqNs ∧ ∃ e, d = .slice e) ∨ (f = eqNm ∧ ∃ a b, d = .map a b) ∨ (f = eqNf ∧ ∃ a b c, d = .func a b c)) → PureOut β (f x y) P (do Go.eqGuard .eql t xo yo x' y'; Go.binOp .eql t x' y') w ∧ PureOut β (fun k => f x y (fun v => notK v k)) P (do Go.eqGuard .neq t xo yo x' y'; Go.binOp .neq t x' y') w := by
    intro ho
    rcases eqB_cases (w := w) hu hx hy f ho with ⟨why, h⟩ | ⟨c, hk, e1, e2, h1, h2⟩
    · exact ⟨.inl ⟨why, h⟩, .inl ⟨why, fun k => h _⟩⟩
    · exact ⟨.ok (B c) _ hk (B_rel β c) (by rw [seq _ h1 h2]; exact e1), .ok (B (!c)) _ (fun k => by rw [hk]; exact not_B _ _) (B_rel β _) (by rw [seq _ h1 h2]; exact e2)⟩
  cases d <;> simp only [eqD, Option.some.injEq, reduceCtorEq] at hf <;> subst hf
  case bool => exact oth (.inl ⟨rfl, rfl⟩)
  case int => exact num rfl
  case string => exact num rfl
  case pointer e => exact oth (.inr (.inl ⟨rfl, e, rfl⟩))
  case slice e => exact oth (.inr (.inr (.inl ⟨rfl, e, rfl⟩)))
  case map a b => exact oth (.inr (.inr (.inr (.inl ⟨rfl, a, b, rfl⟩))))
  case func a b c => exact oth (.inr (.inr (.inr (.inr ⟨rfl, a, b, c, rfl⟩))))

/-! structs of numbers, compared -/
def isIntD : Go.TypeDesc → Bool
  | .int _ => true
  | _ => false
def flatF (P : Program) : Nat → List Go.Field → Bool
  | _, [] => true
  | i, f :: r => (f.name != "_") && Nat.beq f.offset i && (match P.underlying f.type with | some d => isIntD d | none => false) && flatF P (i + 1) r
def flatD (P : Program) (t : Nat) : Go.TypeDesc → Bool
  | .struct fs => flatF P 0 fs.toList && !P.stoodInHeld t && !P.eqGuardType P.depth t
  | _ => false
theorem eqI_cases {x y : V} {x' y' : Value} (hx : VRel β x x') (hy : VRel β y y') :
    (∃ why, ∀ k, eqI x y k = .f why) ∨ ∃ c, (∀ k, eqI x y k = k (B c)) ∧ ∃ kd a b, x' = .int kd a ∧ y' = .int kd b ∧ c = (a == b) := by
  have key : (∀ k, eqI x y k = eq0 x y k) ∨ ∀ k, eqI x y k = fl := by
    cases hx <;> first | exact .inl fun k => rfl | exact .inr fun k => rfl | skip
    all_goals (cases hy <;> first | exact .inl fun k => rfl | exact .inr fun k => rfl)
  rcases key with he | he
  · rcases eq0_cases hx hy with ⟨why, h⟩ | ⟨c, hk, ⟨kd, a, b, h1, h2, h3⟩ | ⟨a, b, h1, h2, h3⟩⟩
    · exact .inl ⟨why, fun k => (he k).trans (h k)⟩
    · exact .inr ⟨c, fun k => (he k).trans (hk k), kd, a, b, h1, h2, h3⟩
    · subst h1; subst h2; cases hx <;> cases hy <;> exact .inl ⟨0, fun k => rfl⟩
  · exact .inl ⟨0, he⟩
theorem eqL_nil (r : L) (k : KV) : eqL [] r k = match r with | [] => k .tt | _ => fl := by cases r <;> rfl
theorem eqL_cons (a : V) (l : L) (r : L) (k : KV) : eqL (a :: l) r k = match r with | [] => fl | b :: r => eqI a b (fun v => match v with | .tt => eqL l r k | .ff => k .ff | _ => fl) := by
  cases r with
  | nil => rfl
  | cons b r =>
    show eqI a b _ = eqI a b _
    congr 1; funext v; cases v <;> rfl
theorem run_cellAt {f : Go.Field} {i : Nat} {cs : Array Value} {x : Value} (hoff : f.offset = i) (hd : ∃ d, P.underlying f.type = some d ∧ aggB d = false) (hx : cs[i]? = some x) : (Go.part f.type cs f.offset).run P w = .ok x w := by
  obtain ⟨d, hu, ha⟩ := hd
  simp [Go.part, run_isAgg hu, ha, hoff, hx]
theorem drop_step {i : Nat} {q : L} {v : V} {zs : Array Value} (h : VRels β (v :: q) (zs.toList.drop i)) : ∃ z, zs[i]? = some z ∧ VRel β v z ∧ VRels β q (zs.toList.drop (i + 1)) := by
  generalize hz : zs.toList.drop i = zl at h
  cases h with
  | cons _ z _ zl' h1 h2 =>
    have e0 : (zs.toList.drop i)[0]? = some z := by rw [hz]; rfl
    rw [List.getElem?_drop, Nat.add_zero] at e0
    refine ⟨z, by simpa using e0, h1, ?_⟩
    have : zs.toList.drop (i + 1) = zl' := by rw [← List.drop_drop, hz]; rfl
    rw [this]; exact h2
theorem eqFields_out {xs ys : Array Value} : ∀ (fs : List Go.Field) (i : Nat) (l r : L), flatF P i fs = true → VRels β l (xs.toList.drop i) → VRels β r (ys.toList.drop i) → l.length = fs.length →
    (∃ why, ∀ k, eqL l r k = .f why) ∨ ∃ c, (∀ k, eqL l r k = k (B c)) ∧ (Go.Op.eqFields 9999 xs ys fs).run P w = .ok c w
  | [], i, l, r, _, hl, hr, hlen => by
    cases l with
    | cons a l => simp at hlen
    | nil => cases r with
      | nil => exact .inr ⟨true, fun k => eqL_nil _ _, by simp [Go.Op.eqFields]⟩
      | cons b r => exact .inl ⟨0, fun k => eqL_nil _ _⟩
  | f :: fs, i, l, r, hfl, hl, hr, hlen => by
    simp only [flatF, Bool.and_eq_true, bne_iff_ne, ne_eq] at hfl
    obtain ⟨⟨⟨hnm, hoff⟩, hty⟩, hrest⟩ := hfl
    have hoff := Nat.eq_of_beq_eq_true hoff
    cases l with
    | nil => simp at hlen
    | cons a l =>
      cases r with
      | nil => exact .inl ⟨0, fun k => eqL_cons _ _ _ _⟩
      | cons b r =>
        obtain ⟨x, hx, hax, hl'⟩ := drop_step hl
        obtain ⟨y, hy, hby, hr'⟩ := drop_step hr
        obtain ⟨kd', hu⟩ : ∃ kd', P.underlying f.type = some (.int kd') := by
          cases hu : P.underlying f.type with
          | none => rw [hu] at hty; cases hty
          | some d => rw [hu] at hty; cases d <;> first | exact ⟨_, rfl⟩ | cases hty
        rcases eqI_cases hax hby with ⟨why, h⟩ | ⟨c, hk, kd, n, m, rfl, rfl, rfl⟩
        · exact .inl ⟨why, fun k => by rw [eqL_cons]; exact h _⟩
        · have hx' := run_cellAt (w := w) hoff ⟨_, hu, rfl⟩ hx
          have hy' := run_cellAt (w := w) hoff ⟨_, hu, rfl⟩ hy
          have he := Go.run_equalIn_int w 9998 f.type kd kd' n m hu
          have hstep : (Go.Op.eqFields 9999 xs ys (f :: fs)).run P w = if (n == m) = true then (Go.Op.eqFields 9999 xs ys fs).run P w else .ok false w := by
            simp only [Go.Op.eqFields, hnm, not_false_eq_true, ne_eq, if_true, Go.Sem.run_bind, hx', hy', he, Go.Result.andThen_ok]
            cases (n == m) <;> simp
          cases hc : (n == m) with
          | false =>
            refine .inr ⟨false, fun k => ?_, by rw [hstep, hc]; rfl⟩
            rw [eqL_cons]; simp only; rw [hk, hc]; rfl
          | true =>
            have e : ∀ k, eqL (a :: l) (b :: r) k = eqL l r k := fun k => by rw [eqL_cons]; simp only; rw [hk, hc]; rfl
            rcases eqFields_out fs (i + 1) l r hrest hl' hr' (by simpa using hlen) with ⟨why, h⟩ | ⟨c, h1, h2⟩
            · exact .inl ⟨why, fun k => (e k).trans (h k)⟩
            · exact .inr ⟨c, fun k => (e k).trans (h1 k), by rw [hstep, hc, if_pos rfl]; exact h2⟩
noncomputable def eqFl (n : Nat) (x y : V) (k : KV) : RC := match x, y with
  | .agg l, .agg r => match Nat.beq (len l) n with
    | true => eqL l r k
    | false => fl
  | _, _ => fl
theorem eqFl_out {t : Nat} {fs : Array Go.Field} (hu : P.underlying t = some (.struct fs)) (hf : flatD P t (.struct fs) = true) {x y : V} {x' y' : Value} (hx : VRel β x x') (hy : VRel β y y') (xo yo : Operand) :
    PureOut β (eqFl fs.toList.length x y) P (do Go.eqGuard .eql t xo yo x' y'; Go.binOp .eql t x' y') w ∧ PureOut β (fun k => eqFl fs.toList.length x y (fun v => notK v k)) P (do Go.eqGuard .neq t xo yo x' y'; Go.binOp .neq t x' y') w := by
  simp only [flatD, Bool.and_eq_true, Bool.not_eq_true'] at hf
  obtain ⟨⟨h1, h2⟩, h3⟩ := hf
  cases hx <;> first | exact ⟨.fail fun k => rfl, .fail fun k => rfl⟩ | skip
  cases hy <;> first | exact ⟨.fail fun k => rfl, .fail fun k => rfl⟩ | skip
  case agg.agg l l' hl ho r r' hr ho' =>
  cases hn : Nat.beq (len l) fs.toList.length with
  | false => exact ⟨.fail fun k => by simp only [eqFl, hn], .fail fun k => by simp only [eqFl, hn]⟩
  | true =>
    have hlen := Nat.eq_of_beq_eq_true hn
    rw [len_eq] at hlen
    have e : ∀ k, eqFl fs.toList.length (.agg l) (.agg r) k = eqL l r k := fun k => by simp only [eqFl, hn]
    have hfs : P.fieldsOf t = fs := by simp [Go.Program.fieldsOf, hu]
    rcases eqFields_out (w := w) (xs := l'.toArray) (ys := r'.toArray) fs.toList 0 l r h1 (by simpa using hl) (by simpa using hr) hlen with ⟨why, h⟩ | ⟨c, hk, hrun⟩
    · exact ⟨.inl ⟨why, fun k => (e k).trans (h k)⟩, .inl ⟨why, fun k => (e _).trans (h _)⟩⟩
    · have hst := Go.run_equalIn_struct (P := P) w 9999 t l'.toArray r'.toArray (by rw [hfs]; exact hu) h2
      rw [hfs] at hst
      constructor
      · refine .ok (B c) _ (fun k => (e k).trans (hk k)) (B_rel β c) ?_
        rw [Go.Sem.run_bind, Go.run_eqGuard_agg w .eql t xo yo _ _ h3]
        simp only [Go.Result.andThen_ok]
        rw [Go.run_eql_struct, hst, hrun]; rfl
      · refine .ok (B (!c)) _ (fun k => by rw [e, hk]; exact not_B _ _) (B_rel β _) ?_
        rw [Go.Sem.run_bind, Go.run_eqGuard_agg w .neq t xo yo _ _ h3]
        simp only [Go.Result.andThen_ok]
        rw [Go.run_neq_struct, hst, hrun]; rfl
noncomputable def eqT (P : Program) (t : Nat) (d : Go.TypeDesc) : Option (V → V → KV → RC) :=
  match eqD d with
  | some f => some f
  | none => match flatD P t d with
    | true => match d with
      | .struct fs => some (eqFl fs.toList.length)
      | _ => none
    | false => none
theorem eqT_out {t : Nat} {d : Go.TypeDesc} (hu : P.underlying t = some d) {f : V → V → KV → RC} (hf : eqT P t d = some f) {x y : V} {x' y' : Value} (hx : VRel β x x') (hy : VRel β y y') (xo yo : Operand) :
    PureOut β (f x y) P (do Go.eqGuard .eql t xo yo x' y'; Go.binOp .eql t x' y') w ∧ PureOut β (fun k => f x y (fun v => notK v k)) P (do Go.eqGuard .neq t xo yo x' y'; Go.binOp .neq t x' y') w := by
  unfold eqT at hf
  cases hd : eqD d with
  | some g => rw [hd] at hf; cases hf; exact eqD_out hu hd hx hy xo yo
  | none =>
    rw [hd] at hf
    cases hfl : flatD P t d with
    | false => simp only [hfl] at hf; cases hf
    | true =>
      simp only [hfl] at hf
      cases d <;> first | (cases hf; done) | skip
      case struct fs => cases hf; exact eqFl_out hu hfl hx hy xo yo

noncomputable def aBin (P : Program) (b : Go.BinOp) (t : Nat) (x y : V) (k : KV) : RC :=
  match b with
  | .add => addK x y k
  | .sub => subK x y k
  | .mul => mulK x y k
  | .quo => quoK x y k
  | .rem => remK x y k
  | .and => andK x y k
  | .or => orK x y k
  | .shl => shlK x y k
  | .shr => shrK x y k
  | .lss => ltK x y k
  | .leq => ltK y x (fun v => notK v k)
  | .gtr => ltK y x k
  | .geq => ltK x y (fun v => notK v k)
  | .eql => match P.underlying t with
    | none => fl
    | some d => match eqT P t d with
      | none => fl
      | some f => f x y k
  | .neq => match P.underlying t with
    | none => fl
    | some d => match eqT P t d with
      | none => fl
      | some f => f x y (fun v => notK v k)
  | _ => fl
theorem aBin_out (b : Go.BinOp) (t : Nat) (xo yo : Operand) {x y : V} {x' y' : Value} (hx : VRel β x x') (hy : VRel β y y') :
    PureOut β (aBin P b t x y) P (do Go.eqGuard b t xo yo x' y'; Go.binOp b t x' y') w := by
  cases b
  case add => exact addK_out t hx hy
  case sub => exact subK_out t hx hy
  case mul => exact mulK_out t hx hy
  case quo => exact quoK_out t hx hy
  case rem => exact remK_out t hx hy
  case and => exact andK_out t hx hy
  case or => exact orK_out t hx hy
  case shl => exact shlK_out t hx hy
  case shr => exact shrK_out t hx hy
  case lss => exact ltK_out t hx hy
  case leq => exact le_out t hx hy
  case gtr => exact gt_out t hx hy
  case geq => exact ge_out t hx hy
  case eql =>
    cases hu : P.underlying t with
    | none => exact .fail fun k => by simp only [aBin, hu]
    | some d =>
      cases hf : eqT P t d with
      | none => exact .fail fun k => by simp only [aBin, hu, hf]
      | some f => exact ((eqT_out (w := w) hu hf hx hy xo yo).1).congr fun k => by simp only [aBin, hu, hf]
  case neq =>
    cases hu : P.underlying t with
    | none => exact .fail fun k => by simp only [aBin, hu]
    | some d =>
      cases hf : eqT P t d with
      | none => exact .fail fun k => by simp only [aBin, hu, hf]
      | some f => exact ((eqT_out (w := w) hu hf hx hy xo yo).2).congr fun k => by simp only [aBin, hu, hf]
  all_goals exact .fail fun k => rfl

/-! conversions -/
noncomputable def aConv (P : Program) (src dst : Nat) (x : V) (s : St) (k : KV) : RC :=
  match P.underlying dst, P.underlying src with
  | some (.int .i64), some _ => conv0K x k
  | some (.int .u8), some _ => conv1K x k
  | some (.int .i32), some _ => conv2K x k
  | some (.int .u64), some _ => conv3K x k
  | some .string, some .string => conv11K x k
  | some .string, some (.slice e) => match P.underlying e with
    | some (.int .u8) => conv10K x s k
    | _ => fl
  | _, _ => fl
theorem convI_out {src dst : Nat} {kd : IntKind} {ds : Go.TypeDesc} (hd : P.underlying dst = some (.int kd)) (hs : P.underlying src = some ds) {g : KV → RC} {x' : Value}
    (h : (∃ why, ∀ k, g k = .f why) ∨ ∃ v kd' n, (∀ k, g k = k v) ∧ x' = .int kd' n ∧ VRel β v (.int kd (kd.wrap n))) : PureOut β g P (Go.convert src dst x') w := by
  rcases h with h | ⟨v, kd', n, hk, rfl, hr⟩
  · exact .inl h
  · refine .ok v _ hk hr ?_
    simp only [Go.convert, Go.Sem.run_bind, run_und hs, run_und hd, Go.Result.andThen_ok]
    cases ds <;> rfl
theorem aConv_out (h : Sim β s w) (src dst : Nat) {x : V} {x' : Value} (hx : VRel β x x') : PureOut β (aConv P src dst x s) P (Go.convert src dst x') w := by
  cases hd : P.underlying dst with
  | none => exact .fail fun k => by simp only [aConv, hd]
  | some d =>
    cases hs : P.underlying src with
    | none => exact .fail fun k => by simp only [aConv, hd, hs]
    | some ds =>
      cases d <;> first | (refine .fail fun k => ?_; simp only [aConv, hd, hs]; done) | skip
      case int kd =>
        cases kd <;> first | (refine .fail fun k => ?_; simp only [aConv, hd, hs]; done) | skip
        case i64 => exact (convI_out (w := w) hd hs (conv0_out hx)).congr fun k => by simp only [aConv, hd, hs]
        case u8 => exact (convI_out (w := w) hd hs (conv1_out hx)).congr fun k => by simp only [aConv, hd, hs]
        case i32 => exact (convI_out (w := w) hd hs (conv2_out hx)).congr fun k => by simp only [aConv, hd, hs]
        case u64 => exact (convI_out (w := w) hd hs (conv3_out hx)).congr fun k => by simp only [aConv, hd, hs]
      case string =>
        cases ds <;> first | (refine .fail fun k => ?_; simp only [aConv, hd, hs]; done) | skip
        case string => exact (conv11K_out hd hs hx).congr fun k => by simp only [aConv, hd, hs]
        case slice e =>
          cases he : P.underlying e with
          | none => exact .fail fun k => by simp only [aConv, hd, hs, he]
          | some de =>
            cases de <;> first | (refine .fail fun k => ?_; simp only [aConv, hd, hs, he]; done) | skip
            case int ke =>
              cases ke <;> first | (refine .fail fun k => ?_; simp only [aConv, hd, hs, he]; done) | skip
              exact (conv10K_out h hd hs he hx).congr fun k => by simp only [aConv, hd, hs, he]

/-! parts and places -/
noncomputable def aFad (P : Program) (t n : Nat) (x : V) (k : KV) : RC :=
  match P.underlying t with
  | some (.struct fs) => match fs[n]? with
    | none => fl
    | some f => match P.info? f.type with
      | none => fl
      | some i => match Nat.beq i.size 0 with
        | true => fl
        | false => fadK x f.offset k
  | _ => fl
theorem aFad_out (t n : Nat) {x : V} {x' : Value} (hx : VRel β x x') : PureOut β (aFad P t n x) P (Go.Instr.fieldAt t x' n) w := by
  cases hu : P.underlying t with
  | none => exact .fail fun k => by simp only [aFad, hu]
  | some d =>
    cases d <;> first | (refine .fail fun k => ?_; simp only [aFad, hu]; done) | skip
    case struct fs =>
    cases hf : fs[n]? with
    | none => exact .fail fun k => by simp only [aFad, hu, hf]
    | some f =>
      cases hi : P.info? f.type with
      | none => exact .fail fun k => by simp only [aFad, hu, hf, hi]
      | some i =>
        cases hn : Nat.beq i.size 0 with
        | true => exact .fail fun k => by simp only [aFad, hu, hf, hi, hn]
        | false =>
          have hn' : i.size ≠ 0 := fun e => by rw [e] at hn; cases hn
          exact (fadK_out hu hf rfl (by rw [hi]; rfl) hn' hx).congr fun k => by simp only [aFad, hu, hf, hi, hn]
noncomputable def aFld (P : Program) (t n : Nat) (x : V) (k : KV) : RC :=
  match P.underlying t with
  | some (.struct fs) => match fs[n]? with
    | none => fl
    | some f => match P.underlying f.type with
      | none => fl
      | some d => match aggB d with
        | false => fldK x f.offset k
        | true => match P.info? f.type with
          | none => fl
          | some i => fldAK x f.offset i.size k
  | _ => fl
theorem aFld_out (t n : Nat) {x : V} {x' : Value} (hx : VRel β x x') : PureOut β (aFld P t n x) P (Go.Instr.field t x' n) w := by
  cases hu : P.underlying t with
  | none => exact .fail fun k => by simp only [aFld, hu]
  | some d =>
    cases d <;> first | (refine .fail fun k => ?_; simp only [aFld, hu]; done) | skip
    case struct fs =>
    cases hf : fs[n]? with
    | none => exact .fail fun k => by simp only [aFld, hu, hf]
    | some f =>
      cases hv : P.underlying f.type with
      | none => exact .fail fun k => by simp only [aFld, hu, hf, hv]
      | some d =>
        cases ha : aggB d with
        | false => exact (fldK_out hu hf rfl hv ha hx).congr fun k => by simp only [aFld, hu, hf, hv, ha]
        | true =>
          cases hi : P.info? f.type with
          | none => exact .fail fun k => by simp only [aFld, hu, hf, hv, ha, hi]
          | some i => exact (fldAK_out hu hf rfl hv ha (by rw [hi]; rfl) hx).congr fun k => by simp only [aFld, hu, hf, hv, ha, hi]
noncomputable def aIad (P : Program) (t : Nat) (x i : V) (k : KV) : RC :=
  match P.underlying t with
  | some (.slice el) => match P.info? el with
    | none => fl
    | some j => iadK x i j.size k
  | some (.array n el) => match P.info? el with
    | none => fl
    | some j => iadAK x i j.size n k
  | _ => fl
theorem aIad_out (t : Nat) {x i : V} {x' i' : Value} (hx : VRel β x x') (hi : VRel β i i') : PureOut β (aIad P t x i) P (Go.Instr.indexAt t x' i') w := by
  cases hu : P.underlying t with
  | none => exact .fail fun k => by simp only [aIad, hu]
  | some d =>
    cases d <;> first | (refine .fail fun k => ?_; simp only [aIad, hu]; done) | skip
    case slice el =>
      cases hj : P.info? el with
      | none => exact .fail fun k => by simp only [aIad, hu, hj]
      | some j => exact (iadK_out hu (by rw [hj]; rfl) hx hi).congr fun k => by simp only [aIad, hu, hj]
    case array n el =>
      cases hj : P.info? el with
      | none => exact .fail fun k => by simp only [aIad, hu, hj]
      | some j => exact (iadAK_out hu (by rw [hj]; rfl) hx hi).congr fun k => by simp only [aIad, hu, hj]
noncomputable def aIdx (P : Program) (t : Nat) (x i : V) (k : KV) : RC :=
  match P.underlying t with
  | some .string => idxK x i k
  | _ => fl
theorem aIdx_out (t : Nat) {x i : V} {x' i' : Value} (hx : VRel β x x') (hi : VRel β i i') : PureOut β (aIdx P t x i) P (Go.Instr.index t x' i') w := by
  cases hu : P.underlying t with
  | none => exact .fail fun k => by simp only [aIdx, hu]
  | some d =>
    cases d <;> first | (refine .fail fun k => ?_; simp only [aIdx, hu]; done) | skip
    exact (idxK_out hu hx hi).congr fun k => by simp only [aIdx, hu]

/-! slices of slices and strings -/
noncomputable def aSl (P : Program) (t : Nat) (x : V) (lo hi mx : Option V) (k : KV) : RC :=
  match P.underlying t with
  | some .string => match lo, hi, mx with
    | some a, none, none => slS x a (lenV x) k
    | none, some b, none => slS x (.p 0) b k
    | some a, some b, none => slS x a b k
    | _, _, _ => fl
  | some (.slice el) => match P.info? el with
    | none => fl
    | some i => match lo, hi, mx with
      | some a, none, none => slL x i.size a (lenV x) k
      | none, some b, none => slL x i.size (.p 0) b k
      | some a, some b, none => slL x i.size a b k
      | none, some b, some c => sl3K x i.size (.p 0) b c k
      | _, _, _ => fl
  | _ => fl
inductive ORel (β : Beta) : Option V → Option Value → Prop
  | none : ORel β none none
  | some (v : V) (x : Value) : VRel β v x → ORel β (some v) (some x)
theorem aSl_out (t : Nat) {x : V} {x' : Value} (hx : VRel β x x') {lo hi mx : Option V} {lo' hi' mx' : Option Value} (h1 : ORel β lo lo') (h2 : ORel β hi hi') (h3 : ORel β mx mx') :
    PureOut β (aSl P t x lo hi mx) P (Go.Instr.sliceAt t x' lo' hi' mx') w := by
  cases hu : P.underlying t with
  | none => exact .fail fun k => by simp only [aSl, hu]
  | some d =>
    cases d <;> first | (refine .fail fun k => ?_; simp only [aSl, hu]; done) | skip
    case string =>
      cases h1 <;> cases h2 <;> cases h3 <;> first | (refine .fail fun k => ?_; simp only [aSl, hu]; done) | skip
      · rename_i b b' hb
        exact (slS_out (P := P) (w := w) hu hx (.inl ⟨rfl, rfl⟩) (.inr ⟨b', rfl, hb⟩)).congr fun k => by simp only [aSl, hu]
      · rename_i a a' ha
        exact (slS_out (P := P) (w := w) hu hx (.inr ⟨a', rfl, ha⟩) (.inl ⟨rfl, rfl⟩)).congr fun k => by simp only [aSl, hu]
      · rename_i a a' ha b b' hb
        exact (slS_out (P := P) (w := w) hu hx (.inr ⟨a', rfl, ha⟩) (.inr ⟨b', rfl, hb⟩)).congr fun k => by simp only [aSl, hu]
    case slice el =>
      cases hi' : P.info? el with
      | none => exact .fail fun k => by simp only [aSl, hu, hi']
      | some i =>
        have hsz : (P.info? el).map (·.size) = some i.size := by rw [hi']; rfl
        cases h1 <;> cases h2 <;> cases h3 <;> first | (refine .fail fun k => ?_; simp only [aSl, hu, hi']; done) | skip
        · rename_i b b' hb
          exact (slL_out (P := P) (w := w) hu hsz hx (.inl ⟨rfl, rfl⟩) (.inr ⟨b', rfl, hb⟩)).congr fun k => by simp only [aSl, hu, hi']
        · rename_i b b' hb c c' hc
          exact (sl3K_out (P := P) (w := w) hu hsz hx hb hc).congr fun k => by simp only [aSl, hu, hi']
        · rename_i a a' ha
          exact (slL_out (P := P) (w := w) hu hsz hx (.inr ⟨a', rfl, ha⟩) (.inl ⟨rfl, rfl⟩)).congr fun k => by simp only [aSl, hu, hi']
        · rename_i a a' ha b b' hb
          exact (slL_out (P := P) (w := w) hu hsz hx (.inr ⟨a', rfl, ha⟩) (.inr ⟨b', rfl, hb⟩)).congr fun k => by simp only [aSl, hu, hi']

/-! maps -/
noncomputable def mapT (P : Program) (t : Nat) : Option (KF × V) :=
  match P.underlying t with
  | some (.map k e) => match P.info? e with
    | none => none
    | some i => match i.zero with
      | none => none
      | some z => match P.underlying k with
        | some (.int _) => some (keyI, toV z)
        | some .string => some (keyS, toV z)
        | _ => none
  | _ => none
theorem mapT_ok {t : Nat} {kf : KF} {z : V} (h : mapT P t = some (kf, z)) : MapOk P t kf z := by
  cases hu : P.underlying t with
  | none => simp only [mapT, hu] at h; cases h
  | some d =>
    cases d <;> first | (simp only [mapT, hu] at h; cases h; done) | skip
    case map k e =>
    cases hi : P.info? e with
    | none => simp only [mapT, hu, hi] at h; cases h
    | some i =>
      cases hz : i.zero with
      | none => simp only [mapT, hu, hi, hz] at h; cases h
      | some z' =>
        cases hk : P.underlying k with
        | none => simp only [mapT, hu, hi, hz, hk] at h; cases h
        | some dk =>
          cases dk <;> first | (simp only [mapT, hu, hi, hz, hk] at h; cases h; done) | skip
          case int ki => simp only [mapT, hu, hi, hz, hk] at h; cases h; exact ⟨k, e, _, hu, hk, .int ki, i, z', hi, hz, toV_rel z'⟩
          case string => simp only [mapT, hu, hi, hz, hk] at h; cases h; exact ⟨k, e, _, hu, hk, .str, i, z', hi, hz, toV_rel z'⟩
noncomputable def aLook (P : Program) (t : Nat) (m key : V) (ok : Bool) (s : St) (k : KV) : RC :=
  match mapT P t with
  | none => fl
  | some (kf, z) => lookK m kf z ok key s k
theorem aLook_out (h : Sim β s w) (t : Nat) (ok : Bool) {m key : V} {m' key' : Value} (hm : VRel β m m') (hk : VRel β key key') : PureOut β (aLook P t m key ok s) P (Go.Instr.lookup t m' key' ok) w := by
  cases ht : mapT P t with
  | none => exact .fail fun k => by simp only [aLook, ht]
  | some q => exact (lookK_out h (mapT_ok (kf := q.1) (z := q.2) ht) hm hk ok).congr fun k => by simp only [aLook, ht]
noncomputable def aMupd (P : Program) (t : Nat) (m key v : V) (s : St) (k : K) : RC :=
  match mapT P t with
  | none => fl
  | some (kf, _) => mupdK m kf key v s k
theorem aMupd_out (h : Sim β s w) (t : Nat) {m key v : V} {m' key' v' : Value} (hm : VRel β m m') (hk : VRel β key key') (hv : VRel β v v') : Out β s w P (aMupd P t m key v s) (skipOf (Go.Instr.mapUpdate t m' key' v')) := by
  cases ht : mapT P t with
  | none => exact .fail fun k => by simp only [aMupd, ht]
  | some q => exact (mupdK_out h (mapT_ok (kf := q.1) (z := q.2) ht) hm hk hv).congr fun k => by simp only [aMupd, ht]
noncomputable def aMent (P : Program) (t : Nat) (m key : V) (s : St) (k : K) : RC :=
  match mapT P t with
  | none => fl
  | some (kf, z) => mentK m kf z key s k
theorem aMent_out (h : Sim β s w) (t : Nat) {m key : V} {m' key' : Value} (hm : VRel β m m') (hk : VRel β key key') : Out β s w P (aMent P t m key s) (valueOf (Go.Instr.mapEntry t m' key')) := by
  cases ht : mapT P t with
  | none => exact .fail fun k => by simp only [aMent, ht]
  | some q => exact (mentK_out h (mapT_ok (kf := q.1) (z := q.2) ht) hm hk).congr fun k => by simp only [aMent, ht]

/-! the rest -/
noncomputable def aRange (P : Program) (t : Nat) (x : V) (s : St) (k : K) : RC :=
  match P.underlying t with
  | some .string => rangeK x s k
  | _ => fl
theorem aRange_out (h : Sim β s w) (t : Nat) {x : V} {x' : Value} (hx : VRel β x x') : Out β s w P (aRange P t x s) (valueOf (Go.Instr.range t x')) := by
  cases hu : P.underlying t with
  | none => exact .fail fun k => by simp only [aRange, hu]
  | some d =>
    cases d <;> first | (refine .fail fun k => ?_; simp only [aRange, hu]; done) | skip
    exact (rangeK_out h hu hx).congr fun k => by simp only [aRange, hu]
noncomputable def okMk (i : Go.TypeInfo) : Option L :=
  match i.zero with
  | none => none
  | some z => match zeroL z with
    | none => none
    | some l => match Nat.beq i.size (len l) && Nat.ble i.bytes 4096 && Nat.ble 1 i.size with
      | true => some l
      | false => none
theorem okMk_spec {i : Go.TypeInfo} {l : L} (h : okMk i = some l) : i.size ≠ 0 ∧ i.bytes ≤ 4096 ∧ ∃ z, i.zero = some z ∧ z.cells.size = i.size ∧ VRels β l z.cells.toList ∧ ∀ x ∈ z.cells.toList, x.oneCell' = true := by
  unfold okMk at h
  cases hz : i.zero with
  | none => rw [hz] at h; cases h
  | some z =>
    cases hl : zeroL z with
    | none => simp only [hz, hl] at h; cases h
    | some m =>
      cases hc : (Nat.beq i.size (len m) && Nat.ble i.bytes 4096 && Nat.ble 1 i.size) with
      | false => simp only [hz, hl, hc] at h; cases h
      | true =>
        simp only [hz, hl, hc] at h; cases h
        simp only [Bool.and_eq_true] at hc
        obtain ⟨⟨a, b⟩, c⟩ := hc
        have a := (beq_iff _ _).1 a; have b := (ble_iff _ _).1 b; have c := (ble_iff _ _).1 c
        obtain ⟨h1, h2⟩ := zeroL_rel (β := β) hl
        have := h1.length
        rw [len_eq] at a
        exact ⟨by omega, b, z, rfl, by simp at this; omega, h1, h2⟩
noncomputable def aMksl (P : Program) (t : Nat) (n c : V) (s : St) (k : K) : RC :=
  match P.underlying t with
  | some (.slice el) => match P.info? el with
    | none => fl
    | some i => match okMk i with
      | none => fl
      | some z => mkslK i.size z n c s k
  | _ => fl
theorem aMksl_out (h : Sim β s w) (t : Nat) {n c : V} {n' c' : Value} (hn : VRel β n n') (hc : VRel β c c') : Out β s w P (aMksl P t n c s) (valueOf (Go.Instr.makeSlice t n' c')) := by
  cases hu : P.underlying t with
  | none => exact .fail fun k => by simp only [aMksl, hu]
  | some d =>
    cases d <;> first | (refine .fail fun k => ?_; simp only [aMksl, hu]; done) | skip
    case slice el =>
    cases hi : P.info? el with
    | none => exact .fail fun k => by simp only [aMksl, hu, hi]
    | some i =>
      cases hz : okMk i with
      | none => exact .fail fun k => by simp only [aMksl, hu, hi, hz]
      | some z =>
        obtain ⟨h0, hb, z', hz', hs, hr, h1⟩ := okMk_spec (β := β) hz
        exact (mkslK_out h ⟨hu, h0, i, z', hi, rfl, hb, hz', hs, hr, h1⟩ hn hc).congr fun k => by simp only [aMksl, hu, hi, hz]

/-! clear -/
noncomputable def aClr (P : Program) (t : Nat) (x : V) (s : St) (k : K) : RC :=
  match P.underlying t with
  | some (.slice el) => match P.info? el with
    | none => fl
    | some i => match okMk i with
      | none => fl
      | some z => clrK x i.size z s k
  | _ => fl
theorem aClr_out (h : Sim β s w) (t ty : Nat) {x : V} {x' : Value} (hx : VRel β x x') : Out β s w P (aClr P t x s) (valueOf (Go.Builtin.clear_ #[t] ty #[x'])) := by
  cases hu : P.underlying t with
  | none => exact .fail fun k => by simp only [aClr, hu]
  | some d =>
    cases d <;> first | (refine .fail fun k => ?_; simp only [aClr, hu]; done) | skip
    case slice el =>
    cases hi : P.info? el with
    | none => exact .fail fun k => by simp only [aClr, hu, hi]
    | some i =>
      cases hz : okMk i with
      | none => exact .fail fun k => by simp only [aClr, hu, hi, hz]
      | some z =>
        obtain ⟨h0, hb, z', hz', hs, hr, h1⟩ := okMk_spec (β := β) hz
        have heq : ∀ k, aClr P t x s k = clrK x i.size z s k := fun k => by simp only [aClr, hu, hi, hz]
        have quiet : (Go.Builtin.clear_ #[t] ty #[x']).run P w = .ok (.tuple #[]) w → (∀ k, clrK x i.size z s k = k (.tup []) s) → Out β s w P (aClr P t x s) (valueOf (Go.Builtin.clear_ #[t] ty #[x'])) := fun hrun hk =>
          .inr ⟨.tup [], s, fun k => (heq k).trans (hk k), goes_value hrun ⟨β, undef_rel, h, .refl β s w⟩⟩
        cases hx <;> first | (refine .fail fun k => (heq k).trans ?_; rfl) | skip
        case nils => exact quiet (by simp [Go.Builtin.clear_, run_und hu]) fun k => rfl
        case esl a c' => exact quiet (by simp [Go.Builtin.clear_, run_und hu]) fun k => rfl
        case slc id off n ex c es b o sz c' hid h1' h2 h3 h4 h5 =>
          have e : ∀ k, clrK (.slc id off n ex c es) i.size z s k = if n = 0 then k (.tup []) s else if es = i.size then wrObj (s.get id) off (repL n z) (fun o => k (.tup []) (s.set id o)) else fl := fun k => by
            show (Bool.rec (Bool.rec fl (wrObj (s.get id) off (repL n z) (fun o => k (.tup []) (s.set id o))) (Nat.beq es i.size)) (k (.tup []) s) (Nat.beq n 0) : RC) = _
            rw [beqRec, beqRec]
          by_cases hn : n = 0
          · subst hn
            exact quiet (by simp [Go.Builtin.clear_, run_und hu]) fun k => (e k).trans (if_pos rfl)
          · by_cases hes : es = i.size
            · have hrel := repL_rel hr n
              have hone := rep_one h1 n (.inr (by omega))
              rcases h.write (P := P) hid off hrel hone with hf | ⟨o', hk, w', hrun, hsim, hpost⟩
              · exact .fail fun k => ((heq k).trans (e k)).trans (by rw [if_neg hn, if_pos hes, hf])
              · refine .inr ⟨.tup [], s.set id o', fun k => ((heq k).trans (e k)).trans (by rw [if_neg hn, if_pos hes, hk]), ?_⟩
                refine goes_value (w' := w') (x := .tuple #[]) ?_ ⟨β, undef_rel, hsim, hpost⟩
                have hzc : Go.Builtin.zeroCells z'.cells n = (Array.range (n * z'.cells.size)).map (fun i => z'.cells[i % z'.cells.size]!) := rfl
                obtain ⟨m, rfl⟩ : ∃ m, n = m + 1 := ⟨n - 1, by omega⟩
                simp only [Go.Builtin.clear_, List.getElem?_toArray, List.getElem?_cons_zero, Go.Sem.run_bind, run_und hu, Go.Result.andThen_ok, run_zero hi hz', hzc, hrun, Go.Sem.run_pure]
            · exact .fail fun k => ((heq k).trans (e k)).trans (by rw [if_neg hn, if_neg hes])

/-! calls -/
/-- what a call of the program's functions comes to: right in every world that the abstract state describes -/
def CFSound (P : Program) (c : CF) : Prop :=
  ∀ (β : Beta) (s : St) (w : World) (f : Pth) (as : L) (args : List Value), Sim β s w → VRels β as args → Out β s w P (c f as s) (Go.callFunc (num f) args.toArray)
theorem Goes.run {sem sem' : Go.Sem Go.Next} {R : Value → World → Prop} (h : Goes P sem w R) (e : sem'.run P w = sem.run P w) : Goes P sem' w R := by
  unfold Goes at *; rw [e]; exact h
theorem Out.run {g : K → RC} {sem sem' : Go.Sem Go.Next} (h : Out β s w P g sem) (e : sem'.run P w = sem.run P w) : Out β s w P g sem' := by
  rcases h with h | ⟨v, s', hk, hg⟩
  · exact .inl h
  · exact .inr ⟨v, s', hk, hg.run e⟩
def isSS : Go.TypeDesc → Bool
  | .string => true
  | .slice _ => true
  | _ => false
noncomputable def aApp (P : Program) (t t2 : Nat) (x y : V) (s : St) (k : K) : RC :=
  match P.underlying t with
  | some (.slice el) => match P.info? el with
    | none => fl
    | some i => match okMk i with
      | none => fl
      | some _ => match P.underlying t2 with
        | none => fl
        | some d2 => match isSS d2 with
          | false => fl
          | true => appK i.size x y s k
  | _ => fl
theorem aApp_out (h : Sim β s w) (t t2 ty : Nat) {x y : V} {x' y' : Value} (hx : VRel β x x') (hy : VRel β y y') : Out β s w P (aApp P t t2 x y s) (valueOf (Go.Builtin.append_ #[t, t2] ty #[x', y'])) := by
  cases hu : P.underlying t with
  | none => exact .fail fun k => by simp only [aApp, hu]
  | some d =>
    cases d <;> first | (refine .fail fun k => ?_; simp only [aApp, hu]; done) | skip
    case slice el =>
    cases hi : P.info? el with
    | none => exact .fail fun k => by simp only [aApp, hu, hi]
    | some i =>
      cases hz : okMk i with
      | none => exact .fail fun k => by simp only [aApp, hu, hi, hz]
      | some z =>
        cases hu2 : P.underlying t2 with
        | none => exact .fail fun k => by simp only [aApp, hu, hi, hz, hu2]
        | some d2 =>
          cases hd : isSS d2 with
          | false => exact .fail fun k => by simp only [aApp, hu, hi, hz, hu2, hd]
          | true =>
            obtain ⟨h0, hb, z', hz', hs, hr, h1⟩ := okMk_spec (β := β) hz
            have hd' : d2 = .string ∨ ∃ e, d2 = .slice e := by cases d2 <;> first | exact .inl rfl | exact .inr ⟨_, rfl⟩ | cases hd
            exact (appK_out h ⟨hu, ⟨i, z', hi, rfl, hb, hz', hs⟩, h0⟩ hu2 hd' hx hy).congr fun k => by simp only [aApp, hu, hi, hz, hu2, hd]
noncomputable def aLen (P : Program) (t : Nat) (x : V) (s : St) (k : KV) : RC :=
  match P.underlying t with
  | some .string => lenSK x k
  | some (.slice _) => lenLK x k
  | some (.map _ _) => lenMK x s k
  | _ => fl
theorem aLen_out (h : Sim β s w) (t ty : Nat) {x : V} {x' : Value} (hx : VRel β x x') : PureOut β (aLen P t x s) P (Go.Builtin.len_ #[t] ty #[x']) w := by
  cases hu : P.underlying t with
  | none => exact .fail fun k => by simp only [aLen, hu]
  | some d =>
    cases d <;> first | (refine .fail fun k => ?_; simp only [aLen, hu]; done) | skip
    case string => exact (lenSK_out hu hx).congr fun k => by simp only [aLen, hu]
    case slice e => exact (lenLK_out hu hx).congr fun k => by simp only [aLen, hu]
    case map a b => exact (lenMK_out h hu hx).congr fun k => by simp only [aLen, hu]
noncomputable def aCall (P : Program) (c : CF) (k : Go.Call) (ρ : Operand → V) (s : St) (kk : K) : RC :=
  match k.callee with
  | .builtin .append => match k.argTypes.toList, k.args.toList with
    | [t, t2], [x, y] => aApp P t t2 (ρ x) (ρ y) s kk
    | _, _ => fl
  | .builtin .len => match k.argTypes.toList, k.args.toList with
    | [t], [x] => aLen P t (ρ x) s (fun v => kk v s)
    | _, _ => fl
  | .builtin .min => match k.args.toList with
    | [x, y] => minK (ρ x) (ρ y) (fun v => kk v s)
    | _ => fl
  | .builtin .clear => match k.argTypes.toList, k.args.toList with
    | [t], [x] => aClr P t (ρ x) s kk
    | _, _ => fl
  | .value (.func g) => match Nat.beq (num (pthF 20 g)) g with
    | true => c (pthF 20 g) (k.args.toList.map ρ) s kk
    | false => fl
  | .value f => callvK (ρ f) c (k.args.toList.map ρ) s kk
  | _ => fl
theorem rels_map {ρ : Operand → V} {ρ' : Operand → Value} : ∀ {l : List Operand}, (∀ x ∈ l, VRel β (ρ x) (ρ' x)) → VRels β (l.map ρ) (l.map ρ')
  | [], _ => .nil
  | x :: l, h => .cons _ _ _ _ (h x (by simp)) (rels_map fun y hy => h y (by simp [hy]))
theorem callvK_out {c : CF} (hc : CFSound P c) (h : Sim β s w) {x : V} {x' : Value} (hx : VRel β x x') {as : L} {args : List Value} (ha : VRels β as args) :
    Out β s w P (callvK x c as s) (do let d ← Go.Deferred.ofValue x' args.toArray; Go.invoke d.target d.args) := by
  cases hx <;> first | (refine .fail fun k => ?_; rfl) | skip
  case fn f a b a' b' ha' hb' =>
    have := hc β s w f (appL a (appL as b)) (a' ++ (args ++ b')) h (by rw [appL_eq, appL_eq]; exact ha'.append (ha.append hb'))
    refine (this.congr (fun k => rfl)).run ?_
    simp [Go.Deferred.ofValue, Go.invoke]
theorem aCall_out {c : CF} (hc : CFSound P c) (h : Sim β s w) (k : Go.Call) (ty : Nat) {ρ : Operand → V} {ρ' : Operand → Value} (hf : ∀ g, ρ' (.func g) = .func (.func g) #[] #[]) (hr : ∀ x ∈ k.operands, VRel β (ρ x) (ρ' x)) :
    Out β s w P (aCall P c k ρ s) (do let d ← Go.resolve ρ' k ty; Go.invoke d.target d.args) := by
  obtain ⟨callee, args, argTypes⟩ := k
  cases callee with
  | invoke r m => exact .fail fun k => by simp only [aCall]
  | builtin b =>
    have hr' : ∀ x ∈ args.toList, VRel β (ρ x) (ρ' x) := fun x hx => hr x (by simp [Go.Call.operands] at hx ⊢; exact hx)
    cases b <;> first | (refine .fail fun k => ?_; simp only [aCall]; done) | skip
    case append =>
      obtain ⟨args⟩ := args; obtain ⟨argTypes⟩ := argTypes
      rcases argTypes with _ | ⟨t, _ | ⟨t2, _ | ⟨t3, r⟩⟩⟩ <;> rcases args with _ | ⟨x, _ | ⟨y, _ | ⟨z, r2⟩⟩⟩ <;> first | (refine .fail fun k => ?_; simp only [aCall]; done) | skip
      have := aApp_out (P := P) h t t2 ty (hr' x (by simp)) (hr' y (by simp))
      refine (this.congr (fun k => by simp only [aCall])).run ?_
      simp [Go.resolve, Go.invoke, Go.builtin, valueOf]
    case len =>
      obtain ⟨args⟩ := args; obtain ⟨argTypes⟩ := argTypes
      rcases argTypes with _ | ⟨t, _ | ⟨t2, r⟩⟩ <;> rcases args with _ | ⟨x, _ | ⟨y, r2⟩⟩ <;> first | (refine .fail fun k => ?_; simp only [aCall]; done) | skip
      have := Out.of_pure h (aLen_out (P := P) h t ty (hr' x (by simp)))
      refine (this.congr (fun k => by simp only [aCall])).run ?_
      simp [Go.resolve, Go.invoke, Go.builtin, valueOf]
    case clear =>
      obtain ⟨args⟩ := args; obtain ⟨argTypes⟩ := argTypes
      rcases argTypes with _ | ⟨t, _ | ⟨t2, r⟩⟩ <;> rcases args with _ | ⟨x, _ | ⟨y, r2⟩⟩ <;> first | (refine .fail fun k => ?_; simp only [aCall]; done) | skip
      have := aClr_out (P := P) h t ty (hr' x (by simp))
      refine (this.congr (fun k => by simp only [aCall])).run ?_
      simp [Go.resolve, Go.invoke, Go.builtin, valueOf]
    case min =>
      obtain ⟨args⟩ := args
      rcases args with _ | ⟨x, _ | ⟨y, _ | ⟨z, r2⟩⟩⟩ <;> first | (refine .fail fun k => ?_; simp only [aCall]; done) | skip
      have := Out.of_pure h (minK_out (P := P) (w := w) argTypes ty (hr' x (by simp)) (hr' y (by simp)))
      refine (this.congr (fun k => by simp only [aCall])).run ?_
      simp [Go.resolve, Go.invoke, Go.builtin, valueOf]
  | value f =>
    have hr' : ∀ x ∈ args.toList, VRel β (ρ x) (ρ' x) := fun x hx => hr x (by simp [Go.Call.operands] at hx ⊢; exact .inr hx)
    have hf' : VRel β (ρ f) (ρ' f) := hr f (by simp [Go.Call.operands])
    have hrun : ∀ x', (do let d ← Go.Deferred.ofValue x' (args.toList.map ρ').toArray; Go.invoke d.target d.args : Go.Sem Go.Next) = (do let d ← Go.Deferred.ofValue x' (args.map ρ'); Go.invoke d.target d.args) := fun x' => by
      congr 2; apply Array.ext'; simp
    have gen : Out β s w P (callvK (ρ f) c (args.toList.map ρ) s) (do let d ← Go.resolve ρ' ⟨.value f, args, argTypes⟩ ty; Go.invoke d.target d.args) := by
      have := callvK_out (P := P) hc h hf' (rels_map hr')
      rw [hrun] at this
      exact this
    cases f with
    | func g =>
      cases hg : Nat.beq (num (pthF 20 g)) g with
      | false => exact .fail fun k => by simp only [aCall, hg]
      | true =>
        have e := (beq_iff _ _).1 hg
        have := hc β s w (pthF 20 g) (args.toList.map ρ) (args.toList.map ρ') h (rels_map hr')
        refine (this.congr (fun k => by simp only [aCall, hg])).run ?_
        rw [e]
        have ha : (args.toList.map ρ').toArray = args.map ρ' := by apply Array.ext'; simp
        simp [Go.resolve, hf, Go.Deferred.ofValue, Go.invoke, ha]
    | tmp t => exact gen.congr fun k => by simp only [aCall]
    | const v => exact gen.congr fun k => by simp only [aCall]
    | global g => exact gen.congr fun k => by simp only [aCall]
end
end Viv

/-
  ONE OPERATION, ABSTRACTLY: the whole.
-/
namespace Viv
open Go (Value World IntKind Addr Program Act Exit Oper Operand Ending undef)

noncomputable def act (P : Program) (o : Go.Op) (c : CF) (ρ : Operand → V) (s : St) (k : K) : RC :=
  match o with
  | .move x => k (ρ x) s
  | .assign x => k (ρ x) s
  | .pick a b d => pickK (ρ a) (ρ b) (ρ d) (fun v => k v s)
  | .alloc t => aAlloc P t s k
  | .box _ x => cellsK (ρ x) (fun l => k (.ptr s.next 0) (s.push (.row l)))
  | .build t ps => aBuild P t ps.toList ρ s k
  | .buildSlice t n ps => aBslice P t n ps.toList ρ s k
  | .load t a => aLoad P t (ρ a) s (fun v => k v s)
  | .store t a x => aStore P t (ρ a) (ρ x) s k
  | .nilCheck x => nilcK (ρ x) (fun v => k v s)
  | .binOp b t x y _ => aBin P b t (ρ x) (ρ y) (fun v => k v s)
  | .unOp .not _ x => notK (ρ x) (fun v => k v s)
  | .unOp .neg _ x => negK (ρ x) (fun v => k v s)
  | .convert src dst x => aConv P src dst (ρ x) s (fun v => k v s)
  | .makeFunc (.func f) a b => match Nat.beq (num (pthF 20 f)) f with
    | true => k (.fn (pthF 20 f) (a.toList.map ρ) (b.toList.map ρ)) s
    | false => fl
  | .makeMap _ none => k (.map s.next) (s.push (.map [] 0))
  | .makeSlice t n m => aMksl P t (ρ n) (ρ m) s k
  | .slice t x lo hi mx => aSl P t (ρ x) (lo.map ρ) (hi.map ρ) (mx.map ρ) (fun v => k v s)
  | .fieldAddr t x n => aFad P t n (ρ x) (fun v => k v s)
  | .field t x n => aFld P t n (ρ x) (fun v => k v s)
  | .indexAddr t x i => aIad P t (ρ x) (ρ i) (fun v => k v s)
  | .index t x i => aIdx P t (ρ x) (ρ i) (fun v => k v s)
  | .lookup t x i ok => aLook P t (ρ x) (ρ i) ok s (fun v => k v s)
  | .mapUpdate t m i x => aMupd P t (ρ m) (ρ i) (ρ x) s k
  | .insert t m i x => aMupd P t (ρ m) (ρ i) (ρ x) s k
  | .mapEntry t m i => aMent P t (ρ m) (ρ i) s k
  | .entryStore _ m i x => mstK (ρ m) (ρ i) (ρ x) s k
  | .range t x => aRange P t (ρ x) s k
  | .next x true => nextK (ρ x) s k
  | .extract x j => extK (ρ x) j (fun v => k v s)
  | .call d => aCall P c d ρ s k
  | _ => .f 50

section
variable {β : Beta} {P : Program} {s : St} {w : World}

theorem nilcK_out (h : Sim β s w) {x : V} {x' : Value} (hx : VRel β x x') (o : Oper) (ρ : Operand → Value) (xo : Operand) (ho : o.op = .nilCheck xo) (hρ : ρ xo = x') :
    Out β s w P (fun k => nilcK x (fun v => k v s)) (Go.execOp ρ o) := by
  have run : (∀ v, x' = .pointer (some v) → (Go.execOp ρ o) = pure (.value x')) ∧ (∀ f a b, x' = .func (.func f) a b → (Go.execOp ρ o) = pure (.value x')) := by
    constructor
    · intro v e; simp only [Go.execOp, ho, hρ, e]
    · intro f a b e; simp only [Go.execOp, ho, hρ, e]
  have fin : ∀ v, (∀ k, nilcK x k = k v) → VRel β v x' → (Go.execOp ρ o) = pure (.value x') → Out β s w P (fun k => nilcK x (fun v => k v s)) (Go.execOp ρ o) := fun v hk hr he =>
    .inr ⟨v, s, fun k => hk _, by rw [he]; exact ⟨β, hr, h, .refl β s w⟩⟩
  cases hx <;> first | (refine .fail fun k => ?_; rfl) | skip
  case ptr id off b o' sz hb => exact fin _ (fun k => rfl) (.ptr id off b o' sz hb) (run.1 _ rfl)
  case ptrm id off y hb => exact fin _ (fun k => rfl) (.ptrm id off y hb) (run.1 _ rfl)
  case ptri id off b hb => exact fin _ (fun k => rfl) (.ptri id off b hb) (run.1 _ rfl)
  case fn f a b a' b' ha hb => exact fin _ (fun k => rfl) (.fn f a b a' b' ha hb) (run.2 _ _ _ rfl)

theorem orel_map {ρ : Operand → V} {ρ' : Operand → Value} {x : Option Operand} (h : ∀ y, x = some y → VRel β (ρ y) (ρ' y)) : ORel β (x.map ρ) (x.map ρ') := by
  cases x with
  | none => exact .none
  | some y => exact .some _ _ (h y rfl)

theorem act_out {c : CF} (hc : CFSound P c) (h : Sim β s w) (o : Oper) {ρ : Operand → V} {ρ' : Operand → Value} (hf : ∀ g, ρ' (.func g) = .func (.func g) #[] #[]) (hr : ∀ x ∈ o.op.operands, VRel β (ρ x) (ρ' x)) :
    Out β s w P (act P o.op c ρ s) (Go.execOp ρ' o) := by
  have bad : ∀ (g : K → RC) (sem : Go.Sem Go.Next), (∀ k, g k = .f 50) → Out β s w P g sem := fun g sem e => .inl ⟨50, e⟩
  have val : ∀ x, VRel β (ρ x) (ρ' x) → Out β s w P (fun k => k (ρ x) s) (pure (.value (ρ' x))) := fun x hx => .inr ⟨ρ x, s, fun k => rfl, ⟨β, hx, h, .refl β s w⟩⟩
  cases hop : o.op <;> rw [hop] at hr <;> first | (refine bad _ _ fun k => ?_; rfl) | skip
  case move x => simp only [Go.execOp, hop]; exact val x (hr x (by simp [Go.Op.operands]))
  case assign x => simp only [Go.execOp, hop]; exact val x (hr x (by simp [Go.Op.operands]))
  case pick a b d =>
    have := Out.of_pure h (pickK_out (P := P) (w := w) (hr a (by simp [Go.Op.operands])) (hr b (by simp [Go.Op.operands])) (hr d (by simp [Go.Op.operands])))
    refine (this.congr fun k => rfl).run ?_
    simp only [Go.execOp, hop, valueOf]; simp
  case alloc t => exact (aAlloc_out h t).run (by simp only [Go.execOp, hop]; rfl)
  case box t x => exact ((box_out (P := P) h (t := t) (hr x (by simp [Go.Op.operands]))).congr fun k => rfl).run (by simp only [Go.execOp, hop]; rfl)
  case build t ps => exact (aBuild_out h t ps fun p hp => hr p.2 (by simp only [Go.Op.operands]; exact List.mem_toArray.2 (List.mem_map.2 ⟨p, hp, rfl⟩))).run (by simp only [Go.execOp, hop]; rfl)
  case buildSlice t n ps => exact (aBslice_out h t n ps fun p hp => hr p.2 (by simp only [Go.Op.operands]; exact List.mem_toArray.2 (List.mem_map.2 ⟨p, hp, rfl⟩))).run (by simp only [Go.execOp, hop]; rfl)
  case load t a => exact ((Out.of_pure h (aLoad_out h t (hr a (by simp [Go.Op.operands])))).congr fun k => rfl).run (by simp only [Go.execOp, hop]; rfl)
  case store t a x => exact (aStore_out h t (hr a (by simp [Go.Op.operands])) (hr x (by simp [Go.Op.operands]))).run (by simp only [Go.execOp, hop]; rfl)
  case nilCheck x => exact nilcK_out h (hr x (by simp [Go.Op.operands])) o ρ' x hop rfl
  case binOp b t x y ty => exact ((Out.of_pure h (aBin_out b t x y (hr x (by simp [Go.Op.operands])) (hr y (by simp [Go.Op.operands])))).congr fun k => rfl).run (by simp only [Go.execOp, hop]; rfl)
  case unOp b t x =>
    cases b <;> first | (refine bad _ _ fun k => ?_; rfl) | skip
    case not => exact ((Out.of_pure h (notK_out (P := P) (w := w) (hr x (by simp [Go.Op.operands])))).congr fun k => rfl).run (by simp only [Go.execOp, hop]; rfl)
    case neg => exact ((Out.of_pure h (negK_out (P := P) (w := w) (hr x (by simp [Go.Op.operands])))).congr fun k => rfl).run (by simp only [Go.execOp, hop]; rfl)
  case convert src dst x => exact ((Out.of_pure h (aConv_out h src dst (hr x (by simp [Go.Op.operands])))).congr fun k => rfl).run (by simp only [Go.execOp, hop]; rfl)
  case makeFunc f a b =>
    cases f <;> first | (refine bad _ _ fun k => ?_; rfl) | skip
    case func g =>
    cases hg : Nat.beq (num (pthF 20 g)) g with
    | false => exact .fail fun k => by simp only [act, hg]
    | true =>
      have e := (beq_iff _ _).1 hg
      have h1 := rels_map (β := β) (ρ := ρ) (ρ' := ρ') (l := a.toList) fun x hx => hr x (by simp [Go.Op.operands]; exact .inl (by simpa using hx))
      have h2 := rels_map (β := β) (ρ := ρ) (ρ' := ρ') (l := b.toList) fun x hx => hr x (by simp [Go.Op.operands]; exact .inr (by simpa using hx))
      have := mkfn_out (P := P) (f := pthF 20 g) h1 h2 h
      refine (this.congr fun k => by simp only [act, hg]).run ?_
      rw [e]
      have ea : (a.toList.map ρ').toArray = a.map ρ' := by apply Array.ext'; simp
      have eb : (b.toList.map ρ').toArray = b.map ρ' := by apply Array.ext'; simp
      simp only [Go.execOp, hop, ea, eb]; rfl
  case makeMap t r =>
    cases r <;> first | (refine bad _ _ fun k => ?_; rfl) | skip
    exact ((mkmap_out h t).congr fun k => rfl).run (by simp only [Go.execOp, hop]; rfl)
  case makeSlice t n m => exact (aMksl_out h t (hr n (by simp [Go.Op.operands])) (hr m (by simp [Go.Op.operands]))).run (by simp only [Go.execOp, hop]; rfl)
  case slice t x lo hi mx =>
    exact ((Out.of_pure h (aSl_out (P := P) (w := w) t (hr x (by simp [Go.Op.operands])) (orel_map fun y e => hr y (by simp [Go.Op.operands, e])) (orel_map fun y e => hr y (by simp [Go.Op.operands, e])) (orel_map fun y e => hr y (by simp [Go.Op.operands, e])))).congr fun k => rfl).run (by simp only [Go.execOp, hop]; rfl)
  case fieldAddr t x n => exact ((Out.of_pure h (aFad_out t n (hr x (by simp [Go.Op.operands])))).congr fun k => rfl).run (by simp only [Go.execOp, hop]; rfl)
  case field t x n => exact ((Out.of_pure h (aFld_out t n (hr x (by simp [Go.Op.operands])))).congr fun k => rfl).run (by simp only [Go.execOp, hop]; rfl)
  case indexAddr t x i => exact ((Out.of_pure h (aIad_out t (hr x (by simp [Go.Op.operands])) (hr i (by simp [Go.Op.operands])))).congr fun k => rfl).run (by simp only [Go.execOp, hop]; rfl)
  case index t x i => exact ((Out.of_pure h (aIdx_out t (hr x (by simp [Go.Op.operands])) (hr i (by simp [Go.Op.operands])))).congr fun k => rfl).run (by simp only [Go.execOp, hop]; rfl)
  case lookup t x i ok => exact ((Out.of_pure h (aLook_out h t ok (hr x (by simp [Go.Op.operands])) (hr i (by simp [Go.Op.operands])))).congr fun k => rfl).run (by simp only [Go.execOp, hop]; rfl)
  case mapUpdate t m i x => exact (aMupd_out h t (hr m (by simp [Go.Op.operands])) (hr i (by simp [Go.Op.operands])) (hr x (by simp [Go.Op.operands]))).run (by simp only [Go.execOp, hop]; rfl)
  case insert t m i x => exact (aMupd_out h t (hr m (by simp [Go.Op.operands])) (hr i (by simp [Go.Op.operands])) (hr x (by simp [Go.Op.operands]))).run (by simp only [Go.execOp, hop]; rfl)
  case mapEntry t m i => exact (aMent_out h t (hr m (by simp [Go.Op.operands])) (hr i (by simp [Go.Op.operands]))).run (by simp only [Go.execOp, hop]; rfl)
  case entryStore t m i x => exact (mstK_out h t (hr m (by simp [Go.Op.operands])) (hr i (by simp [Go.Op.operands])) (hr x (by simp [Go.Op.operands]))).run (by simp only [Go.execOp, hop]; rfl)
  case range t x => exact (aRange_out h t (hr x (by simp [Go.Op.operands]))).run (by simp only [Go.execOp, hop]; rfl)
  case next x isS =>
    cases isS <;> first | (refine bad _ _ fun k => ?_; rfl) | skip
    exact ((nextK_out h o.type (hr x (by simp [Go.Op.operands]))).congr fun k => rfl).run (by simp only [Go.execOp, hop]; rfl)
  case extract x j => exact ((Out.of_pure h (extK_out (P := P) (w := w) j (hr x (by simp [Go.Op.operands])))).congr fun k => rfl).run (by simp only [Go.execOp, hop]; rfl)
  case call d => exact (aCall_out hc h d o.type hf (fun x hx => hr x (by simpa [Go.Op.operands] using hx))).run (by simp only [Go.execOp, hop])
end
end Viv

/-
  ONE OPERATION OF A REGION: guards, temporaries, what follows.
-/
namespace Viv
open Go (Value World IntKind Addr Program Act Exit Oper Operand Ending undef)

abbrev Rho := Nat → V
noncomputable def val (ρ : Rho) : Operand → V
  | .tmp t => ρ t
  | .const v => toV v
  | .func f => toFn f
  | .global _ => .bad
def putR (ρ : Rho) (dst : Option Nat) (v : V) : Rho :=
  match dst with
  | none => ρ
  | some d => fun t => if t = d then v else ρ t
/-- is the operation wanted: none: not known -/
def gB (b : Bool) : V → Option Bool
  | .tt => some b
  | .ff => some (!b)
  | .bad => none
  | _ => some false
def gA (ops : Array Oper) (o : Oper) (ρ : Rho) : Option Bool :=
  match o.guard with
  | none => some true
  | some (j, b) => match (ops[j]?).bind (·.dst) with
    | none => none
    | some d => gB b (ρ d)

/-- the temporaries are as the abstract ones say -/
structure Tied (β : Beta) (ρ : Rho) (n : Nat) (a : Act) : Prop where
  val : ∀ t, VRel β (ρ t) (a.tmps.getD t undef)
  size : n ≤ a.tmps.size
  defers : a.defers = []

section
variable {β : Beta} {P : Program} {s : St} {w : World}

theorem Tied.mono {β' : Beta} (hle : β.le β') {ρ : Rho} {n : Nat} {a : Act} (h : Tied β ρ n a) : Tied β' ρ n a := ⟨fun t => (h.val t).mono hle, h.size, h.defers⟩
theorem Tied.ext {ρ ρ' : Rho} {n : Nat} {a : Act} (h : Tied β ρ n a) (e : ∀ t, ρ' t = ρ t) : Tied β ρ' n a := ⟨fun t => by rw [e]; exact h.val t, h.size, h.defers⟩
theorem Tied.operand {ρ : Rho} {n : Nat} {a : Act} (h : Tied β ρ n a) (x : Operand) : VRel β (Viv.val ρ x) (a.eval x) := by
  cases x with
  | tmp t => exact h.val t
  | const v => exact toV_rel v
  | func f => exact toFn_rel f
  | global g => exact .bad _
theorem Tied.put {ρ : Rho} {n : Nat} {a : Act} (h : Tied β ρ n a) (dst : Option Nat) (hd : ∀ d, dst = some d → d < n) {v : V} {x : Value} (hv : VRel β v x) : Tied β (putR ρ dst v) n (a.put dst x) := by
  cases dst with
  | none => exact h
  | some d =>
    have hlt : d < a.tmps.size := Nat.lt_of_lt_of_le (hd d rfl) h.size
    refine ⟨fun t => ?_, by simp only [Act.put, Array.size_setIfInBounds]; exact h.size, h.defers⟩
    simp only [putR, Act.put]
    by_cases e : t = d
    · subst e; rw [if_pos rfl]
      simp [Array.getD_eq_getD_getElem?, hlt]; exact hv
    · rw [if_neg e]
      have := h.val t
      rw [Array.getD_eq_getD_getElem?] at this ⊢
      rw [Array.getElem?_setIfInBounds_ne (fun e' => e e'.symm)]; exact this

def isB : Value → Option Bool
  | .bool b => some b
  | _ => none
theorem gB_ok {m : V} {x : Value} {b g : Bool} (hm : VRel β m x) (hg : gB b m = some g) : (isB x == some b) = g := by
  cases b <;> cases hm <;> simp only [gB, Option.some.injEq, reduceCtorEq] at hg <;> subst hg <;> simp [isB]
theorem gA_ok {ρ : Rho} {n : Nat} {a : Act} (h : Tied β ρ n a) {ops : Array Oper} {o : Oper} {g : Bool} (hg : gA ops o ρ = some g) : Go.Region.wanted o (Go.yielded ops a.tmps) = g := by
  unfold gA at hg
  unfold Go.Region.wanted
  cases ho : o.guard with
  | none => rw [ho] at hg; cases hg; rfl
  | some jb =>
    obtain ⟨j, b⟩ := jb
    rw [ho] at hg
    simp only at hg ⊢
    have hy : Go.yielded ops a.tmps j = match (ops[j]?).bind (·.dst) with | none => none | some d => isB (a.tmps.getD d undef) := by
      unfold Go.yielded
      cases hd : (ops[j]?).bind (·.dst) with
      | none => rfl
      | some d =>
        simp only [Option.bind_some]
        rw [Array.getD_eq_getD_getElem?]
        cases ht : a.tmps[d]? with
        | none => rfl
        | some x => cases x <;> rfl
    rw [hy]
    cases hd : (ops[j]?).bind (·.dst) with
    | none => rw [hd] at hg; cases hg
    | some d =>
      rw [hd] at hg
      exact gB_ok (h.val d) hg

theorem upon_of_goes {o : Oper} {a : Act} {K : Act → World → Prop} {Q : Exit → Act → World → Prop} {R : Value → World → Prop} {sem : Go.Sem Go.Next} (hg : Goes P sem w R) (hk : ∀ x w', R x w' → K (a.put o.dst x) w') :
    o.upon P a K Q (sem.run P w) := by
  unfold Goes at hg
  cases hr : sem.run P w with
  | halt x w' => rw [hr] at hg; exact hg.elim
  | ok nx w' =>
    rw [hr] at hg
    cases nx <;> first | exact hg.elim | skip
    case value v => exact hk _ _ hg
    case skip => exact hk _ _ hg
    case enter f args =>
      refine Go.Calls.mono hg fun e w'' he => ?_
      obtain ⟨v, rfl, hR⟩ := he
      exact hk _ _ hR

theorem goes_some {R : Value → World → Prop} {sem : Go.Sem Go.Next} (hg : Goes P sem w R) : ∃ x w', R x w' := by
  unfold Goes at hg
  cases hr : sem.run P w with
  | halt x w' => rw [hr] at hg; exact hg.elim
  | ok nx w' =>
    rw [hr] at hg
    cases nx <;> first | exact hg.elim | exact ⟨_, _, hg⟩ | skip
    case enter f args =>
      obtain ⟨e, w2, fr, ⟨v, rfl, hR⟩, _⟩ := hg []
      exact ⟨v, w2, hR⟩

/-- what a step came to, whatever follows -/
structure StepOk (P : Program) (c : CF) (ops : Array Oper) (o : Oper) (ρ : Rho) (s : St) (v : V) (s' : St) : Prop where
  it : (gA ops o ρ = some true ∧ ∀ k, act P o.op c (val ρ) s k = k v s') ∨ (gA ops o ρ = some false ∧ v = .tup [] ∧ s' = s)

theorem uniq {g : K → RC} {v v' : V} {s s' : St} (h : ∀ k, g k = k v s) (h' : ∀ k, g k = k v' s') : v = v' ∧ s = s' := by
  have := (h (fun v s => .ret (.n .mt .mt v) s)).symm.trans (h' _)
  simp only [RC.ret.injEq, Tr.n.injEq, true_and] at this
  exact this
theorem not_fail {g : K → RC} {v : V} {s : St} (h : ∀ k, g k = k v s) {why : Nat} (h' : ∀ k, g k = .f why) : False := by
  have := (h (fun v s => .ret .mt s)).symm.trans (h' _)
  cases this

theorem StepOk.goes {c : CF} (hc : CFSound P c) {ops : Array Oper} {o : Oper} {ρ : Rho} {v : V} {s' : St} {n : Nat} {a : Act} (h : StepOk P c ops o ρ s v s') (hs : Sim β s w) (ht : Tied β ρ n a) :
    (Go.Region.wanted o (Go.yielded ops a.tmps) = true ∧ Goes P (Go.execOp a.eval o) w (After β s w v s')) ∨ (Go.Region.wanted o (Go.yielded ops a.tmps) = false ∧ v = .tup [] ∧ s' = s) := by
  rcases h.it with ⟨hg, hk⟩ | ⟨hg, hv, hs'⟩
  · refine .inl ⟨gA_ok ht hg, ?_⟩
    rcases act_out (P := P) hc hs o (ρ := val ρ) (ρ' := a.eval) (fun g => rfl) (fun x _ => ht.operand x) with ⟨why, hf⟩ | ⟨v2, s2, hk2, hgo⟩
    · exact (not_fail hk hf).elim
    · obtain ⟨rfl, rfl⟩ := uniq hk hk2
      exact hgo
  · exact .inr ⟨gA_ok ht hg, hv, hs'⟩

/-- a step of a region, carried out -/
theorem StepOk.wp {c : CF} (hc : CFSound P c) {ops : Array Oper} {i : Nat} {o : Oper} (hi : ops[i]? = some o) {ρ : Rho} {v : V} {s' : St} {n : Nat} {a : Act} (h : StepOk P c ops o ρ s v s') (hs : Sim β s w) (ht : Tied β ρ n a)
    (hd : ∀ d, o.dst = some d → d < n) {K : Act → World → Prop} {Q : Exit → Act → World → Prop}
    (hK : ∀ β' a' w', Sim β' s' w' → Post β s w β' s' w' → Tied β' (putR ρ o.dst v) n a' → K a' w') : Go.wpOp P ops Q i K a w := by
  unfold Go.wpOp
  rw [hi]
  simp only
  rcases h.goes hc hs ht with ⟨hw, hg⟩ | ⟨hw, rfl, rfl⟩
  · rw [if_pos hw]
    refine .inl (upon_of_goes hg fun x w' hx => ?_)
    obtain ⟨β', hv, hs', hp⟩ := hx
    exact hK β' _ w' hs' hp ((ht.mono hp.le).put o.dst hd hv)
  · rw [if_neg (by rw [hw]; exact Bool.false_ne_true)]
    exact hK β _ w hs (.refl β _ w) (ht.put o.dst hd undef_rel)
end
end Viv
