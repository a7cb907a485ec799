/-
  PACKAGE kernel, over a world in a state: symbols, texts, numbers, classes.
-/
import Derived.Test.YtfppefhcmmfgcaaGreatGk
import Derived.Test.YtfppefhcmmfgcaaGreatGa
set_option maxRecDepth 100000
namespace Viv
open Go (Value World IntKind Addr Program Act Exit Oper Operand Ending undef)
open Go.Proofs

/-! ### more equations -/
section
variable (t : List V) (e : Env) (s : St) (z : List V) (k : List V → RC) (kv : KV)
@[simp] theorem partsV_n : partsV [] t e z k = k z := rfl
noncomputable def kpv (i n : Nat) (ps : List (Nat × Nat × Opd)) (t : List V) (e : Env) (z : List V) (k : List V → RC) : List V → RC := fun l => if l.length = n ∧ i + l.length ≤ z.length then partsV ps t e (lsetMany l i z) k else fl
@[simp ↓] theorem kpv_a (i n : Nat) (ps : List (Nat × Nat × Opd)) (l : List V) : kpv i n ps t e z k l = if l.length = n ∧ i + l.length ≤ z.length then partsV ps t e (lsetMany l i z) k else fl := rfl
@[simp] theorem partsV_c (i n : Nat) (x : Opd) (ps : List (Nat × Nat × Opd)) : partsV ((i, n, x) :: ps) t e z k = cellsK (x t e) (kpv i n ps t e z k) := by
  show cellsK (x t e) (fun l => Bool.rec fl (partsV ps t e (lsetMany l i z) k) (Bool.rec false (Nat.ble (i + len l) (len z)) (Nat.beq (len l) n))) = _
  congr 1; funext l
  unfold kpv
  rw [beqRec, len_eq, len_eq]
  by_cases h1 : l.length = n
  · rw [if_pos h1]
    by_cases h2 : i + l.length ≤ z.length
    · rw [Nat.ble_eq_true_of_le h2, if_pos ⟨h1, h2⟩]
    · have : Nat.ble (i + l.length) z.length = false := by cases hb : Nat.ble (i + l.length) z.length with
        | false => rfl
        | true => exact absurd (Nat.le_of_ble_eq_true hb) h2
      rw [this, if_neg (fun h => h2 h.2)]
  · rw [if_neg h1, if_neg (fun h => h1 h.1)]
@[simp] theorem repL_0 : repL 0 z = [] := rfl
@[simp] theorem repL_s (n : Nat) : repL (n + 1) z = z ++ repL n z := by
  show appL z (repL n z) = _
  rw [appL_eq]
@[simp] theorem lset_0 (v a : V) : lset v 0 (a :: z) = v :: z := rfl
@[simp] theorem lset_s (v a : V) (n : Nat) : lset v (n + 1) (a :: z) = a :: lset v n z := rfl
attribute [simp] lsetMany_nil lsetMany_cons len_eq
@[simp] theorem cellsK_p (n : Nat) : cellsK (.p n) k = k [.p n] := rfl
@[simp] theorem cellsK_by (n : Nat) : cellsK (.by n) k = k [.by n] := rfl
@[simp] theorem cellsK_nils : cellsK .nils k = k [.nils] := rfl
@[simp] theorem cellsK_slc (i : Pth) (a b c d : Nat) (x : Bool) : cellsK (.slc i a b x c d) k = k [.slc i a b x c d] := rfl
@[simp] theorem cellsK_ptr (i : Pth) (a : Nat) : cellsK (.ptr i a) k = k [.ptr i a] := rfl
@[simp] theorem conv0_by (n : Nat) : conv0K (.by n) kv = kv (.p n) := rfl
@[simp] theorem conv1_p (n : Nat) : conv1K (.p n) kv = kv (.by (n % 256)) := rfl
end
/-- a string's byte -/
def byteAt (x i : Nat) : Nat := (x >>> (8 * i)) % 256
theorem byteAt_lt (x i : Nat) : byteAt x i < 256 := Nat.mod_lt _ (by omega)
theorem idx_str {l x i : Nat} (h : i < l) (kv : KV) : idxK (.str l x) (.p i) kv = kv (.by (byteAt x i)) := by
  show (Bool.rec fl (kv (.by ((x >>> (8 * i)) % 256))) (Nat.ble (i + 1) l) : RC) = _
  rw [bleRec, if_pos (show i + 1 ≤ l from h)]; rfl
/-- the bytes of a string, as numbers -/
def bytesL (l x : Nat) : List Int := (List.range l).map fun i => ((byteAt x i : Nat) : Int)
theorem bytesL_len (l x : Nat) : (bytesL l x).length = l := by simp [bytesL]
theorem bytesL_succ (l x : Nat) : bytesL (l + 1) x = bytesL l x ++ [((byteAt x l : Nat) : Int)] := by simp [bytesL, List.range_succ]
theorem bytesL_get (l x : Nat) {i : Nat} (h : i < l) : (bytesL l x).getD i 0 = byteAt x i := by
  rw [List.getD_eq_getElem?_getD]; simp [bytesL, h]
theorem bytesL_fit (l x : Nat) (t : NT Bool) : ∀ y ∈ bytesL l x, fitW t 2 y = true := by
  intro y hy
  simp only [bytesL, List.mem_map] at hy
  obtain ⟨i, _, rfl⟩ := hy
  have := byteAt_lt x i
  unfold fitW
  rw [if_neg (by omega), if_pos rfl]
  simp; omega
/-- a slice of numbers that grows is a slice of numbers -/
theorem Vc.sl {L : Lay} {s : St} {v : V} {n : Nat} {xs : List Int} (h : Vc s 1 v n (xs.map vI)) (hx : ∀ i, v.ref i → i ≠ L.q ∧ ¬ L.of i) : Sl L s v xs := by
  have hr := h.rd
  generalize hm : xs.map vI = ys at h hr
  cases h with
  | nils =>
    have : xs = [] := by cases xs with
      | nil => rfl
      | cons a b => cases hm
    subst this; exact .nils
  | vec id d t z n c _ h1 h2 h3 h4 h5 h6 =>
    subst hm
    have hn : n = xs.length := by simpa using h5.symm
    subst hn
    refine .slc id 0 false c xs h3 (hx id rfl).1 (hx id rfl).2 fun j hj => ?_
    have := hr id rfl j (by simpa using hj)
    rw [Nat.zero_add, this]; simp

/-! ### Known, small, get -/
theorem g96 : pget .no q96 FW = .sp sp_get := by kernel_rfl
theorem g104 : pget .no q104 FW = .sp sp_small := by kernel_rfl
theorem g86 : pget .no q86 FW = .fn A86 := by kernel_rfl
theorem g100 : pget .no q100 FW = .fn A100 := by kernel_rfl
noncomputable def Cont.kn (C : Cont) (i : Nat) : Int := C.rt.getD (2 + i) 0
theorem nth_rt {l : List Int} {j : Nat} (h : j < l.length) : nth j (l.map vI) = vI (l.getD j 0) := by
  rw [nth_eq]; simp [List.getElem?_eq_getElem h]
section
variable {L : Lay} {C : Cont} {s : St}
theorem known_k (n : Nat) (hA : At L C s) (hr : C.rt.length = 18) {i : Nat} (hi : i < 16) (k : K) : callK FW (n + 1) q40 [.ptr L.q 0, .p i] s k = k (vI (C.kn i)) s := by
  rw [callK_fn g40]
  have ha : ∀ kv, addK (.p 2) (.p i) kv = kv (.p (2 + i)) := fun kv => by rw [addK_pp, chkP_ok (by omega)]
  have hia : ∀ kv, iadK (.slc L.rt 0 18 true 18 1) (.p (2 + i)) 1 kv = kv (.ptr L.rt (2 + i)) := fun kv => by rw [iadK_slc kv (by omega), Nat.mul_one, Nat.zero_add]
  have hn := nth_rt (l := C.rt) (j := 2 + i) (by omega)
  simp -implicitDefEqProofs [A40, hA.q, hA.rt, ha, hia, hn, hi, Cont.kn]
theorem get_k (n : Nat) (hA : At L C s) (hok : C.Ok) (o i : Int) (k : K) : callK FW (n + 2) q100 [.ptr L.q 0, vI o, vI i] s k = k (vI (C.get o i)) s := by
  have hg : ∀ k, callK FW (n + 1) q96 [.ptr L.mem 0, vI o, vI i] s k = k (.tup [vI (C.get o i), .p (C.getE o i)]) s := fun k => by rw [callK_sp g96]; exact get_at hA hok k o i
  rw [callK_fn g100]
  simp -implicitDefEqProofs [A100, hA.q, hg]
theorem small_k (n : Nat) {x : Int} (h1 : -1073741824 ≤ x) (h2 : x ≤ 1073741823) (k : K) : callK FW (n + 2) q86 [vI x] s k = k (vI (2 * x + 1)) s := by
  have hg : ∀ k, callK FW (n + 1) q104 [vI x] s k = k (.tup [vI (2 * x + 1), .tt]) s := fun k => by
    rw [callK_sp g104]
    unfold sp_small i1
    rw [show hd [vI x] = vI x from rfl, asInt_vI]
    have e1 : iLt 1073741823 x = false := by rw [iLt_eq]; exact decide_eq_false (by omega)
    have e2 : iLt x (-1073741824) = false := by rw [iLt_eq]; exact decide_eq_false (by omega)
    show k (Bool.rec (Bool.rec _ _ (iLt 1073741823 x)) _ (iLt x (-1073741824))) s = _
    rw [e1, e2]
  rw [callK_fn g86]
  simp -implicitDefEqProofs [A86, hg]
/-! ### push, bytes -/
/-- two words in a new array -/
theorem push_k (n : Nat) (hA : At L C s) (hok : C.Ok) (hr : C.rt.length = 18) (hc : isW C.t (C.kn 9) = true) (x l : Int) :
    (C.N < C.e + 5 ∧ ∃ s', (∀ k, callK FW (n + 3) q88 [.ptr L.q 0, vI x, vI l] s k = k (.tup [.p 0, .p 4]) s') ∧ At L C s' ∧ Keep L.of s s') ∨
    (C.e + 5 ≤ C.N ∧ ∃ s', (∀ k, callK FW (n + 3) q88 [.ptr L.q 0, vI x, vI l] s k = k (.tup [.p (2 * C.e), .p 0]) s') ∧ At L (C.obj1 (C.kn 9) 0 [x, l]) s' ∧ (C.obj1 (C.kn 9) 0 [x, l]).Ok ∧ Keep L.of s s') := by
  have hk := fun k => known_k (n + 1) hA hr (i := 9) (by omega) k
  have hA1 := hA.push (mkVec [vI x, vI l])
  have hsl : Sl L (s.push (mkVec [vI x, vI l])) (.slc s.next 0 2 true 2 1) [x, l] := by
    refine .slc s.next 0 true 2 [x, l] (by rw [St.num_push]; omega) (fun e => by have := hA.oq; rw [← e] at this; omega) (fun e => ?_) fun j hj => ?_
    · rcases e with e | e | e | e | e
      · have := hA.omem; rw [← e] at this; omega
      · have := hA.opl; rw [← e] at this; omega
      · have := hA.ort; rw [← e] at this; omega
      · have := hA.osy; rw [← e] at this; omega
      · have := hA.ocl; rw [← e] at this; omega
    · rw [St.get_push, if_pos rfl, mkVec_rd _ _ (by simpa using hj), Nat.zero_add]
      match j, hj with
      | 0, _ => rfl
      | 1, _ => rfl
  have hcls : clsW C.t (C.kn 9) = true := by unfold clsW; rw [hc]; cases iEq (C.kn 9) 0 <;> rfl
  have hkp : Keep L.of s (s.push (mkVec [vI x, vI l])) := Keep.push _ _ _
  rcases make_k n hA1 hok hsl hcls (f := 0) (by omega) (by simp) with ⟨h1, hm⟩ | ⟨h1, s', hm, hA2, hok2, hk2⟩
  · refine .inl ⟨by simpa using h1, _, fun k => ?_, hA1, hkp⟩
    rw [callK_fn g88]
    simp -implicitDefEqProofs [A88, hk, hm]
  · refine .inr ⟨by simpa using h1, s', fun k => ?_, hA2, hok2, hkp.trans hk2⟩
    rw [callK_fn g88]
    simp -implicitDefEqProofs [A88, hk, hm]
theorem Lay.new_ne (hA : At L C s) {i : Pth} (hi : num s.next ≤ num i) : i ≠ L.q ∧ ¬ L.of i := by
  refine ⟨fun e => by have := hA.oq; rw [← e] at this; omega, fun e => ?_⟩
  rcases e with e | e | e | e | e
  · have := hA.omem; rw [← e] at this; omega
  · have := hA.opl; rw [← e] at this; omega
  · have := hA.ort; rw [← e] at this; omega
  · have := hA.osy; rw [← e] at this; omega
  · have := hA.ocl; rw [← e] at this; omega
theorem loop89 (n : Nat) {l x : Nat} (hl : l ≤ 256) {s0 : St} (hA0 : At L C s0) : ∀ (m i : Nat) (v : V) (e : Env) (s : St) (fuel : Nat), i + m = l → m < fuel → Keep (fun _ => False) s0 s → Vc s 1 v i ((bytesL i x).map vI) → (∀ j, v.ref j → num s0.next ≤ num j) →
    Has e [(q0, .p i), (q3, .p l), (q1, .str l x), (q2, v), (q5, .ptr L.q 0)] → ∀ y, pget .bad q6 e = y →
    ∃ e' s' v', loopK (execK (callK FW n) B89x0) fuel e s = .exit 0 e' s' ∧ Has e' [(q2, v'), (q5, .ptr L.q 0), (q6, y)] ∧ Vc s' 1 v' l ((bytesL l x).map vI) ∧ (∀ j, v'.ref j → num s0.next ≤ num j) ∧ Keep (fun _ => False) s0 s'
  | 0, i, v, e, s, fuel + 1, hi, _, hk, hv, hr, he, y, hy => by
    have hi : i = l := by omega
    subst hi
    simp at he
    simp only [q6, q2, q0] at hy
    have hs : ∃ e', execK (callK FW n) B89x0 e s = .exit 0 e' s ∧ Has e' [(q2, v), (q5, .ptr L.q 0), (q6, y)] := by
      refine ⟨?_, ?_, ?_⟩
      rotate_left
      · simp only [B89x0]
        simp -implicitDefEqProofs [he]
        rfl
      · simp -implicitDefEqProofs [he, hy]
    obtain ⟨e', hs, h4'⟩ := hs
    exact ⟨e', s, v, loop_exit hs, h4', hv, hr, hk⟩
  | m + 1, i, v, e, s, fuel + 1, hi, hf, hk, hv, hr, he, y, hy => by
    have hlt : i < l := by omega
    simp at he
    simp only [q6, q2, q0] at hy
    have hb := byteAt_lt x i
    have hv1 : Vc (s.push (mkVec [.p (byteAt x i)])) 1 v i ((bytesL i x).map vI) := hv.keep (Keep.push (fun _ => False) s _) (fun _ _ h => h)
    obtain ⟨v', s', ha, hv', hk', hr'⟩ := hv1.appK (m := 1) (l := [.p (byteAt x i)]) (by omega) rfl (by omega) (by omega) (fun k => newCells_new (s := s.push (mkVec [.p (byteAt x i)])) (j := s.next) (by rw [St.get_push, if_pos rfl]) rfl k)
    have hs : ∃ e', execK (callK FW n) B89x0 e s = .norm e' s' ∧ Has e' [(q0, .p (i + 1)), (q3, .p l), (q1, .str l x), (q2, v'), (q5, .ptr L.q 0)] ∧ pget .bad q6 e' = y := by
      have had : ∀ kv, addK (.p i) (.p 1) kv = kv (.p (i + 1)) := fun kv => by rw [addK_pp, chkP_ok (by omega)]
      have hix := fun kv => idx_str (x := x) hlt kv
      refine ⟨?_, ?_, ?_, ?_⟩
      rotate_left
      · simp only [B89x0]
        simp -implicitDefEqProofs [he, hlt, hix, ha, had]
        rfl
      · simp -implicitDefEqProofs [he]
      · simp [hy]
    obtain ⟨e1, hs, he1, hy1⟩ := hs
    have hk1 : Keep (fun _ => False) s0 s' := ⟨by have := hk.next; have := hk'.next; rw [St.num_push] at this; omega, fun j hj _ => by
      rw [hk'.same j (by rw [St.num_push]; have := hk.next; omega) (fun hx => absurd (hr j hx) (by omega)), St.get_push, if_neg (fun e => by have := hk.next; subst e; omega)]
      exact hk.same j hj (fun h => h)⟩
    have hb2 : (bytesL (i + 1) x).map vI = (bytesL i x).map vI ++ [.p (byteAt x i)] := by rw [bytesL_succ]; simp
    obtain ⟨e2, s2, v2, r1, r2⟩ := loop89 n hl hA0 m (i + 1) v' e1 s' fuel (by omega) (by omega) hk1 (by rw [hb2]; exact hv') (fun j hj => by
      rcases hr' j hj with h | h
      · exact hr j h
      · rw [St.num_push] at h; have := hk.next; omega) he1 y hy1
    exact ⟨e2, s2, v2, by rw [loop_norm hs]; exact r1, r2⟩
/-- a new object of bytes -/
theorem bytes_k (n : Nat) (hA : At L C s) (hok : C.Ok) {c : Int} (hc : clsW C.t c = true) {l x : Nat} (hl : l ≤ 256) :
    (C.N < C.e + l + 3 ∧ ∃ s', (∀ k, callK FW (n + 3) q89 [.ptr L.q 0, vI c, .str l x] s k = k (.tup [.p 0, .p 4]) s') ∧ At L C s' ∧ Keep L.of s s') ∨
    (C.e + l + 3 ≤ C.N ∧ ∃ s', (∀ k, callK FW (n + 3) q89 [.ptr L.q 0, vI c, .str l x] s k = k (.tup [.p (2 * C.e), .p 0]) s') ∧ At L (C.obj1 c 2 (bytesL l x)) s' ∧ (C.obj1 c 2 (bytesL l x)).Ok ∧ Keep L.of s s') := by
  obtain ⟨E, hpre, hE, hy⟩ : ∃ E, (∀ k, callK FW (n + 3) q89 [.ptr L.q 0, vI c, .str l x] s k = finK (seqK (blockK 0 (loopK (execK (callK FW (n + 2)) B89x0) 100000 E s)) (execK (callK FW (n + 2)) R89x0)) A89.results k) ∧
      Has E [(q0, .p 0), (q3, .p l), (q1, .str l x), (q2, .nils), (q5, .ptr L.q 0)] ∧ pget .bad q6 E = vI c := by
    refine ⟨?_, fun k => ?_, ?_, ?_⟩
    rotate_left
    · rw [callK_fn g89, A89_l]
      simp -implicitDefEqProofs [execK_loop]
      rfl
    · simp
    · simp
  obtain ⟨e', s', v', r1, r2, r3, r4, r5⟩ := loop89 (n + 2) hl hA l 0 .nils E s 100000 (by omega) (by omega) (Keep.refl _ s) .nils (fun j h => h.elim) hE (vI c) hy
  have hA1 := hA.keep r5 (fun _ h => h.elim)
  have hk1 : Keep L.of s s' := r5.mono fun _ _ h => h.elim
  have hsl : Sl L s' v' (bytesL l x) := r3.sl fun j hj => Lay.new_ne hA (r4 j hj)
  simp at r2
  have hlen := bytesL_len l x
  rcases make_k n hA1 hok hsl hc (f := 2) (by omega) (by omega) with ⟨h1, hm⟩ | ⟨h1, s2, hm, hA2, hok2, hk2⟩
  · refine .inl ⟨by omega, s', fun k => ?_, hA1, hk1⟩
    rw [hpre, r1]
    simp -implicitDefEqProofs [A89, R89x0, r2, hm]
  · refine .inr ⟨by omega, s2, fun k => ?_, hA2, hok2, hk1.trans hk2⟩
    rw [hpre, r1]
    simp -implicitDefEqProofs [A89, R89x0, r2, hm]
end
end Viv
