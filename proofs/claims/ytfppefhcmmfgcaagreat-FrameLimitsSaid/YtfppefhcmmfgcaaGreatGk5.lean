/-
  PACKAGE kernel, over a world in a state: strings, numbers, the class of a word.
-/
import Derived.Test.YtfppefhcmmfgcaaGreatGk4
set_option maxRecDepth 100000
namespace Viv
open Go (Value World IntKind Addr Program Act Exit Oper Operand Ending undef)
open Go.Proofs

theorem g30 : pget .no q30 FW = .fn A30 := by kernel_rfl
theorem g31 : pget .no q31 FW = .sp sp_may := by kernel_rfl
theorem g39 : pget .no q39 FW = .fn A39 := by kernel_rfl
theorem g42 : pget .no q42 FW = .fn A42 := by kernel_rfl
theorem g43 : pget .no q43 FW = .fn A43 := by kernel_rfl
theorem g91 : pget .no q91 FW = .sp sp_isSmall := by kernel_rfl
theorem g106 : pget .no q106 FW = .sp sp_value := by kernel_rfl
theorem g24 : pget .no q24 FW = .fn A24 := by kernel_rfl
@[simp] theorem eqBo_1 (kv : KV) : eqBo .tt .tt kv = kv .tt := rfl
@[simp] theorem eqBo_2 (kv : KV) : eqBo .tt .ff kv = kv .ff := rfl
@[simp] theorem eqBo_3 (kv : KV) : eqBo .ff .tt kv = kv .ff := rfl
@[simp] theorem eqBo_4 (kv : KV) : eqBo .ff .ff kv = kv .tt := rfl
@[simp] theorem okK_nil2 (kv : KV) : okK .nilp kv = kv .nilp := rfl
@[simp] theorem eqNp_p2 (id : Pth) (o : Nat) (kv : KV) : eqNp (.ptr id o) .nilp kv = kv .ff := rfl
theorem clsW_of_isW {t : NT Bool} {o : Int} (h : isW t o = true) : clsW t o = true := by unfold clsW; rw [h]; cases iEq o 0 <;> rfl
section
variable {L : Lay} {C : Cont} {s : St}
theorem memory_k (n : Nat) (hA : At L C s) (k : K) : callK FW (n + 1) q30 [.ptr L.q 0] s k = k (.ptr L.mem 0) s := by
  rw [callK_fn g30]
  simp -implicitDefEqProofs [A30, hA.q]
theorem may_k (n : Nat) (hA : At L C s) (o : Int) (k : K) : callK FW (n + 1) q31 [.ptr L.mem 0, vI o] s k = k (B (mayW C.t o)) s := by rw [callK_sp g31]; exact may_at hA k o
theorem isSmall_k (n : Nat) (x : Int) (k : K) : callK FW (n + 1) q91 [vI x] s k = k (B (isSmallW x)) s := by
  rw [callK_sp g91]
  show asInt (vI x) _ = _
  rw [asInt_vI]
theorem value_w (n : Nat) {x : Int} (h : isSmallW x = true) (k : K) : callK FW (n + 1) q106 [vI x] s k = k (vI (x / 2)) s := by
  rw [callK_sp g106]
  show asInt (vI x) _ = _
  rw [asInt_vI]
  show k (Bool.rec (V.p 0) (vI (x / 2)) (isSmallW x)) s = _
  rw [h]
/-- the class of a word -/
noncomputable def Cont.clsOf (C : Cont) (x : Int) : Int := if isW C.t x then C.cls x else if isSmallW x then C.kn 7 else if x = 0 then C.kn 2 else if x = 2 then C.kn 4 else if x = 4 then C.kn 5 else 0
theorem classOf_k (n : Nat) (hA : At L C s) (h : Wo C) (x : Int) (k : K) : callK FW (n + 2) q39 [.ptr L.q 0, vI x] s k = k (vI (C.clsOf x)) s := by
  have h1 := fun k => is_k n hA x k
  have h2 := fun k => klass_k n hA h.ok x k
  have h3 := fun k => isSmall_k (s := s) n x k
  have k7 := fun k => known_k n hA h.rl (i := 7) (by omega) k
  have k2 := fun k => known_k n hA h.rl (i := 2) (by omega) k
  have k4 := fun k => known_k n hA h.rl (i := 4) (by omega) k
  have k5 := fun k => known_k n hA h.rl (i := 5) (by omega) k
  rw [callK_fn g39]
  unfold Cont.clsOf
  cases hi : isW C.t x with
  | true => rw [hi] at h1; simp -implicitDefEqProofs [A39, hA.q, h1, h2]
  | false =>
    rw [hi] at h1
    cases hs : isSmallW x with
    | true => rw [hs] at h3; simp -implicitDefEqProofs [A39, hA.q, h1, h3, k7]
    | false =>
      rw [hs] at h3
      have e : ∀ (m : Nat) (kv : KV), eq0 (vI x) (.p m) kv = kv (if x = m then .tt else .ff) := fun m kv => by
        rw [eq0_vp]; by_cases hx : x = m <;> simp [hx]
      by_cases x0 : x = 0
      · have e0 : ∀ kv, eq0 (vI x) (.p 0) kv = kv .tt := fun kv => by rw [e 0, if_pos (by simpa using x0)]
        simp -implicitDefEqProofs [A39, hA.q, h1, h3, k2, e0, -eq0_vp]
        rw [if_pos x0]
      · have e0 : ∀ kv, eq0 (vI x) (.p 0) kv = kv .ff := fun kv => by rw [e 0, if_neg (by simpa using x0)]
        by_cases x2 : x = 2
        · have e2 : ∀ kv, eq0 (vI x) (.p 2) kv = kv .tt := fun kv => by rw [e 2, if_pos (by simpa using x2)]
          simp -implicitDefEqProofs [A39, hA.q, h1, h3, k4, e0, e2, -eq0_vp]
          rw [if_neg x0, if_pos x2]
        · have e2 : ∀ kv, eq0 (vI x) (.p 2) kv = kv .ff := fun kv => by rw [e 2, if_neg (by simpa using x2)]
          by_cases x4 : x = 4
          · have e4 : ∀ kv, eq0 (vI x) (.p 4) kv = kv .tt := fun kv => by rw [e 4, if_pos (by simpa using x4)]
            simp -implicitDefEqProofs [A39, hA.q, h1, h3, k5, e0, e2, e4, -eq0_vp]
            rw [if_neg x0, if_neg x2, if_pos x4]
          · have e4 : ∀ kv, eq0 (vI x) (.p 4) kv = kv .ff := fun kv => by rw [e 4, if_neg (by simpa using x4)]
            simp -implicitDefEqProofs [A39, hA.q, h1, h3, e0, e2, e4, -eq0_vp]
            rw [if_neg x0, if_neg x2, if_neg x4]; rfl
theorem isW_ne0 (hok : C.Ok) {x : Int} (h : isW C.t x = true) : x ≠ 0 := by
  obtain ⟨a, rfl, hp⟩ := (hok.isW_iff x).1 h
  obtain ⟨h3, _⟩ := hok.obj a hp
  omega
/-- what may stand has a class, and nothing else -/
theorem clsOf_may (h : Wo C) (x : Int) : (mayW C.t x = true ∧ isW C.t (C.clsOf x) = true ∧ C.clsOf x ≠ 0) ∨ (mayW C.t x = false ∧ C.clsOf x = 0) := by
  unfold mayW Cont.clsOf
  rw [iEq_eq, iEq_eq, iEq_eq]
  have fin : ∀ {y : Int}, isW C.t y = true → isW C.t y = true ∧ y ≠ 0 := fun hy => ⟨hy, isW_ne0 h.ok hy⟩
  cases hi : isW C.t x with
  | true =>
    left
    refine ⟨by cases isSmallW x <;> cases decide (x = 4) <;> cases decide (x = 2) <;> cases decide (x = 0) <;> rfl, ?_⟩
    rw [if_pos rfl]
    rcases h.ok.ad_cases x with ⟨h0, _⟩ | ⟨a, _, hp, _, hd⟩
    · rw [hi] at h0; cases h0
    · unfold Cont.cls; rw [hd]; exact fin (h.co a hp)
  | false =>
    rw [if_neg (by simp)]
    cases hs : isSmallW x with
    | true =>
      left
      refine ⟨by cases decide (x = 4) <;> cases decide (x = 2) <;> cases decide (x = 0) <;> rfl, ?_⟩
      rw [if_pos rfl]; exact fin (h.kn 7 (by omega))
    | false =>
      rw [if_neg (by simp)]
      by_cases x0 : x = 0
      · left; subst x0; rw [if_pos rfl]; exact ⟨rfl, fin (h.kn 2 (by omega))⟩
      · rw [if_neg x0, decide_eq_false x0]
        by_cases x2 : x = 2
        · left; subst x2; rw [if_pos rfl]; exact ⟨rfl, fin (h.kn 4 (by omega))⟩
        · rw [if_neg x2, decide_eq_false x2]
          by_cases x4 : x = 4
          · left; subst x4; rw [if_pos rfl]; exact ⟨rfl, fin (h.kn 5 (by omega))⟩
          · right; rw [if_neg x4, decide_eq_false x4]; exact ⟨rfl, rfl⟩
/-! ### String -/
theorem string_k (n : Nat) (hA : At L C s) (h : Wo C) (l x : Nat) :
    (250 < l ∧ ∀ k, callK FW (n + 4) q37 [.ptr L.q 0, .str l x] s k = k (.tup [.p 0, .p 1]) s) ∨
    (l ≤ 250 ∧ C.N < C.e + l + 3 ∧ ∃ s', (∀ k, callK FW (n + 4) q37 [.ptr L.q 0, .str l x] s k = k (.tup [.p 0, .p 4]) s') ∧ At L C s' ∧ Keep L.of s s') ∨
    (l ≤ 250 ∧ C.e + l + 3 ≤ C.N ∧ ∃ s', (∀ k, callK FW (n + 4) q37 [.ptr L.q 0, .str l x] s k = k (.tup [.p (2 * C.e), .p 0]) s') ∧ At L (C.obj1 (C.kn 10) 2 (bytesL l x)) s' ∧ Wo (C.obj1 (C.kn 10) 2 (bytesL l x)) ∧ Ext C (C.obj1 (C.kn 10) 2 (bytesL l x)) ∧ TextAt (C.obj1 (C.kn 10) 2 (bytesL l x)) ((2 * C.e : Nat) : Int) (C.kn 10) l x ∧ Keep L.of s s') := by
  have k10 := fun k => known_k (n + 2) hA h.rl (i := 10) (by omega) k
  have hlen := bytesL_len l x
  by_cases hl : 250 < l
  · refine .inl ⟨hl, fun k => ?_⟩
    rw [callK_fn g37]
    simp -implicitDefEqProofs [A37, hl]
  · rcases bytes_k n hA h.ok (clsW_of_isW (h.kn 10 (by omega))) (l := l) (x := x) (by omega) with ⟨h3, s', hb, hA1, hk⟩ | ⟨h3, s', hb, hA1, hok1, hk⟩
    · refine .inr (.inl ⟨by omega, h3, s', fun k => ?_, hA1, hk⟩)
      rw [callK_fn g37]
      simp -implicitDefEqProofs [A37, hl, k10, hb]
    · have hn1 : C.e + (bytesL l x).length + 3 ≤ C.N := by omega
      obtain ⟨a1, a2, a3, a4, a5, a6, a7⟩ := obj1_base h.ok (C.kn 10) (f := 2) hn1 (by omega) (by omega)
      have ag := obj1_get h.ok (C.kn 10) (f := 2) hn1 (by omega) (by omega) (bytesL_fit l x _)
      refine .inr (.inr ⟨by omega, h3, s', fun k => ?_, hA1, h.obj1 (h.kn 10 (by omega)) hn1 (by omega) (by omega), a1, ⟨by rw [a4]; have := h.ok.e3; omega, a5, a6, by rw [a7, hlen], fun i hi => by rw [ag i (by omega), bytesL_get l x hi]⟩, hk⟩)
      rw [callK_fn g37]
      simp -implicitDefEqProofs [A37, hl, k10, hb]
/-! ### numbers -/
theorem sl_one (hA : At L C s) (x : Int) : At L C (s.push (mkVec [vI x])) ∧ Sl L (s.push (mkVec [vI x])) (.slc s.next 0 1 true 1 1) [x] ∧ Keep L.of s (s.push (mkVec [vI x])) := by
  have hne := Lay.new_ne hA (i := s.next) (Nat.le_refl _)
  refine ⟨hA.push _, .slc s.next 0 true 1 [x] (by rw [St.num_push]; omega) hne.1 hne.2 fun j hj => ?_, Keep.push _ _ _⟩
  rw [St.get_push, if_pos rfl, mkVec_rd _ _ (by simpa using hj), Nat.zero_add]
  match j, hj with
  | 0, _ => rfl
theorem number_k (n : Nat) (hA : At L C s) (h : Wo C) (x : Int) :
    ((x < -1152921504606846976 ∨ 1152921504606846976 < x) ∧ ∀ k, callK FW (n + 3) q42 [.ptr L.q 0, vI x] s k = k (.tup [.p 0, .p 2]) s) ∨
    (-1073741824 ≤ x ∧ x ≤ 1073741823 ∧ ∀ k, callK FW (n + 3) q42 [.ptr L.q 0, vI x] s k = k (.tup [vI (2 * x + 1), .p 0]) s) ∨
    (-1152921504606846976 ≤ x ∧ x ≤ 1152921504606846976 ∧ (x < -1073741824 ∨ 1073741823 < x) ∧ ((C.N < C.e + 4 ∧ ∃ s', (∀ k, callK FW (n + 3) q42 [.ptr L.q 0, vI x] s k = k (.tup [.p 0, .p 4]) s') ∧ At L C s' ∧ Keep L.of s s') ∨
      (C.e + 4 ≤ C.N ∧ ∃ s', (∀ k, callK FW (n + 3) q42 [.ptr L.q 0, vI x] s k = k (.tup [.p (2 * C.e), .p 0]) s') ∧ At L (C.obj1 (C.kn 8) 1 [x]) s' ∧ Keep L.of s s'))) := by
  by_cases h1 : x < -1152921504606846976
  · refine .inl ⟨.inl h1, fun k => ?_⟩
    have h1' : x < -1152921504606846976 := by omega
    rw [callK_fn g42]
    simp -implicitDefEqProofs [A42, Int.negSucc_eq, h1']
  by_cases h2 : 1152921504606846976 < x
  · refine .inl ⟨.inr h2, fun k => ?_⟩
    have h1' : ¬ x < -1152921504606846976 := by omega
    rw [callK_fn g42]
    simp -implicitDefEqProofs [A42, Int.negSucc_eq, h1', h2]
  have h1' : ¬ x < -1152921504606846976 := by omega
  by_cases h3 : -1073741824 ≤ x ∧ x ≤ 1073741823
  · refine .inr (.inl ⟨h3.1, h3.2, fun k => ?_⟩)
    have hg : ∀ k, callK FW (n + 2) q104 [vI x] s k = k (.tup [vI (2 * x + 1), .tt]) s := fun k => by
      rw [callK_sp g104]
      unfold sp_small i1
      rw [show hd [vI x] = vI x from rfl, asInt_vI]
      have e1 : iLt 1073741823 x = false := by rw [iLt_eq]; exact decide_eq_false (by omega)
      have e2 : iLt x (-1073741824) = false := by rw [iLt_eq]; exact decide_eq_false (by omega)
      show k (Bool.rec (Bool.rec _ _ (iLt 1073741823 x)) _ (iLt x (-1073741824))) s = _
      rw [e1, e2]
    rw [callK_fn g42]
    simp -implicitDefEqProofs [A42, Int.negSucc_eq, h1', h2, hg]
  · have hg : ∀ k, callK FW (n + 2) q104 [vI x] s k = k (.tup [.p 0, .ff]) s := fun k => by
      rw [callK_sp g104]
      unfold sp_small i1
      rw [show hd [vI x] = vI x from rfl, asInt_vI]
      show k (Bool.rec (Bool.rec _ _ (iLt 1073741823 x)) _ (iLt x (-1073741824))) s = _
      rw [iLt_eq, iLt_eq]
      by_cases e2 : x < -1073741824
      · rw [decide_eq_true e2]
      · rw [decide_eq_false e2, decide_eq_true (show 1073741823 < x by omega)]
    have k8 := fun k => known_k (n + 1) hA h.rl (i := 8) (by omega) k
    obtain ⟨hA1, hsl, hkp⟩ := sl_one hA x
    refine .inr (.inr ⟨by omega, by omega, by omega, ?_⟩)
    rcases make_k n hA1 h.ok hsl (clsW_of_isW (h.kn 8 (by omega))) (f := 1) (by omega) (by simp) with ⟨h4, hm⟩ | ⟨h4, s', hm, hA2, hok2, hk2⟩
    · refine .inl ⟨by simpa using h4, _, fun k => ?_, hA1, hkp⟩
      rw [callK_fn g42]
      simp -implicitDefEqProofs [A42, Int.negSucc_eq, h1', h2, hg, k8, hm]
    · refine .inr ⟨by simpa using h4, s', fun k => ?_, hA2, hkp.trans hk2⟩
      rw [callK_fn g42]
      simp -implicitDefEqProofs [A42, Int.negSucc_eq, h1', h2, hg, k8, hm]
/-- the number of a small integer -/
theorem value_small (n : Nat) (_hA : At L C s) {x : Int} (h : isSmallW x = true) (k : K) : callK FW (n + 2) q43 [.ptr L.q 0, vI x] s k = k (.tup [vI (x / 2), .tt]) s := by
  have h3 := fun k => isSmall_k (s := s) n x k
  have h4 := fun k => value_w (s := s) n h k
  rw [h] at h3
  rw [callK_fn g43]
  simp -implicitDefEqProofs [A43, h3, h4]
/-- the number of a large one -/
theorem value_large (n : Nat) (hA : At L C s) (h : Wo C) {x : Int} (h1 : isSmallW x = false) (h2 : isW C.t x = true) (hc : C.cls x = C.kn 8) (hf : C.fmt x = 1) (k : K) : callK FW (n + 3) q43 [.ptr L.q 0, vI x] s k = k (.tup [vI (C.get x 0), .tt]) s := by
  have h3 := fun k => isSmall_k (s := s) (n + 1) x k
  have h4 := fun k => is_k (n + 1) hA x k
  have h5 := fun k => klass_k (n + 1) hA h.ok x k
  have h6 := fun k => format_k (n + 1) hA h.ok x k
  have h7 : ∀ k, callK FW (n + 2) q100 [.ptr L.q 0, vI x, .p 0] s k = k (vI (C.get x 0)) s := fun k => get_k n hA h.ok x 0 k
  have k8 := fun k => known_k (n + 1) hA h.rl (i := 8) (by omega) k
  rw [h1] at h3; rw [h2] at h4; rw [hc] at h5; rw [hf] at h6
  rw [callK_fn g43]
  simp -implicitDefEqProofs [A43, hA.q, h3, h4, h5, h6, h7, k8]
/-- the class of a name -/
noncomputable def Cont.cls1 (C : Cont) (l x : Nat) : Nat := match C.cl.find? (isKey l x) with
  | some ⟨_, .p v, _⟩ => v
  | _ => 0
theorem class_k (n : Nat) (hA : At L C s) (h : Wo C) (l x : Nat) (k : K) : callK FW (n + 1) q24 [.ptr L.q 0, .str l x] s k = k (.p (C.cls1 l x)) s := by
  have hst : StrKeys C.cl := fun p hp => by obtain ⟨a, b, v, h1, _⟩ := h.ck p hp; exact ⟨a, b, h1⟩
  have hlk := look_str hA.cl hst l x (.p 0)
  rw [callK_fn g24]
  unfold Cont.cls1
  cases hf : C.cl.find? (isKey l x) with
  | none => rw [hf] at hlk; simp -implicitDefEqProofs [A24, hA.q, hlk]
  | some p =>
    obtain ⟨a, b, v, _, h2⟩ := h.ck p (List.mem_of_find?_eq_some hf)
    rw [hf] at hlk
    obtain ⟨key, val, born⟩ := p
    simp only at h2; subst h2
    simp -implicitDefEqProofs [A24, hA.q, hlk]
end
end Viv
