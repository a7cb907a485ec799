/-
  KernelTexts: its run.
-/
import Derived.Test.YtfppefhcmmfgcaaGreatGw
import Derived.Test.YtfppefhcmmfgcaaGreatGk5
import Derived.Test.YtfppefhcmmfgcaaGreatL8
set_option maxRecDepth 100000
namespace Viv
open Go (Value World IntKind Addr Program Act Exit Oper Operand Ending undef)
open Go.Proofs

def sl5 : List Nat := [0, 5, 1, 7, 8, 13, 10, 14, 6, 12, 11, 15, 16, 9, 17, 18, 21, 26, 38, 104, 106, 140, 142, 168, 4]
def pl5 : List PlanD := []
noncomputable def A5 : AFunc := ⟨[some q0, some q2], [(e24, none)], (.seq (.reg (.d (mv (cn .ff)) q24 .nil)) (.seq (.seq (.reg (.p (mv e0) (.p (w1 lenSK l0) (.d (gt l0 (cn (.p 300))) q16 .nil)))) (.cond e16 (.reg (.p (mv e0) (.p (slS2 l0 (cn (.p 300))) (.d (mv l0) q0 .nil)))) .skip)) (.seq (.seq (.reg (.p (mv e2) (.p (w1 lenSK l0) (.d (gt l0 (cn (.p 300))) q17 .nil)))) (.cond e17 (.reg (.p (mv e2) (.p (slS2 l0 (cn (.p 300))) (.d (mv l0) q2 .nil)))) .skip)) (.seq (.reg (.p (call q20 [(cn (.p 20000))]) (.p (mv l0) (.p (ext l0 0) (.p (ext l1 1) (.d (mv l1) q1 (.d (mv l1) q8 .nil))))))) (.seq (.seq (.reg (.p (mv e1) (.p (w2 eqNp l0 (cn .nilp)) (.p (mv l0) (.g 0 false (mv e8) (.g 1 false (ne eq0 l0 (cn (.p 0))) (.d (pick l2 (cn .tt) l0) q18 .nil))))))) (.cond e18 (.seq (.reg (.d (mv (cn .ff)) q24 .nil)) .ret) .skip)) (.seq (.reg (.p (mv e1) (.p (mv e0) (.p (call q23 [l1, l0]) (.p (mv l0) (.p (ext l0 0) (.p (ext l1 1) (.d (mv l1) q3 (.d (mv l1) q4 .nil))))))))) (.seq (.reg (.p (mv e1) (.p (mv e2) (.p (call q23 [l1, l0]) (.p (mv l0) (.p (ext l0 0) (.p (ext l1 1) (.d (mv l1) q13 (.d (mv l1) q6 .nil))))))))) (.seq (.reg (.p (mv e1) (.p (mv e0) (.p (call q23 [l1, l0]) (.p (mv l0) (.p (ext l0 0) (.p (ext l1 1) (.d (mv l1) q10 (.d (mv l1) q9 .nil))))))))) (.seq (.reg (.p (mv e1) (.p (mv e0) (.p (call q37 [l1, l0]) (.p (mv l0) (.p (ext l0 0) (.p (ext l1 1) (.d (mv l1) q5 (.d (mv l1) q7 .nil))))))))) (.seq (.seq (.reg (.p (mv e4) (.p (w2 eq0 l0 (cn (.p 0))) (.p (mv e0) (.p (w1 lenSK l0) (.p (ge l0 (cn (.p 1))) (.p (mv l0) (.g 0 true (mv e0) (.g 1 true (w1 lenSK l0) (.g 2 true (le l0 (cn (.p 60))) (.p (pick l3 l0 (cn .ff)) (.p (ne eqBo (lo 8) l0) (.p (mv l0) (.g 0 false (mv e6) (.g 1 false (w2 eq0 l0 (cn (.p 0))) (.g 2 false (mv e2) (.g 3 false (w1 lenSK l0) (.g 4 false (ge l0 (cn (.p 1))) (.g 5 false (mv l0) (.g 0 true (mv e2) (.g 1 true (w1 lenSK l0) (.g 2 true (le l0 (cn (.p 60))) (.g 9 false (pick l3 l0 (cn .ff)) (.g 10 false (ne eqBo (lo 8) l0) (.p (pick (lo 11) (cn .tt) l0) (.p (mv l0) (.g 0 false (mv e4) (.g 1 false (mv e9) (.g 2 false (ne eq0 l1 l0) (.p (pick l3 (cn .tt) l0) (.p (mv l0) (.g 0 false (mv e3) (.g 1 false (mv e10) (.g 2 false (ne eq0 l1 l0) (.p (pick l3 (cn .tt) l0) (.p (mv l0) (.g 0 false (mv e7) (.g 1 false (w2 eq0 l0 (cn (.p 0))) (.g 2 false (mv e0) (.g 3 false (w1 lenSK l0) (.g 4 false (le l0 (cn (.p 250))) (.g 5 false (ne eqBo l3 l0) (.d (pick (lo 6) (cn .tt) l0) q19 .nil))))))))))))))))))))))))))))))))))))))))))) (.cond e19 (.seq (.reg (.d (mv (cn .ff)) q24 .nil)) .ret) .skip)) (.seq (.seq (.reg (.p (mv e4) (.d (w2 eq0 l0 (cn (.p 0))) q20 .nil))) (.cond e20 (.seq (.reg (.p (mv e1) (.p (mv e3) (.p (call q38 [l1, l0]) (.p (mv l0) (.p (ext l0 0) (.p (ext l1 1) (.d (mv l1) q11 (.d (mv l1) q12 .nil))))))))) (.seq (.reg (.p (mv e11) (.p (mv e0) (.p (ne eq0 l1 l0) (.p (mv l0) (.g 0 false (mv e12) (.g 1 false (w1 notK l0) (.p (pick l2 (cn .tt) l0) (.p (mv l0) (.g 0 false (mv e6) (.g 1 false (w2 eq0 l0 (cn (.p 0))) (.g 2 false (mv l0) (.g 0 true (mv e3) (.g 1 true (mv e13) (.g 2 true (w2 eq0 l1 l0) (.g 3 true (mv e0) (.g 4 true (mv e2) (.g 5 true (w2 eq0 l1 l0) (.g 6 true (ne eqBo l3 l0) (.g 10 false (pick (lo 7) l0 (cn .ff)) (.p (pick (lo 11) (cn .tt) l0) (.p (mv l0) (.g 0 false (mv e1) (.g 1 false (mv e3) (.g 2 false (call q39 [l1, l0]) (.g 3 false (mv e1) (.g 4 false (call q40 [l0, (cn (.p 11))]) (.g 5 false (ne eq0 l2 l0) (.d (pick (lo 6) (cn .tt) l0) q21 .nil))))))))))))))))))))))))))))) (.cond e21 (.seq (.reg (.d (mv (cn .ff)) q24 .nil)) .ret) .skip))) .skip)) (.seq (.seq (.reg (.p (mv e7) (.d (w2 eq0 l0 (cn (.p 0))) q22 .nil))) (.cond e22 (.seq (.reg (.p (mv e1) (.p (mv e5) (.p (call q38 [l1, l0]) (.p (mv l0) (.p (ext l0 0) (.p (ext l1 1) (.d (mv l1) q14 (.d (mv l1) q15 .nil))))))))) (.seq (.reg (.p (mv e14) (.p (mv e0) (.p (ne eq0 l1 l0) (.p (mv l0) (.g 0 false (mv e15) (.g 1 false (w1 notK l0) (.p (pick l2 (cn .tt) l0) (.p (mv l0) (.g 0 false (mv e5) (.g 1 false (mv e3) (.g 2 false (w2 eq0 l1 l0) (.p (pick l3 (cn .tt) l0) (.p (mv l0) (.g 0 false (mv e1) (.g 1 false (mv e5) (.g 2 false (call q39 [l1, l0]) (.g 3 false (mv e1) (.g 4 false (call q40 [l0, (cn (.p 10))]) (.g 5 false (ne eq0 l2 l0) (.d (pick (lo 6) (cn .tt) l0) q23 .nil))))))))))))))))))))) (.cond e23 (.seq (.reg (.d (mv (cn .ff)) q24 .nil)) .ret) .skip))) .skip)) (.seq (.reg (.p (call q41 []) (.d (mv l0) q24 .nil))) .ret)))))))))))))⟩
theorem T5 : trFunc Tryz.prog Tryz.f5 2 sl5 pl5 = some A5 := by kernel_rfl
noncomputable def S5x11 : ACode := (.seq (.seq (.reg (.p (mv e7) (.d (w2 eq0 l0 (cn (.p 0))) q22 .nil))) (.cond e22 (.seq (.reg (.p (mv e1) (.p (mv e5) (.p (call q38 [l1, l0]) (.p (mv l0) (.p (ext l0 0) (.p (ext l1 1) (.d (mv l1) q14 (.d (mv l1) q15 .nil))))))))) (.seq (.reg (.p (mv e14) (.p (mv e0) (.p (ne eq0 l1 l0) (.p (mv l0) (.g 0 false (mv e15) (.g 1 false (w1 notK l0) (.p (pick l2 (cn .tt) l0) (.p (mv l0) (.g 0 false (mv e5) (.g 1 false (mv e3) (.g 2 false (w2 eq0 l1 l0) (.p (pick l3 (cn .tt) l0) (.p (mv l0) (.g 0 false (mv e1) (.g 1 false (mv e5) (.g 2 false (call q39 [l1, l0]) (.g 3 false (mv e1) (.g 4 false (call q40 [l0, (cn (.p 10))]) (.g 5 false (ne eq0 l2 l0) (.d (pick (lo 6) (cn .tt) l0) q23 .nil))))))))))))))))))))) (.cond e23 (.seq (.reg (.d (mv (cn .ff)) q24 .nil)) .ret) .skip))) .skip)) (.seq (.reg (.p (call q41 []) (.d (mv l0) q24 .nil))) .ret))
noncomputable def S5x10 : ACode := (.seq (.seq (.reg (.p (mv e4) (.d (w2 eq0 l0 (cn (.p 0))) q20 .nil))) (.cond e20 (.seq (.reg (.p (mv e1) (.p (mv e3) (.p (call q38 [l1, l0]) (.p (mv l0) (.p (ext l0 0) (.p (ext l1 1) (.d (mv l1) q11 (.d (mv l1) q12 .nil))))))))) (.seq (.reg (.p (mv e11) (.p (mv e0) (.p (ne eq0 l1 l0) (.p (mv l0) (.g 0 false (mv e12) (.g 1 false (w1 notK l0) (.p (pick l2 (cn .tt) l0) (.p (mv l0) (.g 0 false (mv e6) (.g 1 false (w2 eq0 l0 (cn (.p 0))) (.g 2 false (mv l0) (.g 0 true (mv e3) (.g 1 true (mv e13) (.g 2 true (w2 eq0 l1 l0) (.g 3 true (mv e0) (.g 4 true (mv e2) (.g 5 true (w2 eq0 l1 l0) (.g 6 true (ne eqBo l3 l0) (.g 10 false (pick (lo 7) l0 (cn .ff)) (.p (pick (lo 11) (cn .tt) l0) (.p (mv l0) (.g 0 false (mv e1) (.g 1 false (mv e3) (.g 2 false (call q39 [l1, l0]) (.g 3 false (mv e1) (.g 4 false (call q40 [l0, (cn (.p 11))]) (.g 5 false (ne eq0 l2 l0) (.d (pick (lo 6) (cn .tt) l0) q21 .nil))))))))))))))))))))))))))))) (.cond e21 (.seq (.reg (.d (mv (cn .ff)) q24 .nil)) .ret) .skip))) .skip)) S5x11)
noncomputable def S5x9 : ACode := (.seq (.seq (.reg (.p (mv e4) (.p (w2 eq0 l0 (cn (.p 0))) (.p (mv e0) (.p (w1 lenSK l0) (.p (ge l0 (cn (.p 1))) (.p (mv l0) (.g 0 true (mv e0) (.g 1 true (w1 lenSK l0) (.g 2 true (le l0 (cn (.p 60))) (.p (pick l3 l0 (cn .ff)) (.p (ne eqBo (lo 8) l0) (.p (mv l0) (.g 0 false (mv e6) (.g 1 false (w2 eq0 l0 (cn (.p 0))) (.g 2 false (mv e2) (.g 3 false (w1 lenSK l0) (.g 4 false (ge l0 (cn (.p 1))) (.g 5 false (mv l0) (.g 0 true (mv e2) (.g 1 true (w1 lenSK l0) (.g 2 true (le l0 (cn (.p 60))) (.g 9 false (pick l3 l0 (cn .ff)) (.g 10 false (ne eqBo (lo 8) l0) (.p (pick (lo 11) (cn .tt) l0) (.p (mv l0) (.g 0 false (mv e4) (.g 1 false (mv e9) (.g 2 false (ne eq0 l1 l0) (.p (pick l3 (cn .tt) l0) (.p (mv l0) (.g 0 false (mv e3) (.g 1 false (mv e10) (.g 2 false (ne eq0 l1 l0) (.p (pick l3 (cn .tt) l0) (.p (mv l0) (.g 0 false (mv e7) (.g 1 false (w2 eq0 l0 (cn (.p 0))) (.g 2 false (mv e0) (.g 3 false (w1 lenSK l0) (.g 4 false (le l0 (cn (.p 250))) (.g 5 false (ne eqBo l3 l0) (.d (pick (lo 6) (cn .tt) l0) q19 .nil))))))))))))))))))))))))))))))))))))))))))) (.cond e19 (.seq (.reg (.d (mv (cn .ff)) q24 .nil)) .ret) .skip)) S5x10)
noncomputable def S5x3 : ACode := (.seq (.reg (.p (call q20 [(cn (.p 20000))]) (.p (mv l0) (.p (ext l0 0) (.p (ext l1 1) (.d (mv l1) q1 (.d (mv l1) q8 .nil))))))) (.seq (.seq (.reg (.p (mv e1) (.p (w2 eqNp l0 (cn .nilp)) (.p (mv l0) (.g 0 false (mv e8) (.g 1 false (ne eq0 l0 (cn (.p 0))) (.d (pick l2 (cn .tt) l0) q18 .nil))))))) (.cond e18 (.seq (.reg (.d (mv (cn .ff)) q24 .nil)) .ret) .skip)) (.seq (.reg (.p (mv e1) (.p (mv e0) (.p (call q23 [l1, l0]) (.p (mv l0) (.p (ext l0 0) (.p (ext l1 1) (.d (mv l1) q3 (.d (mv l1) q4 .nil))))))))) (.seq (.reg (.p (mv e1) (.p (mv e2) (.p (call q23 [l1, l0]) (.p (mv l0) (.p (ext l0 0) (.p (ext l1 1) (.d (mv l1) q13 (.d (mv l1) q6 .nil))))))))) (.seq (.reg (.p (mv e1) (.p (mv e0) (.p (call q23 [l1, l0]) (.p (mv l0) (.p (ext l0 0) (.p (ext l1 1) (.d (mv l1) q10 (.d (mv l1) q9 .nil))))))))) (.seq (.reg (.p (mv e1) (.p (mv e0) (.p (call q37 [l1, l0]) (.p (mv l0) (.p (ext l0 0) (.p (ext l1 1) (.d (mv l1) q5 (.d (mv l1) q7 .nil))))))))) S5x9))))))
theorem A5_l : A5 = ⟨[some q0, some q2], [(e24, none)], (.seq (.reg (.d (mv (cn .ff)) q24 .nil)) (.seq (.seq (.reg (.p (mv e0) (.p (w1 lenSK l0) (.d (gt l0 (cn (.p 300))) q16 .nil)))) (.cond e16 (.reg (.p (mv e0) (.p (slS2 l0 (cn (.p 300))) (.d (mv l0) q0 .nil)))) .skip)) (.seq (.seq (.reg (.p (mv e2) (.p (w1 lenSK l0) (.d (gt l0 (cn (.p 300))) q17 .nil)))) (.cond e17 (.reg (.p (mv e2) (.p (slS2 l0 (cn (.p 300))) (.d (mv l0) q2 .nil)))) .skip)) S5x3)))⟩ := rfl
theorem w20N5 {N : Nat} (h1 : 16384 ≤ N) (h2 : N ≤ 131072) (k : K) : callK FW 61 q20 [.p N] ⟨.mt, .h⟩ k = k (.tup [.ptr L0.q 0, .p 0]) (S0 N) := by
  rw [w20]; exact newK_ok h1 h2 k
/-! ### symbols, in short -/
/-- a symbol is found -/
def Found (C : Cont) (l x o : Nat) : Prop := ∃ p, C.sy.find? (isKey l x) = some p ∧ p.val = .p o
section
variable {L : Lay} {C : Cont} {s : St}
theorem isKey_key {l x : Nat} {p : Ent} (h : isKey l x p = true) : p.key = .str l x := by
  unfold isKey at h
  split at h
  · rename_i a b hk
    simp only [Bool.and_eq_true, decide_eq_true_eq] at h
    rw [hk, h.1, h.2]
  · cases h
theorem Found.text (h : Wo C) {l x o : Nat} (hf : Found C l x o) : 1 ≤ l ∧ l ≤ 60 ∧ x < 256 ^ l ∧ TextAt C (o : Int) (C.kn 11) l x := by
  obtain ⟨p, h1, h2⟩ := hf
  obtain ⟨l', x', o', k1, k2, k3, k4, k5⟩ := (h.sk p (List.mem_of_find?_eq_some h1)).ex
  have hk := isKey_key (List.find?_some h1)
  rw [k1] at hk; rw [k2] at h2
  cases hk; cases h2
  exact ⟨k3, k4.1, k4.2, k5⟩
theorem symbol_found (n : Nat) (hA : At L C s) (h : Wo C) {l x o : Nat} (hf : Found C l x o) (k : K) : callK FW (n + 4) q23 [.ptr L.q 0, .str l x] s k = k (.tup [.p o, .p 0]) s := by
  obtain ⟨p, h1, h2⟩ := hf
  obtain ⟨g1, g2, _⟩ := Found.text h ⟨p, h1, h2⟩
  rcases symbol_k n hA h l x with ⟨hl, _⟩ | ⟨_, _, ⟨o', ⟨p', _, _, k2, k3⟩, _, hk⟩ | ⟨hno, _⟩ | ⟨hno, _⟩⟩
  · omega
  · rw [h1] at k3; cases k3
    rw [h2] at k2; cases k2
    exact hk k
  · rw [h1] at hno; cases hno
  · rw [h1] at hno; cases hno
theorem symbol_bad (n : Nat) (hA : At L C s) (h : Wo C) {l x : Nat} (hl : l < 1 ∨ 60 < l) (k : K) : callK FW (n + 4) q23 [.ptr L.q 0, .str l x] s k = k (.tup [.p 0, .p 1]) s := by
  rcases symbol_k n hA h l x with ⟨_, hk⟩ | ⟨h1, h2, _⟩
  · exact hk k
  · omega
theorem symbol_ok (n : Nat) (hA : At L C s) (h : Wo C) {l x : Nat} (h1 : 1 ≤ l) (h2 : l ≤ 60) (hx : x < 256 ^ l) (hr : C.e + 68 ≤ C.N) :
    ∃ o C' s', (∀ k, callK FW (n + 4) q23 [.ptr L.q 0, .str l x] s k = k (.tup [.p o, .p 0]) s') ∧ At L C' s' ∧ Wo C' ∧ Ext C C' ∧ C'.e ≤ C.e + 68 ∧ C'.N = C.N ∧ (∀ i, i < 16 → C'.kn i = C.kn i) ∧ Found C' l x o ∧ (∀ l' x' o', Found C l' x' o' → Found C' l' x' o') ∧ Keep L.of s s' ∧ C'.cl = C.cl ∧ C'.cc = C.cc := by
  rcases symbol_k n hA h l x with ⟨hl, _⟩ | ⟨_, _, ⟨o, ⟨p, _, _, k2, k3⟩, _, hk⟩ | ⟨_, hno, _⟩ | ⟨hno, hroom, s', hk, hA', hkp⟩⟩
  · omega
  · exact ⟨o, C, s, hk, hA, h, Ext.refl C, by omega, rfl, fun _ _ => rfl, ⟨p, k3, k2⟩, fun _ _ _ hf => hf, Keep.refl _ s, rfl, rfl⟩
  · omega
  · obtain ⟨w1, w2, _⟩ := wo_symAdd h h1 h2 hx hroom
    have hsy : (C.symAdd l x).sy = C.sy ++ [⟨.str l x, .p (2 * C.e), C.cs⟩] := rfl
    have hself : isKey l x ⟨.str l x, .p (2 * C.e), C.cs⟩ = true := by simp [isKey]
    obtain ⟨r1, r2, r3, r4, r5, r6, r7, r8, r9⟩ := obj1_rest (C := C) (C.kn 11) 2 (bytesL l x)
    obtain ⟨t1, t2, t3, t4, t5, t6, t7, t8, t9⟩ := obj1_rest (C := C.obj1 (C.kn 11) 2 (bytesL l x)) (C.kn 9) 0 [((2 * C.e : Nat) : Int), C.rt.getD 0 0]
    refine ⟨2 * C.e, C.symAdd l x, s', hk, hA', w1, w2, ?_, w2.N, fun i _ => ?_, ⟨⟨.str l x, .p (2 * C.e), C.cs⟩, by rw [hsy, List.find?_append, hno]; simp [hself], rfl⟩, fun l' x' o' ⟨p, q1, q2⟩ => ⟨p, by rw [hsy, List.find?_append, q1]; rfl, q2⟩, hkp, ?_, ?_⟩
    · show (((C.obj1 (C.kn 11) 2 (bytesL l x)).obj1 (C.kn 9) 0 [((2 * C.e : Nat) : Int), C.rt.getD 0 0])).e ≤ _
      rw [t6, r6, bytesL_len]; simp; omega
    · show (C.rt.set 0 _).getD (2 + i) 0 = C.rt.getD (2 + i) 0
      rw [List.getD_eq_getElem?_getD, List.getElem?_set_ne (by omega), ← List.getD_eq_getElem?_getD]
    · show (((C.obj1 (C.kn 11) 2 (bytesL l x)).obj1 (C.kn 9) 0 [((2 * C.e : Nat) : Int), C.rt.getD 0 0])).cl = _
      rw [t4, r4]
    · show (((C.obj1 (C.kn 11) 2 (bytesL l x)).obj1 (C.kn 9) 0 [((2 * C.e : Nat) : Int), C.rt.getD 0 0])).cc = _
      rw [t5, r5]
/-- symbols are one where their texts are, and nowhere else -/
theorem found_inj (h : Wo C) {l x o l' x' o' : Nat} (hf : Found C l x o) (hf' : Found C l' x' o') : o = o' ↔ l = l' ∧ x = x' := by
  constructor
  · rintro rfl
    obtain ⟨_, _, b1, t1⟩ := hf.text h
    obtain ⟨_, _, b2, t2⟩ := hf'.text h
    have hl : l = l' := by have := t1.nf; have := t2.nf; omega
    subst hl
    refine ⟨rfl, ?_⟩
    have hm : (List.range l).map (byteAt x) = (List.range l).map (byteAt x') := List.map_congr_left fun i hi => by
      have hi : i < l := by simpa using hi
      have e1 := t1.get i hi; have e2 := t2.get i hi
      rw [e1] at e2; exact_mod_cast e2
    have e1 := numOf_bytes l x; have e2 := numOf_bytes l x'
    rw [hm, e2, Nat.mod_eq_of_lt b1, Nat.mod_eq_of_lt b2] at e1
    exact e1.symm
  · rintro ⟨rfl, rfl⟩
    obtain ⟨p, h1, h2⟩ := hf
    obtain ⟨p', h3, h4⟩ := hf'
    rw [h1] at h3; cases h3
    rw [h2] at h4; cases h4; rfl
theorem Found.ext {C' : Cont} (hsy : C'.sy = C.sy) {l x o : Nat} (h : Found C l x o) : Found C' l x o := by
  obtain ⟨p, h1, h2⟩ := h
  exact ⟨p, by rw [hsy]; exact h1, h2⟩
/-! ### the law's pieces -/
theorem clsOf_text (h : Wo C) {o : Nat} {c : Int} {l x : Nat} (ht : TextAt C (o : Int) c l x) : C.clsOf (o : Int) = c := by
  unfold Cont.clsOf
  rcases h.ok.ad_cases (o : Int) with ⟨_, h0⟩ | ⟨_, _, _, h1, _⟩
  · exact absurd h0 ht.a
  · rw [if_pos h1]; exact ht.cls
theorem tail11_no {e : Env} {i : Nat} (hi : i ≠ 0) (he : Has e [(q7, .p i)]) : ∃ e', execK (callK FW 61) S5x11 e s = .ret e' s ∧ Has e' [(q24, .tt)] := by
  simp at he
  refine ⟨?_, ?_, ?_⟩
  rotate_left
  · simp only [S5x11]
    simp -implicitDefEqProofs [he, hi, w41, e22, e23, q22, q23, q24]
    rfl
  · simp [q24]
theorem tail11_ok (hA : At L C s) (h : Wo C) {e : Env} {d a l x : Nat} (ht : TextAt C (d : Int) (C.kn 10) l x) (hx : x < 256 ^ l) (hne : d ≠ a) (he : Has e [(q7, .p 0), (q1, .ptr L.q 0), (q0, .str l x), (q5, .p d), (q3, .p a)]) : ∃ e' s', execK (callK FW 61) S5x11 e s = .ret e' s' ∧ Has e' [(q24, .tt)] := by
  obtain ⟨s1, h1, hA1, _⟩ := text_ok 58 hA h ht (.inl rfl) hx
  have h1' : ∀ k, callK FW 61 q38 [.ptr L.q 0, .p d] s k = k (.tup [.str l x, .tt]) s1 := h1
  have h2 : ∀ k, callK FW 61 q39 [.ptr L.q 0, .p d] s1 k = k (vI (C.kn 10)) s1 := fun k => by
    have := classOf_k 59 hA1 h (d : Int) k
    rw [clsOf_text h ht] at this; exact this
  have h3 : ∀ k, callK FW 61 q40 [.ptr L.q 0, .p 10] s1 k = k (vI (C.kn 10)) s1 := fun k => known_k 60 hA1 h.rl (by omega) k
  simp at he
  refine ⟨?_, s1, ?_, ?_⟩
  rotate_left
  · simp only [S5x11]
    simp -implicitDefEqProofs [he, h1', h2, h3, hne, w41, e22, e23, q22, q23, q24]
    rfl
  · simp [q24]
theorem tail10_no {e : Env} {f : Nat} (hf : f ≠ 0) {v7 v1 v0 v5 v3 : V} (he : Has e [(q4, .p f), (q7, v7), (q1, v1), (q0, v0), (q5, v5), (q3, v3)]) :
    ∃ e1, execK (callK FW 61) S5x10 e s = execK (callK FW 61) S5x11 e1 s ∧ Has e1 [(q7, v7), (q1, v1), (q0, v0), (q5, v5), (q3, v3)] := by
  simp at he
  refine ⟨?_, ?_, ?_⟩
  rotate_left
  · simp only [S5x10]
    simp -implicitDefEqProofs [he, hf]
    rfl
  · simp [he]
theorem tail10_ok (hA : At L C s) (h : Wo C) {e : Env} {a b g l x l' x' : Nat} (ht : TextAt C (a : Int) (C.kn 11) l x) (hx : x < 256 ^ l) (hg : g = 0 → (a = b ↔ l = l' ∧ x = x')) {v7 v5 : V}
    (he : Has e [(q4, .p 0), (q7, v7), (q1, .ptr L.q 0), (q0, .str l x), (q5, v5), (q3, .p a), (q13, .p b), (q2, .str l' x'), (q6, .p g)]) :
    ∃ e1 s1, execK (callK FW 61) S5x10 e s = execK (callK FW 61) S5x11 e1 s1 ∧ Has e1 [(q7, v7), (q1, .ptr L.q 0), (q0, .str l x), (q5, v5), (q3, .p a)] ∧ At L C s1 := by
  obtain ⟨s1, h1, hA1, _⟩ := text_ok 58 hA h ht (.inr rfl) hx
  have h1' : ∀ k, callK FW 61 q38 [.ptr L.q 0, .p a] s k = k (.tup [.str l x, .tt]) s1 := h1
  have h2 : ∀ k, callK FW 61 q39 [.ptr L.q 0, .p a] s1 k = k (vI (C.kn 11)) s1 := fun k => by
    have := classOf_k 59 hA1 h (a : Int) k
    rw [clsOf_text h ht] at this; exact this
  have h3 : ∀ k, callK FW 61 q40 [.ptr L.q 0, .p 11] s1 k = k (vI (C.kn 11)) s1 := fun k => known_k 60 hA1 h.rl (by omega) k
  have e1 : ∀ kv, eq0 (.str l x) (.str l x) kv = kv .tt := fun kv => by rw [eq0_ss]; simp
  have e0 : ∀ kv, eq0 (.p 0) (.p 0) kv = kv .tt := fun kv => rfl
  simp at he
  by_cases hg0 : g = 0
  · have hab := hg hg0
    by_cases hst : l = l' ∧ x = x'
    · have e2 : ∀ kv, eq0 (.p a) (.p b) kv = kv .tt := fun kv => by rw [eq0_pp, nbeq_d, decide_eq_true (hab.2 hst)]; rfl
      have e3 : ∀ kv, eq0 (.str l x) (.str l' x') kv = kv .tt := fun kv => by rw [eq0_ss, decide_eq_true hst.1, decide_eq_true hst.2]; rfl
      refine ⟨?_, s1, ?_, ?_, hA1⟩
      rotate_left
      · simp only [S5x10]
        simp -implicitDefEqProofs [he, hg0, h1', h2, h3, e0, e1, e2, e3, -eq0_ss, -eq0_pp, e21, q21, e20]
        rfl
      · simp [he]
    · have e2 : ∀ kv, eq0 (.p a) (.p b) kv = kv .ff := fun kv => by rw [eq0_pp, nbeq_d, decide_eq_false (fun hh => hst (hab.1 hh))]; rfl
      have e3 : ∀ kv, eq0 (.str l x) (.str l' x') kv = kv .ff := fun kv => by
        rw [eq0_ss]
        by_cases hl : l = l'
        · rw [decide_eq_false (fun hx => hst ⟨hl, hx⟩), Bool.and_false]; rfl
        · rw [decide_eq_false hl]; rfl
      refine ⟨?_, s1, ?_, ?_, hA1⟩
      rotate_left
      · simp only [S5x10]
        simp -implicitDefEqProofs [he, hg0, h1', h2, h3, e0, e1, e2, e3, -eq0_ss, -eq0_pp, e21, q21, e20]
        rfl
      · simp [he]
  · refine ⟨?_, s1, ?_, ?_, hA1⟩
    rotate_left
    · simp only [S5x10]
      simp -implicitDefEqProofs [he, hg0, h1', h2, h3, e1, -eq0_ss, e21, q21, e20]
      rfl
    · simp [he]
theorem tail9 {e : Env} {l l' x x' a b f g i d : Nat} (hl : l ≤ 300) (_hl' : l' ≤ 300) (hf : (1 ≤ l ∧ l ≤ 60 ∧ f = 0) ∨ ((l < 1 ∨ 60 < l) ∧ f = 1)) (hg : (1 ≤ l' ∧ l' ≤ 60 ∧ g = 0) ∨ ((l' < 1 ∨ 60 < l') ∧ g = 1)) (hi : (l ≤ 250 ∧ i = 0) ∨ (250 < l ∧ i = 1)) {v1 : V}
    (he : Has e [(q4, .p f), (q9, .p f), (q3, .p a), (q10, .p a), (q13, .p b), (q6, .p g), (q5, .p d), (q7, .p i), (q0, .str l x), (q2, .str l' x'), (q1, v1)]) :
    ∃ e1, execK (callK FW 61) S5x9 e s = execK (callK FW 61) S5x10 e1 s ∧ Has e1 [(q4, .p f), (q7, .p i), (q1, v1), (q0, .str l x), (q5, .p d), (q3, .p a), (q13, .p b), (q2, .str l' x'), (q6, .p g)] := by
  have c : ∀ {l f : Nat}, ((1 ≤ l ∧ l ≤ 60 ∧ f = 0) ∨ ((l < 1 ∨ 60 < l) ∧ f = 1)) → (¬ l < 1 ∧ ¬ 60 < l ∧ f = 0) ∨ (l < 1 ∧ ¬ 60 < l ∧ f = 1) ∨ (¬ l < 1 ∧ 60 < l ∧ f = 1) := fun h => by omega
  simp at he
  rcases c hf with ⟨h1, h2, rfl⟩ | ⟨h1, h2, rfl⟩ | ⟨h1, h2, rfl⟩ <;> rcases c hg with ⟨h3, h4, rfl⟩ | ⟨h3, h4, rfl⟩ | ⟨h3, h4, rfl⟩ <;> rcases hi with ⟨h5, rfl⟩ | ⟨h5, rfl⟩
  all_goals first | (exfalso; omega) | skip
  all_goals
    refine ⟨?_, ?_, ?_⟩
    rotate_left
    · simp only [S5x9]
      simp -implicitDefEqProofs [he, h1, h2, h3, h4, h5, Nat.not_lt.2 h5]
      rfl
    · simp [he]
theorem cut_str {l x m : Nat} (h : m < l) (kv : KV) : slS (.str l x) (.p 0) (.p m) kv = kv (.str m (x % 2 ^ (8 * m))) := by
  show (Bool.rec fl (Bool.rec fl (kv (.str (m - 0) ((x >>> (8 * 0)) % (1 <<< (8 * (m - 0)))))) (Nat.ble m l)) (Nat.ble 0 m) : RC) = _
  rw [bleRec, bleRec, if_pos (Nat.zero_le _), if_pos (by omega), Nat.sub_zero, Nat.mul_zero, Nat.shiftRight_zero, Nat.shiftLeft_eq, Nat.one_mul]
theorem mod_256 (x m : Nat) : x % 2 ^ (8 * m) < 256 ^ m := by
  rw [Nat.pow_mul]
  exact Nat.mod_lt _ (Nat.pos_of_ne_zero (by simp))
/-- any text: a symbol, or refused -/
theorem symbol_any (n : Nat) (hA : At L C s) (h : Wo C) (l x : Nat) (hx : x < 256 ^ l) (hr : C.e + 68 ≤ C.N) :
    ∃ o f C' s', (∀ k, callK FW (n + 4) q23 [.ptr L.q 0, .str l x] s k = k (.tup [.p o, .p f]) s') ∧ At L C' s' ∧ Wo C' ∧ Ext C C' ∧ C'.e ≤ C.e + 68 ∧ C'.N = C.N ∧ (∀ i, i < 16 → C'.kn i = C.kn i) ∧
      ((1 ≤ l ∧ l ≤ 60 ∧ f = 0 ∧ Found C' l x o) ∨ ((l < 1 ∨ 60 < l) ∧ f = 1 ∧ o = 0)) ∧ (∀ l' x' o', Found C l' x' o' → Found C' l' x' o') ∧ C'.cl = C.cl ∧ Keep L.of s s' := by
  by_cases hl : l < 1 ∨ 60 < l
  · exact ⟨0, 1, C, s, fun k => symbol_bad n hA h hl k, hA, h, Ext.refl C, by omega, rfl, fun _ _ => rfl, .inr ⟨hl, rfl, rfl⟩, fun _ _ _ hf => hf, rfl, Keep.refl _ s⟩
  · obtain ⟨o, C', s', h1, h2, h3, h4, h5, h6, h7, h8, h9, h10, h11, _⟩ := symbol_ok n hA h (l := l) (x := x) (by omega) (by omega) hx hr
    exact ⟨o, 0, C', s', h1, h2, h3, h4, h5, h6, h7, .inl ⟨by omega, by omega, rfl, h8⟩, h9, h11, h10⟩
end
theorem symbol_again (n : Nat) {L : Lay} {C : Cont} {s : St} (hA : At L C s) (h : Wo C) {l x o f : Nat} (hf : (1 ≤ l ∧ l ≤ 60 ∧ f = 0 ∧ Found C l x o) ∨ ((l < 1 ∨ 60 < l) ∧ f = 1 ∧ o = 0)) (k : K) : callK FW (n + 4) q23 [.ptr L.q 0, .str l x] s k = k (.tup [.p o, .p f]) s := by
  rcases hf with ⟨_, _, rfl, hf⟩ | ⟨hl, rfl, rfl⟩
  · exact symbol_found n hA h hf k
  · exact symbol_bad n hA h hl k
/-- the law behind the cuts -/
theorem mid5 {e : Env} {l x l' x' : Nat} (hl : l ≤ 300) (hl' : l' ≤ 300) (hx : x < 256 ^ l) (hx' : x' < 256 ^ l') (he : Has e [(q0, .str l x), (q2, .str l' x')]) :
    ∃ e' s', execK (callK FW 61) S5x3 e ⟨.mt, .h⟩ = .ret e' s' ∧ Has e' [(q24, .tt)] := by
  have hA := at0 20000
  have h := wo0 (N := 20000) (by omega) (by omega)
  have hnew := fun k => w20N5 (N := 20000) (by omega) (by omega) k
  have e0 : (C0 20000).e = 4321 := rfl
  have N0 : (C0 20000).N = 20000 := rfl
  obtain ⟨a, f, C1, s1, c1, hA1, w1, x1, b1, n1, k1, f1, m1, _⟩ := symbol_any 57 hA h l x hx (by omega)
  obtain ⟨b, g, C2, s2, c2, hA2, w2, x2, b2, n2, k2, f2, m2, _⟩ := symbol_any 57 hA1 w1 l' x' hx' (by omega)
  have f1' : (1 ≤ l ∧ l ≤ 60 ∧ f = 0 ∧ Found C2 l x a) ∨ ((l < 1 ∨ 60 < l) ∧ f = 1 ∧ a = 0) := f1.imp (fun ⟨p, q, r, t⟩ => ⟨p, q, r, m2 _ _ _ t⟩) id
  have c3 : ∀ k, callK FW 61 q23 [.ptr L0.q 0, .str l x] s2 k = k (.tup [.p a, .p f]) s2 := fun k => symbol_again 57 hA2 w2 f1' k
  have g1 : (1 ≤ l ∧ l ≤ 60 ∧ f = 0) ∨ ((l < 1 ∨ 60 < l) ∧ f = 1) := f1.imp (fun ⟨p, q, r, _⟩ => ⟨p, q, r⟩) (fun ⟨p, q, _⟩ => ⟨p, q⟩)
  have g2 : (1 ≤ l' ∧ l' ≤ 60 ∧ g = 0) ∨ ((l' < 1 ∨ 60 < l') ∧ g = 1) := f2.imp (fun ⟨p, q, r, _⟩ => ⟨p, q, r⟩) (fun ⟨p, q, _⟩ => ⟨p, q⟩)
  have hab : f = 0 → g = 0 → (a = b ↔ l = l' ∧ x = x') := fun hf hg => by
    rcases f1' with ⟨_, _, _, t1⟩ | ⟨_, hf', _⟩
    · rcases f2 with ⟨_, _, _, t2⟩ | ⟨_, hg', _⟩
      · exact found_inj w2 t1 t2
      · omega
    · omega
  have e1 : ∀ kv, eq0 (.str 0 0) (.str 0 0) kv = kv .tt := fun kv => rfl
  -- the string
  have fin : ∀ (d i : Nat) (C3 : Cont) (s3 : St), (∀ k, callK FW 61 q37 [.ptr L0.q 0, .str l x] s2 k = k (.tup [.p d, .p i]) s3) → At L0 C3 s3 → Wo C3 → ((l ≤ 250 ∧ i = 0) ∨ (250 < l ∧ i = 1)) →
      (f = 0 → TextAt C3 (a : Int) (C3.kn 11) l x) → (i = 0 → TextAt C3 (d : Int) (C3.kn 10) l x ∧ d ≠ a) → ∃ e' s', execK (callK FW 61) S5x3 e ⟨.mt, .h⟩ = .ret e' s' ∧ Has e' [(q24, .tt)] := by
    intro d i C3 s3 c4 hA3 w3 hi hta htd
    have hpre : ∃ E, execK (callK FW 61) S5x3 e ⟨.mt, .h⟩ = execK (callK FW 61) S5x9 E s3 ∧ Has E [(q4, .p f), (q9, .p f), (q3, .p a), (q10, .p a), (q13, .p b), (q6, .p g), (q5, .p d), (q7, .p i), (q0, .str l x), (q2, .str l' x'), (q1, .ptr L0.q 0)] := by
      simp at he
      refine ⟨?_, ?_, ?_⟩
      rotate_left
      · simp only [S5x3]
        simp -implicitDefEqProofs [-q20, he, hnew, c1, c2, c3, c4]
        rfl
      · simp [he]
    obtain ⟨E, hE, hH⟩ := hpre
    obtain ⟨E1, r1, H1⟩ := tail9 (s := s3) hl hl' g1 g2 hi hH
    have h10 : ∃ E2 s4, execK (callK FW 61) S5x10 E1 s3 = execK (callK FW 61) S5x11 E2 s4 ∧ Has E2 [(q7, .p i), (q1, .ptr L0.q 0), (q0, .str l x), (q5, .p d), (q3, .p a)] ∧ At L0 C3 s4 := by
      by_cases hf : f = 0
      · subst hf
        exact tail10_ok hA3 w3 (hta rfl) hx (hab rfl) H1
      · simp only [has_cons, has_nil, and_true] at H1
        obtain ⟨z1, z2, z3, z4, z5, z6, z7, z8, z9⟩ := H1
        obtain ⟨E2, y1, y2⟩ := tail10_no (s := s3) hf (e := E1) ⟨z1, z2, z3, z4, z5, z6, trivial⟩
        exact ⟨E2, s3, y1, y2, hA3⟩
    obtain ⟨E2, s4, r2, H2, hA4⟩ := h10
    by_cases hi0 : i = 0
    · subst hi0
      obtain ⟨t1, t2⟩ := htd rfl
      obtain ⟨e', s', r3, H3⟩ := tail11_ok hA4 w3 t1 hx t2 H2
      exact ⟨e', s', by rw [hE, r1, r2, r3], H3⟩
    · obtain ⟨z1, _⟩ := H2
      obtain ⟨e', r3, H3⟩ := tail11_no (s := s4) hi0 (e := E2) ⟨z1, trivial⟩
      exact ⟨e', s4, by rw [hE, r1, r2, r3], H3⟩
  have hta2 : f = 0 → TextAt C2 (a : Int) (C2.kn 11) l x := fun hf => by
    rcases f1' with ⟨_, _, _, t⟩ | ⟨_, hf', _⟩
    · exact (t.text w2).2.2.2
    · omega
  rcases string_k 57 hA2 w2 l x with ⟨h1, c4⟩ | ⟨_, h2, _⟩ | ⟨h1, h2, s3, c4, hA3, w3, x3, t3, _⟩
  · exact fin 0 1 C2 s2 c4 hA2 w2 (.inr ⟨h1, rfl⟩) hta2 (fun h => by cases h)
  · omega
  · obtain ⟨r1, r2, r3, r4, r5, r6, r7, r8, r9⟩ := obj1_rest (C := C2) (C2.kn 10) 2 (bytesL l x)
    refine fin (2 * C2.e) 0 _ s3 c4 hA3 w3 (.inl ⟨h1, rfl⟩) (fun hf => ?_) (fun _ => ⟨by rw [r8]; exact t3, fun he => ?_⟩)
    · rw [r8]; exact (hta2 hf).ext x3 w2.ok w3.ok
    · by_cases hf : f = 0
      · have ht := hta2 hf
        rcases w2.ok.ad_cases (a : Int) with ⟨_, h0⟩ | ⟨y, hy, hp, _, _⟩
        · exact ht.a h0
        · have := Cont.pl_hi w2.ok hp
          omega
      · rcases f1' with ⟨_, _, h0, _⟩ | ⟨_, _, ha⟩
        · exact hf h0
        · have := w2.ok.e3; omega
noncomputable def cut300 (x : Nat) : Nat := x % 2 ^ (8 * 300)
theorem cut300_lt (x : Nat) : cut300 x < 256 ^ 300 := mod_256 x 300
theorem cut300_eq {l x : Nat} (h : 300 < l) (kv : KV) : slS (.str l x) (.p 0) (.p 300) kv = kv (.str 300 (cut300 x)) := cut_str h kv
/-- the law's begin -/
theorem pre5 {l x l' x' : Nat} (hx : x < 256 ^ l) (hx' : x' < 256 ^ l') : ∃ (E : Env) (m y m' y' : Nat), (∀ k, callF (.fn A5) (callK FW 61) [.str l x, .str l' x'] ⟨.mt, .h⟩ k = finK (execK (callK FW 61) S5x3 E ⟨.mt, .h⟩) A5.results k) ∧ Has E [(q0, .str m y), (q2, .str m' y')] ∧ m ≤ 300 ∧ m' ≤ 300 ∧ y < 256 ^ m ∧ y' < 256 ^ m' := by
  have c1 := fun (h : 300 < l) kv => cut300_eq (x := x) h kv
  have c2 := fun (h : 300 < l') kv => cut300_eq (x := x') h kv
  by_cases h1 : 300 < l <;> by_cases h2 : 300 < l'
  · refine ⟨?_, 300, cut300 x, 300, cut300 x', fun k => ?_, ?_, Nat.le_refl _, Nat.le_refl _, cut300_lt x, cut300_lt x'⟩
    rotate_left
    · rw [A5_l]
      simp -implicitDefEqProofs [h1, h2, c1 h1, c2 h2, e24, q24]
      rfl
    · simp
  · refine ⟨?_, 300, cut300 x, l', x', fun k => ?_, ?_, Nat.le_refl _, by omega, cut300_lt x, hx'⟩
    rotate_left
    · rw [A5_l]
      simp -implicitDefEqProofs [h1, h2, c1 h1, e24, q24]
      rfl
    · simp
  · refine ⟨?_, l, x, 300, cut300 x', fun k => ?_, ?_, by omega, Nat.le_refl _, hx, cut300_lt x'⟩
    rotate_left
    · rw [A5_l]
      simp -implicitDefEqProofs [h1, h2, c2 h2, e24, q24]
      rfl
    · simp
  · refine ⟨?_, l, x, l', x', fun k => ?_, ?_, by omega, by omega, hx, hx'⟩
    rotate_left
    · rw [A5_l]
      simp -implicitDefEqProofs [h1, h2, e24, q24]
      rfl
    · simp
/-- the law, from its begin on -/
theorem texts_ev {l x l' x' : Nat} (hx : x < 256 ^ l) (hx' : x' < 256 ^ l') : ∃ s', ∀ k, callF (.fn A5) (callK FW 61) [.str l x, .str l' x'] ⟨.mt, .h⟩ k = k .tt s' := by
  obtain ⟨E, m, y, m', y', h1, hE, h2, h3, h4, h5⟩ := pre5 hx hx'
  obtain ⟨e', s', r1, r2⟩ := mid5 h2 h3 h4 h5 hE
  refine ⟨s', fun k => ?_⟩
  rw [h1, r1]
  simp [q24] at r2
  simp -implicitDefEqProofs [A5, r2, e24, q24]
theorem bnum_lt256 : ∀ l : List UInt8, bnum l < 256 ^ l.length
  | [] => by simp [bnum]
  | b :: l => by
    have := bnum_lt256 l
    have hb := b.toNat_lt
    simp only [bnum, List.length_cons, Nat.pow_succ]
    omega
theorem texts_goes {a b : ByteArray} (h1 : a.size < 9223372036854775808) (h2 : b.size < 9223372036854775808) (w : World) : True' 5 #[.string a, .string b] w := by
  have ha := bnum_lt256 a.data.toList
  have hb := bnum_lt256 b.data.toList
  obtain ⟨s', hs⟩ := texts_ev (l := a.size) (x := bnum a.data.toList) (l' := b.size) (x' := bnum b.data.toList) (by simpa using ha) (by simpa using hb)
  exact true_of T5 Tryz.func5 Tryz.call5 (.cons _ _ _ _ (.str _ _ a rfl rfl h1) (.cons _ _ _ _ (.str _ _ b rfl rfl h2) .nil)) hs
end Viv
