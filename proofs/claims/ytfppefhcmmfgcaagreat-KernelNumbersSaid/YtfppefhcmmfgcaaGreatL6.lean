/-
  KernelNumbers: its run.
-/
import Derived.Test.YtfppefhcmmfgcaaGreatGw
import Derived.Test.YtfppefhcmmfgcaaGreatGk5
import Derived.Test.YtfppefhcmmfgcaaGreatL8
set_option maxRecDepth 100000
namespace Viv
open Go (Value World IntKind Addr Program Act Exit Oper Operand Ending undef)
open Go.Proofs

def sl6 : List Nat := [5, 0, 8, 7, 1, 12, 13, 6, 9, 10, 11, 23, 46, 48, 62, 78, 4]
def pl6 : List PlanD := []
noncomputable def A6 : AFunc := ⟨[some q1, some q4], [(e16, none)], (.seq (.reg (.d (mv (cn .ff)) q16 .nil)) (.seq (.reg (.p (call q20 [(cn (.p 20000))]) (.p (mv l0) (.p (ext l0 0) (.p (ext l1 1) (.d (mv l1) q0 (.d (mv l1) q7 .nil))))))) (.seq (.seq (.reg (.p (mv e0) (.p (w2 eqNp l0 (cn .nilp)) (.p (mv l0) (.g 0 false (mv e7) (.g 1 false (ne eq0 l0 (cn (.p 0))) (.d (pick l2 (cn .tt) l0) q11 .nil))))))) (.cond e11 (.seq (.reg (.d (mv (cn .ff)) q16 .nil)) .ret) .skip)) (.seq (.reg (.p (mv e0) (.p (mv e1) (.p (call q42 [l1, l0]) (.p (mv l0) (.p (ext l0 0) (.p (ext l1 1) (.d (mv l1) q3 (.d (mv l1) q2 .nil))))))))) (.seq (.seq (.reg (.p (mv e2) (.p (w2 eq0 l0 (cn (.p 0))) (.p (mv e1) (.p (ge l0 (cn (.m 1152921504606846975))) (.p (mv l0) (.g 0 true (mv e1) (.g 1 true (le l0 (cn (.p 1152921504606846976))) (.p (pick l2 l0 (cn .ff)) (.p (ne eqBo (lo 6) l0) (.p (mv l0) (.g 0 false (mv e2) (.g 1 false (ne eq0 l0 (cn (.p 0))) (.g 2 false (mv l0) (.g 0 true (mv e2) (.g 1 true (ne eq0 l0 (cn (.p 2))) (.g 5 false (pick l2 l0 (cn .ff)) (.d (pick (lo 6) (cn .tt) l0) q12 .nil)))))))))))))))))) (.cond e12 (.seq (.reg (.d (mv (cn .ff)) q16 .nil)) .ret) .skip)) (.seq (.seq (.reg (.p (mv e2) (.d (w2 eq0 l0 (cn (.p 0))) q13 .nil))) (.cond e13 (.seq (.reg (.p (mv e0) (.p (mv e3) (.p (call q43 [l1, l0]) (.p (mv l0) (.p (ext l0 0) (.p (ext l1 1) (.d (mv l1) q8 (.d (mv l1) q9 .nil))))))))) (.seq (.reg (.p (mv e0) (.p (call q40 [l0, (cn (.p 8))]) (.d (mv l0) q10 .nil)))) (.seq (.seq (.reg (.p (mv e1) (.p (ge l0 (cn (.m 1073741823))) (.p (mv l0) (.g 0 true (mv e1) (.g 1 true (le l0 (cn (.p 1073741823))) (.d (pick l2 l0 (cn .ff)) q14 .nil))))))) (.cond e14 (.reg (.p (mv e0) (.p (call q40 [l0, (cn (.p 7))]) (.d (mv l0) q10 .nil)))) .skip)) (.seq (.reg (.p (mv e8) (.p (mv e1) (.p (ne eq0 l1 l0) (.p (mv l0) (.g 0 false (mv e9) (.g 1 false (w1 notK l0) (.p (pick l2 (cn .tt) l0) (.p (mv l0) (.g 0 false (mv e0) (.g 1 false (mv e3) (.g 2 false (call q39 [l1, l0]) (.g 3 false (mv e10) (.g 4 false (ne eq0 l1 l0) (.d (pick (lo 5) (cn .tt) l0) q15 .nil))))))))))))))) (.cond e15 (.seq (.reg (.d (mv (cn .ff)) q16 .nil)) .ret) .skip))))) .skip)) (.seq (.reg (.p (mv e0) (.p (mv e4) (.p (call q39 [l1, l0]) (.d (mv l0) q5 .nil))))) (.seq (.reg (.p (mv e0) (.p (call q30 [l0]) (.p (mv e4) (.p (call q31 [l1, l0]) (.d (mv l0) q6 .nil)))))) (.seq (.reg (.p (mv e5) (.p (ne eq0 l0 (cn (.p 0))) (.p (mv e6) (.p (w2 eqBo l1 l0) (.p (mv l0) (.g 0 true (mv e6) (.g 1 true (w1 notK l0) (.g 2 true (mv l0) (.g 0 false (mv e0) (.g 1 false (call q30 [l0]) (.g 2 false (mv e5) (.g 3 false (call q44 [l1, l0]) (.g 7 true (pick l4 (cn .tt) l0) (.p (pick (lo 8) l0 (cn .ff)) (.p (mv l0) (.g 0 true (call q41 []) (.p (pick l1 l0 (cn .ff)) (.d (mv l0) q16 .nil))))))))))))))))))) .ret)))))))))⟩
theorem T6 : trFunc Tryz.prog Tryz.f6 2 sl6 pl6 = some A6 := by kernel_rfl
noncomputable def S6x6 : ACode := (.seq (.reg (.p (mv e0) (.p (mv e4) (.p (call q39 [l1, l0]) (.d (mv l0) q5 .nil))))) (.seq (.reg (.p (mv e0) (.p (call q30 [l0]) (.p (mv e4) (.p (call q31 [l1, l0]) (.d (mv l0) q6 .nil)))))) (.seq (.reg (.p (mv e5) (.p (ne eq0 l0 (cn (.p 0))) (.p (mv e6) (.p (w2 eqBo l1 l0) (.p (mv l0) (.g 0 true (mv e6) (.g 1 true (w1 notK l0) (.g 2 true (mv l0) (.g 0 false (mv e0) (.g 1 false (call q30 [l0]) (.g 2 false (mv e5) (.g 3 false (call q44 [l1, l0]) (.g 7 true (pick l4 (cn .tt) l0) (.p (pick (lo 8) l0 (cn .ff)) (.p (mv l0) (.g 0 true (call q41 []) (.p (pick l1 l0 (cn .ff)) (.d (mv l0) q16 .nil))))))))))))))))))) .ret)))
theorem A6_l : A6 = ⟨[some q1, some q4], [(e16, none)], (.seq (.reg (.d (mv (cn .ff)) q16 .nil)) (.seq (.reg (.p (call q20 [(cn (.p 20000))]) (.p (mv l0) (.p (ext l0 0) (.p (ext l1 1) (.d (mv l1) q0 (.d (mv l1) q7 .nil))))))) (.seq (.seq (.reg (.p (mv e0) (.p (w2 eqNp l0 (cn .nilp)) (.p (mv l0) (.g 0 false (mv e7) (.g 1 false (ne eq0 l0 (cn (.p 0))) (.d (pick l2 (cn .tt) l0) q11 .nil))))))) (.cond e11 (.seq (.reg (.d (mv (cn .ff)) q16 .nil)) .ret) .skip)) (.seq (.reg (.p (mv e0) (.p (mv e1) (.p (call q42 [l1, l0]) (.p (mv l0) (.p (ext l0 0) (.p (ext l1 1) (.d (mv l1) q3 (.d (mv l1) q2 .nil))))))))) (.seq (.seq (.reg (.p (mv e2) (.p (w2 eq0 l0 (cn (.p 0))) (.p (mv e1) (.p (ge l0 (cn (.m 1152921504606846975))) (.p (mv l0) (.g 0 true (mv e1) (.g 1 true (le l0 (cn (.p 1152921504606846976))) (.p (pick l2 l0 (cn .ff)) (.p (ne eqBo (lo 6) l0) (.p (mv l0) (.g 0 false (mv e2) (.g 1 false (ne eq0 l0 (cn (.p 0))) (.g 2 false (mv l0) (.g 0 true (mv e2) (.g 1 true (ne eq0 l0 (cn (.p 2))) (.g 5 false (pick l2 l0 (cn .ff)) (.d (pick (lo 6) (cn .tt) l0) q12 .nil)))))))))))))))))) (.cond e12 (.seq (.reg (.d (mv (cn .ff)) q16 .nil)) .ret) .skip)) (.seq (.seq (.reg (.p (mv e2) (.d (w2 eq0 l0 (cn (.p 0))) q13 .nil))) (.cond e13 (.seq (.reg (.p (mv e0) (.p (mv e3) (.p (call q43 [l1, l0]) (.p (mv l0) (.p (ext l0 0) (.p (ext l1 1) (.d (mv l1) q8 (.d (mv l1) q9 .nil))))))))) (.seq (.reg (.p (mv e0) (.p (call q40 [l0, (cn (.p 8))]) (.d (mv l0) q10 .nil)))) (.seq (.seq (.reg (.p (mv e1) (.p (ge l0 (cn (.m 1073741823))) (.p (mv l0) (.g 0 true (mv e1) (.g 1 true (le l0 (cn (.p 1073741823))) (.d (pick l2 l0 (cn .ff)) q14 .nil))))))) (.cond e14 (.reg (.p (mv e0) (.p (call q40 [l0, (cn (.p 7))]) (.d (mv l0) q10 .nil)))) .skip)) (.seq (.reg (.p (mv e8) (.p (mv e1) (.p (ne eq0 l1 l0) (.p (mv l0) (.g 0 false (mv e9) (.g 1 false (w1 notK l0) (.p (pick l2 (cn .tt) l0) (.p (mv l0) (.g 0 false (mv e0) (.g 1 false (mv e3) (.g 2 false (call q39 [l1, l0]) (.g 3 false (mv e10) (.g 4 false (ne eq0 l1 l0) (.d (pick (lo 5) (cn .tt) l0) q15 .nil))))))))))))))) (.cond e15 (.seq (.reg (.d (mv (cn .ff)) q16 .nil)) .ret) .skip))))) .skip)) S6x6))))))⟩ := rfl
theorem w20N {N : Nat} (h1 : 16384 ≤ N) (h2 : N ≤ 131072) (k : K) : callK FW 61 q20 [.p N] ⟨.mt, .h⟩ k = k (.tup [.ptr L0.q 0, .p 0]) (S0 N) := by
  rw [w20]; exact newK_ok h1 h2 k
section
variable {L : Lay} {C : Cont} {s : St}
/-- any word: it has a class where it may stand -/
theorem tail6 (hA : At L C s) (h : Wo C) {e : Env} {x : Int} (he : Has e [(q0, .ptr L.q 0), (q4, vI x)]) : ∃ e', execK (callK FW 61) S6x6 e s = .ret e' s ∧ Has e' [(q16, .tt)] := by
  have h1 : ∀ k, callK FW 61 q39 [.ptr L.q 0, vI x] s k = k (vI (C.clsOf x)) s := fun k => classOf_k 59 hA h x k
  have h2 : ∀ k, callK FW 61 q30 [.ptr L.q 0] s k = k (.ptr L.mem 0) s := fun k => memory_k 60 hA k
  have h3 : ∀ k, callK FW 61 q31 [.ptr L.mem 0, vI x] s k = k (B (mayW C.t x)) s := fun k => may_k 60 hA x k
  have h4 : ∀ k, callK FW 61 q44 [.ptr L.mem 0, vI (C.clsOf x)] s k = k (B (isW C.t (C.clsOf x))) s := fun k => is_k 60 hA _ k
  simp at he
  rcases clsOf_may h x with ⟨a1, a2, a3⟩ | ⟨a1, a2⟩
  · rw [a1] at h3; rw [a2] at h4
    refine ⟨?_, ?_, ?_⟩
    rotate_left
    · simp only [S6x6]
      simp -implicitDefEqProofs [he, h1, h2, h3, h4, a3, w41]
      rfl
    · simp
  · rw [a1] at h3; rw [a2] at h1
    refine ⟨?_, ?_, ?_⟩
    rotate_left
    · simp only [S6x6]
      simp -implicitDefEqProofs [he, h1, h2, h3, w41]
      rfl
    · simp
end
theorem kn_small {x : Int} (h1 : -1073741824 ≤ x) (h2 : x ≤ 1073741823) : isSmallW (2 * x + 1) = true ∧ (2 * x + 1) / 2 = x := by
  rw [isSmallW_eq]
  have e1 : (2 * x + 1) / 2 = x := by omega
  have e2 : (2 * x + 1) % 2 = 1 := by omega
  rw [e1, e2, decide_eq_true h1, decide_eq_true h2]
  exact ⟨rfl, rfl⟩
theorem numbers_ev (n x : Int) : ∃ s', ∀ k, callF (.fn A6) (callK FW 61) [vI n, vI x] ⟨.mt, .h⟩ k = k .tt s' := by
  have hA := at0 20000
  have h := wo0 (N := 20000) (by omega) (by omega)
  have hnew := fun k => w20N (N := 20000) (by omega) (by omega) k
  rcases number_k 58 hA h n with ⟨hn, hk⟩ | ⟨hn1, hn2, hk⟩ | ⟨hn1, hn2, hn3, hh⟩
  · -- no number
    obtain ⟨E, hpre, hE⟩ : ∃ E, (∀ k, callF (.fn A6) (callK FW 61) [vI n, vI x] ⟨.mt, .h⟩ k = finK (execK (callK FW 61) S6x6 E (S0 20000)) A6.results k) ∧ Has E [(q0, .ptr L0.q 0), (q4, vI x)] := by
      have c1 : ¬ (-1152921504606846976 ≤ n ∧ n ≤ 1152921504606846976) := by omega
      rcases hn with hn | hn
      · refine ⟨?_, fun k => ?_, ?_⟩
        rotate_left
        · rw [A6_l]
          simp -implicitDefEqProofs [-q20, hnew, hk, Int.negSucc_eq, show n < -1152921504606846976 by omega]
          rfl
        · simp
      · refine ⟨?_, fun k => ?_, ?_⟩
        rotate_left
        · rw [A6_l]
          simp -implicitDefEqProofs [-q20, hnew, hk, Int.negSucc_eq, show ¬ n < -1152921504606846976 by omega, show 1152921504606846976 < n by omega]
          rfl
        · simp
    obtain ⟨e', h1, h2⟩ := tail6 hA h hE
    refine ⟨S0 20000, fun k => ?_⟩
    simp at h2
    rw [hpre, h1]
    simp -implicitDefEqProofs [A6, h2]
  · -- a small one
    obtain ⟨hs, hd⟩ := kn_small hn1 hn2
    have hv : ∀ k, callK FW 61 q43 [.ptr L0.q 0, vI (2 * n + 1)] (S0 20000) k = k (.tup [vI n, .tt]) (S0 20000) := fun k => by
      have := value_small 59 hA hs k
      rw [hd] at this; exact this
    have hw : isW (C0 20000).t (2 * n + 1) = false := by
      cases hi : isW (C0 20000).t (2 * n + 1) with
      | false => rfl
      | true =>
        obtain ⟨a, ha, _⟩ := (h.ok.isW_iff _).1 hi
        omega
    have hc : ∀ k, callK FW 61 q39 [.ptr L0.q 0, vI (2 * n + 1)] (S0 20000) k = k (vI ((C0 20000).kn 7)) (S0 20000) := fun k => by
      have := classOf_k 59 hA h (2 * n + 1) k
      unfold Cont.clsOf at this
      rw [hw, hs] at this; exact this
    have k8 : ∀ k, callK FW 61 q40 [.ptr L0.q 0, .p 8] (S0 20000) k = k (vI ((C0 20000).kn 8)) (S0 20000) := fun k => known_k 60 hA h.rl (by omega) k
    have k7 : ∀ k, callK FW 61 q40 [.ptr L0.q 0, .p 7] (S0 20000) k = k (vI ((C0 20000).kn 7)) (S0 20000) := fun k => known_k 60 hA h.rl (by omega) k
    obtain ⟨E, hpre, hE⟩ : ∃ E, (∀ k, callF (.fn A6) (callK FW 61) [vI n, vI x] ⟨.mt, .h⟩ k = finK (execK (callK FW 61) S6x6 E (S0 20000)) A6.results k) ∧ Has E [(q0, .ptr L0.q 0), (q4, vI x)] := by
      refine ⟨?_, fun k => ?_, ?_⟩
      rotate_left
      · rw [A6_l]
        simp -implicitDefEqProofs [-q20, hnew, hk, Int.negSucc_eq, show ¬ n < -1152921504606846976 by omega, show ¬ 1152921504606846976 < n by omega, show ¬ n < -1073741824 by omega, show ¬ 1073741823 < n by omega, hv, hc, k8, k7]
        rfl
      · simp
    obtain ⟨e', h1, h2⟩ := tail6 hA h hE
    refine ⟨S0 20000, fun k => ?_⟩
    simp at h2
    rw [hpre, h1]
    simp -implicitDefEqProofs [A6, h2]
  · -- a large one
    rcases hh with ⟨hr, _⟩ | ⟨hr, s1, hk, hA1, _⟩
    · have : (C0 20000).N = 20000 := rfl
      have : (C0 20000).e = 4321 := rfl
      omega
    have hn1' : (C0 20000).e + [n].length + 3 ≤ (C0 20000).N := hr
    obtain ⟨a1, a2, a3, a4, a5, a6, a7⟩ := obj1_base h.ok ((C0 20000).kn 8) (f := 1) hn1' (by omega) (by simp)
    have ag := obj1_get h.ok ((C0 20000).kn 8) (f := 1) hn1' (by omega) (by simp) (fun y _ => by unfold fitW; rfl) 0 (by simp)
    have hw1 := h.obj1 (h.kn 8 (by omega)) (f := 1) hn1' (by omega) (by simp)
    have hkn : ∀ i, ((C0 20000).obj1 ((C0 20000).kn 8) 1 [n]).kn i = (C0 20000).kn i := (obj1_rest (C := C0 20000) _ _ _).2.2.2.2.2.2.2.1
    have h8 := hkn 8
    generalize hC1 : (C0 20000).obj1 ((C0 20000).kn 8) 1 [n] = C1 at *
    have hi : isW C1.t ((2 * (C0 20000).e : Nat) : Int) = true := (a2.isW_iff _).2 ⟨_, rfl, a3⟩
    have hns : isSmallW ((2 * (C0 20000).e : Nat) : Int) = false := by
      rw [isSmallW_eq, decide_eq_false (by omega)]; rfl
    have hv : ∀ k, callK FW 61 q43 [.ptr L0.q 0, .p (2 * (C0 20000).e)] s1 k = k (.tup [vI n, .tt]) s1 := fun k => by
      have := value_large 58 hA1 hw1 hns hi (by rw [a5, h8]) a6 k
      rw [show (0 : Int) = ((0 : Nat) : Int) from rfl, ag] at this; exact this
    have hc : ∀ k, callK FW 61 q39 [.ptr L0.q 0, .p (2 * (C0 20000).e)] s1 k = k (vI ((C0 20000).kn 8)) s1 := fun k => by
      have := classOf_k 59 hA1 hw1 ((2 * (C0 20000).e : Nat) : Int) k
      unfold Cont.clsOf at this
      rw [hi, if_pos rfl, a5] at this; exact this
    have k8 : ∀ k, callK FW 61 q40 [.ptr L0.q 0, .p 8] s1 k = k (vI ((C0 20000).kn 8)) s1 := fun k => by
      have := known_k 60 hA1 hw1.rl (i := 8) (by omega) k
      rw [h8] at this; exact this
    obtain ⟨E, hpre, hE⟩ : ∃ E, (∀ k, callF (.fn A6) (callK FW 61) [vI n, vI x] ⟨.mt, .h⟩ k = finK (execK (callK FW 61) S6x6 E s1) A6.results k) ∧ Has E [(q0, .ptr L0.q 0), (q4, vI x)] := by
      rcases hn3 with hn3 | hn3
      · refine ⟨?_, fun k => ?_, ?_⟩
        rotate_left
        · rw [A6_l]
          simp -implicitDefEqProofs [-q20, hnew, hk, Int.negSucc_eq, show ¬ n < -1152921504606846976 by omega, show ¬ 1152921504606846976 < n by omega, show n < -1073741824 by omega, hv, hc, k8]
          rfl
        · simp
      · refine ⟨?_, fun k => ?_, ?_⟩
        rotate_left
        · rw [A6_l]
          simp -implicitDefEqProofs [-q20, hnew, hk, Int.negSucc_eq, show ¬ n < -1152921504606846976 by omega, show ¬ 1152921504606846976 < n by omega, show ¬ n < -1073741824 by omega, show 1073741823 < n by omega, hv, hc, k8]
          rfl
        · simp
    obtain ⟨e', h1, h2⟩ := tail6 hA1 hw1 hE
    refine ⟨s1, fun k => ?_⟩
    simp at h2
    rw [hpre, h1]
    simp -implicitDefEqProofs [A6, h2]
theorem ints_rel {n x : Int} (h1 : -9223372036854775808 ≤ n) (h2 : n < 9223372036854775808) (h3 : -9223372036854775808 ≤ x) (h4 : x < 9223372036854775808) : VRels (fun _ => none) [vI n, vI x] [.int .i64 n, .int .i64 x] :=
  .cons _ _ _ _ (vI_rel h1 h2) (.cons _ _ _ _ (vI_rel h3 h4) .nil)
theorem numbers_goes {n x : Int} (h1 : -9223372036854775808 ≤ n) (h2 : n < 9223372036854775808) (h3 : -9223372036854775808 ≤ x) (h4 : x < 9223372036854775808) (w : World) : True' 6 #[.int .i64 n, .int .i64 x] w := by
  obtain ⟨s', hs⟩ := numbers_ev n x
  exact true_of T6 Tryz.func6 Tryz.call6 (ints_rel h1 h2 h3 h4) hs
end Viv
