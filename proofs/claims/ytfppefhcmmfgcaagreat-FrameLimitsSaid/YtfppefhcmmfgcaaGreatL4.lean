/-
  FrameLimits: its run.
-/
import Derived.Test.YtfppefhcmmfgcaaGreatGf
import Derived.Test.YtfppefhcmmfgcaaGreatLc
set_option maxRecDepth 100000
namespace Viv
open Go (Value World IntKind Addr Program Act Exit Oper Operand Ending undef)
open Go.Proofs

def sl4 : List Nat := [5, 0, 7, 6, 8, 1, 18, 48, 52, 78, 84, 91, 4]
def pl4 : List PlanD := []
noncomputable def A4 : AFunc := ⟨[some q1, some q5], [(e12, none)], (.seq (.reg (.d (mv (cn .ff)) q12 .nil)) (.seq (.reg (.p (call q29 []) (.d (mv l0) q0 .nil))) (.seq (.seq (.reg (.p (mv e0) (.p (w2 eqNp l0 (cn .nilp)) (.p (mv l0) (.g 0 false (mv e0) (.g 1 false (w1 nilcK l0) (.g 2 false (fad 1 l0) (.g 3 false (ld l0) (.g 4 false (w2 eqNp l0 (cn .nilp)) (.d (pick (lo 5) (cn .tt) l0) q6 .nil)))))))))) (.cond e6 (.seq (.reg (.d (mv (cn .ff)) q12 .nil)) .ret) .skip)) (.seq (.reg (.p (mv e0) (.p (w1 nilcK l0) (.p (fad 0 l0) (.p (ld l0) (.p (call q30 [l0]) (.p (mv e1) (.p (call q31 [l1, l0]) (.d (mv l0) q3 .nil))))))))) (.seq (.seq (.reg (.p (mv e0) (.p (w1 nilcK l0) (.p (fad 1 l0) (.p (ld l0) (.p (mv e1) (.p (build [(.p 0), (.p 0), (.p 0), (.p 0), (.p 0), .nils, .nils, .ff, (.p 0), (.p 0)] [(1, 1, l0)]) (.p (call q32 [l2, l0]) (.p (w2 eq0 l0 (cn (.p 0))) (.p (mv e3) (.p (ne eqBo l1 l0) (.p (mv l0) (.g 0 false (mv e0) (.g 1 false (w1 nilcK l0) (.g 2 false (fad 1 l0) (.g 3 false (ld l0) (.g 4 false (mv e1) (.g 5 false (bslice 1 [(.p 0)] [(0, 1, l0)]) (.g 6 false (build [(.p 0), (.p 0), (.p 0), (.p 0), (.p 0), .nils, .nils, .ff, (.p 0), (.p 0)] [(6, 1, l0)]) (.g 7 false (call q32 [l3, l0]) (.g 8 false (w2 eq0 l0 (cn (.p 0))) (.g 9 false (mv e3) (.g 10 false (ne eqBo l1 l0) (.d (pick (lo 11) (cn .tt) l0) q7 .nil)))))))))))))))))))))))) (.cond e7 (.seq (.reg (.d (mv (cn .ff)) q12 .nil)) .ret) .skip)) (.seq (.reg (.d (mv (cn .nils)) q2 .nil)) (.seq (.seq (.reg (.d (mv (cn (.p 0))) q4 .nil)) (.block 0 (.loop (.seq (.seq (.reg (.p (mv e4) (.p (mv e5) (.p (call q33 [l0, (cn (.p 40))]) (.d (w2 ltK l2 l0) q8 .nil))))) (.cond e8 .skip (.exit 0))) (.seq (.block 1 (.reg (.p (mv e2) (.p (bslice 1 [(.p 0)] [(0, 1, (cn (.p 1)))]) (.p (app 1 l1 l0) (.d (mv l0) q2 .nil)))))) (.reg (.p (mv e4) (.p (w2 addK l0 (cn (.p 1))) (.d (mv l0) q4 .nil))))))))) (.seq (.seq (.reg (.p (mv e0) (.p (w1 nilcK l0) (.p (fad 1 l0) (.p (ld l0) (.p (mv e2) (.p (build [(.p 0), (.p 0), (.p 0), (.p 0), (.p 0), .nils, .nils, .ff, (.p 0), (.p 0)] [(5, 1, l0)]) (.p (call q32 [l2, l0]) (.p (w2 eq0 l0 (cn (.p 0))) (.p (mv e2) (.p (w1 lenLK l0) (.p (le l0 (cn (.p 24))) (.p (ne eqBo l3 l0) (.p (mv l0) (.g 0 false (mv e0) (.g 1 false (w1 nilcK l0) (.g 2 false (fad 1 l0) (.g 3 false (ld l0) (.g 4 false (build [(.p 0), (.p 0), (.p 0), (.p 0), (.p 0), .nils, .nils, .ff, (.p 0), (.p 0)] [(4, 1, (cn (.p 6)))]) (.g 5 false (call q32 [l1, l0]) (.g 6 false (ne eq0 l0 (cn (.p 1))) (.d (pick (lo 7) (cn .tt) l0) q9 .nil)))))))))))))))))))))) (.cond e9 (.seq (.reg (.d (mv (cn .ff)) q12 .nil)) .ret) .skip)) (.seq (.block 2 (.loop (.seq (.seq (.reg (.p (mv e0) (.p (w1 nilcK l0) (.p (fad 1 l0) (.p (ld l0) (.p (call q34 [l0]) (.d (w2 ltK l0 (cn (.p 60))) q10 .nil))))))) (.cond e10 .skip (.exit 2))) (.block 3 (.seq (.reg (.p (mv e0) (.p (w1 nilcK l0) (.p (fad 1 l0) (.p (ld l0) (.p (build [(.p 0), (.p 0), (.p 0), (.p 0), (.p 0), .nils, .nils, .ff, (.p 0), (.p 0)] []) (.p (call q32 [l1, l0]) (.d (ne eq0 l0 (cn (.p 0))) q11 .nil)))))))) (.cond e11 (.seq (.reg (.d (mv (cn .ff)) q12 .nil)) .ret) .skip)))))) (.seq (.reg (.p (mv e0) (.p (w1 nilcK l0) (.p (fad 1 l0) (.p (ld l0) (.p (build [(.p 0), (.p 0), (.p 0), (.p 0), (.p 0), .nils, .nils, .ff, (.p 0), (.p 0)] []) (.p (call q32 [l1, l0]) (.p (w2 eq0 l0 (cn (.p 22))) (.p (mv l0) (.g 0 true (mv e0) (.g 1 true (w1 nilcK l0) (.g 2 true (fad 1 l0) (.g 3 true (ld l0) (.g 4 true (call q35 [l0]) (.g 5 true (ne eqNp l0 (cn .nilp)) (.p (pick (lo 6) l0 (cn .ff)) (.p (mv l0) (.g 0 true (call q36 []) (.p (pick l1 l0 (cn .ff)) (.d (mv l0) q12 .nil)))))))))))))))))))) .ret))))))))))⟩
theorem T4 : trFunc Tryz.prog Tryz.f4 2 sl4 pl4 = some A4 := by kernel_rfl
def sl29 : List Nat := [1, 2, 12, 0]
def pl29 : List PlanD := []
noncomputable def A29 : AFunc := ⟨[], [(e3, none)], (.seq (.reg (.d (mv (cn .nilp)) q3 .nil)) (.seq (.reg (.p (call q20 [(cn (.p 40000))]) (.p (mv l0) (.p (ext l0 0) (.p (ext l1 1) (.d (mv l1) q0 (.d (mv l1) q1 .nil))))))) (.seq (.seq (.reg (.p (mv e0) (.p (w2 eqNp l0 (cn .nilp)) (.p (mv l0) (.g 0 false (mv e1) (.g 1 false (ne eq0 l0 (cn (.p 0))) (.d (pick l2 (cn .tt) l0) q2 .nil))))))) (.cond e2 (.seq (.reg (.d (mv (cn .nilp)) q3 .nil)) .ret) .skip)) (.seq (.reg (.p (mv e0) (.p (mv e0) (.p (call q90 [l0]) (.p (build [.nils, .nils] []) (.p (box l0) (.p (build [.nilp, .nilp, .nilp, .nils] [(0, 1, l4), (1, 1, l2), (2, 1, l0)]) (.p (box l0) (.d (mv l0) q3 .nil))))))))) .ret))))⟩
theorem T29 : trFunc Tryz.prog Tryz.f29 0 sl29 pl29 = some A29 := by kernel_rfl
def sl33 : List Nat := [0, 1, 6, 4]
def pl33 : List PlanD := []
noncomputable def A33 : AFunc := ⟨[some q0, some q1], [(e3, none)], (.seq (.reg (.d (mv (cn (.p 0))) q3 .nil)) (.seq (.seq (.reg (.p (mv e0) (.d (w2 ltK l0 (cn (.p 0))) q2 .nil))) (.cond e2 (.reg (.p (mv e0) (.p (w2 addK l0 (cn (.p 1))) (.p (w1 negK l0) (.d (mv l0) q0 .nil))))) .skip)) (.seq (.reg (.p (mv e0) (.p (mv e1) (.p (w2 remK l1 l0) (.d (mv l0) q3 .nil))))) .ret)))⟩
theorem T33 : trFunc Tryz.prog Tryz.f33 2 sl33 pl33 = some A33 := by kernel_rfl
noncomputable def B4x0 : ACode := (.seq (.seq (.reg (.p (mv e4) (.p (mv e5) (.p (call q33 [l0, (cn (.p 40))]) (.d (w2 ltK l2 l0) q8 .nil))))) (.cond e8 .skip (.exit 0))) (.seq (.block 1 (.reg (.p (mv e2) (.p (bslice 1 [(.p 0)] [(0, 1, (cn (.p 1)))]) (.p (app 1 l1 l0) (.d (mv l0) q2 .nil)))))) (.reg (.p (mv e4) (.p (w2 addK l0 (cn (.p 1))) (.d (mv l0) q4 .nil))))))
noncomputable def B4x1 : ACode := (.seq (.seq (.reg (.p (mv e0) (.p (w1 nilcK l0) (.p (fad 1 l0) (.p (ld l0) (.p (call q34 [l0]) (.d (w2 ltK l0 (cn (.p 60))) q10 .nil))))))) (.cond e10 .skip (.exit 2))) (.block 3 (.seq (.reg (.p (mv e0) (.p (w1 nilcK l0) (.p (fad 1 l0) (.p (ld l0) (.p (build [(.p 0), (.p 0), (.p 0), (.p 0), (.p 0), .nils, .nils, .ff, (.p 0), (.p 0)] []) (.p (call q32 [l1, l0]) (.d (ne eq0 l0 (cn (.p 0))) q11 .nil)))))))) (.cond e11 (.seq (.reg (.d (mv (cn .ff)) q12 .nil)) .ret) .skip))))
noncomputable def S4x9 : ACode := (.seq (.reg (.p (mv e0) (.p (w1 nilcK l0) (.p (fad 1 l0) (.p (ld l0) (.p (build [(.p 0), (.p 0), (.p 0), (.p 0), (.p 0), .nils, .nils, .ff, (.p 0), (.p 0)] []) (.p (call q32 [l1, l0]) (.p (w2 eq0 l0 (cn (.p 22))) (.p (mv l0) (.g 0 true (mv e0) (.g 1 true (w1 nilcK l0) (.g 2 true (fad 1 l0) (.g 3 true (ld l0) (.g 4 true (call q35 [l0]) (.g 5 true (ne eqNp l0 (cn .nilp)) (.p (pick (lo 6) l0 (cn .ff)) (.p (mv l0) (.g 0 true (call q36 []) (.p (pick l1 l0 (cn .ff)) (.d (mv l0) q12 .nil)))))))))))))))))))) .ret)
noncomputable def S4x8 : ACode := (.seq (.block 2 (.loop B4x1)) S4x9)
noncomputable def S4x7 : ACode := (.seq (.seq (.reg (.p (mv e0) (.p (w1 nilcK l0) (.p (fad 1 l0) (.p (ld l0) (.p (mv e2) (.p (build [(.p 0), (.p 0), (.p 0), (.p 0), (.p 0), .nils, .nils, .ff, (.p 0), (.p 0)] [(5, 1, l0)]) (.p (call q32 [l2, l0]) (.p (w2 eq0 l0 (cn (.p 0))) (.p (mv e2) (.p (w1 lenLK l0) (.p (le l0 (cn (.p 24))) (.p (ne eqBo l3 l0) (.p (mv l0) (.g 0 false (mv e0) (.g 1 false (w1 nilcK l0) (.g 2 false (fad 1 l0) (.g 3 false (ld l0) (.g 4 false (build [(.p 0), (.p 0), (.p 0), (.p 0), (.p 0), .nils, .nils, .ff, (.p 0), (.p 0)] [(4, 1, (cn (.p 6)))]) (.g 5 false (call q32 [l1, l0]) (.g 6 false (ne eq0 l0 (cn (.p 1))) (.d (pick (lo 7) (cn .tt) l0) q9 .nil)))))))))))))))))))))) (.cond e9 (.seq (.reg (.d (mv (cn .ff)) q12 .nil)) .ret) .skip)) S4x8)
noncomputable def S4x6 : ACode := (.seq (.seq (.reg (.d (mv (cn (.p 0))) q4 .nil)) (.block 0 (.loop B4x0))) S4x7)
noncomputable def S4x5 : ACode := (.seq (.reg (.d (mv (cn .nils)) q2 .nil)) S4x6)
noncomputable def S4x3 : ACode := (.seq (.reg (.p (mv e0) (.p (w1 nilcK l0) (.p (fad 0 l0) (.p (ld l0) (.p (call q30 [l0]) (.p (mv e1) (.p (call q31 [l1, l0]) (.d (mv l0) q3 .nil))))))))) (.seq (.seq (.reg (.p (mv e0) (.p (w1 nilcK l0) (.p (fad 1 l0) (.p (ld l0) (.p (mv e1) (.p (build [(.p 0), (.p 0), (.p 0), (.p 0), (.p 0), .nils, .nils, .ff, (.p 0), (.p 0)] [(1, 1, l0)]) (.p (call q32 [l2, l0]) (.p (w2 eq0 l0 (cn (.p 0))) (.p (mv e3) (.p (ne eqBo l1 l0) (.p (mv l0) (.g 0 false (mv e0) (.g 1 false (w1 nilcK l0) (.g 2 false (fad 1 l0) (.g 3 false (ld l0) (.g 4 false (mv e1) (.g 5 false (bslice 1 [(.p 0)] [(0, 1, l0)]) (.g 6 false (build [(.p 0), (.p 0), (.p 0), (.p 0), (.p 0), .nils, .nils, .ff, (.p 0), (.p 0)] [(6, 1, l0)]) (.g 7 false (call q32 [l3, l0]) (.g 8 false (w2 eq0 l0 (cn (.p 0))) (.g 9 false (mv e3) (.g 10 false (ne eqBo l1 l0) (.d (pick (lo 11) (cn .tt) l0) q7 .nil)))))))))))))))))))))))) (.cond e7 (.seq (.reg (.d (mv (cn .ff)) q12 .nil)) .ret) .skip)) S4x5))
theorem A4_l : A4 = ⟨[some q1, some q5], [(e12, none)], (.seq (.reg (.d (mv (cn .ff)) q12 .nil)) (.seq (.reg (.p (call q29 []) (.d (mv l0) q0 .nil))) (.seq (.seq (.reg (.p (mv e0) (.p (w2 eqNp l0 (cn .nilp)) (.p (mv l0) (.g 0 false (mv e0) (.g 1 false (w1 nilcK l0) (.g 2 false (fad 1 l0) (.g 3 false (ld l0) (.g 4 false (w2 eqNp l0 (cn .nilp)) (.d (pick (lo 5) (cn .tt) l0) q6 .nil)))))))))) (.cond e6 (.seq (.reg (.d (mv (cn .ff)) q12 .nil)) .ret) .skip)) S4x3)))⟩ := rfl
def sl35 : List Nat := [0, 8, 2]
def pl35 : List PlanD := [⟨3, [.op 0, .op 1, .op 2, .op 4, .op 5, .op 6, .op 3, .op 7, .op 8, .op 9, .op 10, .op 11], [0, 1, 2, 6, 3, 4, 5, 7, 8, 9, 10, 11], [0, 1, 3, 7, 0, 16, 48, 112, 240, 496, 1023, 2047]⟩]
noncomputable def A35 : AFunc := ⟨[some q0], [(e2, none)], (.seq (.reg (.d (mv (cn .nilp)) q2 .nil)) (.seq (.seq (.reg (.p (mv e0) (.p (w1 nilcK l0) (.p (fad 1 l0) (.p (ld l0) (.p (w1 lenLK l0) (.d (w2 eq0 l0 (cn (.p 0))) q1 .nil))))))) (.cond e1 (.seq (.reg (.d (mv (cn .nilp)) q2 .nil)) .ret) .skip)) (.seq (.reg (.p (mv e0) (.p (w1 nilcK l0) (.p (fad 1 l0) (.p (mv e0) (.p (w1 nilcK l0) (.p (fad 1 l0) (.p (ld l3) (.p (ld l1) (.p (w1 lenLK l0) (.p (w2 subK l0 (cn (.p 1))) (.p (iad 10 l3 l0) (.d (mv l0) q2 .nil))))))))))))) .ret)))⟩
theorem T35 : trFunc Tryz.prog Tryz.f35 1 sl35 pl35 = some A35 := by kernel_rfl
noncomputable def H4 : Tr FE := pset .no q35 (.fn A35) (pset .no q33 (.fn A33) (pset .no q29 (.fn A29) .mt))
theorem H4_ok : ∀ f, FEok Tryz.prog (num f) (pget .no f H4) := FEok_pset (FEok_pset (FEok_pset FEok_mt (num_q (i := 29) rfl (feok_fn T29 Tryz.func29 Tryz.call29))) (num_q (i := 33) rfl (feok_fn T33 Tryz.func33 Tryz.call33))) (num_q (i := 35) rfl (feok_fn T35 Tryz.func35 Tryz.call35))
noncomputable def cL4 : CF := lawC H4 (callK FW 61)
theorem cL4_snd : CFSound Tryz.prog cL4 := lawC_snd H4_ok (FW_snd 61)
theorem f29 (l : List V) (s : St) (k : K) : cL4 q29 l s k = callF (.fn A29) (callK FW 61) l s k := by kernel_rfl
theorem f33 (l : List V) (s : St) (k : K) : cL4 q33 l s k = callF (.fn A33) (callK FW 61) l s k := by kernel_rfl
theorem f30 (l : List V) (s : St) (k : K) : cL4 q30 l s k = callK FW 61 q30 l s k := by kernel_rfl
theorem f31 (l : List V) (s : St) (k : K) : cL4 q31 l s k = callK FW 61 q31 l s k := by kernel_rfl
theorem f32 (l : List V) (s : St) (k : K) : cL4 q32 l s k = callK FW 61 q32 l s k := by kernel_rfl
theorem f34 (l : List V) (s : St) (k : K) : cL4 q34 l s k = callK FW 61 q34 l s k := by kernel_rfl
theorem f35 (l : List V) (s : St) (k : K) : cL4 q35 l s k = callF (.fn A35) (callK FW 61) l s k := by kernel_rfl
theorem f36 (s : St) (k : K) : cL4 q36 [] s k = k .tt s := by kernel_rfl
theorem g34 : pget .no q34 FW = .fn A34 := by kernel_rfl
theorem g90 : pget .no q90 FW = .fn A90 := by kernel_rfl
theorem w20F {N : Nat} (h1 : 16384 ≤ N) (h2 : N ≤ 131072) (k : K) : callK FW 61 q20 [.p N] ⟨.mt, .h⟩ k = k (.tup [.ptr L0.q 0, .p 0]) (S0 N) := by
  rw [w20]; exact newK_ok h1 h2 k
/-- the state behind begin -/
noncomputable def S4 : St := (((S0 40000).push (.row [.ptr L0.q 0, .nils])).push (.row [.nils, .nils])).push (.row [.ptr L0.q 0, .ptr q6 0, .ptr q7 0, .nils])
theorem begin_k (k : K) : callF (.fn A29) (callK FW 61) [] ⟨.mt, .h⟩ k = k (.ptr q8 0) S4 := by
  have hn := fun k => w20F (N := 40000) (by omega) (by omega) k
  have h90 : ∀ k, callK FW 61 q90 [.ptr L0.q 0] (S0 40000) k = k (.ptr q6 0) ((S0 40000).push (.row [.ptr L0.q 0, .nils])) := fun k => by
    rw [callK_fn (n := 60) g90]
    simp -implicitDefEqProofs [A90]
    rfl
  simp -implicitDefEqProofs [A29, -q20, hn, h90]
  rfl
/-- a pair in a state -/
structure PairAt (L : Lay) (s : St) (pid sq rq : Pth) : Prop where
  g : s.get pid = .row [.ptr L.q 0, .ptr sq 0, .ptr rq 0, .nils]
  old : num pid < num s.next
  ne : pid ≠ sq
theorem PairAt.keep {L : Lay} {s s' : St} {pid sq rq : Pth} {X : Pth → Prop} (h : PairAt L s pid sq rq) (hk : Keep X s s') (hx : ¬ X pid) : PairAt L s' pid sq rq :=
  ⟨by rw [hk.same pid h.old hx]; exact h.g, Nat.lt_of_lt_of_le h.old hk.next, h.ne⟩
/-- all that a law knows of its state -/
structure Now (L : Lay) (C : Cont) (s : St) (pid sq rq : Pth) (fv : V) (nf : Nat) (xs : List V) : Prop where
  a : At L C s
  st : StkAt L s sq fv nf xs
  p : PairAt L s pid sq rq
  r : ∀ i, fv.ref i → i ≠ pid
section
variable {L : Lay} {C : Cont} {s : St} {pid sq rq : Pth} {fv : V} {nf : Nat} {xs : List V}
theorem Now.keep (h : Now L C s pid sq rq fv nf xs) {s' : St} (hk : Keep (fun _ => False) s s') : Now L C s' pid sq rq fv nf xs :=
  ⟨h.a.keep hk (fun _ x => x.elim), h.st.keep hk (fun x => x.elim) (fun _ _ x => x.elim), h.p.keep hk (fun x => x.elim), h.r⟩
/-- a push, whatever comes of it -/
theorem push_now (hN : Now L C s pid sq rq fv nf xs) {m r h pc c tg v : Int} {tv sv on : V} {ts ss : List Int} (ht : Sl L s tv ts) (hs : Sl L s sv ss) (hlt : ts.length < 100000) (hls : ss.length < 100000) :
    ∃ s' fv' nf' xs' e, (∀ k, callK FW 61 q32 [.ptr sq 0, .agg (frow m r h pc c tv sv on tg v)] s k = k (.p e) s') ∧ Now L C s' pid sq rq fv' nf' xs' ∧ num s.next ≤ num s'.next ∧
      ((60 ≤ nf ∧ e = 22 ∧ nf' = nf) ∨ (nf < 60 ∧ rightF C m r h c v ts ss = false ∧ e = 1 ∧ nf' = nf) ∨ (nf < 60 ∧ rightF C m r h c v ts ss = true ∧ e = 0 ∧ nf' = nf + 1)) ∧ ∀ i, num i < num s.next → i ≠ sq → ¬ fv.ref i → s'.get i = s.get i := by
  obtain ⟨s', fv', hA', ⟨h1, h2, h3, h4⟩ | ⟨h1, h2, h3, h4, h5⟩ | ⟨h1, h2, h3, ⟨tv', sv', h4⟩, h5, h6⟩⟩ := pushF_k 57 hN.a hN.st (m := m) (r := r) (h := h) (pc := pc) (c := c) (tg := tg) (v := v) (on := on) ht hs hlt hls
  · exact ⟨s', fv, nf, xs, 22, h2, hN.keep h4, h4.next, .inl ⟨h1, rfl, rfl⟩, fun i hi _ _ => h4.same i hi (fun x => x.elim)⟩
  · exact ⟨s', fv, nf, xs, 1, h3, hN.keep h5, h5.next, .inr (.inl ⟨h1, h2, rfl, rfl⟩), fun i hi _ _ => h5.same i hi (fun x => x.elim)⟩
  · refine ⟨s', fv', nf + 1, _, 0, h3, ⟨hA', h4, hN.p.keep h5 (fun x => x.elim (fun e => hN.p.ne e) (fun e => hN.r pid e rfl)), fun i hi => ?_⟩, h5.next, .inr (.inr ⟨h1, h2, rfl, rfl⟩), fun i hi h7 h8 => h5.same i hi (fun x => x.elim h7 h8)⟩
    rcases h6 i hi with h' | h'
    · exact hN.r i h'
    · intro e; subst e; have := hN.p.old; omega
theorem depth_now (hN : Now L C s pid sq rq fv nf xs) (k : K) : callK FW 61 q34 [.ptr sq 0] s k = k (.p nf) s := by
  have h1 := hN.st.vc.okK
  have h2 := hN.st.vc.lenv
  rw [callK_fn (n := 60) g34]
  simp -implicitDefEqProofs [A34, hN.st.q, h1, h2]
end
/-- one of forty -/
theorem pick_k {x : Int} (h1 : -9223372036854775808 ≤ x) (h2 : x < 9223372036854775808) : ∃ m : Nat, m < 40 ∧ ∀ (s : St) (k : K), callF (.fn A33) (callK FW 61) [vI x, .p 40] s k = k (.p m) s := by
  have hr : ∀ (a : Nat) (kv : KV), remK (.p a) (.p 40) kv = kv (.p (a % 40)) := fun a kv => rfl
  cases x with
  | ofNat a =>
    refine ⟨a % 40, Nat.mod_lt _ (by omega), fun s k => ?_⟩
    simp -implicitDefEqProofs [A33, hr]
  | negSucc a =>
    refine ⟨a % 40, Nat.mod_lt _ (by omega), fun s k => ?_⟩
    rw [Int.negSucc_eq] at h1
    by_cases h0 : a = 0
    · subst h0
      have e1 : ∀ kv, addK (.m 0) (.p 1) kv = kv (.p 0) := fun kv => rfl
      have e2 : ∀ kv, negK (.p 0) kv = kv (.p 0) := fun kv => rfl
      show callF (.fn A33) (callK FW 61) [.m 0, .p 40] s k = _
      simp -implicitDefEqProofs [A33, hr, e1, e2]
    · have e1 : ∀ kv, addK (.m a) (.p 1) kv = kv (.m (a - 1)) := fun kv => by rw [addK_mp, sb_lt (by omega)]; congr 1
      have e2 : ∀ kv, negK (.m (a - 1)) kv = kv (.p a) := fun kv => by
        show chkP (a - 1 + 1) kv = _
        rw [show a - 1 + 1 = a by omega, chkP_ok (by omega)]
      simp -implicitDefEqProofs [A33, hr, e1, e2]
section
variable {L : Lay} {C : Cont} {pid sq rq : Pth}
theorem may0 (C : Cont) : mayW C.t 0 = true := by unfold mayW; rw [iEq_eq, iEq_eq, iEq_eq]; rfl
theorem may1 (C : Cont) : mayW C.t 1 = true := by
  have : isSmallW 1 = true := by rw [isSmallW_eq]; rfl
  unfold mayW; rw [this]; cases iEq 1 4 <;> cases iEq 1 2 <;> cases iEq 1 0 <;> rfl
/-- an empty frame -/
theorem push_empty {s : St} {fv : V} {nf : Nat} {xs : List V} (hN : Now L C s pid sq rq fv nf xs) :
    ∃ s' fv' nf' xs' e, (∀ k, callK FW 61 q32 [.ptr sq 0, .agg [.p 0, .p 0, .p 0, .p 0, .p 0, .nils, .nils, .ff, .p 0, .p 0]] s k = k (.p e) s') ∧ Now L C s' pid sq rq fv' nf' xs' ∧ ((60 ≤ nf ∧ e = 22 ∧ nf' = nf) ∨ (nf < 60 ∧ e = 0 ∧ nf' = nf + 1)) := by
  obtain ⟨s', fv', nf', xs', e, h1, h2, _, h3, _⟩ := push_now hN (m := 0) (r := 0) (h := 0) (pc := 0) (c := 0) (tg := 0) (v := 0) (on := .ff) (ts := []) (ss := []) .nils .nils (by simp) (by simp)
  have hR : rightF C 0 0 0 0 0 [] [] = true := by unfold rightF; rw [may0]; rfl
  refine ⟨s', fv', nf', xs', e, h1, h2, ?_⟩
  rw [hR] at h3
  rcases h3 with h3 | ⟨_, h, _⟩ | ⟨h4, _, h5, h6⟩
  · exact .inl h3
  · cases h
  · exact .inr ⟨h4, h5, h6⟩
/-- the last part of the law -/
theorem tail4_9 {s : St} {fv : V} {nf : Nat} {xs : List V} (hN : Now L C s pid sq rq fv nf xs) (h60 : nf = 60) {e : Env} (he : Has e [(q0, .ptr pid 0)]) : ∃ e' s', execK cL4 S4x9 e s = .ret e' s' ∧ Has e' [(q12, .tt)] := by
  subst h60
  obtain ⟨s1, fv1, nf1, xs1, er, h1, hN1, h2⟩ := push_empty hN
  have her : er = 22 ∧ nf1 = 60 := by omega
  obtain ⟨rfl, rfl⟩ := her
  have ho := hN1.st.vc.okK
  have hl := hN1.st.vc.lenv
  have hsub : ∀ kv, subK (.p 60) (.p 1) kv = kv (.p 59) := fun kv => rfl
  have hsame := hN1.st.vc.same
  have htop : ∃ p o, ∀ k, callF (.fn A35) (callK FW 61) [.ptr sq 0] s1 k = k (.ptr p o) s1 := by
    have hv := hN1.st.vc
    cases hv with
    | vec id d t z _ c _ g1 g2 g3 g4 g5 g6 =>
      have hia : ∀ kv, iadK (.slc id 0 60 false c 10) (.p 59) 10 kv = kv (.ptr id 590) := fun kv => by rw [iadK_slc kv (by omega)]
      refine ⟨id, 590, fun k => ?_⟩
      simp -implicitDefEqProofs [A35, hN1.st.q, hsub, hia]
  obtain ⟨p, o, ht0⟩ := htop
  have ht : ∀ k, cL4 q35 [.ptr sq 0] s1 k = k (.ptr p o) s1 := fun k => by rw [f35]; exact ht0 k
  simp at he
  refine ⟨?_, s1, ?_, ?_⟩
  rotate_left
  · simp only [S4x9]
    simp -implicitDefEqProofs [he, hN.p.g, f32, h1, hN1.p.g, ht, f36]
    rfl
  · simp
/-- pushing up to the bound -/
theorem loop4b : ∀ (j nf : Nat) (s : St) (fv : V) (xs : List V) (e : Env) (fuel : Nat), nf + j = 60 → j < fuel → Now L C s pid sq rq fv nf xs → Has e [(q0, .ptr pid 0)] →
    ∃ e' s' fv' xs', loopK (execK cL4 B4x1) fuel e s = .exit 2 e' s' ∧ Now L C s' pid sq rq fv' 60 xs' ∧ Has e' [(q0, .ptr pid 0)] := by
  intro j
  induction j with
  | zero =>
    intro nf s fv xs e fuel hi hf hN he
    obtain ⟨fuel, rfl⟩ : ∃ f, fuel = f + 1 := ⟨fuel - 1, by omega⟩
    have hnf : nf = 60 := by omega
    subst hnf
    have hd := depth_now hN
    simp at he
    have hs : ∃ e', execK cL4 B4x1 e s = .exit 2 e' s ∧ Has e' [(q0, .ptr pid 0)] := by
      refine ⟨?_, ?_, ?_⟩
      rotate_left
      · simp only [B4x1]
        simp -implicitDefEqProofs [he, hN.p.g, f34, hd]
        rfl
      · simp [he]
    obtain ⟨e', hs, h4'⟩ := hs
    exact ⟨e', s, fv, xs, loop_exit hs, hN, h4'⟩
  | succ j ih =>
    intro nf s fv xs e fuel hi hf hN he
    obtain ⟨fuel, rfl⟩ : ∃ f, fuel = f + 1 := ⟨fuel - 1, by omega⟩
    have hd := depth_now hN
    obtain ⟨s1, fv1, nf1, xs1, er, h1, hN1, h2⟩ := push_empty hN
    have her : er = 0 ∧ nf1 = nf + 1 := by omega
    obtain ⟨rfl, rfl⟩ := her
    simp at he
    have hs : ∃ e', execK cL4 B4x1 e s = .norm e' s1 ∧ Has e' [(q0, .ptr pid 0)] := by
      refine ⟨?_, ?_, ?_⟩
      rotate_left
      · simp only [B4x1]
        simp -implicitDefEqProofs [he, hN.p.g, f34, hd, show nf < 60 by omega, f32, h1]
        rfl
      · simp [he]
    obtain ⟨e1, hs, he1⟩ := hs
    obtain ⟨e2, s2, fv2, xs2, r1, r2⟩ := ih (nf + 1) s1 fv1 xs1 e1 fuel (by omega) (by omega) hN1 he1
    exact ⟨e2, s2, fv2, xs2, by rw [loop_norm hs]; exact r1, r2⟩
/-- the ones that are the temporaries -/
theorem loop4a {n5 : Int} {m : Nat} (hp : ∀ s k, cL4 q33 [vI n5, .p 40] s k = k (.p m) s) (hm : m < 40) {s0 : St} {fv : V} {nf : Nat} {xs : List V} (_hN0 : Now L C s0 pid sq rq fv nf xs) :
    ∀ (j i : Nat) (v : V) (s : St) (e : Env) (fuel : Nat), i + j = m → j < fuel → Keep (fun _ => False) s0 s → Vc s 1 v i (List.replicate i (.p 1)) → (∀ i, v.ref i → num s0.next ≤ num i) → Has e [(q4, .p i), (q2, v), (q5, vI n5), (q0, .ptr pid 0)] →
    ∃ e' s' v', loopK (execK cL4 B4x0) fuel e s = .exit 0 e' s' ∧ Keep (fun _ => False) s0 s' ∧ Vc s' 1 v' m (List.replicate m (.p 1)) ∧ (∀ i, v'.ref i → num s0.next ≤ num i) ∧ Has e' [(q2, v'), (q0, .ptr pid 0)] := by
  intro j
  induction j with
  | zero =>
    intro i v s e fuel hi hf hk hv hr he
    obtain ⟨fuel, rfl⟩ : ∃ f, fuel = f + 1 := ⟨fuel - 1, by omega⟩
    have hi : i = m := by omega
    subst hi
    simp at he
    have hs : ∃ e', execK cL4 B4x0 e s = .exit 0 e' s ∧ Has e' [(q2, v), (q0, .ptr pid 0)] := by
      refine ⟨?_, ?_, ?_⟩
      rotate_left
      · simp only [B4x0]
        simp -implicitDefEqProofs [he, hp]
        rfl
      · simp [he]
    obtain ⟨e', hs, h4'⟩ := hs
    exact ⟨e', s, v, loop_exit hs, hk, hv, hr, h4'⟩
  | succ j ih =>
    intro i v s e fuel hi hf hk hv hr he
    obtain ⟨fuel, rfl⟩ : ∃ f, fuel = f + 1 := ⟨fuel - 1, by omega⟩
    have hv1 : Vc (s.push (mkVec [.p 1])) 1 v i (List.replicate i (.p 1)) := hv.keep (Keep.push (fun _ => False) s _) (fun _ _ h => h)
    obtain ⟨v', s', ha, hv', hk', hr'⟩ := hv1.appK (m := 1) (l := [.p 1]) (by omega) rfl (by omega) (by omega) (fun k => newCells_new (s := s.push (mkVec [.p 1])) (j := s.next) (by rw [St.get_push, if_pos rfl]) rfl k)
    have hlt : i < m := by omega
    have had : ∀ kv, addK (.p i) (.p 1) kv = kv (.p (i + 1)) := fun kv => by rw [addK_pp, chkP_ok (by omega)]
    simp at he
    have hs : ∃ e', execK cL4 B4x0 e s = .norm e' s' ∧ Has e' [(q4, .p (i + 1)), (q2, v'), (q5, vI n5), (q0, .ptr pid 0)] := by
      refine ⟨?_, ?_, ?_⟩
      rotate_left
      · simp only [B4x0]
        simp -implicitDefEqProofs [he, hp, hlt, ha, had]
        rfl
      · simp [he]
    obtain ⟨e1, hs, he1⟩ := hs
    have hk1 : Keep (fun _ => False) s0 s' := ⟨by have := hk.next; have := hk'.next; rw [St.num_push] at this; omega, fun j hj _ => by
      rw [hk'.same j (by rw [St.num_push]; have := hk.next; omega) (fun hx => absurd (hr j hx) (by omega)), St.get_push, if_neg (fun e => by have := hk.next; subst e; omega)]
      exact hk.same j hj (fun h => h)⟩
    obtain ⟨e2, s2, v2, r1, r2⟩ := ih (i + 1) v' s' e1 fuel (by omega) (by omega) hk1 (by rw [List.replicate_succ']; exact hv') (fun j hj => by
      rcases hr' j hj with h | h
      · exact hr j h
      · rw [St.num_push] at h; have := hk.next; omega) he1
    exact ⟨e2, s2, v2, by rw [loop_norm hs]; exact r1, r2⟩
/-- the law from its seventh piece on -/
theorem tail4_7 {s : St} {fv : V} {nf m : Nat} {xs : List V} (hN : Now L C s pid sq rq fv nf xs) (hnf : nf < 50) (hm : m < 40) {v : V} (hv : Vc s 1 v m (List.replicate m (.p 1))) (hr : ∀ i, v.ref i → i ≠ L.q ∧ ¬ L.of i) {e : Env} (he : Has e [(q2, v), (q0, .ptr pid 0)]) :
    ∃ e' s', execK cL4 S4x7 e s = .ret e' s' ∧ Has e' [(q12, .tt)] := by
  have hvl := hv.lenv
  have hvc := hv.cells
  have hsl : Sl L s v (List.replicate m 1) := Vc.sl (n := m) (by rw [List.map_replicate]; exact hv) hr
  obtain ⟨s1, fv1, nf1, xs1, e1, h1, hN1, _, h2, _⟩ := push_now hN (m := 0) (r := 0) (h := 0) (pc := 0) (c := 0) (tg := 0) (v := 0) (on := .ff) (ts := List.replicate m 1) (ss := []) hsl .nils (by simp; omega) (by simp)
  have hR : rightF C 0 0 0 0 0 (List.replicate m 1) [] = decide (m ≤ 24) := by
    unfold rightF
    have hall : (List.replicate m (1 : Int)).all (mayW C.t) = true := by
      rw [List.all_eq_true]; intro x hx; rw [List.eq_of_mem_replicate hx]; exact may1 C
    rw [may0, hall]; simp
  rw [hR] at h2
  have c1 : ∀ k, callK FW 61 q32 [.ptr sq 0, .agg [.p 0, .p 0, .p 0, .p 0, .p 0, v, .nils, .ff, .p 0, .p 0]] s k = k (.p e1) s1 := h1
  obtain ⟨s2, fv2, nf2, xs2, e2, h3, hN2, _, h4, _⟩ := push_now hN1 (m := 0) (r := 0) (h := 0) (pc := 0) (c := 6) (tg := 0) (v := 0) (on := .ff) (ts := []) (ss := []) .nils .nils (by simp) (by simp)
  have c2 : ∀ k, callK FW 61 q32 [.ptr sq 0, .agg [.p 0, .p 0, .p 0, .p 0, .p 6, .nils, .nils, .ff, .p 0, .p 0]] s1 k = k (.p e2) s2 := h3
  have hR2 : rightF C 0 0 0 6 0 [] [] = false := by unfold rightF; simp
  rw [hR2] at h4
  have he2 : e2 = 1 ∧ nf2 = nf1 := by
    rcases h4 with ⟨h, _⟩ | ⟨_, _, h, h'⟩ | ⟨_, h, _⟩
    · omega
    · exact ⟨h, h'⟩
    · cases h
  obtain ⟨rfl, rfl⟩ := he2
  have he1 : (m ≤ 24 ∧ e1 = 0 ∧ nf2 = nf + 1) ∨ (24 < m ∧ e1 = 1 ∧ nf2 = nf) := by
    rcases h2 with ⟨h, _⟩ | ⟨_, h, h', h''⟩ | ⟨_, h, h', h''⟩
    · omega
    · exact .inr ⟨by simpa using h, h', h''⟩
    · exact .inl ⟨by simpa using h, h', h''⟩
  obtain ⟨E, hpre, hE⟩ : ∃ E, execK cL4 S4x7 e s = execK cL4 S4x8 E s2 ∧ Has E [(q0, .ptr pid 0)] := by
    simp at he
    rcases he1 with ⟨h24, rfl, _⟩ | ⟨h24, rfl, _⟩
    · refine ⟨?_, ?_, ?_⟩
      rotate_left
      · simp only [S4x7]
        simp -implicitDefEqProofs [he, hN.p.g, f32, c1, hvl, hvc, show ¬ 24 < m by omega, hN1.p.g, c2]
        rfl
      · simp [he]
    · refine ⟨?_, ?_, ?_⟩
      rotate_left
      · simp only [S4x7]
        simp -implicitDefEqProofs [he, hN.p.g, f32, c1, hvl, hvc, h24, hN1.p.g, c2]
        rfl
      · simp [he]
  have hnf2 : nf2 ≤ 60 := by omega
  obtain ⟨e3, s3, fv3, xs3, l3, hN3, H3⟩ := loop4b (60 - nf2) nf2 s2 fv2 xs2 E 100000 (by omega) (by omega) hN2 hE
  obtain ⟨e4, s4, l4, H4'⟩ := tail4_9 hN3 rfl H3
  refine ⟨e4, s4, ?_, H4'⟩
  rw [hpre]
  simp only [S4x8]
  simp -implicitDefEqProofs [execK_loop, l3, l4]
/-- the law from its third piece on -/
theorem tail4_3 {n5 : Int} {m : Nat} (hp : ∀ s k, cL4 q33 [vI n5, .p 40] s k = k (.p m) s) (hm : m < 40) {s : St} (hN : Now L C s pid sq rq .nils 0 []) {x : Int} {e : Env} (he : Has e [(q0, .ptr pid 0), (q1, vI x), (q5, vI n5)]) :
    ∃ e' s', execK cL4 S4x3 e s = .ret e' s' ∧ Has e' [(q12, .tt)] := by
  have hmem : ∀ k, callK FW 61 q30 [.ptr L.q 0] s k = k (.ptr L.mem 0) s := fun k => memory_k 60 hN.a k
  have hmay : ∀ k, callK FW 61 q31 [.ptr L.mem 0, vI x] s k = k (B (mayW C.t x)) s := fun k => may_k 60 hN.a x k
  -- a frame with that receiver
  obtain ⟨s1, fv1, nf1, xs1, e1, h1, hN1, g1, h2, _⟩ := push_now hN (m := 0) (r := x) (h := 0) (pc := 0) (c := 0) (tg := 0) (v := 0) (on := .ff) (ts := []) (ss := []) .nils .nils (by simp) (by simp)
  have c1 : ∀ k, callK FW 61 q32 [.ptr sq 0, .agg [.p 0, vI x, .p 0, .p 0, .p 0, .nils, .nils, .ff, .p 0, .p 0]] s k = k (.p e1) s1 := h1
  have hR : rightF C 0 x 0 0 0 [] [] = mayW C.t x := by unfold rightF; rw [may0]; simp
  rw [hR] at h2
  -- a frame with that word on its stack
  obtain ⟨hA2, hsl, hkp⟩ := sl_one hN1.a x
  have hN2 : Now L C (s1.push (mkVec [vI x])) pid sq rq fv1 nf1 xs1 := hN1.keep (Keep.push _ _ _)
  obtain ⟨s3, fv3, nf3, xs3, e3, h3, hN3, g3, h4, _⟩ := push_now hN2 (m := 0) (r := 0) (h := 0) (pc := 0) (c := 0) (tg := 0) (v := 0) (on := .ff) (ts := []) (ss := [x]) .nils hsl (by simp) (by simp)
  have c3 : ∀ k, callK FW 61 q32 [.ptr sq 0, .agg [.p 0, .p 0, .p 0, .p 0, .p 0, .nils, .slc s1.next 0 1 true 1 1, .ff, .p 0, .p 0]] (s1.push (mkVec [vI x])) k = k (.p e3) s3 := h3
  have hR3 : rightF C 0 0 0 0 0 [] [x] = mayW C.t x := by unfold rightF; rw [may0]; simp
  rw [hR3] at h4
  have hcase : (mayW C.t x = true ∧ e1 = 0 ∧ e3 = 0 ∧ nf3 = 2) ∨ (mayW C.t x = false ∧ e1 = 1 ∧ e3 = 1 ∧ nf3 = 0) := by
    cases hb : mayW C.t x with
    | true =>
      rw [hb] at h2 h4
      have a1 : e1 = 0 ∧ nf1 = 1 := by
        rcases h2 with ⟨h, _⟩ | ⟨_, h, _⟩ | ⟨_, _, h, h'⟩
        · omega
        · cases h
        · exact ⟨h, by omega⟩
      have a2 : e3 = 0 ∧ nf3 = nf1 + 1 := by
        rcases h4 with ⟨h, _⟩ | ⟨_, h, _⟩ | ⟨_, _, h, h'⟩
        · omega
        · cases h
        · exact ⟨h, h'⟩
      exact .inl ⟨rfl, a1.1, a2.1, by omega⟩
    | false =>
      rw [hb] at h2 h4
      have a1 : e1 = 1 ∧ nf1 = 0 := by
        rcases h2 with ⟨h, _⟩ | ⟨_, _, h, h'⟩ | ⟨_, h, _⟩
        · omega
        · exact ⟨h, h'⟩
        · cases h
      have a2 : e3 = 1 ∧ nf3 = nf1 := by
        rcases h4 with ⟨h, _⟩ | ⟨_, _, h, h'⟩ | ⟨_, h, _⟩
        · omega
        · exact ⟨h, h'⟩
        · cases h
      exact .inr ⟨rfl, a1.1, a2.1, by omega⟩
  have hnf3 : nf3 < 50 := by omega
  obtain ⟨E, hpre, hE⟩ : ∃ E, execK cL4 S4x3 e s = execK cL4 S4x5 E s3 ∧ Has E [(q0, .ptr pid 0), (q5, vI n5)] := by
    simp at he
    rcases hcase with ⟨hb, rfl, rfl, _⟩ | ⟨hb, rfl, rfl, _⟩
    · rw [hb] at hmay
      refine ⟨?_, ?_, ?_⟩
      rotate_left
      · simp only [S4x3]
        simp -implicitDefEqProofs [he, hN.p.g, f30, f31, f32, hmem, hmay, c1, hN1.p.g, c3]
        rfl
      · simp [he]
    · rw [hb] at hmay
      refine ⟨?_, ?_, ?_⟩
      rotate_left
      · simp only [S4x3]
        simp -implicitDefEqProofs [he, hN.p.g, f30, f31, f32, hmem, hmay, c1, hN1.p.g, c3]
        rfl
      · simp [he]
  obtain ⟨E2, hpre2, hE2⟩ : ∃ E2, execK cL4 S4x5 E s3 = seqK (blockK 0 (loopK (execK cL4 B4x0) 100000 E2 s3)) (execK cL4 S4x7) ∧ Has E2 [(q4, .p 0), (q2, .nils), (q5, vI n5), (q0, .ptr pid 0)] := by
    simp at hE
    refine ⟨?_, ?_, ?_⟩
    rotate_left
    · simp only [S4x5, S4x6]
      simp -implicitDefEqProofs [execK_loop]
      rfl
    · simp [hE]
  obtain ⟨e4, s4, v4, l4, k4, v4c, r4, H4'⟩ := loop4a hp hm hN3 m 0 .nils s3 E2 100000 (by omega) (by omega) (Keep.refl _ s3) .nils (fun i h => h.elim) hE2
  have hN4 := hN3.keep k4
  obtain ⟨e5, s5, l5, H5⟩ := tail4_7 hN4 hnf3 hm v4c (fun i hi => Lay.new_ne hN3.a (r4 i hi)) H4'
  refine ⟨e5, s5, ?_, H5⟩
  rw [hpre, hpre2, l4]
  simp -implicitDefEqProofs [l5]
end
theorem now4 : Now L0 (C0 40000) S4 q8 q6 q7 .nils 0 [] := by
  have k : Keep (fun _ => False) (S0 40000) S4 := ((Keep.push _ _ _).trans (Keep.push _ _ _)).trans (Keep.push _ _ _)
  have hA := (at0 40000).keep k (fun _ x => x.elim)
  refine ⟨hA, ⟨by kernel_rfl, ?_, ?_, ?_, .nils, fun i h => h.elim⟩, ⟨by kernel_rfl, ?_, ?_⟩, fun i h => h.elim⟩
  · show num q6 < num q9; decide
  · show q6 ≠ q5; decide
  · rintro (h | h | h | h | h) <;> exact absurd h (by show q6 ≠ _; decide)
  · show num q8 < num q9; decide
  · decide
theorem limits_ev (x : Int) {n : Int} (h1 : -9223372036854775808 ≤ n) (h2 : n < 9223372036854775808) : ∃ s', ∀ k, callF (.fn A4) cL4 [vI x, vI n] ⟨.mt, .h⟩ k = k .tt s' := by
  obtain ⟨m, hm, hp⟩ := pick_k h1 h2
  have hp' : ∀ s k, cL4 q33 [vI n, .p 40] s k = k (.p m) s := fun s k => by rw [f33]; exact hp s k
  have hb : ∀ k, cL4 q29 [] ⟨.mt, .h⟩ k = k (.ptr q8 0) S4 := fun k => by rw [f29]; exact begin_k k
  have hg := now4.p.g
  obtain ⟨E, hpre, hE⟩ : ∃ E, (∀ k, callF (.fn A4) cL4 [vI x, vI n] ⟨.mt, .h⟩ k = finK (execK cL4 S4x3 E S4) A4.results k) ∧ Has E [(q0, .ptr q8 0), (q1, vI x), (q5, vI n)] := by
    refine ⟨?_, fun k => ?_, ?_⟩
    rotate_left
    · rw [A4_l]
      simp -implicitDefEqProofs [-q8, -q6, -q7, hb, hg]
      rfl
    · simp
  obtain ⟨e', s', r1, r2⟩ := tail4_3 hp' hm now4 hE
  refine ⟨s', fun k => ?_⟩
  simp at r2
  rw [hpre, r1]
  simp -implicitDefEqProofs [A4, r2]
theorem limits_goes {x n : Int} (h1 : -9223372036854775808 ≤ x) (h2 : x < 9223372036854775808) (h3 : -9223372036854775808 ≤ n) (h4 : n < 9223372036854775808) (w : World) : True' 4 #[.int .i64 x, .int .i64 n] w := by
  obtain ⟨s', hs⟩ := limits_ev x h3 h4
  exact true_ofC cL4_snd T4 Tryz.func4 Tryz.call4 (.cons _ _ _ _ (vI_rel h1 h2) (.cons _ _ _ _ (vI_rel h3 h4) .nil)) hs
end Viv
