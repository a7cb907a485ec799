/-
  PACKAGE kernel, over a world in a state: making, symbols, texts.
-/
import Derived.Test.YtfppefhcmmfgcaaGreatGm2
import Derived.Test.YtfppefhcmmfgcaaGreatNk
set_option maxRecDepth 100000
namespace Viv
open Go (Value World IntKind Addr Program Act Exit Oper Operand Ending undef)
open Go.Proofs

theorem g53 : pget .no q53 FW = .sp sp_make := by kernel_rfl
theorem g87 : pget .no q87 FW = .sp sp_put := by kernel_rfl
theorem g40 : pget .no q40 FW = .fn A40 := by kernel_rfl
theorem g88 : pget .no q88 FW = .fn A88 := by kernel_rfl
theorem g89 : pget .no q89 FW = .fn A89 := by kernel_rfl
theorem g105 : pget .no q105 FW = .fn A105 := by kernel_rfl
noncomputable def B105x0 : ACode := (.seq (.reg (.d (w2 ltK e0 e7) q12 .nil)) (.seq (.cond e12 .skip (.exit 0)) (.seq (.block 1 (.seq (.reg (.p (mv e0) (.p (iad 1 e8 e0) (.p (ld l0) (.d (mv l2) q9 (.d (mv l1) q10 .nil)))))) (.reg (.p (mv e1) (.p (w1 nilcK l0) (.p (fad 0 l0) (.p (ld l0) (.p (mv e4) (.p (mv e9) (.p (mv e10) (.p (call q87 [l3, l2, l1, l0]) .nil))))))))))) (.reg (.p (w2 addK e0 (cn (.p 1))) (.d (mv l0) q0 .nil))))))
noncomputable def R105x0 : ACode := (.seq (.reg (.p (mv e4) (.d (mv l0) q13 (.d (mv (cn (.p 0))) q14 .nil)))) .ret)
theorem A105_l : A105 = ⟨[some q1, some q5, some q6, some q2], [(e13, none), (e14, none)], (.seq (.reg (.d (mv (cn (.p 0))) q13 (.d (mv (cn (.p 0))) q14 .nil))) (.seq (.reg (.p (mv e1) (.p (w1 nilcK l0) (.p (fad 0 l0) (.p (ld l0) (.p (mv e5) (.p (mv e6) (.p (mv e2) (.p (w1 lenLK l0) (.p (call q53 [l4, l3, l2, l0]) (.p (mv l0) (.p (ext l0 0) (.p (ext l1 1) (.d (mv l1) q4 (.d (mv l1) q3 .nil))))))))))))))) (.seq (.seq (.reg (.p (mv e3) (.d (ne eq0 l0 (cn (.p 0))) q11 .nil))) (.cond e11 (.seq (.reg (.p (mv e3) (.d (mv (cn (.p 0))) q13 (.d (mv l1) q14 .nil)))) .ret) .skip)) (.seq (.seq (.reg (.d (mv e2) q8 (.d (w1 lenLK l0) q7 (.d (mv (cn (.p 0))) q0 .nil)))) (.block 0 (.loop B105x0))) R105x0))))⟩ := rfl
noncomputable def B89x0 : ACode := (.seq (.reg (.d (w2 ltK e0 e3) q7 .nil)) (.seq (.cond e7 .skip (.exit 0)) (.seq (.block 1 (.seq (.reg (.p (mv e0) (.d (mv l0) q4 .nil))) (.reg (.p (mv e2) (.p (mv e1) (.p (mv e4) (.p (w2 idxK l1 l0) (.p (w1 conv0K l0) (.p (bslice 1 [(.p 0)] [(0, 1, l0)]) (.p (app 1 (lo 5) l0) (.d (mv l0) q2 .nil))))))))))) (.reg (.p (w2 addK e0 (cn (.p 1))) (.d (mv l0) q0 .nil))))))
noncomputable def R89x0 : ACode := (.seq (.reg (.p (mv e5) (.p (mv e6) (.p (mv e2) (.p (call q105 [l2, l1, (cn (.p 2)), l0]) (.p (ext l0 0) (.p (ext l1 1) (.d (mv l1) q8 (.d (mv l1) q9 .nil))))))))) .ret)
theorem A89_l : A89 = ⟨[some q5, some q6, some q1], [(e8, none), (e9, none)], (.seq (.reg (.d (mv (cn (.p 0))) q8 (.d (mv (cn (.p 0))) q9 .nil))) (.seq (.reg (.d (mv (cn .nils)) q2 .nil)) (.seq (.seq (.reg (.p (mv e1) (.d (w1 lenSK l0) q3 (.d (mv (cn (.p 0))) q0 .nil)))) (.block 0 (.loop B89x0))) R89x0)))⟩ := rfl

/-- a slice of whole numbers in a state -/
inductive Sl (L : Lay) (s : St) : V → List Int → Prop
  | nils : Sl L s .nils []
  | slc (i : Pth) (off : Nat) (ex : Bool) (c : Nat) (xs : List Int) : num i < num s.next → i ≠ L.q → ¬ L.of i → (∀ j (h : j < xs.length), rdObj (s.get i) (off + j) = vI xs[j]) → Sl L s (.slc i off xs.length ex c 1) xs
theorem Sl.keep {L : Lay} {s s' : St} {v : V} {xs : List Int} (h : Sl L s v xs) (hk : Keep L.of s s') : Sl L s' v xs := by
  cases h with
  | nils => exact .nils
  | slc i off ex c xs h1 h2 h3 h4 => exact .slc i off ex c xs (Nat.lt_of_lt_of_le h1 hk.next) h2 h3 fun j hj => by rw [hk.same i h1 h3]; exact h4 j hj
theorem Sl.len {L : Lay} {s : St} {v : V} {xs : List Int} (h : Sl L s v xs) (kv : KV) : lenLK v kv = kv (.p xs.length) := by
  cases h <;> rfl

/-- the fields of an object, one after the other -/
noncomputable def Cont.fills (C : Cont) (o : Int) : Nat → List Int → Cont
  | _, [] => C
  | i, x :: xs => (C.put o i x).fills o (i + 1) xs

section
variable {L : Lay} {C : Cont} {s : St}
theorem put_p (hA : At L C s) (hok : C.Ok) (n : Nat) (o : Int) (i : Nat) (w : Int) : ∃ s', (∀ k, callK FW (n + 1) q87 [.ptr L.mem 0, vI o, .p i, vI w] s k = k (.p (C.putE o i w)) s') ∧ At L (C.put o i w) s' ∧ Keep L.of s s' := by
  obtain ⟨s', h1, h2, h3⟩ := put_at hA hok o i w
  exact ⟨s', fun k => by rw [callK_sp g87]; exact h1 k, h2, h3⟩
theorem loop105 (n : Nat) {v : V} {xs : List Int} {o : Int} (hx : xs.length ≤ 256) : ∀ (m i : Nat) (C : Cont) (e : Env) (s : St) (fuel : Nat), i + m = xs.length → m < fuel → At L C s → C.Ok → Sl L s v xs →
    Has e [(q0, .p i), (q7, .p xs.length), (q8, v), (q1, .ptr L.q 0), (q4, vI o)] →
    ∃ e' s', loopK (execK (callK FW (n + 1)) B105x0) fuel e s = .exit 0 e' s' ∧ Has e' [(q4, vI o)] ∧ At L (C.fills o i (xs.drop i)) s' ∧ (C.fills o i (xs.drop i)).Ok ∧ Keep L.of s s'
  | 0, i, C, e, s, fuel + 1, hi, _, hA, hok, hv, he => by
    have hd : xs.drop i = [] := List.drop_eq_nil_of_le (by omega)
    have hi : i = xs.length := by omega
    simp at he
    have hs : ∃ e', execK (callK FW (n + 1)) B105x0 e s = .exit 0 e' s ∧ Has e' [(q4, vI o)] := by
      refine ⟨?_, ?_, ?_⟩
      rotate_left
      · simp only [B105x0]
        simp -implicitDefEqProofs [he, hi]
        rfl
      · simp [pget_pset, he]
    obtain ⟨e', hs, h4'⟩ := hs
    refine ⟨e', s, loop_exit hs, h4', ?_, ?_, Keep.refl _ s⟩
    · rw [hd]; exact hA
    · rw [hd]; exact hok
  | m + 1, i, C, e, s, fuel + 1, hi, hf, hA, hok, hv, he => by
    have hlt : i < xs.length := by omega
    have hd : xs.drop i = xs[i] :: xs.drop (i + 1) := List.drop_eq_getElem_cons hlt
    obtain ⟨s1, hp, hA1, hk1⟩ := put_p hA hok n o i xs[i]
    cases hv with
    | nils => simp at hlt
    | slc id off ex c _ g1 g2 g3 g4 =>
      have hrd := g4 i hlt
      simp at he
      have hs : ∃ e', execK (callK FW (n + 1)) B105x0 e s = .norm e' s1 ∧ Has e' [(q0, .p (i + 1)), (q7, .p xs.length), (q8, .slc id off xs.length ex c 1), (q1, .ptr L.q 0), (q4, vI o)] := by
        have ha : ∀ kv, addK (.p i) (.p 1) kv = kv (.p (i + 1)) := fun kv => by rw [addK_pp, chkP_ok (by omega)]
        have hia : ∀ kv, iadK (.slc id off xs.length ex c 1) (.p i) 1 kv = kv (.ptr id (off + i)) := fun kv => by rw [iadK_slc kv hlt, Nat.mul_one]
        refine ⟨?_, ?_, ?_⟩
        rotate_left
        · simp only [B105x0]
          simp [pget_pset, he, hlt, hia, hrd, hA.q, hp, ha]
          rfl
        · simp [pget_pset, he]
      obtain ⟨e1, hs, he1⟩ := hs
      obtain ⟨e2, s2, r1, r2, r3, r3', r4⟩ := loop105 n hx m (i + 1) (C.put o i xs[i]) e1 s1 fuel (by omega) (by omega) hA1 (put_Ok hok o i xs[i]) (Sl.keep (.slc id off ex c xs g1 g2 g3 g4) hk1) he1
      refine ⟨e2, s2, by rw [loop_norm hs]; exact r1, r2, ?_, ?_, hk1.trans r4⟩
      · rw [hd]; exact r3
      · rw [hd]; exact r3'
/-- a new object with fields -/
noncomputable def Cont.obj1 (C : Cont) (c : Int) (f : Nat) (xs : List Int) : Cont := (C.add c f xs.length).fills ((2 * C.e : Nat) : Int) 0 xs
theorem make_k (n : Nat) (hA : At L C s) (hok : C.Ok) {cls : Int} {f : Nat} {xs : List Int} {v : V} (hv : Sl L s v xs) (hc : clsW C.t cls = true) (hf : f ≤ 2) (hx : xs.length ≤ 256) :
    (C.N < C.e + xs.length + 3 ∧ ∀ k, callK FW (n + 2) q105 [.ptr L.q 0, vI cls, .p f, v] s k = k (.tup [.p 0, .p 4]) s) ∨
    (C.e + xs.length + 3 ≤ C.N ∧ ∃ s', (∀ k, callK FW (n + 2) q105 [.ptr L.q 0, vI cls, .p f, v] s k = k (.tup [.p (2 * C.e), .p 0]) s') ∧ At L (C.obj1 cls f xs) s' ∧ (C.obj1 cls f xs).Ok ∧ Keep L.of s s') := by
  have hlen := hv.len
  rcases make_at hA hok hc hf hx with ⟨h1, hm⟩ | ⟨h1, s1, hm, hA1, hk1⟩
  · refine .inl ⟨h1, fun k => ?_⟩
    have hm' : ∀ k, callK FW (n + 1) q53 [.ptr L.mem 0, vI cls, .p f, .p xs.length] s k = k (.tup [.p 0, .p 4]) s := fun k => by rw [callK_sp g53]; exact hm k
    rw [callK_fn g105, A105_l]
    simp -implicitDefEqProofs [hA.q, hlen, hm']
  · refine .inr ⟨h1, ?_⟩
    have hm' : ∀ k, callK FW (n + 1) q53 [.ptr L.mem 0, vI cls, .p f, .p xs.length] s k = k (.tup [.p (2 * C.e), .p 0]) s1 := fun k => by rw [callK_sp g53]; exact hm k
    obtain ⟨E, hpre, hE⟩ : ∃ E, (∀ k, callK FW (n + 2) q105 [.ptr L.q 0, vI cls, .p f, v] s k = finK (seqK (blockK 0 (loopK (execK (callK FW (n + 1)) B105x0) 100000 E s1)) (execK (callK FW (n + 1)) R105x0)) A105.results k) ∧
        Has E [(q0, .p 0), (q7, .p xs.length), (q8, v), (q1, .ptr L.q 0), (q4, vI ((2 * C.e : Nat) : Int))] := by
      refine ⟨?_, fun k => ?_, ?_⟩
      rotate_left
      · rw [callK_fn g105, A105_l]
        simp -implicitDefEqProofs [hA.q, hlen, hm', execK_loop]
        rfl
      · simp
    obtain ⟨e', s', r1, r2, r3, r3', r4⟩ := loop105 n hx xs.length 0 (C.add cls f xs.length) E s1 100000 (by omega) (by omega) hA1 (add_Ok cls f xs.length hok h1 hf hx) (hv.keep hk1) hE
    refine ⟨s', fun k => ?_, r3, r3', hk1.trans r4⟩
    rw [hpre, r1]
    simp at r2
    simp -implicitDefEqProofs [r2, A105, R105x0]
/-! what fields a filled object has -/
@[simp] theorem fills_e : ∀ (xs : List Int) (C : Cont) (o : Int) (i : Nat), (C.fills o i xs).e = C.e
  | [], C, o, i => rfl
  | x :: xs, C, o, i => by rw [Cont.fills, fills_e xs, put_e]
@[simp] theorem fills_N : ∀ (xs : List Int) (C : Cont) (o : Int) (i : Nat), (C.fills o i xs).N = C.N
  | [], C, o, i => rfl
  | x :: xs, C, o, i => by rw [Cont.fills, fills_N xs, put_N]
@[simp] theorem fills_made : ∀ (xs : List Int) (C : Cont) (o : Int) (i : Nat), (C.fills o i xs).made = C.made
  | [], C, o, i => rfl
  | x :: xs, C, o, i => by rw [Cont.fills, fills_made xs, put_made]
@[simp] theorem fills_t : ∀ (xs : List Int) (C : Cont) (o : Int) (i : Nat), (C.fills o i xs).t = C.t
  | [], C, o, i => rfl
  | x :: xs, C, o, i => by rw [Cont.fills, fills_t xs, put_t]
@[simp] theorem fills_rt : ∀ (xs : List Int) (C : Cont) (o : Int) (i : Nat), (C.fills o i xs).rt = C.rt
  | [], C, o, i => rfl
  | x :: xs, C, o, i => by rw [Cont.fills, fills_rt xs, put_rt]
@[simp] theorem fills_sy : ∀ (xs : List Int) (C : Cont) (o : Int) (i : Nat), (C.fills o i xs).sy = C.sy
  | [], C, o, i => rfl
  | x :: xs, C, o, i => by rw [Cont.fills, fills_sy xs, put_sy]
@[simp] theorem fills_cs : ∀ (xs : List Int) (C : Cont) (o : Int) (i : Nat), (C.fills o i xs).cs = C.cs
  | [], C, o, i => rfl
  | x :: xs, C, o, i => by rw [Cont.fills, fills_cs xs, put_cs]
@[simp] theorem fills_cl : ∀ (xs : List Int) (C : Cont) (o : Int) (i : Nat), (C.fills o i xs).cl = C.cl
  | [], C, o, i => rfl
  | x :: xs, C, o, i => by rw [Cont.fills, fills_cl xs, put_cl]
@[simp] theorem fills_cc : ∀ (xs : List Int) (C : Cont) (o : Int) (i : Nat), (C.fills o i xs).cc = C.cc
  | [], C, o, i => rfl
  | x :: xs, C, o, i => by rw [Cont.fills, fills_cc xs, put_cc]
theorem fills_Ok : ∀ (xs : List Int) {C : Cont} (_ : C.Ok) (o : Int) (i : Nat), (C.fills o i xs).Ok
  | [], C, h, o, i => h
  | x :: xs, C, h, o, i => by rw [Cont.fills]; exact fills_Ok xs (put_Ok h o i x) o (i + 1)
theorem fills_ext : ∀ (xs : List Int) {C0 C : Cont} (_ : Ext C0 C) (_ : C.Ok) {a : Nat} (_ : C0.e ≤ a) (i : Nat), Ext C0 (C.fills ((2 * a : Nat) : Int) i xs)
  | [], C0, C, h, hok, a, ha, i => h
  | x :: xs, C0, C, h, hok, a, ha, i => by rw [Cont.fills]; exact fills_ext xs (h.put hok i x ha) (put_Ok hok _ i x) ha (i + 1)
theorem fills_head : ∀ (xs : List Int) {C : Cont} (_ : C.Ok) (o : Int) (i : Nat) (x : Int), (C.fills o i xs).cls x = C.cls x ∧ (C.fills o i xs).fmt x = C.fmt x ∧ (C.fills o i xs).nf x = C.nf x ∧ (C.fills o i xs).ad x = C.ad x ∧ ∀ j, (C.fills o i xs).getE x j = C.getE x j
  | [], C, hok, o, i, x => ⟨rfl, rfl, rfl, rfl, fun _ => rfl⟩
  | y :: ys, C, hok, o, i, x => by
    rw [Cont.fills]
    obtain ⟨h1, h2, h3, h4, h5⟩ := fills_head ys (put_Ok hok o i y) o (i + 1) x
    exact ⟨by rw [h1, put_cls hok], by rw [h2, put_fmt hok], by rw [h3, put_nf hok], by rw [h4, put_ad], fun j => by rw [h5, put_getE hok]⟩
/-- where all fit, the fields are what was put -/
theorem fills_get : ∀ (xs : List Int) {C : Cont} (_ : C.Ok) (o : Int) (i : Nat) (_ : ∀ x ∈ xs, fitW C.t (C.fmt o) x = true) (_ : (i + xs.length : Nat) ≤ C.nf o) (_ : C.ad o ≠ 0) (j : Nat), (C.fills o i xs).get o j = if i ≤ j ∧ j < i + xs.length then xs.getD (j - i) 0 else C.get o j
  | [], C, hok, o, i, hf, hn, ho, j => by rw [if_neg (by simp; try omega)]; rfl
  | x :: xs, C, hok, o, i, hf, hn, ho, j => by
    simp only [List.length_cons] at hn
    have hg : C.getE o i = 0 := by unfold Cont.getE; rw [if_neg ho, if_pos ⟨by omega, by omega⟩]
    have hp : C.putE o i x = 0 := by unfold Cont.putE; rw [if_pos hg, hf x (by simp)]; rfl
    rw [Cont.fills, fills_get xs (put_Ok hok o i x) o (i + 1) (fun y hy => by rw [put_t, put_fmt hok]; exact hf y (by simp [hy])) (by rw [put_nf hok]; omega) (by rw [put_ad]; exact ho) j, put_get hok]
    simp only [hp, true_and, List.length_cons]
    by_cases e : j = i
    · subst e
      rw [if_neg (by omega), if_pos rfl, if_pos (by omega), Nat.sub_self]; rfl
    · rw [if_neg (show ¬ (j : Int) = (i : Int) by omega)]
      by_cases h : i + 1 ≤ j ∧ j < i + 1 + xs.length
      · rw [if_pos h, if_pos (by omega), show j - i = j - (i + 1) + 1 by omega]; rfl
      · rw [if_neg h, if_neg (by omega)]
/-- a new object: its class, format, how many fields it has -/
theorem obj1_base (hok : C.Ok) (c : Int) {f : Nat} {xs : List Int} (hn : C.e + xs.length + 3 ≤ C.N) (hf : f ≤ 2) (hx : xs.length ≤ 256) :
    Ext C (C.obj1 c f xs) ∧ (C.obj1 c f xs).Ok ∧ (C.obj1 c f xs).pl C.e ∧ (C.obj1 c f xs).ad ((2 * C.e : Nat) : Int) = C.e ∧ (C.obj1 c f xs).cls ((2 * C.e : Nat) : Int) = c ∧ (C.obj1 c f xs).fmt ((2 * C.e : Nat) : Int) = f ∧ (C.obj1 c f xs).nf ((2 * C.e : Nat) : Int) = xs.length := by
  have h1 := add_Ok c f xs.length hok hn hf hx
  have hpl : (C.add c f xs.length).pl C.e := (add_pl c f xs.length hok hn C.e).2 (.inl rfl)
  have had := (h1.ad_of hpl).2
  have := hok.hi
  have hw : (C.add c f xs.length).w C.e = (xs.length : Int) * 4 + f := by rw [add_w c f xs.length hok hn (by omega), if_neg (by omega), if_neg (by omega), if_pos rfl]
  have hw1 : (C.add c f xs.length).w (C.e + 1) = c := by rw [add_w c f xs.length hok hn (by omega), if_neg (by omega), if_pos rfl]
  have hfm : (C.add c f xs.length).fmt ((2 * C.e : Nat) : Int) = f := by unfold Cont.fmt; rw [had, hw]; omega
  have hnf : (C.add c f xs.length).nf ((2 * C.e : Nat) : Int) = xs.length := by unfold Cont.nf; rw [had, hw]; omega
  obtain ⟨a1, a2, a3, a4, a5⟩ := fills_head xs h1 ((2 * C.e : Nat) : Int) 0 ((2 * C.e : Nat) : Int)
  have hok' := fills_Ok xs h1 ((2 * C.e : Nat) : Int) 0
  refine ⟨fills_ext xs (Ext.add hok c hn) h1 (Nat.le_refl _) 0, hok', ?_, ?_, ?_, ?_, ?_⟩
  · unfold Cont.pl at hpl ⊢; unfold Cont.obj1; rw [fills_t]; exact hpl
  · exact a4.trans had
  · refine a1.trans ?_; unfold Cont.cls; rw [had, hw1]
  · exact a2.trans hfm
  · exact a3.trans hnf
/-- its fields, where all fit -/
theorem obj1_get (hok : C.Ok) (c : Int) {f : Nat} {xs : List Int} (hn : C.e + xs.length + 3 ≤ C.N) (hf : f ≤ 2) (hx : xs.length ≤ 256) (hfit : ∀ x ∈ xs, fitW (nset true 17 C.t C.e) f x = true) (j : Nat) (hj : j < xs.length) :
    (C.obj1 c f xs).get ((2 * C.e : Nat) : Int) j = xs.getD j 0 := by
  have h1 := add_Ok c f xs.length hok hn hf hx
  have hpl : (C.add c f xs.length).pl C.e := (add_pl c f xs.length hok hn C.e).2 (.inl rfl)
  have had := (h1.ad_of hpl).2
  have := hok.hi
  have hw : (C.add c f xs.length).w C.e = (xs.length : Int) * 4 + f := by rw [add_w c f xs.length hok hn (by omega), if_neg (by omega), if_neg (by omega), if_pos rfl]
  have hfm : (C.add c f xs.length).fmt ((2 * C.e : Nat) : Int) = f := by unfold Cont.fmt; rw [had, hw]; omega
  have hnf : (C.add c f xs.length).nf ((2 * C.e : Nat) : Int) = xs.length := by unfold Cont.nf; rw [had, hw]; omega
  have e3 := hok.e3
  have := fills_get xs h1 ((2 * C.e : Nat) : Int) 0 (by rw [hfm]; exact hfit) (by rw [hnf]; omega) (by rw [had]; omega) j
  unfold Cont.obj1
  rw [this, if_pos ⟨Nat.zero_le _, by omega⟩]; rfl
end
end Viv
