/-
  PACKAGE kernel, over a world in a state: texts told, strings made.
-/
import Derived.Test.YtfppefhcmmfgcaaGreatGk3
set_option maxRecDepth 100000
namespace Viv
open Go (Value World IntKind Addr Program Act Exit Oper Operand Ending undef)
open Go.Proofs

theorem g44 : pget .no q44 FW = .sp sp_is := by kernel_rfl
theorem g97 : pget .no q97 FW = .sp sp_klass := by kernel_rfl
theorem g98 : pget .no q98 FW = .sp sp_format := by kernel_rfl
theorem g99 : pget .no q99 FW = .sp sp_fields := by kernel_rfl
theorem g37 : pget .no q37 FW = .fn A37 := by kernel_rfl
theorem g38 : pget .no q38 FW = .fn A38 := by kernel_rfl
noncomputable def B38x0 : ACode := (.seq (.reg (.d (w2 ltK e2 e5) q8 .nil)) (.seq (.cond e8 .skip (.exit 0)) (.seq (.block 1 (.seq (.reg (.p (mv e2) (.d (mv l0) q6 .nil))) (.reg (.p (mv e4) (.p (mv e0) (.p (mv e1) (.p (mv e6) (.p (call q100 [l2, l1, l0]) (.p (w1 conv1K l0) (.p (bslice 1 [(.by 0)] [(0, 1, l0)]) (.p (app 1 (lo 6) l0) (.d (mv l0) q4 .nil)))))))))))) (.reg (.p (w2 addK e2 (cn (.p 1))) (.d (mv l0) q2 .nil))))))
noncomputable def R38x0 : ACode := (.seq (.reg (.p (mv e4) (.p (conv10 l0) (.d (mv l0) q9 (.d (mv (cn .tt)) q10 .nil))))) .ret)
theorem A38_l : A38 = ⟨[some q0, some q1], [(e9, none), (e10, none)], (.seq (.reg (.d (mv (cn (.str 0 0))) q9 (.d (mv (cn .ff)) q10 .nil))) (.seq (.reg (.p (mv e0) (.p (w1 nilcK l0) (.p (fad 0 l0) (.p (ld l0) (.p (mv e1) (.p (call q97 [l1, l0]) (.d (mv l0) q3 .nil)))))))) (.seq (.seq (.reg (.p (mv e0) (.p (w1 nilcK l0) (.p (fad 0 l0) (.p (ld l0) (.p (mv e1) (.p (call q44 [l1, l0]) (.p (w1 notK l0) (.p (mv l0) (.g 0 false (mv e3) (.g 1 false (mv e0) (.g 2 false (call q40 [l0, (cn (.p 10))]) (.g 3 false (ne eq0 l2 l0) (.g 4 false (mv l0) (.g 0 true (mv e3) (.g 1 true (mv e0) (.g 2 true (call q40 [l0, (cn (.p 11))]) (.g 3 true (ne eq0 l2 l0) (.g 9 false (pick l4 l0 (cn .ff)) (.p (pick (lo 10) (cn .tt) l0) (.p (mv l0) (.g 0 false (mv e0) (.g 1 false (w1 nilcK l0) (.g 2 false (fad 0 l0) (.g 3 false (ld l0) (.g 4 false (mv e1) (.g 5 false (call q98 [l1, l0]) (.g 6 false (ne eq0 l0 (cn (.p 2))) (.d (pick (lo 7) (cn .tt) l0) q7 .nil))))))))))))))))))))))))))))) (.cond e7 (.seq (.reg (.d (mv (cn (.str 0 0))) q9 (.d (mv (cn .ff)) q10 .nil))) .ret) .skip)) (.seq (.reg (.d (mv (cn .nils)) q4 .nil)) (.seq (.seq (.reg (.p (mv e0) (.p (w1 nilcK l0) (.p (fad 0 l0) (.p (ld l0) (.p (mv e1) (.d (call q99 [l1, l0]) q5 (.d (mv (cn (.p 0))) q2 .nil)))))))) (.block 0 (.loop B38x0))) R38x0)))))⟩ := rfl

/-! ### bytes and numbers -/
def numOf : List Nat → Nat
  | [] => 0
  | b :: r => b + 256 * numOf r
theorem bytesNum_by (k : Nat → RC) : ∀ l : List Nat, bytesNum (l.map .by) k = k (numOf l)
  | [] => rfl
  | b :: l => by
    show asBy (.by b) (fun n => bytesNum (l.map .by) (fun m => k (n + 256 * m))) = _
    show bytesNum (l.map .by) (fun m => k (b + 256 * m)) = _
    rw [bytesNum_by _ l]; rfl
theorem byteAt_succ (x i : Nat) : byteAt x (i + 1) = byteAt (x / 256) i := by
  unfold byteAt
  rw [Nat.shiftRight_eq_div_pow, Nat.shiftRight_eq_div_pow, show 8 * (i + 1) = 8 + 8 * i by omega, Nat.pow_add, ← Nat.div_div_eq_div_mul]
theorem numOf_bytes : ∀ (l x : Nat), numOf ((List.range l).map (byteAt x)) = x % 256 ^ l
  | 0, x => by simp [numOf, Nat.mod_one]
  | l + 1, x => by
    rw [List.range_succ_eq_map, List.map_cons, List.map_map, numOf]
    have hf : (byteAt x ∘ Nat.succ) = byteAt (x / 256) := funext fun i => byteAt_succ x i
    rw [hf, numOf_bytes l (x / 256), Nat.pow_succ, Nat.mul_comm (256 ^ l) 256, Nat.mod_mul]
    have : byteAt x 0 = x % 256 := by unfold byteAt; simp
    rw [this]
theorem conv10_vc {s : St} {v : V} {n : Nat} {bs : List Nat} (h : Vc s 1 v n (bs.map .by)) (kv : KV) : conv10K v s kv = kv (.str n (numOf bs)) := by
  generalize hm : bs.map V.by = ys at h
  cases h with
  | nils =>
    have : bs = [] := by cases bs with
      | nil => rfl
      | cons a b => cases hm
    subst this; rfl
  | vec id d t z n c _ h1 h2 h3 h4 h5 h6 =>
    have hrd : rdMany (s.get id) 0 n = ys := by
      rw [h1]
      show (Bool.rec [] (getMany z d t n 0) (Nat.ble (0 + n) (c * 1)) : List V) = _
      rw [bleRec, if_pos (by omega)]
      apply List.ext_getElem?
      intro j
      by_cases hj : j < n
      · rw [getMany_get _ _ _ _ _ j hj, Nat.zero_add, h6 j (by omega), List.getElem?_eq_getElem (by omega)]
      · rw [List.getElem?_eq_none (by rw [getMany_length]; omega), List.getElem?_eq_none (by omega)]
    show (fun l => Bool.rec fl (bytesNum l (fun m => kv (.str n m))) (Nat.beq (len l) n) : L → RC) (rdMany (s.get id) 0 n) = _
    rw [hrd]
    show (Bool.rec fl (bytesNum ys (fun m => kv (.str n m))) (Nat.beq (len ys) n) : RC) = _
    rw [beqRec, len_eq, if_pos (by omega), ← hm, bytesNum_by]
@[simp] theorem eq0_ss (a b c d : Nat) (kv : KV) : eq0 (.str a b) (.str c d) kv = kv (B (decide (a = c) && decide (b = d))) := by
  show kv (B (Bool.rec false (Nat.beq b d) (Nat.beq a c))) = _
  rw [nbeq_d, nbeq_d]
  congr 2
  cases decide (a = c) <;> cases decide (b = d) <;> rfl

/-! ### Text -/
section
variable {L : Lay} {C : Cont} {s : St}
theorem is_k (n : Nat) (hA : At L C s) (o : Int) (k : K) : callK FW (n + 1) q44 [.ptr L.mem 0, vI o] s k = k (B (isW C.t o)) s := by rw [callK_sp g44]; exact is_at hA k o
theorem klass_k (n : Nat) (hA : At L C s) (hok : C.Ok) (o : Int) (k : K) : callK FW (n + 1) q97 [.ptr L.mem 0, vI o] s k = k (vI (C.cls o)) s := by rw [callK_sp g97]; exact klass_at hA hok k o
theorem format_k (n : Nat) (hA : At L C s) (hok : C.Ok) (o : Int) (k : K) : callK FW (n + 1) q98 [.ptr L.mem 0, vI o] s k = k (vI (C.fmt o)) s := by rw [callK_sp g98]; exact format_at hA hok k o
theorem fields_k (n : Nat) (hA : At L C s) (hok : C.Ok) (o : Int) (k : K) : callK FW (n + 1) q99 [.ptr L.mem 0, vI o] s k = k (vI (C.nf o)) s := by rw [callK_sp g99]; exact fields_at hA hok k o
theorem loop38 (n : Nat) (hA : At L C s) (hok : C.Ok) {o : Int} {l x : Nat} (hl : l ≤ 256) (hg : ∀ i : Nat, i < l → C.get o i = byteAt x i) : ∀ (m i : Nat) (v : V) (e : Env) (s1 : St) (fuel : Nat), i + m = l → m < fuel → Keep (fun _ => False) s s1 → Vc s1 1 v i (((List.range i).map (byteAt x)).map .by) → (∀ j, v.ref j → num s.next ≤ num j) →
    Has e [(q2, .p i), (q5, .p l), (q4, v), (q0, .ptr L.q 0), (q1, vI o)] →
    ∃ e' s' v', loopK (execK (callK FW (n + 2)) B38x0) fuel e s1 = .exit 0 e' s' ∧ Has e' [(q4, v')] ∧ Vc s' 1 v' l (((List.range l).map (byteAt x)).map .by) ∧ Keep (fun _ => False) s s' := by
  intro m
  induction m with
  | zero =>
    intro i v e s1 fuel hi hf hk hv hr he
    obtain ⟨fuel, rfl⟩ : ∃ f, fuel = f + 1 := ⟨fuel - 1, by omega⟩
    have hi : i = l := by omega
    subst hi
    simp at he
    have hs : ∃ e', execK (callK FW (n + 2)) B38x0 e s1 = .exit 0 e' s1 ∧ Has e' [(q4, v)] := by
      refine ⟨?_, ?_, ?_⟩
      rotate_left
      · simp only [B38x0]
        simp -implicitDefEqProofs [he]
        rfl
      · simp -implicitDefEqProofs [he]
    obtain ⟨e', hs, h4'⟩ := hs
    exact ⟨e', s1, v, loop_exit hs, h4', hv, hk⟩
  | succ m ih =>
    intro i v e s1 fuel hi hf hk hv hr he
    obtain ⟨fuel, rfl⟩ : ∃ f, fuel = f + 1 := ⟨fuel - 1, by omega⟩
    have hlt : i < l := by omega
    have hA1 := hA.keep hk (fun _ h => h.elim)
    have hb := byteAt_lt x i
    have hgk : ∀ k, callK FW (n + 2) q100 [.ptr L.q 0, vI o, .p i] s1 k = k (.p (byteAt x i)) s1 := fun k => by
      have := get_k n hA1 hok o (i : Int) k
      rw [hg i hlt] at this; exact this
    have hmod : byteAt x i % 256 = byteAt x i := Nat.mod_eq_of_lt hb
    obtain ⟨b, hbe⟩ : ∃ b, byteAt x i = b := ⟨_, rfl⟩
    rw [hbe] at hb hgk hmod
    have hv1 : Vc (s1.push (mkVec [.by b])) 1 v i (((List.range i).map (byteAt x)).map .by) := hv.keep (Keep.push (fun _ => False) s1 _) (fun _ _ h => h)
    obtain ⟨v', s', ha, hv', hk', hr'⟩ := hv1.appK (m := 1) (l := [.by b]) (by omega) rfl (by omega) (by omega) (fun k => newCells_new (s := s1.push (mkVec [.by b])) (j := s1.next) (by rw [St.get_push, if_pos rfl]) rfl k)
    simp at he
    have hs : ∃ e', execK (callK FW (n + 2)) B38x0 e s1 = .norm e' s' ∧ Has e' [(q2, .p (i + 1)), (q5, .p l), (q4, v'), (q0, .ptr L.q 0), (q1, vI o)] := by
      have had : ∀ kv, addK (.p i) (.p 1) kv = kv (.p (i + 1)) := fun kv => by rw [addK_pp, chkP_ok (by omega)]
      refine ⟨?_, ?_, ?_⟩
      rotate_left
      · simp only [B38x0]
        simp -implicitDefEqProofs [he, hlt, hgk, hmod, ha, had]
        rfl
      · simp -implicitDefEqProofs [he]
    obtain ⟨e1, hs, he1⟩ := hs
    have hk1 : Keep (fun _ => False) s s' := ⟨by have := hk.next; have := hk'.next; rw [St.num_push] at this; omega, fun j hj _ => by
      rw [hk'.same j (by rw [St.num_push]; have := hk.next; omega) (fun hx => absurd (hr j hx) (by omega)), St.get_push, if_neg (fun e => by have := hk.next; subst e; omega)]
      exact hk.same j hj (fun h => h)⟩
    have hb2 : ((List.range (i + 1)).map (byteAt x)).map V.by = ((List.range i).map (byteAt x)).map V.by ++ [.by b] := by rw [List.range_succ]; simp [hbe]
    obtain ⟨e2, s2, v2, r1, r2⟩ := ih (i + 1) v' e1 s' fuel (by omega) (by omega) hk1 (by rw [hb2]; exact hv') (fun j hj => by
      rcases hr' j hj with h | h
      · exact hr j h
      · rw [St.num_push] at h; have := hk.next; omega) he1
    exact ⟨e2, s2, v2, by rw [loop_norm hs]; exact r1, r2⟩
/-- what is no text -/
theorem text_no (n : Nat) (hA : At L C s) (h : Wo C) {o : Int} (hno : isW C.t o = false ∨ (C.cls o ≠ C.kn 10 ∧ C.cls o ≠ C.kn 11) ∨ C.fmt o ≠ 2) (k : K) : callK FW (n + 2) q38 [.ptr L.q 0, vI o] s k = k (.tup [.str 0 0, .ff]) s := by
  have h1 := fun k => is_k n hA o k
  have h2 := fun k => klass_k n hA h.ok o k
  have h3 := fun k => format_k n hA h.ok o k
  have k10 := fun k => known_k n hA h.rl (i := 10) (by omega) k
  have k11 := fun k => known_k n hA h.rl (i := 11) (by omega) k
  rw [callK_fn g38, A38_l]
  cases hi : isW C.t o with
  | false => rw [hi] at h1; simp -implicitDefEqProofs [hA.q, h1, h2]
  | true =>
    rw [hi] at h1
    by_cases c10 : C.cls o = C.kn 10
    · rcases hno with hno | hno | hno
      · rw [hi] at hno; cases hno
      · exact absurd c10 hno.1
      · simp -implicitDefEqProofs [hA.q, h1, h2, h3, k10, c10, hno]
    · by_cases c11 : C.cls o = C.kn 11
      · rcases hno with hno | hno | hno
        · rw [hi] at hno; cases hno
        · exact absurd c11 hno.2
        · rw [c11] at c10
          simp -implicitDefEqProofs [hA.q, h1, h2, h3, k10, k11, c10, c11, hno]
      · simp -implicitDefEqProofs [hA.q, h1, h2, k10, k11, c10, c11]
/-- the text of an object of bytes -/
theorem text_ok (n : Nat) (hA : At L C s) (h : Wo C) {o c : Int} {l x : Nat} (ht : TextAt C o c l x) (hc : c = C.kn 10 ∨ c = C.kn 11) (hx : x < 256 ^ l) :
    ∃ s', (∀ k, callK FW (n + 3) q38 [.ptr L.q 0, vI o] s k = k (.tup [.str l x, .tt]) s') ∧ At L C s' ∧ Keep (fun _ => False) s s' := by
  have hi : isW C.t o = true := by
    rcases h.ok.ad_cases o with ⟨_, h0⟩ | ⟨_, _, _, h1, _⟩
    · exact absurd h0 ht.a
    · exact h1
  have hl : l ≤ 256 := by
    rcases h.ok.ad_cases o with ⟨_, h0⟩ | ⟨a, _, hp, _, hd⟩
    · exact absurd h0 ht.a
    · obtain ⟨_, m, f, hw, hf, hm, _⟩ := h.ok.obj a hp
      have := ht.nf; unfold Cont.nf at this; rw [hd, hw] at this; omega
  have h1 := fun k => is_k (n + 1) hA o k
  have h2 := fun k => klass_k (n + 1) hA h.ok o k
  have h3 := fun k => format_k (n + 1) hA h.ok o k
  have h4 := fun k => fields_k (n + 1) hA h.ok o k
  have k10 := fun k => known_k (n + 1) hA h.rl (i := 10) (by omega) k
  have k11 := fun k => known_k (n + 1) hA h.rl (i := 11) (by omega) k
  rw [hi] at h1
  rw [ht.cls] at h2
  rw [ht.fmt] at h3
  rw [ht.nf] at h4
  obtain ⟨E, hpre, hE⟩ : ∃ E, (∀ k, callK FW (n + 3) q38 [.ptr L.q 0, vI o] s k = finK (seqK (blockK 0 (loopK (execK (callK FW (n + 2)) B38x0) 100000 E s)) (execK (callK FW (n + 2)) R38x0)) A38.results k) ∧
      Has E [(q2, .p 0), (q5, .p l), (q4, .nils), (q0, .ptr L.q 0), (q1, vI o)] := by
    by_cases c10 : c = C.kn 10
    · refine ⟨?_, fun k => ?_, ?_⟩
      rotate_left
      · rw [callK_fn g38, A38_l]
        simp -implicitDefEqProofs [hA.q, h1, h2, h3, h4, k10, c10, execK_loop]
        rfl
      · simp
    · have c11 : c = C.kn 11 := hc.resolve_left c10
      rw [c11] at c10
      refine ⟨?_, fun k => ?_, ?_⟩
      rotate_left
      · rw [callK_fn g38, A38_l]
        simp -implicitDefEqProofs [hA.q, h1, h2, h3, h4, k10, k11, c10, c11, execK_loop]
        rfl
      · simp
  obtain ⟨e', s', v', r1, r2, r3, r4⟩ := loop38 n hA h.ok hl ht.get l 0 .nils E s 100000 (by omega) (by omega) (Keep.refl _ s) .nils (fun j h => h.elim) hE
  have hcv := conv10_vc r3
  rw [numOf_bytes, Nat.mod_eq_of_lt hx] at hcv
  refine ⟨s', fun k => ?_, hA.keep r4 (fun _ h => h.elim), r4⟩
  rw [hpre, r1]
  simp at r2
  simp -implicitDefEqProofs [A38, R38x0, r2, hcv]
end
end Viv
