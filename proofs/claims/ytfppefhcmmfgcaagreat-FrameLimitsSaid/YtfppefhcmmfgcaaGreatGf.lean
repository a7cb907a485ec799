/-
  PACKAGE frame, over a world in a state: a frame is looked at, copied, pushed.
-/
import Derived.Test.YtfppefhcmmfgcaaGreatGk5
set_option maxRecDepth 100000
namespace Viv
open Go (Value World IntKind Addr Program Act Exit Oper Operand Ending undef)
open Go.Proofs

theorem g32 : pget .no q32 FW = .fn A32 := by kernel_rfl
theorem g92 : pget .no q92 FW = .fn A92 := by kernel_rfl
theorem g93 : pget .no q93 FW = .fn A93 := by kernel_rfl
theorem g94 : pget .no q94 FW = .fn A94 := by kernel_rfl
theorem g119 : pget .no q119 FW = .fn A119 := by kernel_rfl
noncomputable def B92x0 : ACode := (.seq (.reg (.d (w2 ltK e2 e4) q8 .nil)) (.seq (.cond e8 .skip (.exit 0)) (.seq (.block 1 (.seq (.reg (.p (mv e2) (.d (mv l0) q5 .nil))) (.reg (.p (mv e1) (.p (mv e0) (.p (w1 nilcK l0) (.p (fad 5 l0) (.p (ld l0) (.p (mv e5) (.p (iad 1 l1 l0) (.p (callv (lo 6) [l0]) .nil))))))))))) (.reg (.p (w2 addK e2 (cn (.p 1))) (.d (mv l0) q2 .nil))))))
noncomputable def B92x1 : ACode := (.seq (.reg (.d (w2 ltK e3 e6) q9 .nil)) (.seq (.cond e9 .skip (.exit 2)) (.seq (.block 3 (.seq (.reg (.p (mv e3) (.d (mv l0) q7 .nil))) (.reg (.p (mv e1) (.p (mv e0) (.p (w1 nilcK l0) (.p (fad 6 l0) (.p (ld l0) (.p (mv e7) (.p (iad 1 l1 l0) (.p (callv (lo 6) [l0]) .nil))))))))))) (.reg (.p (w2 addK e3 (cn (.p 1))) (.d (mv l0) q3 .nil))))))
noncomputable def R92x0 : ACode := (.reg (.p (mv e1) (.p (mv e0) (.p (w1 nilcK l0) (.p (fad 7 l0) (.p (fad 2 l0) (.p (callv l4 [l0]) .nil)))))))
noncomputable def R92x1 : ACode := (.seq (.seq (.reg (.p (mv e0) (.p (w1 nilcK l0) (.p (fad 6 l0) (.p (ld l0) (.d (w1 lenLK l0) q6 (.d (mv (cn (.p 0))) q3 .nil))))))) (.block 2 (.loop B92x1))) R92x0)
theorem A92_l : A92 = ⟨[some q0, some q1], [], (.seq (.reg (.p (mv e1) (.p (mv e0) (.p (w1 nilcK l0) (.p (fad 0 l0) (.p (callv l3 [l0]) .nil)))))) (.seq (.reg (.p (mv e1) (.p (mv e0) (.p (w1 nilcK l0) (.p (fad 1 l0) (.p (callv l3 [l0]) .nil)))))) (.seq (.reg (.p (mv e1) (.p (mv e0) (.p (w1 nilcK l0) (.p (fad 2 l0) (.p (callv l3 [l0]) .nil)))))) (.seq (.reg (.p (mv e1) (.p (mv e0) (.p (w1 nilcK l0) (.p (fad 4 l0) (.p (callv l3 [l0]) .nil)))))) (.seq (.seq (.reg (.p (mv e0) (.p (w1 nilcK l0) (.p (fad 5 l0) (.p (ld l0) (.d (w1 lenLK l0) q4 (.d (mv (cn (.p 0))) q2 .nil))))))) (.block 0 (.loop B92x0))) R92x1)))))⟩ := rfl
noncomputable def S32x3 : ACode := (.seq (.block 0 (.seq (.reg (.p (ld e1) (.p (w1 nilcK l0) (.p (fad 1 l0) (.p (ld l0) (.p (w1 lenLK l0) (.p (ge l0 (cn (.p 60))) (.d (mv l0) q5 .nil)))))))) (.cond e5 (.seq (.reg (.d (mv (cn (.p 22))) q7 .nil)) .ret) (.seq (.reg (.p (ld e2) (.p (w1 notK l0) (.d (mv l0) q6 .nil)))) (.cond e6 (.seq (.reg (.d (mv (cn (.p 1))) q7 .nil)) .ret) .skip))))) (.seq (.reg (.p (ld e1) (.p (ld e1) (.p (w1 nilcK l0) (.p (fad 1 l0) (.p (ld l0) (.p (ldA 10 e0) (.p (call q94 [l0]) (.p (reS (ld e1) 6) (.p (reS (ld e1) 6) (.p (reS (ld (lo 5)) 4) (.p (bslice 1 [(.p 0), (.p 0), (.p 0), (.p 0), (.p 0), .nils, .nils, .ff, (.p 0), (.p 0)] [(0, 10, l3)]) (.p (reS (ld e1) 10) (.p (reS (ld e1) 10) (.p (reS (ld (lo 9)) 8) (.p (app 10 (lo 9) l3) (.p (reS (ld e1) 14) (.p (w1 nilcK (lo 15)) (.p (fad 1 l0) (.p (sto 1 l0 l3) .nil)))))))))))))))))))) (.seq (.reg (.d (mv (cn (.p 0))) q7 .nil)) .ret)))
theorem A32_l : A32 = ⟨[some q3, some q4], [(e7, none)], (.seq (.reg (.d (box e3) q1 (.d (box e4) q0 (.d (mv (cn (.p 0))) q7 .nil)))) (.seq (.reg (.p (fad 4 e0) (.p (ld l0) (.p (w2 eq0 l0 (cn (.p 0))) (.p (mv l0) (.g 0 true (fad 5 e0) (.g 1 true (ld l0) (.g 2 true (w1 lenLK l0) (.g 3 true (le l0 (cn (.p 24))) (.p (pick l4 l0 (cn .ff)) (.d (alloc [.ff]) q2 (.p (sto 1 l0 l1) .nil)))))))))))) (.seq (.reg (.p (mkfn q93 [] [e2, e1]) (.p (call q92 [e0, l0]) .nil))) S32x3)))⟩ := rfl
@[simp] theorem callvK_fn (f : Pth) (a b : List V) (c : CF) (l : List V) (s : St) (k : K) : callvK (.fn f a b) c l s k = c f (appL a (appL l b)) s k := rfl
@[simp] theorem appL_nil (b : List V) : appL [] b = b := rfl
@[simp] theorem appL_cons (v : V) (a b : List V) : appL (v :: a) b = v :: appL a b := rfl
theorem sto1 {s : St} {id : Pth} {a v : V} (h : s.get id = .row [a]) (hv : ∀ k, cellsK v k = k [v]) (k : K) : stK (.ptr id 0) 1 v s k = k (.tup []) (s.set id (.row [v])) := by
  show cellsK v (fun l => Bool.rec fl (wrObj (s.get id) 0 l (fun o => k (.tup []) (s.set id o))) (Nat.beq (len l) 1)) = _
  rw [hv, h]; rfl
theorem cellsK_B (b : Bool) (k : List V → RC) : cellsK (B b) k = k [B b] := by cases b <;> rfl
section
variable {L : Lay} {C : Cont} {s : St}
/-- one word is looked at -/
theorem word_k (n : Nat) (hA : At L C s) {rid sid sq pid : Pth} {off : Nat} {b : Bool} {y : Int} {fv : V} (hr : s.get rid = .row [B b]) (hs : s.get sid = .row [.ptr sq 0]) (hq : s.get sq = .row [.ptr L.q 0, fv]) (hp : rdObj (s.get pid) off = vI y) :
    ∃ s', (∀ k, callK FW (n + 2) q93 [.ptr pid off, .ptr rid 0, .ptr sid 0] s k = k (.tup []) s') ∧ s'.get rid = .row [B (b && mayW C.t y)] ∧ Keep (fun i => i = rid) s s' := by
  have hm := fun k => memory_k n hA k
  have hy := fun k => may_k n hA y k
  cases b with
  | false =>
    have hst := sto1 (v := .ff) hr (fun _ => rfl)
    refine ⟨_, fun k => ?_, ?_, Keep.set s (.row [B (false && mayW C.t y)]) (.inl rfl)⟩
    · rw [callK_fn g93]
      simp -implicitDefEqProofs [A93, hr, hst]
    · rw [St.get_set_same]
  | true =>
    have hsm : ∀ r, sameK (vI y) (vI y) r = r := fun r => by cases y <;> exact sameK_ok (sameB_refl0 _ trivial) r
    refine ⟨_, fun k => ?_, ?_, Keep.set s (.row [B (mayW C.t y)]) (.inl rfl)⟩
    · rw [callK_fn g93]
      cases hmay : mayW C.t y with
      | true =>
        have hst := sto1 (v := .tt) hr (fun _ => rfl)
        rw [hmay] at hy
        simp -implicitDefEqProofs [A93, hr, hs, hq, hp, hm, hy, hsm, hst]
      | false =>
        have hst := sto1 (v := .ff) hr (fun _ => rfl)
        rw [hmay] at hy
        simp -implicitDefEqProofs [A93, hr, hs, hq, hp, hm, hy, hsm, hst]
    · rw [St.get_set_same]; rfl
theorem loop920 (n : Nat) (hA : At L C s) {rid sid sq fid : Pth} {fr : List V} {tv fv : V} {xs : List Int} {b : Bool} (hd : ∀ i, i = rid → i ≠ L.q ∧ ¬ L.of i) (hsid : s.get sid = .row [.ptr sq 0]) (hsq : s.get sq = .row [.ptr L.q 0, fv]) (hfid : s.get fid = .row fr) (hf5 : nth 5 fr = tv)
    (n1 : sid ≠ rid) (n2 : sq ≠ rid) (n3 : fid ≠ rid) (o1 : num sid < num s.next) (o2 : num sq < num s.next) (o3 : num fid < num s.next) (hsl : Sl L s tv xs) (hne : ∀ i, tv.ref i → i ≠ rid) (hlen : xs.length < 100000) :
    ∀ (m i : Nat) (e : Env) (s1 : St) (fuel : Nat), i + m = xs.length → m < fuel → Keep (fun j => j = rid) s s1 → s1.get rid = .row [B (b && (xs.take i).all (mayW C.t))] →
      Has e [(q2, .p i), (q4, .p xs.length), (q0, .ptr fid 0), (q1, .fn q93 [] [.ptr rid 0, .ptr sid 0])] →
      ∃ e' s', loopK (execK (callK FW (n + 2)) B92x0) fuel e s1 = .exit 0 e' s' ∧ Has e' [(q0, .ptr fid 0), (q1, .fn q93 [] [.ptr rid 0, .ptr sid 0])] ∧ Keep (fun j => j = rid) s s' ∧ s'.get rid = .row [B (b && xs.all (mayW C.t))] := by
  intro m
  induction m with
  | zero =>
    intro i e s1 fuel hi hf hk hr he
    obtain ⟨fuel, rfl⟩ : ∃ f, fuel = f + 1 := ⟨fuel - 1, by omega⟩
    have hi : i = xs.length := by omega
    subst hi
    rw [List.take_length] at hr
    simp at he
    have hs : ∃ e', execK (callK FW (n + 2)) B92x0 e s1 = .exit 0 e' s1 ∧ Has e' [(q0, .ptr fid 0), (q1, .fn q93 [] [.ptr rid 0, .ptr sid 0])] := by
      refine ⟨?_, ?_, ?_⟩
      rotate_left
      · simp only [B92x0]
        simp -implicitDefEqProofs [he]
        rfl
      · simp [he]
    obtain ⟨e', hs, h4'⟩ := hs
    exact ⟨e', s1, loop_exit hs, h4', hk, hr⟩
  | succ m ih =>
    intro i e s1 fuel hi hf hk hr he
    obtain ⟨fuel, rfl⟩ : ∃ f, fuel = f + 1 := ⟨fuel - 1, by omega⟩
    have hlt : i < xs.length := by omega
    have hA1 := hA.keep hk hd
    have g1 : s1.get sid = .row [.ptr sq 0] := by rw [hk.same sid o1 n1]; exact hsid
    have g2 : s1.get sq = .row [.ptr L.q 0, fv] := by rw [hk.same sq o2 n2]; exact hsq
    have g3 : s1.get fid = .row fr := by rw [hk.same fid o3 n3]; exact hfid
    cases hsl with
    | nils => simp at hlt
    | slc id off ex c _ h1 h2 h3 h4 =>
      have hrd : rdObj (s1.get id) (off + i) = vI xs[i] := by rw [hk.same id h1 (hne id rfl)]; exact h4 i hlt
      obtain ⟨s2, hw, hr2, hk2⟩ := word_k n hA1 hr g1 g2 hrd
      have had : ∀ kv, addK (.p i) (.p 1) kv = kv (.p (i + 1)) := fun kv => by rw [addK_pp, chkP_ok (by omega)]
      have hia : ∀ kv, iadK (.slc id off xs.length ex c 1) (.p i) 1 kv = kv (.ptr id (off + i)) := fun kv => by rw [iadK_slc kv hlt, Nat.mul_one]
      simp at he
      have hs : ∃ e', execK (callK FW (n + 2)) B92x0 e s1 = .norm e' s2 ∧ Has e' [(q2, .p (i + 1)), (q4, .p xs.length), (q0, .ptr fid 0), (q1, .fn q93 [] [.ptr rid 0, .ptr sid 0])] := by
        refine ⟨?_, ?_, ?_⟩
        rotate_left
        · simp only [B92x0]
          simp -implicitDefEqProofs [he, hlt, g3, hf5, hia, hw, had]
          rfl
        · simp [he]
      obtain ⟨e1, hs, he1⟩ := hs
      have hall : (b && (xs.take i).all (mayW C.t) && mayW C.t xs[i]) = (b && (xs.take (i + 1)).all (mayW C.t)) := by
        rw [List.take_succ_eq_append_getElem hlt, List.all_append]; simp [Bool.and_assoc]
      obtain ⟨e2, s3, r1, r2⟩ := ih (i + 1) e1 s2 fuel (by omega) (by omega) (hk.trans hk2) (by rw [← hall]; exact hr2) he1
      exact ⟨e2, s3, by rw [loop_norm hs]; exact r1, r2⟩
theorem loop921 (n : Nat) (hA : At L C s) {rid sid sq fid : Pth} {fr : List V} {tv fv : V} {xs : List Int} {b : Bool} (hd : ∀ i, i = rid → i ≠ L.q ∧ ¬ L.of i) (hsid : s.get sid = .row [.ptr sq 0]) (hsq : s.get sq = .row [.ptr L.q 0, fv]) (hfid : s.get fid = .row fr) (hf5 : nth 6 fr = tv)
    (n1 : sid ≠ rid) (n2 : sq ≠ rid) (n3 : fid ≠ rid) (o1 : num sid < num s.next) (o2 : num sq < num s.next) (o3 : num fid < num s.next) (hsl : Sl L s tv xs) (hne : ∀ i, tv.ref i → i ≠ rid) (hlen : xs.length < 100000) :
    ∀ (m i : Nat) (e : Env) (s1 : St) (fuel : Nat), i + m = xs.length → m < fuel → Keep (fun j => j = rid) s s1 → s1.get rid = .row [B (b && (xs.take i).all (mayW C.t))] →
      Has e [(q3, .p i), (q6, .p xs.length), (q0, .ptr fid 0), (q1, .fn q93 [] [.ptr rid 0, .ptr sid 0])] →
      ∃ e' s', loopK (execK (callK FW (n + 2)) B92x1) fuel e s1 = .exit 2 e' s' ∧ Has e' [(q0, .ptr fid 0), (q1, .fn q93 [] [.ptr rid 0, .ptr sid 0])] ∧ Keep (fun j => j = rid) s s' ∧ s'.get rid = .row [B (b && xs.all (mayW C.t))] := by
  intro m
  induction m with
  | zero =>
    intro i e s1 fuel hi hf hk hr he
    obtain ⟨fuel, rfl⟩ : ∃ f, fuel = f + 1 := ⟨fuel - 1, by omega⟩
    have hi : i = xs.length := by omega
    subst hi
    rw [List.take_length] at hr
    simp at he
    have hs : ∃ e', execK (callK FW (n + 2)) B92x1 e s1 = .exit 2 e' s1 ∧ Has e' [(q0, .ptr fid 0), (q1, .fn q93 [] [.ptr rid 0, .ptr sid 0])] := by
      refine ⟨?_, ?_, ?_⟩
      rotate_left
      · simp only [B92x1]
        simp -implicitDefEqProofs [he]
        rfl
      · simp [he]
    obtain ⟨e', hs, h4'⟩ := hs
    exact ⟨e', s1, loop_exit hs, h4', hk, hr⟩
  | succ m ih =>
    intro i e s1 fuel hi hf hk hr he
    obtain ⟨fuel, rfl⟩ : ∃ f, fuel = f + 1 := ⟨fuel - 1, by omega⟩
    have hlt : i < xs.length := by omega
    have hA1 := hA.keep hk hd
    have g1 : s1.get sid = .row [.ptr sq 0] := by rw [hk.same sid o1 n1]; exact hsid
    have g2 : s1.get sq = .row [.ptr L.q 0, fv] := by rw [hk.same sq o2 n2]; exact hsq
    have g3 : s1.get fid = .row fr := by rw [hk.same fid o3 n3]; exact hfid
    cases hsl with
    | nils => simp at hlt
    | slc id off ex c _ h1 h2 h3 h4 =>
      have hrd : rdObj (s1.get id) (off + i) = vI xs[i] := by rw [hk.same id h1 (hne id rfl)]; exact h4 i hlt
      obtain ⟨s2, hw, hr2, hk2⟩ := word_k n hA1 hr g1 g2 hrd
      have had : ∀ kv, addK (.p i) (.p 1) kv = kv (.p (i + 1)) := fun kv => by rw [addK_pp, chkP_ok (by omega)]
      have hia : ∀ kv, iadK (.slc id off xs.length ex c 1) (.p i) 1 kv = kv (.ptr id (off + i)) := fun kv => by rw [iadK_slc kv hlt, Nat.mul_one]
      simp at he
      have hs : ∃ e', execK (callK FW (n + 2)) B92x1 e s1 = .norm e' s2 ∧ Has e' [(q3, .p (i + 1)), (q6, .p xs.length), (q0, .ptr fid 0), (q1, .fn q93 [] [.ptr rid 0, .ptr sid 0])] := by
        refine ⟨?_, ?_, ?_⟩
        rotate_left
        · simp only [B92x1]
          simp -implicitDefEqProofs [he, hlt, g3, hf5, hia, hw, had]
          rfl
        · simp [he]
      obtain ⟨e1, hs, he1⟩ := hs
      have hall : (b && (xs.take i).all (mayW C.t) && mayW C.t xs[i]) = (b && (xs.take (i + 1)).all (mayW C.t)) := by
        rw [List.take_succ_eq_append_getElem hlt, List.all_append]; simp [Bool.and_assoc]
      obtain ⟨e2, s3, r1, r2⟩ := ih (i + 1) e1 s2 fuel (by omega) (by omega) (hk.trans hk2) (by rw [← hall]; exact hr2) he1
      exact ⟨e2, s3, by rw [loop_norm hs]; exact r1, r2⟩
/-! ### rows of numbers, read whole -/
theorem rdMany_of {o : AObj} {off : Nat} {xs : List Int} (h : ∀ j (hj : j < xs.length), rdObj o (off + j) = vI xs[j]) : rdMany o off xs.length = xs.map vI := by
  have hb : ∀ x : Int, vI x ≠ .bad := fun x => by cases x <;> simp
  by_cases h0 : xs.length = 0
  · have : xs = [] := List.length_eq_zero_iff.1 h0
    subst this
    cases o with
    | vec d t m z =>
      show (Bool.rec [] (getMany z d t 0 off) (Nat.ble (off + 0) m) : List V) = []
      rw [bleRec]; split <;> rfl
    | _ => rfl
  · have hl := h (xs.length - 1) (by omega)
    have key : (rdMany o off xs.length).length = xs.length := by
      cases o with
      | row l =>
        have e : rdMany (.row l) off xs.length = (l.drop off).take xs.length := by show takeL xs.length (dropL off l) = _; rw [takeL_eq, dropL_eq]
        rw [e]
        have : off + (xs.length - 1) < l.length := by
          rcases Nat.lt_or_ge (off + (xs.length - 1)) l.length with h | h
          · exact h
          · rw [rdObj_row, nth_eq, List.getElem?_eq_none h] at hl
            exact absurd hl.symm (hb _)
        simp; omega
      | vec d t m z =>
        show (Bool.rec [] (getMany z d t xs.length off) (Nat.ble (off + xs.length) m) : List V).length = _
        rw [bleRec]
        rw [rdObj_vec] at hl
        split at hl
        · rw [if_pos (by omega), getMany_length]
        · exact absurd hl.symm (hb _)
      | none => exact absurd hl.symm (hb _)
      | map l c => exact absurd hl.symm (hb _)
      | iter a b c => exact absurd hl.symm (hb _)
      | mem m => exact absurd hl.symm (hb _)
      | set t => exact absurd hl.symm (hb _)
    obtain ⟨m, _, _, hg⟩ := rdMany_spec key h0
    apply List.ext_getElem?
    intro j
    by_cases hj : j < xs.length
    · rw [hg j hj, h j hj]; simp [List.getElem?_eq_getElem hj]
    · rw [List.getElem?_eq_none (by omega), List.getElem?_eq_none (by simpa using hj)]
/-- a slice of numbers as what is put behind -/
theorem newCells_sl {L : Lay} {s : St} {v : V} {xs : List Int} (h : Sl L s v xs) (k : Nat → List V → RC) : newCells v 1 s k = k xs.length (xs.map vI) := by
  cases h with
  | nils => rfl
  | slc i off ex c _ h1 h2 h3 h4 =>
    have hr := rdMany_of h4
    show (Bool.rec fl (Bool.rec fl (k xs.length (rdMany (s.get i) off (xs.length * 1))) (Nat.beq 1 1)) (Nat.beq (len (rdMany (s.get i) off (xs.length * 1))) (xs.length * 1)) : RC) = _
    rw [Nat.mul_one, hr, beqRec, beqRec, len_eq, if_pos rfl, if_pos (by simp)]
theorem appFresh_0 {sz m : Nat} {id : Pth} {l : List V} {s : St} {k : K} (h : rdMany (s.get id) 0 (0 * sz) = []) : appFresh sz id 0 0 m l s k = k (.slc s.next 0 m false m sz) (s.push (mkVec l)) := by
  unfold appFresh
  have h' : rdMany (s.get id) 0 (Nat.mul 0 sz) = [] := h
  rw [h']
  show (Bool.rec fl (k (.slc s.next 0 (0 + m) false (0 + m) sz) (s.push (mkVec (appL [] l)))) (Nat.beq (len []) (0 * sz)) : RC) = _
  rw [beqRec, Nat.zero_add, if_pos (by rw [Nat.zero_mul]; rfl)]; rfl
/-- a slice is copied -/
theorem clone_k (n : Nat) (hA : At L C s) {v : V} {xs : List Int} (h : Sl L s v xs) (hx : xs.length ≤ 1048576) :
    ∃ v' s', (∀ k, callK FW (n + 1) q119 [v] s k = k v' s') ∧ Sl L s' v' xs ∧ Keep (fun _ => False) s s' ∧ (∀ i, v'.ref i → num s.next ≤ num i) ∧ ∀ k, cellsK v' k = k [v'] := by
  have hn := newCells_sl h
  have hkp : Keep (fun _ => False) s (s.push (mkVec [])) := Keep.push _ _ _
  have hA1 := hA.push (mkVec [])
  by_cases hnil : v = .nils
  · subst hnil
    refine ⟨.nils, s, fun k => ?_, h, Keep.refl _ s, fun _ x => x.elim, fun _ => rfl⟩
    rw [callK_fn g119]
    have e : ∀ kv, eqNs .nils .nils kv = kv .tt := fun _ => rfl
    simp -implicitDefEqProofs [A119, e]
  · have hslc : ∀ kv, eqNs v .nils kv = kv .ff := fun kv => by cases h with
      | nils => exact absurd rfl hnil
      | slc i off ex c _ h1 h2 h3 h4 => rfl
    have hv1 : Sl L (s.push (mkVec [])) v xs := h.keep (Keep.push _ _ _)
    have hn1 := newCells_sl hv1
    by_cases h0 : xs.length = 0
    · have hx0 : xs = [] := List.length_eq_zero_iff.1 h0
      subst hx0
      have hap : ∀ k, Viv.appK 1 (.slc s.next 0 0 true 0 1) v (s.push (mkVec [])) k = k (.slc s.next 0 0 true 0 1) (s.push (mkVec [])) := fun k => by
        show newCells v 1 (s.push (mkVec [])) (fun m l => Bool.rec fl (appX (.slc s.next 0 0 true 0 1) 1 m l (s.push (mkVec [])) k) (Nat.ble m 1048576)) = _
        rw [hn1]; rfl
      have hne := Lay.new_ne hA (i := s.next) (Nat.le_refl _)
      refine ⟨.slc s.next 0 0 true 0 1, s.push (mkVec []), fun k => ?_, .slc s.next 0 true 0 [] (by rw [St.num_push]; omega) hne.1 hne.2 (fun j hj => absurd hj (Nat.not_lt_zero _)), hkp, fun i hi => by cases hi; exact Nat.le_refl _, fun _ => rfl⟩
      rw [callK_fn g119]
      simp -implicitDefEqProofs [A119, hslc, hap]
    · have hap : ∀ k, Viv.appK 1 (.slc s.next 0 0 true 0 1) v (s.push (mkVec [])) k = k (.slc (inc s.next) 0 xs.length false xs.length 1) ((s.push (mkVec [])).push (mkVec (xs.map vI))) := fun k => by
        show newCells v 1 (s.push (mkVec [])) (fun m l => Bool.rec fl (appX (.slc s.next 0 0 true 0 1) 1 m l (s.push (mkVec [])) k) (Nat.ble m 1048576)) = _
        rw [hn1]
        show (Bool.rec fl (Bool.rec fl (Bool.rec fl (Bool.rec (appS 1 s.next 0 0 true 0 xs.length (xs.map vI) (s.push (mkVec [])) k) (k (.slc s.next 0 0 true 0 1) (s.push (mkVec []))) (Nat.beq xs.length 0)) (Nat.ble (0 + xs.length) 16777216)) (Nat.beq 1 1)) (Nat.ble xs.length 1048576) : RC) = _
        rw [bleRec, bleRec, beqRec, beqRec, if_pos hx, if_pos rfl, if_pos (show 0 + xs.length ≤ 16777216 by omega), if_neg h0]
        show (Bool.rec (appFresh 1 s.next 0 0 xs.length (xs.map vI) (s.push (mkVec [])) k) _ (Nat.ble (0 + xs.length) 0) : RC) = _
        rw [bleRec, if_neg (by omega)]
        have hz : rdMany ((s.push (mkVec [])).get s.next) 0 (0 * 1) = [] := by rw [St.get_push, if_pos rfl]; rfl
        rw [appFresh_0 hz]; rfl
      have hlt : num s.next < num (inc s.next) := by rw [num_inc]; omega
      have hne := Lay.new_ne hA (i := inc s.next) (Nat.le_of_lt hlt)
      refine ⟨.slc (inc s.next) 0 xs.length false xs.length 1, (s.push (mkVec [])).push (mkVec (xs.map vI)), fun k => ?_, .slc (inc s.next) 0 false xs.length xs (by rw [St.num_push, St.next_push]; omega) hne.1 hne.2 (fun j hj => ?_), hkp.trans (Keep.push _ _ _), fun i hi => by cases hi; exact Nat.le_of_lt hlt, fun _ => rfl⟩
      · rw [callK_fn g119]
        simp -implicitDefEqProofs [A119, hslc, hap]
      · have hg : ((s.push (mkVec [])).push (mkVec (xs.map vI))).get (inc s.next) = mkVec (xs.map vI) := by rw [St.get_push]; exact if_pos rfl
        rw [hg, mkVec_rd _ _ (by simpa using hj), Nat.zero_add]; simp [List.getElem?_eq_getElem hj]
/-! ### a frame's words, all of them -/
/-- the cells of a frame -/
noncomputable def frow (m r h pc c : Int) (tv sv on : V) (tg v : Int) : List V := [vI m, vI r, vI h, vI pc, vI c, tv, sv, on, vI tg, vI v]
theorem each_k (n : Nat) (hA : At L C s) {rid sid sq fid : Pth} {m r h pc c tg v : Int} {tv sv on fv : V} {ts ss : List Int} {b : Bool} (hd : ∀ i, i = rid → i ≠ L.q ∧ ¬ L.of i) (hr : s.get rid = .row [B b]) (hsid : s.get sid = .row [.ptr sq 0]) (hsq : s.get sq = .row [.ptr L.q 0, fv]) (hfid : s.get fid = .row (frow m r h pc c tv sv on tg v))
    (n1 : sid ≠ rid) (n2 : sq ≠ rid) (n3 : fid ≠ rid) (o1 : num sid < num s.next) (o2 : num sq < num s.next) (o3 : num fid < num s.next) (ht : Sl L s tv ts) (hs : Sl L s sv ss) (hnt : ∀ i, tv.ref i → i ≠ rid) (hns : ∀ i, sv.ref i → i ≠ rid) (hlt : ts.length < 100000) (hls : ss.length < 100000)
    (htc : ∀ kv, okK tv kv = kv tv) (hsc : ∀ kv, okK sv kv = kv sv) :
    ∃ s', (∀ k, callK FW (n + 3) q92 [.ptr fid 0, .fn q93 [] [.ptr rid 0, .ptr sid 0]] s k = k (.tup []) s') ∧
      s'.get rid = .row [B (b && mayW C.t m && mayW C.t r && mayW C.t h && mayW C.t c && ts.all (mayW C.t) && ss.all (mayW C.t) && mayW C.t v)] ∧ Keep (fun i => i = rid) s s' := by
  have stp : ∀ {s1 : St} {b1 : Bool} {y : Int} {off : Nat}, Keep (fun i => i = rid) s s1 → s1.get rid = .row [B b1] → nth off (frow m r h pc c tv sv on tg v) = vI y →
      ∃ s2, (∀ k, callK FW (n + 2) q93 [.ptr fid off, .ptr rid 0, .ptr sid 0] s1 k = k (.tup []) s2) ∧ s2.get rid = .row [B (b1 && mayW C.t y)] ∧ Keep (fun i => i = rid) s s2 := fun hk hr1 hf => by
    obtain ⟨s2, a1, a2, a3⟩ := word_k n (hA.keep hk hd) hr1 (by rw [hk.same sid o1 n1]; exact hsid) (by rw [hk.same sq o2 n2]; exact hsq) (by rw [hk.same fid o3 n3, hfid]; exact hf)
    exact ⟨s2, a1, a2, hk.trans a3⟩
  obtain ⟨s1, c1, r1, k1⟩ := stp (off := 0) (Keep.refl _ s) hr rfl
  obtain ⟨s2, c2, r2, k2⟩ := stp (off := 1) k1 r1 rfl
  obtain ⟨s3, c3, r3, k3⟩ := stp (off := 2) k2 r2 rfl
  obtain ⟨s4, c4, r4, k4⟩ := stp (off := 4) k3 r3 rfl
  have f4 : s4.get fid = .row (frow m r h pc c tv sv on tg v) := by rw [k4.same fid o3 n3]; exact hfid
  have keepSl : ∀ {s1 : St} {x : V} {xs : List Int}, Keep (fun i => i = rid) s s1 → Sl L s x xs → (∀ i, x.ref i → i ≠ rid) → Sl L s1 x xs := fun hk hsl hne => by
    cases hsl with
    | nils => exact .nils
    | slc i off ex c _ g1 g2 g3 g4 => exact .slc i off ex c _ (Nat.lt_of_lt_of_le g1 hk.next) g2 g3 fun j hj => by rw [hk.same i g1 (hne i rfl)]; exact g4 j hj
  have ht4 := keepSl k4 ht hnt
  have lt4 := ht.len
  have ls4 := hs.len
  obtain ⟨E, hpre, hE⟩ : ∃ E, (∀ k, callK FW (n + 3) q92 [.ptr fid 0, .fn q93 [] [.ptr rid 0, .ptr sid 0]] s k = finK (seqK (blockK 0 (loopK (execK (callK FW (n + 2)) B92x0) 100000 E s4)) (execK (callK FW (n + 2)) R92x1)) A92.results k) ∧
      Has E [(q2, .p 0), (q4, .p ts.length), (q0, .ptr fid 0), (q1, .fn q93 [] [.ptr rid 0, .ptr sid 0])] := by
    refine ⟨?_, fun k => ?_, ?_⟩
    rotate_left
    · rw [callK_fn g92, A92_l]
      simp -implicitDefEqProofs [c1, c2, c3, c4, f4, frow, htc, lt4, execK_loop]
      rfl
    · simp
  obtain ⟨e5, s5, l5, H5, k5, r5⟩ := loop920 n (hA.keep k4 hd) hd (b := b && mayW C.t m && mayW C.t r && mayW C.t h && mayW C.t c) (sid := sid) (sq := sq) (fid := fid) (by rw [k4.same sid o1 n1]; exact hsid) (by rw [k4.same sq o2 n2]; exact hsq) f4 rfl n1 n2 n3 (Nat.lt_of_lt_of_le o1 k4.next) (Nat.lt_of_lt_of_le o2 k4.next) (Nat.lt_of_lt_of_le o3 k4.next) ht4 hnt hlt ts.length 0 E s4 100000 (by omega) (by omega) (Keep.refl _ s4) (by rw [r4]; simp) hE
  have k5' := k4.trans k5
  have f5 : s5.get fid = .row (frow m r h pc c tv sv on tg v) := by rw [k5'.same fid o3 n3]; exact hfid
  have hs5 := keepSl k5' hs hns
  obtain ⟨E2, hpre2, hE2⟩ : ∃ E2, execK (callK FW (n + 2)) R92x1 e5 s5 = seqK (blockK 2 (loopK (execK (callK FW (n + 2)) B92x1) 100000 E2 s5)) (execK (callK FW (n + 2)) R92x0) ∧
      Has E2 [(q3, .p 0), (q6, .p ss.length), (q0, .ptr fid 0), (q1, .fn q93 [] [.ptr rid 0, .ptr sid 0])] := by
    simp at H5
    refine ⟨?_, ?_, ?_⟩
    rotate_left
    · simp only [R92x1]
      simp -implicitDefEqProofs [H5, f5, frow, hsc, ls4, execK_loop]
      rfl
    · simp [H5]
  obtain ⟨e6, s6, l6, H6, k6, r6⟩ := loop921 n (hA.keep k5' hd) hd (b := b && mayW C.t m && mayW C.t r && mayW C.t h && mayW C.t c && ts.all (mayW C.t)) (sid := sid) (sq := sq) (fid := fid) (by rw [k5'.same sid o1 n1]; exact hsid) (by rw [k5'.same sq o2 n2]; exact hsq) f5 rfl n1 n2 n3 (Nat.lt_of_lt_of_le o1 k5'.next) (Nat.lt_of_lt_of_le o2 k5'.next) (Nat.lt_of_lt_of_le o3 k5'.next) hs5 hns hls ss.length 0 E2 s5 100000 (by omega) (by omega) (Keep.refl _ s5) (by rw [r5]; simp) hE2
  have k6' := k5'.trans k6
  obtain ⟨s7, c7, r7, k7⟩ := stp (off := 9) k6' r6 rfl
  refine ⟨s7, fun k => ?_, r7, k7⟩
  simp at H6
  rw [hpre, l5]
  simp -implicitDefEqProofs only [blockK_exit, if_true, seqK_norm]
  rw [hpre2, l6]
  simp -implicitDefEqProofs [R92x0, H6, c7, A92]
/-! ### a frame is copied -/
theorem stoAt {s : St} {id : Pth} {l : List V} {off : Nat} {v : V} (h : s.get id = .row l) (ho : off < l.length) (hv : ∀ k, cellsK v k = k [v]) (k : K) : stK (.ptr id off) 1 v s k = k (.tup []) (s.set id (.row (l.set off v))) := by
  show cellsK v (fun l => Bool.rec fl (wrObj (s.get id) off l (fun o => k (.tup []) (s.set id o))) (Nat.beq (len l) 1)) = _
  rw [hv, h]
  show (Bool.rec fl (k (.tup []) (s.set id (.row (lset v off l)))) (Nat.ble (off + 1) (len l)) : RC) = _
  rw [bleRec, len_eq, if_pos (by omega), lset_eq]
theorem lset_all : ∀ {l l0 : List V}, l0.length = l.length → lsetMany l 0 l0 = l := fun {l l0} h => by
  apply List.ext_getElem?
  intro j
  rw [lsetMany_get l 0 l0 j (by omega)]
  by_cases hj : j < l.length
  · rw [if_pos (by omega), Nat.sub_zero]
  · rw [if_neg (by omega), List.getElem?_eq_none (by omega), List.getElem?_eq_none (by omega)]
theorem stoAll {s : St} {id : Pth} {l l0 : List V} {n : Nat} (h : s.get id = .row l0) (h0 : l0.length = n) (hl : l.length = n) (k : K) : stK (.ptr id 0) n (.agg l) s k = k (.tup []) (s.set id (.row l)) := by
  show (Bool.rec fl (wrObj (s.get id) 0 l (fun o => k (.tup []) (s.set id o))) (Nat.beq (len l) n) : RC) = _
  rw [beqRec, len_eq, if_pos hl, h]
  show (Bool.rec fl (k (.tup []) (s.set id (.row (lsetMany l 0 l0)))) (Nat.ble (0 + len l) (len l0)) : RC) = _
  rw [bleRec, len_eq, len_eq, if_pos (by omega), lset_all (by omega)]
theorem ldAll {s : St} {id : Pth} {l : List V} {n : Nat} (h : s.get id = .row l) (hl : l.length = n) (kv : KV) : ldAK (.ptr id 0) n s kv = kv (.agg l) := by
  show (Bool.rec fl (kv (.agg (rdMany (s.get id) 0 n))) (Nat.beq (len (rdMany (s.get id) 0 n)) n) : RC) = _
  have : rdMany (s.get id) 0 n = l := by
    rw [h]
    show takeL n (dropL 0 l) = l
    rw [takeL_eq, dropL_zero, List.take_of_length_le (by omega)]
  rw [this, beqRec, len_eq, if_pos hl]
@[simp] theorem cellsK_agg (l : List V) (k : List V → RC) : cellsK (.agg l) k = k l := rfl
theorem copied_k (n : Nat) (hA : At L C s) {m r h pc c tg v : Int} {tv sv on : V} {ts ss : List Int} (ht : Sl L s tv ts) (hs : Sl L s sv ss) (hlt : ts.length ≤ 1048576) (hls : ss.length ≤ 1048576) (htc : ∀ kv, okK tv kv = kv tv) (hsc : ∀ kv, okK sv kv = kv sv) (hsm : ∀ r, sameK sv sv r = r) :
    ∃ tv' sv' s', (∀ k, callK FW (n + 2) q94 [.agg (frow m r h pc c tv sv on tg v)] s k = k (.agg (frow m r h pc c tv' sv' on tg v)) s') ∧ Sl L s' tv' ts ∧ Sl L s' sv' ss ∧ Keep (fun _ => False) s s' ∧ (∀ i, tv'.ref i → num s.next ≤ num i) ∧ (∀ i, sv'.ref i → num s.next ≤ num i) := by
  have k2 : Keep (fun _ => False) s ((s.push (.row (frow m r h pc c tv sv on tg v))).push (.row [.p 0, .p 0, .p 0, .p 0, .p 0, .nils, .nils, .ff, .p 0, .p 0])) := (Keep.push _ s _).trans (Keep.push _ _ _)
  generalize hs2 : (s.push (.row (frow m r h pc c tv sv on tg v))).push (.row [.p 0, .p 0, .p 0, .p 0, .p 0, .nils, .nils, .ff, .p 0, .p 0]) = s2 at k2
  have hA2 := hA.keep k2 (fun _ x => x.elim)
  have g2a : s2.get s.next = .row (frow m r h pc c tv sv on tg v) := by rw [← hs2]; simp [St.get_push, St.next_push, cni1]
  have g2z : s2.get (inc s.next) = .row [.p 0, .p 0, .p 0, .p 0, .p 0, .nils, .nils, .ff, .p 0, .p 0] := by rw [← hs2]; simp [St.get_push, St.next_push]
  have n2 : num s2.next = num s.next + 2 := by rw [← hs2, St.num_push, St.num_push]
  have kS : ∀ {s1 s3 : St} {x : V} {xs : List Int}, Keep (fun _ => False) s1 s3 → Sl L s1 x xs → Sl L s3 x xs := fun hk hsl => hsl.keep (hk.mono fun _ _ x => x.elim)
  obtain ⟨tv', s3, c3, t3, k3, r3, o3⟩ := clone_k n hA2 (kS k2 ht) hlt
  have hA3 := hA2.keep k3 (fun _ x => x.elim)
  obtain ⟨sv', s4, c4, t4, k4, r4, o4⟩ := clone_k n hA3 (kS k3 (kS k2 hs)) hls
  have hA4 := hA3.keep k4 (fun _ x => x.elim)
  have hn := num_inc s.next
  have g3a : s3.get s.next = .row (frow m r h pc c tv sv on tg v) := by rw [k3.same _ (by omega) (fun x => x.elim)]; exact g2a
  have n3 := k3.next
  have n4 := k4.next
  have g4a : s4.get s.next = .row (frow m r h pc c tv sv on tg v) := by rw [k4.same _ (by omega) (fun x => x.elim)]; exact g3a
  have g4z : s4.get (inc s.next) = .row [.p 0, .p 0, .p 0, .p 0, .p 0, .nils, .nils, .ff, .p 0, .p 0] := by rw [k4.same _ (by omega) (fun x => x.elim), k3.same _ (by omega) (fun x => x.elim)]; exact g2z
  have c5 := stoAt (off := 5) (v := tv') g4a (by simp [frow]) o3
  have k5 : Keep (fun _ => False) s (s4.set s.next (.row ((frow m r h pc c tv sv on tg v).set 5 tv'))) := ⟨by rw [St.next_set]; omega, fun i hi _ => by
    rw [St.get_set_ne _ _ (fun e => by subst e; omega), k4.same i (by omega) (fun x => x.elim), k3.same i (by omega) (fun x => x.elim), k2.same i hi (fun x => x.elim)]⟩
  generalize hs5 : s4.set s.next (.row ((frow m r h pc c tv sv on tg v).set 5 tv')) = s5 at c5 k5
  have g5a : s5.get s.next = .row ((frow m r h pc c tv sv on tg v).set 5 tv') := by rw [← hs5, St.get_set_same]
  have g5z : s5.get (inc s.next) = .row [.p 0, .p 0, .p 0, .p 0, .p 0, .nils, .nils, .ff, .p 0, .p 0] := by rw [← hs5, St.get_set_ne _ _ (fun e => by have := congrArg num e; omega)]; exact g4z
  have c6 := stoAt (off := 6) (v := sv') g5a (by simp [frow]) o4
  have e6 : ((frow m r h pc c tv sv on tg v).set 5 tv').set 6 sv' = frow m r h pc c tv' sv' on tg v := rfl
  rw [e6] at c6
  generalize hs6 : s5.set s.next (.row (frow m r h pc c tv' sv' on tg v)) = s6 at c6
  have g6a : s6.get s.next = .row (frow m r h pc c tv' sv' on tg v) := by rw [← hs6, St.get_set_same]
  have g6z : s6.get (inc s.next) = .row [.p 0, .p 0, .p 0, .p 0, .p 0, .nils, .nils, .ff, .p 0, .p 0] := by rw [← hs6, St.get_set_ne _ _ (fun e => by have := congrArg num e; omega)]; exact g5z
  have c7 := fun kv => ldAll (n := 10) g6a rfl kv
  have c8 := fun k => stoAll (l := frow m r h pc c tv' sv' on tg v) (n := 10) g6z rfl rfl k
  generalize hs7 : s6.set (inc s.next) (.row (frow m r h pc c tv' sv' on tg v)) = s7 at c8
  have g7z : s7.get (inc s.next) = .row (frow m r h pc c tv' sv' on tg v) := by rw [← hs7, St.get_set_same]
  have c9 := fun kv => ldAll (n := 10) g7z rfl kv
  have k47 : ∀ i, num i < num s4.next → i ≠ s.next → i ≠ inc s.next → s7.get i = s4.get i := fun i hi h1 h2 => by rw [← hs7, St.get_set_ne _ _ h2, ← hs6, St.get_set_ne _ _ h1, ← hs5, St.get_set_ne _ _ h1]
  have nx7 : s7.next = s4.next := by rw [← hs7, ← hs6, ← hs5]; rfl
  have kSl7 : ∀ {x : V} {xs : List Int}, Sl L s4 x xs → (∀ i, x.ref i → num s2.next ≤ num i) → Sl L s7 x xs := fun hsl hx => by
    cases hsl with
    | nils => exact .nils
    | slc i off ex c _ g1 g2 g3 g4 =>
      have hi := hx i rfl
      exact .slc i off ex c _ (by rw [nx7]; exact g1) g2 g3 fun j hj => by rw [k47 i g1 (fun e => by subst e; omega) (fun e => by subst e; omega)]; exact g4 j hj
  refine ⟨tv', sv', s7, fun k => ?_, kSl7 (kS k4 t3) (fun i hi => r3 i hi), kSl7 t4 (fun i hi => by have := r4 i hi; omega), ⟨by rw [nx7]; omega, fun i hi _ => ?_⟩, fun i hi => by have := r3 i hi; omega, fun i hi => by have := r4 i hi; omega⟩
  · rw [callK_fn g94]
    have hs2' : (s.push (.row [vI m, vI r, vI h, vI pc, vI c, tv, sv, on, vI tg, vI v])).push (.row [.p 0, .p 0, .p 0, .p 0, .p 0, .nils, .nils, .ff, .p 0, .p 0]) = s2 := hs2
    simp only [frow] at g2a g3a c7 c8 c9
    simp -implicitDefEqProofs [A94, frow, hs2', g2a, g3a, St.next_push, htc, hsc, hsm, c3, c4, c5, c6, c7, c8, c9]
  · rw [k47 i (by omega) (fun e => by subst e; omega) (fun e => by subst e; omega), k4.same i (by omega) (fun x => x.elim), k3.same i (by omega) (fun x => x.elim), k2.same i hi (fun x => x.elim)]
theorem Vc.same {s : St} {es n : Nat} {v : V} {xs : List V} (h : Vc s es v n xs) (r : RC) : sameK v v r = r := by
  cases h with
  | nils => rfl
  | vec id d t z n c xs h1 h2 h3 h4 h5 h6 => exact sameK_ok (sameB_refl0 _ trivial) r
theorem Vc.okK {s : St} {es n : Nat} {v : V} {xs : List V} (h : Vc s es v n xs) (kv : KV) : Viv.okK v kv = kv v := by cases h <;> rfl
theorem Vc.cells {s : St} {es n : Nat} {v : V} {xs : List V} (h : Vc s es v n xs) (k : List V → RC) : cellsK v k = k [v] := by cases h <;> rfl
theorem Sl.okK {L : Lay} {s : St} {v : V} {xs : List Int} (h : Sl L s v xs) (kv : KV) : Viv.okK v kv = kv v := by cases h <;> rfl
theorem Sl.same {L : Lay} {s : St} {v : V} {xs : List Int} (h : Sl L s v xs) (r : RC) : sameK v v r = r := by
  cases h with
  | nils => rfl
  | slc i off ex c xs h1 h2 h3 h4 => exact sameK_ok (sameB_refl0 _ trivial) r
theorem Sl.old {L : Lay} {s : St} {v : V} {xs : List Int} (h : Sl L s v xs) {i : Pth} (hi : v.ref i) : num i < num s.next := by
  cases h with
  | nils => exact hi.elim
  | slc i off ex c xs h1 h2 h3 h4 => cases hi; exact h1
/-- may a frame be pushed? -/
noncomputable def rightF (C : Cont) (m r h c v : Int) (ts ss : List Int) : Bool := decide (c = 0) && decide (ts.length ≤ 24) && mayW C.t m && mayW C.t r && mayW C.t h && mayW C.t c && ts.all (mayW C.t) && ss.all (mayW C.t) && mayW C.t v
/-- a stack of frames in a state -/
structure StkAt (L : Lay) (s : St) (sq : Pth) (fv : V) (nf : Nat) (xs : List V) : Prop where
  q : s.get sq = .row [.ptr L.q 0, fv]
  old : num sq < num s.next
  nq : sq ≠ L.q
  no : ¬ L.of sq
  vc : Vc s 10 fv nf xs
  rf : ∀ i, fv.ref i → i ≠ sq ∧ i ≠ L.q ∧ ¬ L.of i
theorem StkAt.keep {X : Pth → Prop} {s s' : St} {sq : Pth} {fv : V} {nf : Nat} {xs : List V} (h : StkAt L s sq fv nf xs) (hk : Keep X s s') (h1 : ¬ X sq) (h2 : ∀ i, fv.ref i → ¬ X i) : StkAt L s' sq fv nf xs :=
  ⟨by rw [hk.same sq h.old h1]; exact h.q, Nat.lt_of_lt_of_le h.old hk.next, h.nq, h.no, h.vc.keep hk h2, h.rf⟩
theorem pushF_k (n : Nat) (hA : At L C s) {sq : Pth} {fv : V} {nf : Nat} {xs : List V} (hS : StkAt L s sq fv nf xs) {m r h pc c tg v : Int} {tv sv on : V} {ts ss : List Int} (ht : Sl L s tv ts) (hs : Sl L s sv ss) (hlt : ts.length < 100000) (hls : ss.length < 100000) :
    ∃ s' fv', At L C s' ∧ ((60 ≤ nf ∧ (∀ k, callK FW (n + 4) q32 [.ptr sq 0, .agg (frow m r h pc c tv sv on tg v)] s k = k (.p 22) s') ∧ StkAt L s' sq fv nf xs ∧ Keep (fun _ => False) s s') ∨
      (nf < 60 ∧ rightF C m r h c v ts ss = false ∧ (∀ k, callK FW (n + 4) q32 [.ptr sq 0, .agg (frow m r h pc c tv sv on tg v)] s k = k (.p 1) s') ∧ StkAt L s' sq fv nf xs ∧ Keep (fun _ => False) s s') ∨
      (nf < 60 ∧ rightF C m r h c v ts ss = true ∧ (∀ k, callK FW (n + 4) q32 [.ptr sq 0, .agg (frow m r h pc c tv sv on tg v)] s k = k (.p 0) s') ∧
        (∃ tv' sv', StkAt L s' sq fv' (nf + 1) (xs ++ frow m r h pc c tv' sv' on tg v)) ∧ Keep (fun i => i = sq ∨ fv.ref i) s s' ∧ ∀ i, fv'.ref i → fv.ref i ∨ num s.next ≤ num i)) := by
  -- the three cells
  have n1 := num_inc s.next
  have n2 := num_inc (inc s.next)
  have hk3 : Keep (fun _ => False) s (((s.push (.row [.ptr sq 0])).push (.row (frow m r h pc c tv sv on tg v))).push (.row [.ff])) := ((Keep.push _ s _).trans (Keep.push _ _ _)).trans (Keep.push _ _ _)
  obtain ⟨s3, hs3⟩ : ∃ s3, ((s.push (.row [.ptr sq 0])).push (.row (frow m r h pc c tv sv on tg v))).push (.row [.ff]) = s3 := ⟨_, rfl⟩
  rw [hs3] at hk3
  have nx3 : s3.next = inc (inc (inc s.next)) := by rw [← hs3]; rfl
  have nn3 : num s3.next = num s.next + 3 := by rw [nx3, num_inc, num_inc, num_inc]
  have a3 : s3.get s.next = .row [.ptr sq 0] := by rw [← hs3]; simp [St.get_push, St.next_push, cni1, cni2]
  have b3 : s3.get (inc s.next) = .row (frow m r h pc c tv sv on tg v) := by rw [← hs3]; simp [St.get_push, St.next_push, cni1]
  have d3 : s3.get (inc (inc s.next)) = .row [.ff] := by rw [← hs3]; simp [St.get_push, St.next_push]
  have hst := fun (b : Bool) k => sto1 (v := B b) d3 (fun k => cellsK_B b k) k
  have hk4 : ∀ b : Bool, Keep (fun _ => False) s (s3.set (inc (inc s.next)) (.row [B b])) := fun b => ⟨by rw [St.next_set]; exact hk3.next, fun i hi _ => by
    rw [St.get_set_ne _ _ (fun e => by subst e; omega)]; exact hk3.same i hi (fun x => x.elim)⟩
  -- the look at all words
  have look : ∀ b : Bool, ∃ s5, (∀ k, callK FW (n + 3) q92 [.ptr (inc s.next) 0, .fn q93 [] [.ptr (inc (inc s.next)) 0, .ptr s.next 0]] (s3.set (inc (inc s.next)) (.row [B b])) k = k (.tup []) s5) ∧
      s5.get (inc (inc s.next)) = .row [B (b && mayW C.t m && mayW C.t r && mayW C.t h && mayW C.t c && ts.all (mayW C.t) && ss.all (mayW C.t) && mayW C.t v)] ∧ s5.get s.next = .row [.ptr sq 0] ∧ s5.get (inc s.next) = .row (frow m r h pc c tv sv on tg v) ∧ Keep (fun _ => False) s s5 ∧ num s.next + 3 ≤ num s5.next := fun b => by
    have hA4 := hA.keep (hk4 b) (fun _ x => x.elim)
    have hne := Lay.new_ne hA (i := inc (inc s.next)) (by omega)
    have a4 : (s3.set (inc (inc s.next)) (.row [B b])).get s.next = .row [.ptr sq 0] := by rw [St.get_set_ne _ _ (fun e => by have := congrArg num e; omega)]; exact a3
    have b4 : (s3.set (inc (inc s.next)) (.row [B b])).get (inc s.next) = .row (frow m r h pc c tv sv on tg v) := by rw [St.get_set_ne _ _ (fun e => by have := congrArg num e; omega)]; exact b3
    have q4 : (s3.set (inc (inc s.next)) (.row [B b])).get sq = .row [.ptr L.q 0, fv] := by rw [(hk4 b).same sq hS.old (fun x => x.elim)]; exact hS.q
    have o4 : num (s3.set (inc (inc s.next)) (.row [B b])).next = num s.next + 3 := nn3
    have hq := hS.old
    obtain ⟨s5, c5, r5, k5⟩ := each_k n hA4 (rid := inc (inc s.next)) (sid := s.next) (sq := sq) (fid := inc s.next) (b := b) (fun i hi => by subst hi; exact hne) (St.get_set_same _ _ _) a4 q4 b4 (fun e => by have := congrArg num e; omega) (fun e => by subst e; omega) (fun e => by have := congrArg num e; omega) (by omega) (by omega) (by omega)
      (ht.keep ((hk4 b).mono fun _ _ x => x.elim)) (hs.keep ((hk4 b).mono fun _ _ x => x.elim)) (fun i hi e => by have := ht.old hi; subst e; omega) (fun i hi e => by have := hs.old hi; subst e; omega) hlt hls ht.okK hs.okK
    refine ⟨s5, c5, r5, by rw [k5.same _ (by omega) (fun e => by have := congrArg num e; omega)]; exact a4, by rw [k5.same _ (by omega) (fun e => by have := congrArg num e; omega)]; exact b4, ⟨by have := k5.next; omega, fun i hi _ => ?_⟩, by have := k5.next; omega⟩
    rw [k5.same i (by omega) (fun e => by subst e; omega)]; exact (hk4 b).same i hi (fun x => x.elim)
  obtain ⟨b, hb⟩ : ∃ b, (decide (c = 0) && decide (ts.length ≤ 24)) = b := ⟨_, rfl⟩
  obtain ⟨s5, c5, r5, a5, b5, k5, o5⟩ := look b
  have hright : (b && mayW C.t m && mayW C.t r && mayW C.t h && mayW C.t c && ts.all (mayW C.t) && ss.all (mayW C.t) && mayW C.t v) = rightF C m r h c v ts ss := by unfold rightF; rw [hb]
  rw [hright] at r5
  have hA5 := hA.keep k5 (fun _ x => x.elim)
  have hS5 := hS.keep k5 (fun x => x.elim) (fun _ _ x => x.elim)
  -- up to the look
  obtain ⟨E, hpre, hE⟩ : ∃ E, (∀ k, callK FW (n + 4) q32 [.ptr sq 0, .agg (frow m r h pc c tv sv on tg v)] s k = finK (execK (callK FW (n + 3)) S32x3 E s5) A32.results k) ∧ Has E [(q0, .ptr (inc s.next) 0), (q1, .ptr s.next 0), (q2, .ptr (inc (inc s.next)) 0)] := by
    have hs3' : ((s.push (.row [.ptr sq 0])).push (.row [vI m, vI r, vI h, vI pc, vI c, tv, sv, on, vI tg, vI v])).push (.row [.ff]) = s3 := hs3
    have hto := ht.okK
    have htl := ht.len
    have hsb := hst b
    by_cases c0 : c = 0
    · have e0 : ∀ kv, eq0 (vI c) (.p 0) kv = kv .tt := fun kv => by rw [eq0_vp, decide_eq_true (by simpa using c0)]; rfl
      by_cases l24 : ts.length ≤ 24
      · have hbt : b = true := by rw [← hb, decide_eq_true c0, decide_eq_true l24]; rfl
        subst hbt
        simp only [B_true] at hsb c5
        refine ⟨?_, fun k => ?_, ?_⟩
        rotate_left
        · rw [callK_fn g32, A32_l]
          simp -implicitDefEqProofs [frow, St.get_push, St.next_push, e0, -eq0_vp, hto, htl, show ¬ 24 < ts.length by omega, hs3', hsb, c5]
          rfl
        · simp
      · have hbf : b = false := by rw [← hb, decide_eq_false l24, Bool.and_false]
        subst hbf
        simp only [B_false] at hsb c5
        refine ⟨?_, fun k => ?_, ?_⟩
        rotate_left
        · rw [callK_fn g32, A32_l]
          simp -implicitDefEqProofs [frow, St.get_push, St.next_push, e0, -eq0_vp, hto, htl, show 24 < ts.length by omega, hs3', hsb, c5]
          rfl
        · simp
    · have e0 : ∀ kv, eq0 (vI c) (.p 0) kv = kv .ff := fun kv => by rw [eq0_vp, decide_eq_false (by simpa using c0)]; rfl
      have hbf : b = false := by rw [← hb, decide_eq_false c0]; rfl
      subst hbf
      simp only [B_false] at hsb c5
      refine ⟨?_, fun k => ?_, ?_⟩
      rotate_left
      · rw [callK_fn g32, A32_l]
        simp -implicitDefEqProofs [frow, St.get_push, St.next_push, e0, -eq0_vp, hs3', hsb, c5]
        rfl
      · simp
  simp at hE
  have q5 := hS5.q
  have fo := hS5.vc.okK
  have fl5 := hS5.vc.lenv
  by_cases h60 : 60 ≤ nf
  · refine ⟨s5, .nils, hA5, .inl ⟨h60, fun k => ?_, hS5, k5⟩⟩
    rw [hpre]
    simp -implicitDefEqProofs [S32x3, hE, a5, q5, fo, fl5, show ¬ nf < 60 by omega, A32]
  · cases hR : rightF C m r h c v ts ss with
    | false =>
      rw [hR] at r5
      refine ⟨s5, .nils, hA5, .inr (.inl ⟨by omega, rfl, fun k => ?_, hS5, k5⟩)⟩
      rw [hpre]
      simp -implicitDefEqProofs [S32x3, hE, a5, q5, r5, fo, fl5, show nf < 60 by omega, A32]
    | true =>
      rw [hR] at r5
      have kmono : ∀ {s1 s2 : St}, Keep (fun _ => False) s1 s2 → Keep L.of s1 s2 := fun hk => hk.mono fun _ _ x => x.elim
      have ht5 := ht.keep (kmono k5)
      have hs5 := hs.keep (kmono k5)
      obtain ⟨tv', sv', s6, c6, t6, u6, k6, _, _⟩ := copied_k (n + 1) hA5 (m := m) (r := r) (h := h) (pc := pc) (c := c) (tg := tg) (v := v) (on := on) ht5 hs5 (by omega) (by omega) ht5.okK hs5.okK hs5.same
      have hA6 := hA5.keep k6 (fun _ x => x.elim)
      have hS6 := hS5.keep k6 (fun x => x.elim) (fun _ _ x => x.elim)
      have g6a : s6.get s.next = .row [.ptr sq 0] := by rw [k6.same _ (by omega) (fun x => x.elim)]; exact a5
      have k7 : Keep (fun _ => False) s6 (s6.push (mkVec (frow m r h pc c tv' sv' on tg v))) := Keep.push _ _ _
      have hn7 := fun k => newCells_new (s := s6.push (mkVec (frow m r h pc c tv' sv' on tg v))) (j := s6.next) (l := frow m r h pc c tv' sv' on tg v) (m := 1) (es := 10) (by rw [St.get_push, if_pos rfl]) rfl k
      have hA7 := hA6.keep k7 (fun _ x => x.elim)
      have hS7 := hS6.keep k7 (fun x => x.elim) (fun _ _ x => x.elim)
      have n6 := k6.next
      have g7a : (s6.push (mkVec (frow m r h pc c tv' sv' on tg v))).get s.next = .row [.ptr sq 0] := by rw [k7.same _ (by omega) (fun x => x.elim)]; exact g6a
      obtain ⟨fv', s8, c8, v8, k8, r8⟩ := hS7.vc.appK (m := 1) (l := frow m r h pc c tv' sv' on tg v) (by omega) rfl (by omega) (by omega) hn7
      have n7 := k7.next
      have n8 := k8.next
      have fo1 : ∀ i, fv.ref i → num i < num s.next := fun i hi => hS.vc.old hi
      have g8a : s8.get s.next = .row [.ptr sq 0] := by rw [k8.same _ (by omega) (fun x => by have := fo1 _ x; omega)]; exact g7a
      have g8q : s8.get sq = .row [.ptr L.q 0, fv] := by rw [k8.same sq hS7.old (fun x => (hS.rf sq x).1 rfl)]; exact hS7.q
      have hA8 : At L C s8 := hA7.keep k8 (fun i hi => ⟨(hS.rf i hi).2.1, (hS.rf i hi).2.2⟩)
      have c9 := stoAt (off := 1) (v := fv') g8q (by simp) v8.cells
      have hA9 : At L C (s8.set sq (.row [.ptr L.q 0, fv'])) := hA8.set_other _ hS.nq hS.no
      have hset : ([.ptr L.q 0, fv] : List V).set 1 fv' = [.ptr L.q 0, fv'] := rfl
      rw [hset] at c9
      have hso := hS.old
      refine ⟨s8.set sq (.row [.ptr L.q 0, fv']), fv', hA9, .inr (.inr ⟨by omega, rfl, fun k => ?_, ⟨tv', sv', ⟨St.get_set_same _ _ _, by rw [St.next_set]; have := k5.next; omega, hS.nq, hS.no, ?_, fun i hi => ?_⟩⟩, ⟨by rw [St.next_set]; have := k5.next; omega, fun i hi hx => ?_⟩, fun i hi => (r8 i hi).imp id fun h' => by have := k5.next; omega⟩)⟩
      · have b5' : s5.get (inc s.next) = .row [vI m, vI r, vI h, vI pc, vI c, tv, sv, on, vI tg, vI v] := b5
        have c7 := fun kv => ldAll (n := 10) b5 rfl kv
        have q6 := hS6.q
        have q7 := hS7.q
        have fsm := hS5.vc.same
        rw [hpre]
        simp only [frow] at c6 c7 c8 g7a q7
        simp -implicitDefEqProofs [S32x3, hE, a5, q5, r5, fo, fl5, show nf < 60 by omega, A32, c7, c6, g6a, q6, g7a, q7, g8a, fsm, c8, c9]
      · refine v8.keep (Keep.set (X := fun i => i = sq) s8 _ (.inl rfl)) (fun i hi e => ?_)
        rcases r8 i hi with h' | h'
        · exact (hS.rf i h').1 e
        · subst e; have := k5.next; omega
      · rcases r8 i hi with h' | h'
        · exact hS.rf i h'
        · have hne := Lay.new_ne hA (i := i) (by have := k5.next; omega)
          exact ⟨fun e => by subst e; have := k5.next; omega, hne.1, hne.2⟩
      · rw [St.get_set_ne _ _ (fun e => hx (.inl e)), k8.same i (by have := k5.next; omega) (fun x => hx (.inr x)), k7.same i (by have := k5.next; omega) (fun x => x.elim), k6.same i (by have := k5.next; omega) (fun x => x.elim), k5.same i hi (fun x => x.elim)]
end
end Viv
