/-
  KernelRoom: its run.
-/
import Derived.Test.YtfppefhcmmfgcaaGreatNk
set_option maxRecDepth 100000
namespace Viv
open Go (Value World IntKind Addr Program Act Exit Oper Operand Ending undef)
open Go.Proofs

def sl8 : List Nat := [0, 3, 4, 15, 26, 2]
def pl8 : List PlanD := []
noncomputable def A8 : AFunc := ⟨[some q0], [(e5, none)], (.seq (.reg (.d (mv (cn .ff)) q5 .nil)) (.seq (.reg (.p (mv e0) (.p (call q20 [l0]) (.p (mv l0) (.p (ext l0 0) (.p (ext l1 1) (.d (mv l1) q1 (.d (mv l1) q2 .nil)))))))) (.seq (.seq (.reg (.p (mv e0) (.p (w2 ltK l0 (cn (.p 16))) (.p (mv l0) (.g 0 false (mv e0) (.g 1 false (gt l0 (cn (.p 131072))) (.d (pick l2 (cn .tt) l0) q3 .nil))))))) (.cond e3 (.seq (.reg (.p (mv e1) (.p (w2 eqNp l0 (cn .nilp)) (.p (mv l0) (.g 0 true (mv e2) (.g 1 true (w2 eq0 l0 (cn (.p 1))) (.p (pick l2 l0 (cn .ff)) (.p (mv l0) (.g 0 true (call q41 []) (.p (pick l1 l0 (cn .ff)) (.d (mv l0) q5 .nil))))))))))) .ret) .skip)) (.seq (.seq (.reg (.p (mv e0) (.d (w2 ltK l0 (cn (.p 16384))) q4 .nil))) (.cond e4 (.seq (.reg (.p (mv e1) (.p (w2 eqNp l0 (cn .nilp)) (.p (mv l0) (.g 0 true (mv e2) (.g 1 true (w2 eq0 l0 (cn (.p 4))) (.p (pick l2 l0 (cn .ff)) (.p (mv l0) (.g 0 true (call q41 []) (.p (pick l1 l0 (cn .ff)) (.d (mv l0) q5 .nil))))))))))) .ret) .skip)) (.seq (.reg (.p (mv e1) (.p (ne eqNp l0 (cn .nilp)) (.p (mv l0) (.g 0 true (mv e2) (.g 1 true (w2 eq0 l0 (cn (.p 0))) (.p (pick l2 l0 (cn .ff)) (.p (mv l0) (.g 0 true (mv e1) (.g 1 true (call q30 [l0]) (.g 2 true (call q51 [l0]) (.g 3 true (mv e0) (.g 4 true (w2 eq0 l1 l0) (.p (pick (lo 5) l0 (cn .ff)) (.p (mv l0) (.g 0 true (call q41 []) (.p (pick l1 l0 (cn .ff)) (.d (mv l0) q5 .nil)))))))))))))))))) .ret)))))⟩
theorem T8 : trFunc Tryz.prog Tryz.f8 1 sl8 pl8 = some A8 := by kernel_rfl
@[simp] theorem okK_nilp (kv : KV) : okK .nilp kv = kv .nilp := rfl
@[simp] theorem eqNp_ptrn (id : Pth) (o : Nat) (kv : KV) : eqNp (.ptr id o) .nilp kv = kv .ff := rfl
theorem w20 (l : L) (s : St) (k : K) : callK FW 61 q20 l s k = sp_newK l s k := by kernel_rfl
theorem w41 (s : St) (k : K) : callK FW 61 q41 [] s k = k .tt s := by kernel_rfl
theorem w30 (n : Nat) (k : K) : callK FW 61 q30 [.ptr (Pth.h.i.o) 0] ⟨mkR (fP n), Pth.h.i.i⟩ k = k (.ptr .h 0) ⟨mkR (fP n), Pth.h.i.i⟩ := by kernel_rfl
theorem w51 (n : Nat) (k : K) : callK FW 61 q51 [.ptr .h 0] ⟨mkR (fP n), Pth.h.i.i⟩ k = k (.p n) ⟨mkR (fP n), Pth.h.i.i⟩ := by kernel_rfl
theorem newK_m (n : Nat) (s : St) (k : K) : sp_newK [.m n] s k = k (.tup [.nilp, .p 1]) s := rfl
theorem newK_1 {n : Nat} (h : n < 16 ∨ 131072 < n) (s : St) (k : K) : sp_newK [.p n] s k = k (.tup [.nilp, .p 1]) s := by
  have hb : (Nat.ble 16 n && Nat.ble n 131072) = false := by
    cases hx : (Nat.ble 16 n && Nat.ble n 131072) with
    | false => rfl
    | true => simp only [Bool.and_eq_true, Nat.ble_eq] at hx; omega
  unfold sp_newK; simp only [hb]
theorem newK_4 {n : Nat} (h1 : 16 ≤ n) (h2 : n < 16384) (s : St) (k : K) : sp_newK [.p n] s k = k (.tup [.nilp, .p 4]) ((s.push (.mem ⟨.p n, 3, 0, .mt, inc s.next⟩)).push (.set .mt)) := by
  have hb : Nat.ble 16384 n = false := by
    cases hx : Nat.ble 16384 n with
    | false => rfl
    | true => rw [Nat.ble_eq] at hx; omega
  unfold sp_newK
  simp only [Nat.ble_eq_true_of_le h1, Nat.ble_eq_true_of_le (show n ≤ 131072 by omega), Bool.and_self, hb]
theorem newK_ok {n : Nat} (h1 : 16384 ≤ n) (h2 : n ≤ 131072) (k : K) : sp_newK [.p n] ⟨.mt, .h⟩ k = k (.tup [.ptr q5 0, .p 0]) ⟨mkR (fP n), q6⟩ := by
  unfold sp_newK
  simp only [Nat.ble_eq_true_of_le (show 16 ≤ n by omega), Nat.ble_eq_true_of_le h2, Bool.and_self, Nat.ble_eq_true_of_le h1]
  unfold sp_new0
  simp only [Nat.ble_eq_true_of_le h1, Nat.ble_eq_true_of_le h2, Bool.and_self]
theorem blt_t {a b : Nat} (h : a < b) : Nat.blt a b = true := (blt_iff _ _).2 h
theorem blt_f {a b : Nat} (h : b ≤ a) : Nat.blt a b = false := by
  cases hx : Nat.blt a b with
  | false => rfl
  | true => have := (blt_iff _ _).1 hx; omega
theorem room_m (n : Nat) (k : K) : callF (.fn A8) (callK FW 61) [.m n] ⟨.mt, .h⟩ k = k .tt ⟨.mt, .h⟩ := by
  simp [-q20, A8, w20, w41, newK_m]
theorem room_1 {n : Nat} (h : n < 16) (k : K) : callF (.fn A8) (callK FW 61) [.p n] ⟨.mt, .h⟩ k = k .tt ⟨.mt, .h⟩ := by
  simp [-q20, A8, w20, w41, newK_1 (.inl h), blt_t h]
theorem room_2 {n : Nat} (h : 131072 < n) (k : K) : callF (.fn A8) (callK FW 61) [.p n] ⟨.mt, .h⟩ k = k .tt ⟨.mt, .h⟩ := by
  simp [-q20, A8, w20, w41, newK_1 (.inr h), blt_t h, blt_f (show 16 ≤ n by omega)]
theorem room_4 {n : Nat} (h1 : 16 ≤ n) (h2 : n < 16384) (k : K) : callF (.fn A8) (callK FW 61) [.p n] ⟨.mt, .h⟩ k = k .tt (((⟨.mt, .h⟩ : St).push (.mem ⟨.p n, 3, 0, .mt, inc .h⟩)).push (.set .mt)) := by
  simp [-q20, A8, w20, w41, newK_4 h1 h2, blt_f h1, blt_f (show n ≤ 131072 by omega), blt_t h2]
theorem room_ok {n : Nat} (h1 : 16384 ≤ n) (h2 : n ≤ 131072) (k : K) : callF (.fn A8) (callK FW 61) [.p n] ⟨.mt, .h⟩ k = k .tt ⟨mkR (fP n), q6⟩ := by
  simp [-q20, A8, w20, w41, newK_ok h1 h2, blt_f (show 16 ≤ n by omega), blt_f h2, blt_f h1, w30, w51]
/-- a law that answers true -/
def True' (f : Nat) (args : Array Value) (w : World) : Prop := Goes Tryz.prog (Go.callFunc f args) w (fun x w' => x = .bool true ∧ ∃ β, Since w β w')
theorem true_of {f : Nat} {fn : Go.Func} {np : Nat} {sl : List Nat} {pls : List PlanD} {A : AFunc} (htr : trFunc Tryz.prog fn np sl pls = some A) (hfn : Tryz.prog.funcs[f]? = some fn) (hcall : ∀ args w, (Go.callFunc f args).run Tryz.prog w = .ok (.enter f args) w)
    {l : L} {args : List Value} {w : World} (ha : VRels (fun _ => none) l args) {s' : St} (h : ∀ k, callF (.fn A) (callK FW 61) l ⟨.mt, .h⟩ k = k .tt s') : True' f args.toArray w := by
  rcases func_out (FW_snd 61) mixed htr hfn hcall (sim_none w) ha with ⟨why, hbad⟩ | ⟨v2, s2, hk2, hg⟩
  · exact (not_fail h hbad).elim
  · obtain ⟨rfl, rfl⟩ := uniq h hk2
    refine hg.mono fun x w' ⟨β', hx, hs', hp⟩ => ⟨?_, β', (Since.refl w).post hp⟩
    cases hx; rfl
theorem int_rel {n : Int} (h1 : -9223372036854775808 ≤ n) (h2 : n < 9223372036854775808) : VRels (fun _ => none) [vI n] [.int .i64 n] := .cons _ _ _ _ (vI_rel h1 h2) .nil
theorem room_goes {n : Int} (h1 : -9223372036854775808 ≤ n) (h2 : n < 9223372036854775808) (w : World) : True' 8 #[.int .i64 n] w := by
  have hr := int_rel h1 h2
  cases n with
  | negSucc n => exact true_of T8 Tryz.func8 Tryz.call8 (l := [.m n]) hr (room_m n)
  | ofNat n =>
    have hr' : VRels (fun _ => none) [.p n] [.int .i64 (Int.ofNat n)] := hr
    by_cases c1 : n < 16
    · exact true_of T8 Tryz.func8 Tryz.call8 hr' (room_1 c1)
    by_cases c2 : 131072 < n
    · exact true_of T8 Tryz.func8 Tryz.call8 hr' (room_2 c2)
    by_cases c3 : n < 16384
    · exact true_of T8 Tryz.func8 Tryz.call8 hr' (room_4 (by omega) c3)
    · exact true_of T8 Tryz.func8 Tryz.call8 hr' (room_ok (by omega) (by omega))
end Viv
