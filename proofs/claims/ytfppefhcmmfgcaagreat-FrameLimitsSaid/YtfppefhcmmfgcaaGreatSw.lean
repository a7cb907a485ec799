/-
  THE CONTRACTS OF PACKAGE word.
-/
import Derived.Test.YtfppefhcmmfgcaaGreatSym
import Derived.Test.YtfppefhcmmfgcaaGreatFh
namespace Viv
open Go (Value World IntKind Addr Program Act Exit Oper Operand Ending undef)
open Go.Proofs

/-! ### numbers, whole -/
section
variable (kv : KV) (a b : Int) (n : Nat)
theorem vI_p : V.p n = vI (n : Int) := rfl
theorem vI_m : V.m n = vI (Int.negSucc n) := rfl
@[simp] theorem vI_ofNat : vI (Int.ofNat n) = .p n := rfl
@[simp] theorem vI_cast : vI (n : Int) = .p n := rfl
@[simp] theorem vI_negSucc : vI (Int.negSucc n) = .m n := rfl
theorem ltK_vI : ltK (vI a) (vI b) kv = kv (B (decide (a < b))) := by
  have nn : ∀ n m : Nat, Nat.blt n m = decide ((n : Int) < (m : Int)) := fun n m => by rw [Bool.eq_iff_iff, blt_iff]; simp
  cases a with
  | ofNat x => cases b with
    | ofNat y => show kv (B (Nat.blt x y)) = _; rw [nn]; rfl
    | negSucc y => show kv .ff = _; rw [show decide (Int.ofNat x < Int.negSucc y) = false by simp [Int.negSucc_eq]; omega]; rfl
  | negSucc x => cases b with
    | ofNat y => show kv .tt = _; rw [show decide (Int.negSucc x < Int.ofNat y) = true by simp [Int.negSucc_eq]; omega]; rfl
    | negSucc y => show kv (B (Nat.blt y x)) = _; rw [nn]; congr 2; simp [Int.negSucc_eq]
theorem eq0_vI : eq0 (vI a) (vI b) kv = kv (B (decide (a = b))) := by
  have nn : ∀ n m : Nat, Nat.beq n m = decide (n = m) := fun n m => by rw [Bool.eq_iff_iff, beq_iff]; simp
  cases a with
  | ofNat x => cases b with
    | ofNat y => show kv (B (Nat.beq x y)) = _; rw [nn]; congr 2; simp only [decide_eq_decide, Int.ofNat_eq_natCast]; omega
    | negSucc y => show kv .ff = _; rw [show decide (Int.ofNat x = Int.negSucc y) = false by simp]; rfl
  | negSucc x => cases b with
    | ofNat y => show kv .ff = _; rw [show decide (Int.negSucc x = Int.ofNat y) = false by simp]; rfl
    | negSucc y => show kv (B (Nat.beq x y)) = _; rw [nn]; congr 2; simp
@[simp] theorem ltK_vp : ltK (vI a) (.p n) kv = kv (B (decide (a < n))) := ltK_vI kv a n
@[simp] theorem ltK_pv : ltK (.p n) (vI a) kv = kv (B (decide ((n : Int) < a))) := ltK_vI kv n a
@[simp] theorem ltK_vm : ltK (vI a) (.m n) kv = kv (B (decide (a < Int.negSucc n))) := ltK_vI kv a (Int.negSucc n)
@[simp] theorem ltK_mv : ltK (.m n) (vI a) kv = kv (B (decide (Int.negSucc n < a))) := ltK_vI kv (Int.negSucc n) a
attribute [simp] ltK_vI eq0_vI
@[simp] theorem eq0_vp : eq0 (vI a) (.p n) kv = kv (B (decide (a = n))) := eq0_vI kv a n
theorem and_pow (x j : Nat) : x &&& (2 ^ j - 1) = x % 2 ^ j := Nat.and_two_pow_sub_one_eq_mod x j
theorem sub_xor (y x j : Nat) (h : y = 2 ^ j - 1) : y ^^^ (x &&& y) = y - x % 2 ^ j := by
  subst h
  rw [and_pow]
  have hlt : x % 2 ^ j < 2 ^ j := Nat.mod_lt _ (Nat.pos_of_ne_zero (by simp))
  apply Nat.eq_of_testBit_eq
  intro i
  rw [Nat.testBit_xor, Nat.testBit_two_pow_sub_one, show 2 ^ j - 1 - x % 2 ^ j = 2 ^ j - (x % 2 ^ j + 1) by omega, Nat.testBit_two_pow_sub_succ hlt]
  by_cases h : i < j
  · simp [h]
  · simp only [h, decide_false, Bool.false_and, Bool.false_xor]
    exact Nat.testBit_lt_two_pow (Nat.lt_of_lt_of_le hlt (Nat.pow_le_pow_right (by omega) (Nat.le_of_not_lt h)))
theorem andK_pow (j : Nat) : andK (vI a) (.p (2 ^ j - 1)) kv = kv (vI (a % (2 ^ j : Nat))) := by
  have hp : 0 < 2 ^ j := Nat.pos_of_ne_zero (by simp)
  cases a with
  | ofNat x =>
    show kv (.p (x &&& (2 ^ j - 1))) = _
    rw [and_pow]
    have : (Int.ofNat x) % ((2 ^ j : Nat) : Int) = ((x % 2 ^ j : Nat) : Int) := by simp
    rw [this]; rfl
  | negSucc x =>
    show kv (.p ((2 ^ j - 1) ^^^ (x &&& (2 ^ j - 1)))) = _
    rw [sub_xor _ x j rfl]
    have : (Int.negSucc x) % ((2 ^ j : Nat) : Int) = ((2 ^ j - 1 - x % 2 ^ j : Nat) : Int) := by
      rw [Int.negSucc_emod x (by omega)]
      have := Nat.mod_lt x hp
      omega
    rw [this]; rfl
@[simp] theorem andK_v1 : andK (vI a) (.p 1) kv = kv (vI (a % 2)) := andK_pow kv a 1
@[simp] theorem andK_v3 : andK (vI a) (.p 3) kv = kv (vI (a % 4)) := andK_pow kv a 2
theorem shrK_pow (d j : Nat) : shrK (vI a) (.k d j) kv = kv (vI (a / (2 ^ j : Nat))) := by
  cases a with
  | ofNat x => show kv (.p (x >>> j)) = _; rw [Nat.shiftRight_eq_div_pow]; rfl
  | negSucc x =>
    show kv (.m (x >>> j)) = _
    rw [Nat.shiftRight_eq_div_pow]
    have hp : 0 < 2 ^ j := Nat.pos_of_ne_zero (by simp)
    have : (Int.negSucc x) / ((2 ^ j : Nat) : Int) = Int.negSucc (x / 2 ^ j) := by
      obtain ⟨q, hq⟩ : ∃ q, 2 ^ j = q + 1 := ⟨2 ^ j - 1, by omega⟩
      rw [hq]; rfl
    rw [this]; rfl
@[simp] theorem shrK_v1 (d : Nat) : shrK (vI a) (.k d 1) kv = kv (vI (a / 2)) := shrK_pow kv a d 1
@[simp] theorem shrK_v2 (d : Nat) : shrK (vI a) (.k d 2) kv = kv (vI (a / 4)) := shrK_pow kv a d 2
theorem shlK_v1 (d : Nat) (h1 : -4611686018427387904 ≤ a) (h2 : a < 4611686018427387904) : shlK (vI a) (.k d 1) kv = kv (vI (2 * a)) := by
  cases a with
  | ofNat x =>
    show chkP (x <<< 1) kv = _
    simp only [Int.ofNat_eq_natCast] at h2
    rw [Nat.shiftLeft_eq, chkP_ok (by omega)]
    have : (2 * (Int.ofNat x)) = ((x * 2 ^ 1 : Nat) : Int) := by simp; omega
    rw [this]; rfl
  | negSucc x =>
    show chkM ((x + 1) <<< 1 - 1) kv = _
    rw [Int.negSucc_eq] at h1
    rw [Nat.shiftLeft_eq, chkM_ok (by omega)]
    have : 2 * Int.negSucc x = Int.negSucc ((x + 1) * 2 ^ 1 - 1) := by rw [Int.negSucc_eq, Int.negSucc_eq]; omega
    rw [this]; rfl
theorem orK_v1 (a : Int) : orK (vI (2 * a)) (.p 1) kv = kv (vI (2 * a + 1)) := by
  have e1 : ∀ m : Nat, (2 * m) ||| 1 = 2 * m + 1 := fun m => by
    rw [Nat.or_comm, show 2 * m = m <<< 1 by rw [Nat.shiftLeft_eq]; omega]
    apply Nat.eq_of_testBit_eq; intro i
    cases i with
    | zero => simp [Nat.testBit_zero, Nat.shiftLeft_eq]
    | succ i =>
      rw [Nat.testBit_or]
      simp [Nat.testBit_succ, Nat.shiftLeft_eq]
      congr 1; omega
  have e2 : ∀ m : Nat, (2 * m + 1) ^^^ ((2 * m + 1) &&& 1) = 2 * m := fun m => by
    have : (2 * m + 1) &&& 1 = 1 := by rw [show (1 : Nat) = 2 ^ 1 - 1 from rfl, and_pow]; omega
    rw [this]
    apply Nat.eq_of_testBit_eq; intro i
    cases i with
    | zero => simp [Nat.testBit_zero]
    | succ i =>
      rw [Nat.testBit_xor]
      simp [Nat.testBit_succ]
      congr 1; omega
  cases a with
  | ofNat x =>
    have h : 2 * Int.ofNat x = ((2 * x : Nat) : Int) := by simp
    have h' : 2 * Int.ofNat x + 1 = ((2 * x + 1 : Nat) : Int) := by simp
    rw [h', h]
    show kv (.p (2 * x ||| 1)) = _
    rw [e1]; rfl
  | negSucc x =>
    have h : 2 * Int.negSucc x = Int.negSucc (2 * x + 1) := by rw [Int.negSucc_eq, Int.negSucc_eq]; omega
    have h' : 2 * Int.negSucc x + 1 = Int.negSucc (2 * x) := by rw [Int.negSucc_eq, Int.negSucc_eq]; omega
    rw [h', h]
    show kv (.m ((2 * x + 1) ^^^ ((2 * x + 1) &&& 1))) = _
    rw [e2]; rfl
@[simp] theorem asInt_vI (f : Int → RC) : asInt (vI a) f = f a := by cases a <;> rfl
theorem isSmallW_eq : isSmallW a = (decide (a % 2 = 1) && decide (-1073741824 ≤ a / 2) && decide (a / 2 ≤ 1073741823)) := by
  cases a with
  | ofNat x =>
    show (Bool.rec false (Nat.ble x 2147483647) (Nat.beq (x % 2) 1) : Bool) = _
    rw [Bool.eq_iff_iff]
    rw [bcase]
    simp only [Int.ofNat_eq_natCast, Bool.and_eq_true, decide_eq_true_eq]
    split
    · rename_i h; rw [beq_iff] at h; rw [ble_iff]; omega
    · rename_i h; rw [beq_iff] at h; simp; omega
  | negSucc x =>
    show (Bool.rec false (Nat.ble x 2147483646) (Nat.beq (x % 2) 0) : Bool) = _
    rw [Bool.eq_iff_iff]
    rw [bcase]
    simp only [Int.negSucc_eq, Bool.and_eq_true, decide_eq_true_eq]
    split
    · rename_i h; rw [beq_iff] at h; rw [ble_iff]; omega
    · rename_i h; rw [beq_iff] at h; simp; omega
theorem isPtrW_eq : isPtrW a = (decide (a % 2 = 0) && decide (3 ≤ a / 2) && decide (a / 2 ≤ 131072)) := by
  cases a with
  | ofNat x =>
    show (Bool.rec false (Bool.rec false (Nat.ble x 262144) (Nat.ble 6 x)) (Nat.beq (x % 2) 0) : Bool) = _
    rw [Bool.eq_iff_iff, bcase, bcase]
    simp only [Int.ofNat_eq_natCast, Bool.and_eq_true, decide_eq_true_eq]
    split
    · rename_i h; rw [beq_iff] at h
      split
      · rename_i h2; rw [ble_iff] at h2; rw [ble_iff]; omega
      · rename_i h2; rw [ble_iff] at h2; simp; omega
    · rename_i h; rw [beq_iff] at h; simp; omega
  | negSucc x =>
    show false = _
    simp [Int.negSucc_eq]; omega
end

/-! ### the functions -/
noncomputable def TW0 : Tr FE := pset .no q172 (.fn A172) .mt
noncomputable def TW1 : Tr FE := pset .no q107 (.sp sp_isPtr) (pset .no q91 (.sp sp_isSmall) TW0)
theorem in_ev (c : CF) (a b d : Int) (s : St) (k : K) : callF (.fn A172) c [vI a, vI b, vI d] s k = k (B (decide (b ≤ a) && decide (a ≤ d))) s := by
  simp [A172]
  by_cases h1 : b ≤ a <;> by_cases h2 : a ≤ d
  · have h3 : ¬ d < a := by omega
    simp [h1, h2, h3]
  · have h3 : d < a := by omega
    simp [h1, h2, h3]
  · simp [h1]
  · simp [h1]
theorem look172 (T : Tr FE) (n : Nat) (a b d : Int) (s : St) (k : K) (h : pget .no q172 T = .fn A172) : callK T (n + 1) q172 [vI a, vI b, vI d] s k = k (B (decide (b ≤ a) && decide (a ≤ d))) s := by
  show callF (pget .no q172 T) (callK T n) [vI a, vI b, vI d] s k = _
  rw [h]; exact in_ev _ a b d s k
theorem num_q {i : Nat} {q : Pth} (h : num q = i) {P : Program} {x : FE} (hx : FEok P i x) : FEok P (num q) x := by rw [h]; exact hx
theorem feok_fn {i : Nat} {fn : Go.Func} {np : Nat} {sl : List Nat} {pls : List PlanD} {A : AFunc} (T : trFunc Tryz.prog fn np sl pls = some A) (hf : Tryz.prog.funcs[i]? = some fn)
    (hc : ∀ args w, (Go.callFunc i args).run Tryz.prog w = .ok (.enter i args) w) : FEok Tryz.prog i (.fn A) := .fn A fn np sl pls T hf hc
theorem mixed : Tryz.prog.follows .mixedOrders = true := by kernel_rfl
theorem TW0_ok : ∀ f, FEok Tryz.prog (num f) (pget .no f TW0) :=
  FEok_pset FEok_mt (num_q (i := 172) rfl (feok_fn T172 Tryz.func172 Tryz.call172))
theorem TW0_snd (n : Nat) : CFSound Tryz.prog (callK TW0 n) := callK_sound mixed TW0_ok n
theorem cw172 (a b d : Int) (s : St) (k : K) : callK TW0 9 q172 [vI a, vI b, vI d] s k = k (B (decide (b ≤ a) && decide (a ≤ d))) s := look172 TW0 8 a b d s k rfl

/-- a special whose code is known -/
theorem SpOk.of_code {i : Nat} {fn : Go.Func} {np : Nat} {sl : List Nat} {pls : List PlanD} {A : AFunc} {c : CF} {x : L → St → K → RC} (T : trFunc Tryz.prog fn np sl pls = some A) (hf : Tryz.prog.funcs[i]? = some fn)
    (hc : ∀ args w, (Go.callFunc i args).run Tryz.prog w = .ok (.enter i args) w) (hs : CFSound Tryz.prog c)
    (h : ∀ ls s, (∀ k, x ls s k = fl) ∨ ∀ k, x ls s k = callF (.fn A) c ls s k) : SpOk Tryz.prog i x := by
  intro β s w ls args hsim hr
  rcases h ls s with h | h
  · exact .fail h
  · exact (func_out hs mixed T hf hc hsim hr).congr h
theorem asInt_cases (v : V) : (∃ n, v = vI n) ∨ ∀ f, asInt v f = fl := by
  cases v <;> first | exact .inr fun f => rfl | skip
  case p n => exact .inl ⟨(n : Int), rfl⟩
  case m n => exact .inl ⟨Int.negSucc n, rfl⟩
/-- a special of one number -/
theorem SpOk.of_i1 {i : Nat} {fn : Go.Func} {np : Nat} {sl : List Nat} {pls : List PlanD} {A : AFunc} {c : CF} {f : Int → V} (T : trFunc Tryz.prog fn np sl pls = some A) (hf : Tryz.prog.funcs[i]? = some fn)
    (hc : ∀ args w, (Go.callFunc i args).run Tryz.prog w = .ok (.enter i args) w) (hs : CFSound Tryz.prog c)
    (h : ∀ (n : Int) (r : L) (s : St) (k : K), callF (.fn A) c (vI n :: r) s k = k (f n) s) : SpOk Tryz.prog i (i1 f) := by
  refine .of_code T hf hc hs fun ls s => ?_
  cases ls with
  | nil => exact .inl fun k => rfl
  | cons v r =>
    rcases asInt_cases v with ⟨n, rfl⟩ | hv
    · refine .inr fun k => ?_
      rw [h]; show asInt (vI n) _ = _; rw [asInt_vI]
    · exact .inl fun k => hv _

theorem sp91 : SpOk Tryz.prog 91 sp_isSmall := by
  refine .of_i1 T91 Tryz.func91 Tryz.call91 (TW0_snd 9) fun n r s k => ?_
  have h172 := cw172 (n / 2) (Int.negSucc 1073741823) (1073741823 : Nat)
  simp only [vI_negSucc, vI_cast] at h172
  rw [isSmallW_eq]
  simp [A91, h172]
  by_cases h1 : n % 2 = 1 <;> simp [h1]
theorem sp107 : SpOk Tryz.prog 107 sp_isPtr := by
  refine .of_i1 T107 Tryz.func107 Tryz.call107 (TW0_snd 9) fun n r s k => ?_
  have h172 := cw172 (n / 2) (3 : Nat) (131072 : Nat)
  simp only [vI_cast] at h172
  rw [isPtrW_eq]
  simp [A107, h172]
  by_cases h1 : n % 2 = 0 <;> simp [h1]
theorem TW1_ok : ∀ f, FEok Tryz.prog (num f) (pget .no f TW1) :=
  FEok_pset (FEok_pset TW0_ok (num_q (i := 91) rfl (.sp _ sp91))) (num_q (i := 107) rfl (.sp _ sp107))
theorem TW1_snd (n : Nat) : CFSound Tryz.prog (callK TW1 n) := callK_sound mixed TW1_ok n
theorem c172 (a b d : Int) (s : St) (k : K) : callK TW1 9 q172 [vI a, vI b, vI d] s k = k (B (decide (b ≤ a) && decide (a ≤ d))) s := look172 TW1 8 a b d s k rfl
theorem c91 (a : Int) (s : St) (k : K) : callK TW1 9 q91 [vI a] s k = k (B (isSmallW a)) s := by
  show asInt (vI a) _ = _; rw [asInt_vI]
theorem c107 (a : Int) (s : St) (k : K) : callK TW1 9 q107 [vI a] s k = k (B (isPtrW a)) s := by
  show asInt (vI a) _ = _; rw [asInt_vI]
theorem half_eq {a : Int} (h : isPtrW a = true) : ((half a : Nat) : Int) = a / 2 := by
  rw [isPtrW_eq] at h
  simp only [Bool.and_eq_true, decide_eq_true_eq] at h
  cases a with
  | ofNat x => show ((x / 2 : Nat) : Int) = _; simp
  | negSucc x => rw [Int.negSucc_eq] at h; omega
theorem iLt_eq (a b : Int) : iLt a b = decide (a < b) := by
  have nn : ∀ n m : Nat, Nat.blt n m = decide ((n : Int) < (m : Int)) := fun n m => by rw [Bool.eq_iff_iff, blt_iff]; simp
  cases a <;> cases b <;> simp [iLt, nn, Int.negSucc_eq] <;> omega
theorem iEq_eq (a b : Int) : iEq a b = decide (a = b) := by
  have nn : ∀ n m : Nat, Nat.beq n m = decide (n = m) := fun n m => by rw [Bool.eq_iff_iff, beq_iff]; simp
  cases a <;> cases b <;> simp [iEq, nn]
  rename_i x y
  constructor
  · intro h; omega
  · intro h; omega
theorem sp108 : SpOk Tryz.prog 108 sp_addr := by
  refine .of_i1 T108 Tryz.func108 Tryz.call108 (TW1_snd 9) fun n r s k => ?_
  simp [A108, c107]
  cases h : isPtrW n
  · simp
  · simp
    rw [← half_eq h]; rfl
theorem sp106 : SpOk Tryz.prog 106 sp_value := by
  refine .of_i1 T106 Tryz.func106 Tryz.call106 (TW1_snd 9) fun n r s k => ?_
  simp [A106, c91]
  cases h : isSmallW n <;> simp
theorem sp104 : SpOk Tryz.prog 104 sp_small := by
  refine .of_i1 T104 Tryz.func104 Tryz.call104 (TW1_snd 9) fun n r s k => ?_
  have h172 := c172 n (Int.negSucc 1073741823) (1073741823 : Nat)
  simp only [vI_negSucc, vI_cast] at h172
  simp only [bcase, iLt_eq]
  simp [A104, h172]
  by_cases h1 : -1073741824 ≤ n <;> by_cases h2 : n ≤ 1073741823
  · have e1 : ¬ n < -1073741824 := by omega
    have e2 : ¬ 1073741823 < n := by omega
    have e3 : Int.negSucc 1073741823 ≤ n := by rw [Int.negSucc_eq]; omega
    simp [e1, e2, h2]
    rw [shlK_v1 _ n 3 (by omega) (by omega), orK_v1]
    simp
  · have e1 : ¬ n < -1073741824 := by omega
    have e2 : 1073741823 < n := by omega
    simp [e1, e2, h2]
  · have e1 : n < -1073741824 := by omega
    have e3 : ¬ Int.negSucc 1073741823 ≤ n := by rw [Int.negSucc_eq]; omega
    simp [e1]
  · omega
theorem sp116 : SpOk Tryz.prog 116 sp_ptr := by
  refine .of_i1 T116 Tryz.func116 Tryz.call116 (TW1_snd 9) fun n r s k => ?_
  have h172 := c172 n (3 : Nat) (131072 : Nat)
  simp only [vI_cast] at h172
  simp only [bcase, iLt_eq]
  simp [A116, h172]
  by_cases h1 : 3 ≤ n <;> by_cases h2 : n ≤ 131072
  · have e1 : ¬ n < 3 := by omega
    have e2 : ¬ 131072 < n := by omega
    simp [e1, e2, h1, h2]
    rw [shlK_v1 _ n 3 (by omega) (by omega)]
    simp
  · have e1 : ¬ n < 3 := by omega
    have e2 : 131072 < n := by omega
    simp [e1, e2, h2]
  · have e1 : n < 3 := by omega
    simp [e1, h1]
  · omega
end Viv
