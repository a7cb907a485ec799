/-
  THE EVALUATOR, STEP BY STEP, FOR SIMP. Printed by mkGp.py of wip/.
-/
import Derived.Test.YtfppefhcmmfgcaaGreatSym
set_option maxRecDepth 100000
namespace Viv
/-- (so that simp writes each step down) -/
theorem stp {α : Type} {a b : α} (h : a = b) : a = b := h
/-- a value is made plain before it is handed on -/
def lt1 (v : V) (k : KV) : RC := k v
@[congr] theorem cg_lt1 {v u : V} {k : KV} (h : v = u) : lt1 v k = lt1 u k := by subst h; rfl
@[simp] theorem lt1_eq (v : V) (k : KV) : lt1 v k = k v := stp rfl
/-! continuations by name, so that simp does not look into them -/
noncomputable def kp (c : CF) (r : AOps) (t : L) (e : Env) : K := fun v s => evalK c r (v :: t) e s
noncomputable def kd (c : CF) (q : Pth) (r : AOps) (t : L) (e : Env) : K := fun v s => evalK c r (v :: t) (pset .bad q v e) s
def kvs (k : K) (s : St) : KV := fun v => k v s
noncomputable def knt (k : K) (s : St) : KV := fun v => notK v (kvs k s)
noncomputable def kbs (n m : Nat) (s : St) (k : K) : L → RC := fun l => k (.slc s.next 0 n true n m) (s.push (mkVec l))
def kbd (s : St) (k : K) : L → RC := fun l => k (.agg l) s
noncomputable def kbx (s : St) (k : K) : L → RC := fun l => k (.ptr s.next 0) (s.push (.row l))
noncomputable def krs (j : Nat) (t : L) (s : St) (k : K) : K := fun v _ => sameK (nth j t) v (k (.tup []) s)
@[simp ↓] theorem kp_a (c : CF) (r : AOps) (t : L) (e : Env) (v : V) (s : St) : kp c r t e v s = evalK c r (v :: t) e s := stp rfl
@[simp ↓] theorem kd_a (c : CF) (q : Pth) (r : AOps) (t : L) (e : Env) (v : V) (s : St) : kd c q r t e v s = evalK c r (v :: t) (pset .bad q v e) s := stp rfl
@[simp ↓] theorem kvs_a (k : K) (s : St) (v : V) : kvs k s v = k v s := stp rfl
@[simp ↓] theorem knt_a (k : K) (s : St) (v : V) : knt k s v = notK v (kvs k s) := stp rfl
@[simp ↓] theorem kbs_a (n m : Nat) (s : St) (k : K) (l : L) : kbs n m s k l = k (.slc s.next 0 n true n m) (s.push (mkVec l)) := stp rfl
@[simp ↓] theorem kbd_a (s : St) (k : K) (l : L) : kbd s k l = k (.agg l) s := stp rfl
@[simp ↓] theorem kbx_a (s : St) (k : K) (l : L) : kbx s k l = k (.ptr s.next 0) (s.push (.row l)) := stp rfl
@[simp ↓] theorem krs_a (j : Nat) (t : L) (s s1 : St) (k : K) (v : V) : krs j t s k v s1 = sameK (nth j t) v (k (.tup []) s) := stp rfl
section
@[congr] theorem cg_addK {a0 b0 : V} {a1 b1 : V} {k : KV} (h0 : a0 = b0) (h1 : a1 = b1) : addK a0 a1 k = addK b0 b1 k := by subst h0 h1; rfl
@[congr] theorem cg_subK {a0 b0 : V} {a1 b1 : V} {k : KV} (h0 : a0 = b0) (h1 : a1 = b1) : subK a0 a1 k = subK b0 b1 k := by subst h0 h1; rfl
@[congr] theorem cg_mulK {a0 b0 : V} {a1 b1 : V} {k : KV} (h0 : a0 = b0) (h1 : a1 = b1) : mulK a0 a1 k = mulK b0 b1 k := by subst h0 h1; rfl
@[congr] theorem cg_quoK {a0 b0 : V} {a1 b1 : V} {k : KV} (h0 : a0 = b0) (h1 : a1 = b1) : quoK a0 a1 k = quoK b0 b1 k := by subst h0 h1; rfl
@[congr] theorem cg_remK {a0 b0 : V} {a1 b1 : V} {k : KV} (h0 : a0 = b0) (h1 : a1 = b1) : remK a0 a1 k = remK b0 b1 k := by subst h0 h1; rfl
@[congr] theorem cg_andK {a0 b0 : V} {a1 b1 : V} {k : KV} (h0 : a0 = b0) (h1 : a1 = b1) : andK a0 a1 k = andK b0 b1 k := by subst h0 h1; rfl
@[congr] theorem cg_orK {a0 b0 : V} {a1 b1 : V} {k : KV} (h0 : a0 = b0) (h1 : a1 = b1) : orK a0 a1 k = orK b0 b1 k := by subst h0 h1; rfl
@[congr] theorem cg_shlK {a0 b0 : V} {a1 b1 : V} {k : KV} (h0 : a0 = b0) (h1 : a1 = b1) : shlK a0 a1 k = shlK b0 b1 k := by subst h0 h1; rfl
@[congr] theorem cg_shrK {a0 b0 : V} {a1 b1 : V} {k : KV} (h0 : a0 = b0) (h1 : a1 = b1) : shrK a0 a1 k = shrK b0 b1 k := by subst h0 h1; rfl
@[congr] theorem cg_ltK {a0 b0 : V} {a1 b1 : V} {k : KV} (h0 : a0 = b0) (h1 : a1 = b1) : ltK a0 a1 k = ltK b0 b1 k := by subst h0 h1; rfl
@[congr] theorem cg_eq0 {a0 b0 : V} {a1 b1 : V} {k : KV} (h0 : a0 = b0) (h1 : a1 = b1) : eq0 a0 a1 k = eq0 b0 b1 k := by subst h0 h1; rfl
@[congr] theorem cg_eqI {a0 b0 : V} {a1 b1 : V} {k : KV} (h0 : a0 = b0) (h1 : a1 = b1) : eqI a0 a1 k = eqI b0 b1 k := by subst h0 h1; rfl
@[congr] theorem cg_eqBo {a0 b0 : V} {a1 b1 : V} {k : KV} (h0 : a0 = b0) (h1 : a1 = b1) : eqBo a0 a1 k = eqBo b0 b1 k := by subst h0 h1; rfl
@[congr] theorem cg_eqNp {a0 b0 : V} {a1 b1 : V} {k : KV} (h0 : a0 = b0) (h1 : a1 = b1) : eqNp a0 a1 k = eqNp b0 b1 k := by subst h0 h1; rfl
@[congr] theorem cg_eqNs {a0 b0 : V} {a1 b1 : V} {k : KV} (h0 : a0 = b0) (h1 : a1 = b1) : eqNs a0 a1 k = eqNs b0 b1 k := by subst h0 h1; rfl
@[congr] theorem cg_eqNm {a0 b0 : V} {a1 b1 : V} {k : KV} (h0 : a0 = b0) (h1 : a1 = b1) : eqNm a0 a1 k = eqNm b0 b1 k := by subst h0 h1; rfl
@[congr] theorem cg_eqNf {a0 b0 : V} {a1 b1 : V} {k : KV} (h0 : a0 = b0) (h1 : a1 = b1) : eqNf a0 a1 k = eqNf b0 b1 k := by subst h0 h1; rfl
@[congr] theorem cg_eqS {a0 b0 : V} {a1 b1 : V} {k : KV} (h0 : a0 = b0) (h1 : a1 = b1) : eqS a0 a1 k = eqS b0 b1 k := by subst h0 h1; rfl
@[congr] theorem cg_minK {a0 b0 : V} {a1 b1 : V} {k : KV} (h0 : a0 = b0) (h1 : a1 = b1) : minK a0 a1 k = minK b0 b1 k := by subst h0 h1; rfl
@[congr] theorem cg_notK {a0 b0 : V} {k : KV} (h0 : a0 = b0) : notK a0 k = notK b0 k := by subst h0; rfl
@[congr] theorem cg_negK {a0 b0 : V} {k : KV} (h0 : a0 = b0) : negK a0 k = negK b0 k := by subst h0; rfl
@[congr] theorem cg_nilcK {a0 b0 : V} {k : KV} (h0 : a0 = b0) : nilcK a0 k = nilcK b0 k := by subst h0; rfl
@[congr] theorem cg_okK {a0 b0 : V} {k : KV} (h0 : a0 = b0) : okK a0 k = okK b0 k := by subst h0; rfl
@[congr] theorem cg_fadK {a0 b0 : V} {a1 b1 : Nat} {k : KV} (h0 : a0 = b0) (h1 : a1 = b1) : fadK a0 a1 k = fadK b0 b1 k := by subst h0 h1; rfl
@[congr] theorem cg_pickK {a0 b0 : V} {a1 b1 : V} {a2 b2 : V} {k : KV} (h0 : a0 = b0) (h1 : a1 = b1) (h2 : a2 = b2) : pickK a0 a1 a2 k = pickK b0 b1 b2 k := by subst h0 h1 h2; rfl
@[congr] theorem cg_fldK {a0 b0 : V} {a1 b1 : Nat} {k : KV} (h0 : a0 = b0) (h1 : a1 = b1) : fldK a0 a1 k = fldK b0 b1 k := by subst h0 h1; rfl
@[congr] theorem cg_fldAK {a0 b0 : V} {a1 b1 : Nat} {a2 b2 : Nat} {k : KV} (h0 : a0 = b0) (h1 : a1 = b1) (h2 : a2 = b2) : fldAK a0 a1 a2 k = fldAK b0 b1 b2 k := by subst h0 h1 h2; rfl
@[congr] theorem cg_iadK {a0 b0 : V} {a1 b1 : V} {a2 b2 : Nat} {k : KV} (h0 : a0 = b0) (h1 : a1 = b1) (h2 : a2 = b2) : iadK a0 a1 a2 k = iadK b0 b1 b2 k := by subst h0 h1 h2; rfl
@[congr] theorem cg_iadAK {a0 b0 : V} {a1 b1 : V} {a2 b2 : Nat} {a3 b3 : Nat} {k : KV} (h0 : a0 = b0) (h1 : a1 = b1) (h2 : a2 = b2) (h3 : a3 = b3) : iadAK a0 a1 a2 a3 k = iadAK b0 b1 b2 b3 k := by subst h0 h1 h2 h3; rfl
@[congr] theorem cg_idxK {a0 b0 : V} {a1 b1 : V} {k : KV} (h0 : a0 = b0) (h1 : a1 = b1) : idxK a0 a1 k = idxK b0 b1 k := by subst h0 h1; rfl
@[congr] theorem cg_extK {a0 b0 : V} {a1 b1 : Nat} {k : KV} (h0 : a0 = b0) (h1 : a1 = b1) : extK a0 a1 k = extK b0 b1 k := by subst h0 h1; rfl
@[congr] theorem cg_lenSK {a0 b0 : V} {k : KV} (h0 : a0 = b0) : lenSK a0 k = lenSK b0 k := by subst h0; rfl
@[congr] theorem cg_lenLK {a0 b0 : V} {k : KV} (h0 : a0 = b0) : lenLK a0 k = lenLK b0 k := by subst h0; rfl
@[congr] theorem cg_lenMK {a0 b0 : V} {a1 b1 : St} {k : KV} (h0 : a0 = b0) (h1 : a1 = b1) : lenMK a0 a1 k = lenMK b0 b1 k := by subst h0 h1; rfl
@[congr] theorem cg_ldK {a0 b0 : V} {a1 b1 : St} {k : KV} (h0 : a0 = b0) (h1 : a1 = b1) : ldK a0 a1 k = ldK b0 b1 k := by subst h0 h1; rfl
@[congr] theorem cg_ldAK {a0 b0 : V} {a1 b1 : Nat} {a2 b2 : St} {k : KV} (h0 : a0 = b0) (h1 : a1 = b1) (h2 : a2 = b2) : ldAK a0 a1 a2 k = ldAK b0 b1 b2 k := by subst h0 h1 h2; rfl
@[congr] theorem cg_conv0K {a0 b0 : V} {k : KV} (h0 : a0 = b0) : conv0K a0 k = conv0K b0 k := by subst h0; rfl
@[congr] theorem cg_conv1K {a0 b0 : V} {k : KV} (h0 : a0 = b0) : conv1K a0 k = conv1K b0 k := by subst h0; rfl
@[congr] theorem cg_conv2K {a0 b0 : V} {k : KV} (h0 : a0 = b0) : conv2K a0 k = conv2K b0 k := by subst h0; rfl
@[congr] theorem cg_conv3K {a0 b0 : V} {k : KV} (h0 : a0 = b0) : conv3K a0 k = conv3K b0 k := by subst h0; rfl
@[congr] theorem cg_conv10K {a0 b0 : V} {a1 b1 : St} {k : KV} (h0 : a0 = b0) (h1 : a1 = b1) : conv10K a0 a1 k = conv10K b0 b1 k := by subst h0 h1; rfl
@[congr] theorem cg_conv11K {a0 b0 : V} {k : KV} (h0 : a0 = b0) : conv11K a0 k = conv11K b0 k := by subst h0; rfl
@[congr] theorem cg_lookK {a0 b0 : V} {a1 : KF} {a2 b2 : V} {a3 : Bool} {a4 b4 : V} {a5 b5 : St} {k : KV} (h0 : a0 = b0) (h2 : a2 = b2) (h4 : a4 = b4) (h5 : a5 = b5) : lookK a0 a1 a2 a3 a4 a5 k = lookK b0 a1 b2 a3 b4 b5 k := by subst h0 h2 h4 h5; rfl
@[congr] theorem cg_slS {a0 b0 : V} {a1 b1 : V} {a2 b2 : V} {k : KV} (h0 : a0 = b0) (h1 : a1 = b1) (h2 : a2 = b2) : slS a0 a1 a2 k = slS b0 b1 b2 k := by subst h0 h1 h2; rfl
@[congr] theorem cg_slL {a0 b0 : V} {a1 b1 : Nat} {a2 b2 : V} {a3 b3 : V} {k : KV} (h0 : a0 = b0) (h1 : a1 = b1) (h2 : a2 = b2) (h3 : a3 = b3) : slL a0 a1 a2 a3 k = slL b0 b1 b2 b3 k := by subst h0 h1 h2 h3; rfl
@[congr] theorem cg_sl3K {a0 b0 : V} {a1 b1 : Nat} {a2 b2 : V} {a3 b3 : V} {a4 b4 : V} {k : KV} (h0 : a0 = b0) (h1 : a1 = b1) (h2 : a2 = b2) (h3 : a3 = b3) (h4 : a4 = b4) : sl3K a0 a1 a2 a3 a4 k = sl3K b0 b1 b2 b3 b4 k := by subst h0 h1 h2 h3 h4; rfl
@[congr] theorem cg_res2 {a0 b0 : L} {k : KV} (h0 : a0 = b0) : res2 a0 k = res2 b0 k := by subst h0; rfl
@[congr] theorem cg_chkP {a0 b0 : Nat} {k : KV} (h0 : a0 = b0) : chkP a0 k = chkP b0 k := by subst h0; rfl
@[congr] theorem cg_chkM {a0 b0 : Nat} {k : KV} (h0 : a0 = b0) : chkM a0 k = chkM b0 k := by subst h0; rfl
@[congr] theorem cg_sb {a0 b0 : Nat} {a1 b1 : Nat} {k : KV} (h0 : a0 = b0) (h1 : a1 = b1) : sb a0 a1 k = sb b0 b1 k := by subst h0 h1; rfl
@[congr] theorem cg_stK {a0 b0 : V} {a1 b1 : Nat} {a2 b2 : V} {a3 b3 : St} {k : K} (h0 : a0 = b0) (h1 : a1 = b1) (h2 : a2 = b2) (h3 : a3 = b3) : stK a0 a1 a2 a3 k = stK b0 b1 b2 b3 k := by subst h0 h1 h2 h3; rfl
@[congr] theorem cg_mupdK {a0 b0 : V} {a1 : KF} {a2 b2 : V} {a3 b3 : V} {a4 b4 : St} {k : K} (h0 : a0 = b0) (h2 : a2 = b2) (h3 : a3 = b3) (h4 : a4 = b4) : mupdK a0 a1 a2 a3 a4 k = mupdK b0 a1 b2 b3 b4 k := by subst h0 h2 h3 h4; rfl
@[congr] theorem cg_mentK {a0 b0 : V} {a1 : KF} {a2 b2 : V} {a3 b3 : V} {a4 b4 : St} {k : K} (h0 : a0 = b0) (h2 : a2 = b2) (h3 : a3 = b3) (h4 : a4 = b4) : mentK a0 a1 a2 a3 a4 k = mentK b0 a1 b2 b3 b4 k := by subst h0 h2 h3 h4; rfl
@[congr] theorem cg_rangeK {a0 b0 : V} {a1 b1 : St} {k : K} (h0 : a0 = b0) (h1 : a1 = b1) : rangeK a0 a1 k = rangeK b0 b1 k := by subst h0 h1; rfl
@[congr] theorem cg_nextK {a0 b0 : V} {a1 b1 : St} {k : K} (h0 : a0 = b0) (h1 : a1 = b1) : nextK a0 a1 k = nextK b0 b1 k := by subst h0 h1; rfl
@[congr] theorem cg_clrK {a0 b0 : V} {a1 b1 : Nat} {a2 b2 : L} {a3 b3 : St} {k : K} (h0 : a0 = b0) (h1 : a1 = b1) (h2 : a2 = b2) (h3 : a3 = b3) : clrK a0 a1 a2 a3 k = clrK b0 b1 b2 b3 k := by subst h0 h1 h2 h3; rfl
@[congr] theorem cg_appK {a0 b0 : Nat} {a1 b1 : V} {a2 b2 : V} {a3 b3 : St} {k : K} (h0 : a0 = b0) (h1 : a1 = b1) (h2 : a2 = b2) (h3 : a3 = b3) : appK a0 a1 a2 a3 k = appK b0 b1 b2 b3 k := by subst h0 h1 h2 h3; rfl
@[congr] theorem cg_mkslK {a0 b0 : Nat} {a1 b1 : L} {a2 b2 : V} {a3 b3 : V} {a4 b4 : St} {k : K} (h0 : a0 = b0) (h1 : a1 = b1) (h2 : a2 = b2) (h3 : a3 = b3) (h4 : a4 = b4) : mkslK a0 a1 a2 a3 a4 k = mkslK b0 b1 b2 b3 b4 k := by subst h0 h1 h2 h3 h4; rfl
@[congr] theorem cg_appX {a0 b0 : V} {a1 b1 : Nat} {a2 b2 : Nat} {a3 b3 : L} {a4 b4 : St} {k : K} (h0 : a0 = b0) (h1 : a1 = b1) (h2 : a2 = b2) (h3 : a3 = b3) (h4 : a4 = b4) : appX a0 a1 a2 a3 a4 k = appX b0 b1 b2 b3 b4 k := by subst h0 h1 h2 h3 h4; rfl
@[congr] theorem cg_condK {x y : V} {a b : RC} (h : x = y) : condK x a b = condK y a b := by subst h; rfl
@[congr] theorem cg_guardK {x y : V} {w : Bool} {a b : RC} (h : x = y) : guardK x w a b = guardK y w a b := by subst h; rfl
@[congr] theorem cg_sameK {x y x1 y1 : V} {r : RC} (h : x = x1) (h1 : y = y1) : sameK x y r = sameK x1 y1 r := by subst h h1; rfl
@[congr] theorem cg_seqK {r r1 : RC} {f : Env → St → RC} (h : r = r1) : seqK r f = seqK r1 f := by subst h; rfl
@[congr] theorem cg_finK {r r1 : RC} {l : List (Opd × Option Nat)} {k : K} (h : r = r1) : finK r l k = finK r1 l k := by subst h; rfl
@[congr] theorem cg_callK {F : Tr FE} {n : Nat} {q : Pth} {l l1 : L} {s s1 : St} {k : K} (h : l = l1) (h1 : s = s1) : callK F n q l s k = callK F n q l1 s1 k := by subst h h1; rfl
@[congr] theorem cg_asInt {x y : V} {k : Int → RC} (h : x = y) : asInt x k = asInt y k := by subst h; rfl
@[congr] theorem cg_asNat {x y : V} {k : Nat → RC} (h : x = y) : asNat x k = asNat y k := by subst h; rfl
@[congr] theorem cg_asPtr {x y : V} {k : Pth → RC} (h : x = y) : asPtr x k = asPtr y k := by subst h; rfl
@[congr] theorem cg_cellsK {x y : V} {k : L → RC} (h : x = y) : cellsK x k = cellsK y k := by subst h; rfl
@[congr] theorem cg_callvK {x y : V} {c : CF} {l l1 : L} {s s1 : St} {k : K} (h : x = y) (h1 : l = l1) (h2 : s = s1) : callvK x c l s k = callvK y c l1 s1 k := by subst h h1 h2; rfl
end
section
variable (c : CF) (t : L) (e : Env) (s : St) (k : K) (kv : KV) (x y : Opd)
@[simp ↓] theorem ps_mv  : mv x c t e s k = lt1 (x t e) (kvs k s) := stp rfl
@[simp ↓] theorem ps_w1 (f : V → KV → RC) : w1 f x c t e s k = f (x t e) (kvs k s) := stp rfl
@[simp ↓] theorem ps_w2 (f : V → V → KV → RC) : w2 f x y c t e s k = f (x t e) (y t e) (kvs k s) := stp rfl
@[simp ↓] theorem ps_le  : le x y c t e s k = ltK (y t e) (x t e) (knt k s) := stp rfl
@[simp ↓] theorem ps_ge  : ge x y c t e s k = ltK (x t e) (y t e) (knt k s) := stp rfl
@[simp ↓] theorem ps_gt  : gt x y c t e s k = ltK (y t e) (x t e) (kvs k s) := stp rfl
@[simp ↓] theorem ps_ne (f : V → V → KV → RC) : ne f x y c t e s k = f (x t e) (y t e) (knt k s) := stp rfl
@[simp ↓] theorem ps_pick (z : Opd) : pick z x y c t e s k = pickK (z t e) (x t e) (y t e) (kvs k s) := stp rfl
@[simp ↓] theorem ps_alloc (l : L) : alloc l c t e s k = k (.ptr s.next 0) (s.push (.row l)) := stp rfl
@[simp ↓] theorem ps_box  : box x c t e s k = cellsK (x t e) (kbx s k) := stp rfl
@[simp ↓] theorem ps_build (z : L) (ps : List (Nat × Nat × Opd)) : build z ps c t e s k = partsV ps t e z (kbd s k) := stp rfl
@[simp ↓] theorem ps_bslice (n : Nat) (z : L) (ps : List (Nat × Nat × Opd)) : bslice n z ps c t e s k = partsV ps t e (repL n z) (kbs n (len z) s k) := stp rfl
@[simp ↓] theorem ps_ld  : ld x c t e s k = ldK (x t e) s (kvs k s) := stp rfl
@[simp ↓] theorem ps_ldA (n : Nat) : ldA n x c t e s k = ldAK (x t e) n s (kvs k s) := stp rfl
@[simp ↓] theorem ps_sto (n : Nat) : sto n x y c t e s k = stK (x t e) n (y t e) s k := stp rfl
@[simp ↓] theorem ps_fad (o : Nat) : fad o x c t e s k = fadK (x t e) o (kvs k s) := stp rfl
@[simp ↓] theorem ps_fld (o : Nat) : fld o x c t e s k = fldK (x t e) o (kvs k s) := stp rfl
@[simp ↓] theorem ps_fldA (o n : Nat) : fldA o n x c t e s k = fldAK (x t e) o n (kvs k s) := stp rfl
@[simp ↓] theorem ps_iad (sz : Nat) : iad sz x y c t e s k = iadK (x t e) (y t e) sz (kvs k s) := stp rfl
@[simp ↓] theorem ps_iadA (n sz : Nat) : iadA n sz x y c t e s k = iadAK (x t e) (y t e) sz n (kvs k s) := stp rfl
@[simp ↓] theorem ps_look (kf : KF) (z : V) (ok : Bool) : look kf z ok x y c t e s k = lookK (x t e) kf z ok (y t e) s (kvs k s) := stp rfl
@[simp ↓] theorem ps_mupd (kf : KF) (v : Opd) : mupd kf x y v c t e s k = mupdK (x t e) kf (y t e) (v t e) s k := stp rfl
@[simp ↓] theorem ps_ext (j : Nat) : ext x j c t e s k = extK (x t e) j (kvs k s) := stp rfl
@[simp ↓] theorem ps_call (f : Pth) (as : List Opd) : call f as c t e s k = c f (opds as t e) s k := stp rfl
@[simp ↓] theorem ps_callv (as : List Opd) : callv x as c t e s k = callvK (x t e) c (opds as t e) s k := stp rfl
@[simp ↓] theorem ps_app (sz : Nat) : app sz x y c t e s k = appK sz (x t e) (y t e) s k := stp rfl
@[simp ↓] theorem ps_lenM  : lenM x c t e s k = lenMK (x t e) s (kvs k s) := stp rfl
@[simp ↓] theorem ps_conv10  : conv10 x c t e s k = conv10K (x t e) s (kvs k s) := stp rfl
@[simp ↓] theorem ps_mkfn (f : Pth) (a b : List Opd) : mkfn f a b c t e s k = k (.fn f (opds a t e) (opds b t e)) s := stp rfl
@[simp ↓] theorem ps_mkmap  : mkmap c t e s k = k (.map s.next) (s.push (.map [] 0)) := stp rfl
@[simp ↓] theorem ps_mksl (sz : Nat) (z : L) : mksl sz z x y c t e s k = mkslK sz z (x t e) (y t e) s k := stp rfl
@[simp ↓] theorem ps_slS1  : slS1 x y c t e s k = slS (x t e) (y t e) (lenV (x t e)) (kvs k s) := stp rfl
@[simp ↓] theorem ps_slS2  : slS2 x y c t e s k = slS (x t e) (.p 0) (y t e) (kvs k s) := stp rfl
@[simp ↓] theorem ps_slS3 (z : Opd) : slS3 x y z c t e s k = slS (x t e) (y t e) (z t e) (kvs k s) := stp rfl
@[simp ↓] theorem ps_slL1 (sz : Nat) : slL1 sz x y c t e s k = slL (x t e) sz (y t e) (lenV (x t e)) (kvs k s) := stp rfl
@[simp ↓] theorem ps_slL2 (sz : Nat) : slL2 sz x y c t e s k = slL (x t e) sz (.p 0) (y t e) (kvs k s) := stp rfl
@[simp ↓] theorem ps_slL3 (sz : Nat) (z : Opd) : slL3 sz x y z c t e s k = slL (x t e) sz (y t e) (z t e) (kvs k s) := stp rfl
@[simp ↓] theorem ps_clr (sz : Nat) (z : L) : clr sz z x c t e s k = clrK (x t e) sz z s k := stp rfl
@[simp ↓] theorem ps_reS (f : SF) (j : Nat) : reS f j c t e s k = f c t e s (krs j t s k) := stp rfl
@[simp ↓] theorem ps_rng  : rng x c t e s k = rangeK (x t e) s k := stp rfl
@[simp ↓] theorem ps_nxt  : nxt x c t e s k = nextK (x t e) s k := stp rfl
@[simp ↓] theorem pevalK_nil : evalK c .nil t e s = .norm e s := stp rfl
@[simp ↓] theorem pevalK_p (f : SF) (r : AOps) : evalK c (.p f r) t e s = f c t e s (kp c r t e) := stp rfl
@[simp ↓] theorem pevalK_d (f : SF) (q : Pth) (r : AOps) : evalK c (.d f q r) t e s = f c t e s (kd c q r t e) := stp rfl
@[simp ↓] theorem pevalK_g (j : Nat) (b : Bool) (f : SF) (r : AOps) : evalK c (.g j b f r) t e s = guardK (nth j t) b (f c t e s (kp c r t e)) (evalK c r (.tup [] :: t) e s) := stp rfl
@[simp ↓] theorem pevalK_gd (j : Nat) (b : Bool) (f : SF) (q : Pth) (r : AOps) : evalK c (.gd j b f q r) t e s = guardK (nth j t) b (f c t e s (kd c q r t e)) (evalK c r (.tup [] :: t) (pset .bad q (.tup []) e) s) := stp rfl
@[simp ↓] theorem pexecK_reg (o : AOps) : execK c (.reg o) e s = evalK c o [] e s := stp rfl
@[simp ↓] theorem pexecK_seq (a b : ACode) : execK c (.seq a b) e s = seqK (execK c a e s) (execK c b) := stp rfl
@[simp ↓] theorem pexecK_cond (z : Opd) (a b : ACode) : execK c (.cond z a b) e s = condK (z [] e) (execK c a e s) (execK c b e s) := stp rfl
@[simp ↓] theorem pexecK_block (i : Nat) (a : ACode) : execK c (.block i a) e s = blockK i (execK c a e s) := stp rfl
@[simp ↓] theorem pcallF_fn (A : AFunc) (l : L) : callF (.fn A) c l s k = finK (execK c A.code (bindP A.params l) s) A.results k := stp rfl
@[simp] theorem nbeq_d (a b : Nat) : Nat.beq a b = decide (a = b) := by rw [Bool.eq_iff_iff, beq_iff]; simp
@[simp] theorem nblt_d (a b : Nat) : Nat.blt a b = decide (a < b) := by rw [Bool.eq_iff_iff, blt_iff]; simp
@[simp] theorem nble_d (a b : Nat) : Nat.ble a b = decide (a ≤ b) := by rw [Bool.eq_iff_iff, Nat.ble_eq]; simp
attribute [simp] pget_pset
end
end Viv
