/-
  THE ABSTRACT EVALUATOR: data, tries, steps, code, calls, in a form that the kernel evaluates fast. Printed by gen3.py of wip/.
-/
import Derived.Calls
import Derived.LoopN
import Derived.Orders
import Derived.Laws.World
import Derived.Laws.Rows
import Derived.Laws.Slices
set_option autoImplicit false
namespace Viv
inductive Pth where | h | o (p : Pth) | i (p : Pth)
inductive Tr (α : Type) where | mt | n (a b : Tr α) (v : α)
inductive NT (α : Type) where | mt | l (v : α) | n (a b : NT α)
inductive V where
  | bad | tt | ff
  | p (n : Nat) | m (n : Nat) | by (n : Nat) | k (kd n : Nat) | sym (lo n : Nat)
  | str (l s : Nat)
  | ptr (id : Pth) (off : Nat) | nilp
  | slc (id : Pth) (off n : Nat) (ex : Bool) (c es : Nat) | esl | nils
  | map (id : Pth) | nilm
  | fn (f : Pth) (a b : List V) | nilf
  | agg (l : List V) | tup (l : List V)
structure Mem where
  size : V
  endd : Nat
  made : Nat
  words : NT Int
  pl : Pth
structure Ent where
  key : V
  val : V
  born : Nat
inductive AObj where
  | none
  | row (l : List V)
  | vec (d : Nat) (t : NT V) (n : Nat) (z : V)
  | map (l : List Ent) (clock : Nat)
  | iter (len s pos : Nat)
  | mem (m : Mem)
  | set (t : NT Bool)
structure St where
  rows : Tr AObj
  next : Pth
abbrev L := List V
abbrev Env := Tr V
inductive RC where | f (why : Nat) | norm (e : Env) (s : St) | exit (id : Nat) (e : Env) (s : St) | ret (e : Env) (s : St)
inductive R1 where | f (why : Nat) | ok (v : V) (s : St)
abbrev K := V → St → RC
abbrev KV := V → RC
abbrev CF := Pth → L → St → K → RC
abbrev Opd := L → Env → V
abbrev SF := CF → L → Env → St → K → RC
inductive AOps where
  | nil
  | p (f : SF) (r : AOps)
  | d (f : SF) (q : Pth) (r : AOps)
  | g (j : Nat) (w : Bool) (f : SF) (r : AOps)
  | gd (j : Nat) (w : Bool) (f : SF) (q : Pth) (r : AOps)
inductive ACode where
  | skip
  | reg (ops : AOps)
  | seq (a b : ACode)
  | cond (x : Opd) (a b : ACode)
  | block (id : Nat) (c : ACode)
  | loop (c : ACode)
  | exit (id : Nat)
  | ret
  | unsup
structure AFunc where
  params : List (Option Pth)
  results : List (Opd × Option Nat)
  code : ACode
inductive FE where | no | fn (f : AFunc) | sp (k : L → St → K → RC)
/-! tries by path -/
section
variable {α : Type}
noncomputable def geL (d : α) (t : Tr α) : (Tr α → α) → α := Tr.rec (motive := fun _ => (Tr α → α) → α) (fun _ => d) (fun a _ _ _ _ ih => ih a) t
noncomputable def geR (d : α) (t : Tr α) : (Tr α → α) → α := Tr.rec (motive := fun _ => (Tr α → α) → α) (fun _ => d) (fun _ b _ _ _ ih => ih b) t
noncomputable def geH (d : α) (t : Tr α) : α := Tr.rec (motive := fun _ => α) d (fun _ _ v _ _ => v) t
noncomputable def pget (d : α) (p : Pth) : Tr α → α := Pth.rec (motive := fun _ => Tr α → α) (geH d) (fun _ ih t => geL d t ih) (fun _ ih t => geR d t ih) p
noncomputable def seH (v : α) (t : Tr α) : Tr α := Tr.rec (motive := fun _ => α → Tr α) (fun v => .n .mt .mt v) (fun a b _ _ _ v => .n a b v) t v
noncomputable def seL (d : α) (t : Tr α) : α → (α → Tr α → Tr α) → Tr α := Tr.rec (motive := fun _ => α → (α → Tr α → Tr α) → Tr α) (fun v ih => .n (ih v .mt) .mt d) (fun a b w _ _ v ih => .n (ih v a) b w) t
noncomputable def seR (d : α) (t : Tr α) : α → (α → Tr α → Tr α) → Tr α := Tr.rec (motive := fun _ => α → (α → Tr α → Tr α) → Tr α) (fun v ih => .n .mt (ih v .mt) d) (fun a b w _ _ v ih => .n a (ih v b) w) t
noncomputable def pset (d : α) (p : Pth) : α → Tr α → Tr α := Pth.rec (motive := fun _ => α → Tr α → Tr α) seH (fun _ ih v t => seL d t v ih) (fun _ ih v t => seR d t v ih) p
noncomputable def nL (t : NT α) : NT α := NT.rec .mt (fun _ => .mt) (fun a _ _ _ => a) t
noncomputable def nR (t : NT α) : NT α := NT.rec .mt (fun _ => .mt) (fun _ b _ _ => b) t
noncomputable def nV (d : α) (t : NT α) : α := NT.rec d (fun v => v) (fun _ _ _ _ => d) t
noncomputable def nget (d : α) (k : Nat) : NT α → Nat → α := Nat.rec (motive := fun _ => NT α → Nat → α) (fun t _ => nV d t)
  (fun k ih t i => Bool.rec (ih (nL t) i) (ih (nR t) (Nat.sub i (Nat.pow 2 k))) (Nat.ble (Nat.pow 2 k) i)) k
noncomputable def sN (t : NT α) : Bool → (NT α → NT α) → NT α := NT.rec (motive := fun _ => Bool → (NT α → NT α) → NT α)
  (fun b f => Bool.rec (.n (f .mt) .mt) (.n .mt (f .mt)) b) (fun _ b f => Bool.rec (.n (f .mt) .mt) (.n .mt (f .mt)) b) (fun x y _ _ b f => Bool.rec (.n (f x) y) (.n x (f y)) b) t
noncomputable def nset (v : α) (k : Nat) : NT α → Nat → NT α := Nat.rec (motive := fun _ => NT α → Nat → NT α) (fun _ _ => .l v)
  (fun k ih t i => Bool.rec (sN t false (fun u => ih u i)) (sN t true (fun u => ih u (Nat.sub i (Nat.pow 2 k)))) (Nat.ble (Nat.pow 2 k) i)) k
end
/-- next path in the order of the numbers: h, o h, i h, oo.. -/
noncomputable def inc (p : Pth) : Pth := Pth.rec (.o .h) (fun p _ => .i p) (fun _ ih => .o ih) p
noncomputable def beqP (p : Pth) : Pth → Bool := Pth.rec (motive := fun _ => Pth → Bool)
  (fun q => Pth.rec true (fun _ _ => false) (fun _ _ => false) q)
  (fun _ ih q => Pth.rec (motive := fun _ => (Pth → Bool) → Bool) (fun _ => false) (fun q _ ih => ih q) (fun _ _ _ => false) q ih)
  (fun _ ih q => Pth.rec (motive := fun _ => (Pth → Bool) → Bool) (fun _ => false) (fun _ _ _ => false) (fun q _ ih => ih q) q ih) p
noncomputable def hd (t : L) : V := List.rec .bad (fun h _ _ => h) t
noncomputable def tl (t : L) : L := List.rec [] (fun _ t _ => t) t
noncomputable def dropL (j : Nat) : L → L := Nat.rec (motive := fun _ => L → L) (fun t => t) (fun _ ih t => ih (tl t)) j
noncomputable def nth (j : Nat) (t : L) : V := hd (dropL j t)
noncomputable def l0 : Opd := fun t _ => hd t
noncomputable def l1 : Opd := fun t _ => hd (tl t)
noncomputable def l2 : Opd := fun t _ => hd (tl (tl t))
noncomputable def l3 : Opd := fun t _ => hd (tl (tl (tl t)))
noncomputable def l4 : Opd := fun t _ => hd (tl (tl (tl (tl t))))
noncomputable def lo (j : Nat) : Opd := fun t _ => nth j t
noncomputable def ev (p : Pth) : Opd := fun _ e => pget .bad p e
def cn (v : V) : Opd := fun _ _ => v
noncomputable def B (b : Bool) : V := Bool.rec .ff .tt b
noncomputable def lsetG (t : L) : V → (L → L) → L := List.rec (motive := fun _ => V → (L → L) → L) (fun _ _ => []) (fun h t _ _ f => h :: f t) t
noncomputable def lset (v : V) (j : Nat) : L → L := Nat.rec (motive := fun _ => L → L) (fun t => List.rec (motive := fun _ => V → L) (fun _ => []) (fun _ tl _ v => v :: tl) t v) (fun _ ih t => lsetG t v ih) j
noncomputable def takeG (t : L) : (L → L) → L := List.rec (motive := fun _ => (L → L) → L) (fun _ => []) (fun h t _ f => h :: f t) t
noncomputable def takeL (j : Nat) : L → L := Nat.rec (motive := fun _ => L → L) (fun _ => []) (fun _ ih t => takeG t ih) j
noncomputable def len (l : L) : Nat := List.rec 0 (fun _ _ ih => Nat.succ ih) l
noncomputable def mlen (l : List Ent) : Nat := List.rec 0 (fun _ _ ih => Nat.succ ih) l
noncomputable def appL (l : L) (b : L) : L := List.rec b (fun h _ ih => h :: ih) l
noncomputable def setMany (d : Nat) (l : L) : Nat → NT V → NT V := List.rec (motive := fun _ => Nat → NT V → NT V) (fun _ t => t) (fun v _ ih i t => ih (Nat.succ i) (nset v d t i)) l
noncomputable def getMany (z : V) (d : Nat) (t : NT V) (k : Nat) : Nat → L := Nat.rec (motive := fun _ => Nat → L) (fun _ => []) (fun _ ih i => nget z d t i :: ih (Nat.succ i)) k
noncomputable def lsetMany (l : L) : Nat → L → L := List.rec (motive := fun _ => Nat → L → L) (fun _ l => l) (fun v _ ih i l => ih (Nat.succ i) (lset v i l)) l
noncomputable def deepen (k : Nat) : NT V → NT V := Nat.rec (motive := fun _ => NT V → NT V) (fun t => t) (fun _ ih t => ih (.n t .mt)) k
noncomputable def opds (l : List Opd) (t : L) (e : Env) : L := List.rec [] (fun x _ ih => x t e :: ih) l
noncomputable def strBytes (k : Nat) : Nat → L := Nat.rec (motive := fun _ => Nat → L) (fun _ => []) (fun _ ih s => .by (Nat.mod s 256) :: ih (Nat.div s 256)) k
noncomputable def depthOf (n : Nat) : Nat := Bool.rec (Nat.succ (Nat.log2 (Nat.pred n))) 0 (Nat.ble n 1)
noncomputable def beqB (a b : Bool) : Bool := Bool.rec (Bool.rec true false b) b a
def iLt (a b : Int) : Bool := match a, b with | .ofNat x, .ofNat y => Nat.blt x y | .negSucc _, .ofNat _ => true | .ofNat _, .negSucc _ => false | .negSucc x, .negSucc y => Nat.blt y x
def iEq (a b : Int) : Bool := match a, b with | .ofNat x, .ofNat y => Nat.beq x y | .negSucc x, .negSucc y => Nat.beq x y | _, _ => false
noncomputable def fl : RC := .f 0
def M63 : Nat := 9223372036854775807
noncomputable def chkP (n : Nat) (k : KV) : RC := Bool.rec fl (k (.p n)) (Nat.ble n 9223372036854775807)
noncomputable def chkM (n : Nat) (k : KV) : RC := Bool.rec fl (k (.m n)) (Nat.ble n 9223372036854775807)
noncomputable def chkI (n : Int) (k : KV) : RC := Int.rec (motive := fun _ => KV → RC) (fun n k => chkP n k) (fun n k => chkM n k) n k
noncomputable def vI (n : Int) : V := Int.rec (fun n => .p n) (fun n => .m n) n
noncomputable def sb (a b : Nat) (k : KV) : RC := Bool.rec (k (.m (Nat.pred (Nat.sub b a)))) (k (.p (Nat.sub a b))) (Nat.ble b a)
noncomputable def chkS (n : Nat) (k : KV) : RC := Bool.rec fl (sb 0 n k) (Nat.ble n 9223372036854775807)
noncomputable def addK_p (y : V) : (Nat) → (KV) → RC := V.rec (motive_1 := fun _ => (Nat) → (KV) → RC) (motive_2 := fun _ => Unit)
  (fun _ _ => fl) (fun _ _ => fl) (fun _ _ => fl) (fun n a0 k => chkP (Nat.add a0 n) k) (fun n a0 k => sb a0 (Nat.succ n) k) (fun _ _ _ => fl) (fun _ _ _ _ => fl) (fun _ _ _ _ => fl) (fun _ _ _ _ => fl) (fun _ _ _ _ => fl) (fun _ _ => fl) (fun _ _ _ _ _ _ _ _ => fl) (fun _ _ => fl) (fun _ _ => fl) (fun _ _ _ => fl) (fun _ _ => fl) (fun _ _ _ _ _ _ _ => fl) (fun _ _ => fl) (fun _ _ _ _ => fl) (fun _ _ _ _ => fl) () (fun _ _ _ _ => ()) y
noncomputable def addK_m (y : V) : (Nat) → (KV) → RC := V.rec (motive_1 := fun _ => (Nat) → (KV) → RC) (motive_2 := fun _ => Unit)
  (fun _ _ => fl) (fun _ _ => fl) (fun _ _ => fl) (fun n a0 k => sb n (Nat.succ a0) k) (fun n a0 k => chkM (Nat.succ (Nat.add a0 n)) k) (fun _ _ _ => fl) (fun _ _ _ _ => fl) (fun _ _ _ _ => fl) (fun _ _ _ _ => fl) (fun _ _ _ _ => fl) (fun _ _ => fl) (fun _ _ _ _ _ _ _ _ => fl) (fun _ _ => fl) (fun _ _ => fl) (fun _ _ _ => fl) (fun _ _ => fl) (fun _ _ _ _ _ _ _ => fl) (fun _ _ => fl) (fun _ _ _ _ => fl) (fun _ _ _ _ => fl) () (fun _ _ _ _ => ()) y
noncomputable def addK_str (y : V) : (Nat) → (Nat) → (KV) → RC := V.rec (motive_1 := fun _ => (Nat) → (Nat) → (KV) → RC) (motive_2 := fun _ => Unit)
  (fun _ _ _ => fl) (fun _ _ _ => fl) (fun _ _ _ => fl) (fun _ _ _ _ => fl) (fun _ _ _ _ => fl) (fun _ _ _ _ => fl) (fun _ _ _ _ _ => fl) (fun _ _ _ _ _ => fl) (fun l s a0 a1 k => Bool.rec fl (k (.str (Nat.add a0 l) (Nat.add a1 (Nat.shiftLeft s (Nat.mul 8 a0))))) (Nat.ble (Nat.add a0 l) 4294967295)) (fun _ _ _ _ _ => fl) (fun _ _ _ => fl) (fun _ _ _ _ _ _ _ _ _ => fl) (fun _ _ _ => fl) (fun _ _ _ => fl) (fun _ _ _ _ => fl) (fun _ _ _ => fl) (fun _ _ _ _ _ _ _ _ => fl) (fun _ _ _ => fl) (fun _ _ _ _ _ => fl) (fun _ _ _ _ _ => fl) () (fun _ _ _ _ => ()) y
noncomputable def addK_by (y : V) : (Nat) → (KV) → RC := V.rec (motive_1 := fun _ => (Nat) → (KV) → RC) (motive_2 := fun _ => Unit)
  (fun _ _ => fl) (fun _ _ => fl) (fun _ _ => fl) (fun _ _ _ => fl) (fun _ _ _ => fl) (fun n a0 k => Bool.rec fl (k (.by (Nat.add a0 n))) (Nat.ble (Nat.add a0 n) 255)) (fun _ _ _ _ => fl) (fun _ _ _ _ => fl) (fun _ _ _ _ => fl) (fun _ _ _ _ => fl) (fun _ _ => fl) (fun _ _ _ _ _ _ _ _ => fl) (fun _ _ => fl) (fun _ _ => fl) (fun _ _ _ => fl) (fun _ _ => fl) (fun _ _ _ _ _ _ _ => fl) (fun _ _ => fl) (fun _ _ _ _ => fl) (fun _ _ _ _ => fl) () (fun _ _ _ _ => ()) y
noncomputable def addK_k (y : V) : (Nat) → (Nat) → (KV) → RC := V.rec (motive_1 := fun _ => (Nat) → (Nat) → (KV) → RC) (motive_2 := fun _ => Unit)
  (fun _ _ _ => fl) (fun _ _ _ => fl) (fun _ _ _ => fl) (fun _ _ _ _ => fl) (fun _ _ _ _ => fl) (fun _ _ _ _ => fl) (fun kd n a0 a1 k => Bool.rec fl (Bool.rec fl (k (.k a0 (Nat.add a1 n))) (Nat.ble (Nat.add a1 n) 2147483647)) (Nat.beq a0 kd)) (fun _ _ _ _ _ => fl) (fun _ _ _ _ _ => fl) (fun _ _ _ _ _ => fl) (fun _ _ _ => fl) (fun _ _ _ _ _ _ _ _ _ => fl) (fun _ _ _ => fl) (fun _ _ _ => fl) (fun _ _ _ _ => fl) (fun _ _ _ => fl) (fun _ _ _ _ _ _ _ _ => fl) (fun _ _ _ => fl) (fun _ _ _ _ _ => fl) (fun _ _ _ _ _ => fl) () (fun _ _ _ _ => ()) y
noncomputable def addK (x : V) : (V) → (KV) → RC := V.rec (motive_1 := fun _ => (V) → (KV) → RC) (motive_2 := fun _ => Unit)
  (fun _ _ => fl) (fun _ _ => fl) (fun _ _ => fl) (fun n y k => addK_p y n k) (fun n y k => addK_m y n k) (fun n y k => addK_by y n k) (fun kd n y k => addK_k y kd n k) (fun _ _ _ _ => fl) (fun l s y k => addK_str y l s k) (fun _ _ _ _ => fl) (fun _ _ => fl) (fun _ _ _ _ _ _ _ _ => fl) (fun _ _ => fl) (fun _ _ => fl) (fun _ _ _ => fl) (fun _ _ => fl) (fun _ _ _ _ _ _ _ => fl) (fun _ _ => fl) (fun _ _ _ _ => fl) (fun _ _ _ _ => fl) () (fun _ _ _ _ => ()) x
noncomputable def subK_p (y : V) : (Nat) → (KV) → RC := V.rec (motive_1 := fun _ => (Nat) → (KV) → RC) (motive_2 := fun _ => Unit)
  (fun _ _ => fl) (fun _ _ => fl) (fun _ _ => fl) (fun n a0 k => sb a0 n k) (fun n a0 k => chkP (Nat.add a0 (Nat.succ n)) k) (fun _ _ _ => fl) (fun _ _ _ _ => fl) (fun _ _ _ _ => fl) (fun _ _ _ _ => fl) (fun _ _ _ _ => fl) (fun _ _ => fl) (fun _ _ _ _ _ _ _ _ => fl) (fun _ _ => fl) (fun _ _ => fl) (fun _ _ _ => fl) (fun _ _ => fl) (fun _ _ _ _ _ _ _ => fl) (fun _ _ => fl) (fun _ _ _ _ => fl) (fun _ _ _ _ => fl) () (fun _ _ _ _ => ()) y
noncomputable def subK_m (y : V) : (Nat) → (KV) → RC := V.rec (motive_1 := fun _ => (Nat) → (KV) → RC) (motive_2 := fun _ => Unit)
  (fun _ _ => fl) (fun _ _ => fl) (fun _ _ => fl) (fun n a0 k => chkM (Nat.add a0 n) k) (fun n a0 k => sb n a0 k) (fun _ _ _ => fl) (fun _ _ _ _ => fl) (fun _ _ _ _ => fl) (fun _ _ _ _ => fl) (fun _ _ _ _ => fl) (fun _ _ => fl) (fun _ _ _ _ _ _ _ _ => fl) (fun _ _ => fl) (fun _ _ => fl) (fun _ _ _ => fl) (fun _ _ => fl) (fun _ _ _ _ _ _ _ => fl) (fun _ _ => fl) (fun _ _ _ _ => fl) (fun _ _ _ _ => fl) () (fun _ _ _ _ => ()) y
noncomputable def subK_by (y : V) : (Nat) → (KV) → RC := V.rec (motive_1 := fun _ => (Nat) → (KV) → RC) (motive_2 := fun _ => Unit)
  (fun _ _ => fl) (fun _ _ => fl) (fun _ _ => fl) (fun _ _ _ => fl) (fun _ _ _ => fl) (fun n a0 k => Bool.rec fl (k (.by (Nat.sub a0 n))) (Nat.ble n a0)) (fun _ _ _ _ => fl) (fun _ _ _ _ => fl) (fun _ _ _ _ => fl) (fun _ _ _ _ => fl) (fun _ _ => fl) (fun _ _ _ _ _ _ _ _ => fl) (fun _ _ => fl) (fun _ _ => fl) (fun _ _ _ => fl) (fun _ _ => fl) (fun _ _ _ _ _ _ _ => fl) (fun _ _ => fl) (fun _ _ _ _ => fl) (fun _ _ _ _ => fl) () (fun _ _ _ _ => ()) y
noncomputable def subK_k (y : V) : (Nat) → (Nat) → (KV) → RC := V.rec (motive_1 := fun _ => (Nat) → (Nat) → (KV) → RC) (motive_2 := fun _ => Unit)
  (fun _ _ _ => fl) (fun _ _ _ => fl) (fun _ _ _ => fl) (fun _ _ _ _ => fl) (fun _ _ _ _ => fl) (fun _ _ _ _ => fl) (fun kd n a0 a1 k => Bool.rec fl (Bool.rec fl (k (.k a0 (Nat.sub a1 n))) (Nat.ble n a1)) (Nat.beq a0 kd)) (fun _ _ _ _ _ => fl) (fun _ _ _ _ _ => fl) (fun _ _ _ _ _ => fl) (fun _ _ _ => fl) (fun _ _ _ _ _ _ _ _ _ => fl) (fun _ _ _ => fl) (fun _ _ _ => fl) (fun _ _ _ _ => fl) (fun _ _ _ => fl) (fun _ _ _ _ _ _ _ _ => fl) (fun _ _ _ => fl) (fun _ _ _ _ _ => fl) (fun _ _ _ _ _ => fl) () (fun _ _ _ _ => ()) y
noncomputable def subK_sym (y : V) : (Nat) → (Nat) → (KV) → RC := V.rec (motive_1 := fun _ => (Nat) → (Nat) → (KV) → RC) (motive_2 := fun _ => Unit)
  (fun _ _ _ => fl) (fun _ _ _ => fl) (fun _ _ _ => fl) (fun n a0 a1 k => Bool.rec fl (k (.sym (Nat.sub a0 n) (Nat.sub a1 n))) (Nat.ble n a0)) (fun _ _ _ _ => fl) (fun _ _ _ _ => fl) (fun _ _ _ _ _ => fl) (fun _ _ _ _ _ => fl) (fun _ _ _ _ _ => fl) (fun _ _ _ _ _ => fl) (fun _ _ _ => fl) (fun _ _ _ _ _ _ _ _ _ => fl) (fun _ _ _ => fl) (fun _ _ _ => fl) (fun _ _ _ _ => fl) (fun _ _ _ => fl) (fun _ _ _ _ _ _ _ _ => fl) (fun _ _ _ => fl) (fun _ _ _ _ _ => fl) (fun _ _ _ _ _ => fl) () (fun _ _ _ _ => ()) y
noncomputable def subK (x : V) : (V) → (KV) → RC := V.rec (motive_1 := fun _ => (V) → (KV) → RC) (motive_2 := fun _ => Unit)
  (fun _ _ => fl) (fun _ _ => fl) (fun _ _ => fl) (fun n y k => subK_p y n k) (fun n y k => subK_m y n k) (fun n y k => subK_by y n k) (fun kd n y k => subK_k y kd n k) (fun lo n y k => subK_sym y lo n k) (fun _ _ _ _ => fl) (fun _ _ _ _ => fl) (fun _ _ => fl) (fun _ _ _ _ _ _ _ _ => fl) (fun _ _ => fl) (fun _ _ => fl) (fun _ _ _ => fl) (fun _ _ => fl) (fun _ _ _ _ _ _ _ => fl) (fun _ _ => fl) (fun _ _ _ _ => fl) (fun _ _ _ _ => fl) () (fun _ _ _ _ => ()) x
noncomputable def mulK_p (y : V) : (Nat) → (KV) → RC := V.rec (motive_1 := fun _ => (Nat) → (KV) → RC) (motive_2 := fun _ => Unit)
  (fun _ _ => fl) (fun _ _ => fl) (fun _ _ => fl) (fun n a0 k => chkP (Nat.mul a0 n) k) (fun n a0 k => chkS (Nat.mul a0 (Nat.succ n)) k) (fun _ _ _ => fl) (fun _ _ _ _ => fl) (fun _ _ _ _ => fl) (fun _ _ _ _ => fl) (fun _ _ _ _ => fl) (fun _ _ => fl) (fun _ _ _ _ _ _ _ _ => fl) (fun _ _ => fl) (fun _ _ => fl) (fun _ _ _ => fl) (fun _ _ => fl) (fun _ _ _ _ _ _ _ => fl) (fun _ _ => fl) (fun _ _ _ _ => fl) (fun _ _ _ _ => fl) () (fun _ _ _ _ => ()) y
noncomputable def mulK_m (y : V) : (Nat) → (KV) → RC := V.rec (motive_1 := fun _ => (Nat) → (KV) → RC) (motive_2 := fun _ => Unit)
  (fun _ _ => fl) (fun _ _ => fl) (fun _ _ => fl) (fun n a0 k => chkS (Nat.mul (Nat.succ a0) n) k) (fun _ _ _ => fl) (fun _ _ _ => fl) (fun _ _ _ _ => fl) (fun _ _ _ _ => fl) (fun _ _ _ _ => fl) (fun _ _ _ _ => fl) (fun _ _ => fl) (fun _ _ _ _ _ _ _ _ => fl) (fun _ _ => fl) (fun _ _ => fl) (fun _ _ _ => fl) (fun _ _ => fl) (fun _ _ _ _ _ _ _ => fl) (fun _ _ => fl) (fun _ _ _ _ => fl) (fun _ _ _ _ => fl) () (fun _ _ _ _ => ()) y
noncomputable def mulK_k (y : V) : (Nat) → (Nat) → (KV) → RC := V.rec (motive_1 := fun _ => (Nat) → (Nat) → (KV) → RC) (motive_2 := fun _ => Unit)
  (fun _ _ _ => fl) (fun _ _ _ => fl) (fun _ _ _ => fl) (fun _ _ _ _ => fl) (fun _ _ _ _ => fl) (fun _ _ _ _ => fl) (fun kd n a0 a1 k => Bool.rec fl (Bool.rec fl (k (.k a0 (Nat.mul a1 n))) (Nat.ble (Nat.mul a1 n) 2147483647)) (Nat.beq a0 kd)) (fun _ _ _ _ _ => fl) (fun _ _ _ _ _ => fl) (fun _ _ _ _ _ => fl) (fun _ _ _ => fl) (fun _ _ _ _ _ _ _ _ _ => fl) (fun _ _ _ => fl) (fun _ _ _ => fl) (fun _ _ _ _ => fl) (fun _ _ _ => fl) (fun _ _ _ _ _ _ _ _ => fl) (fun _ _ _ => fl) (fun _ _ _ _ _ => fl) (fun _ _ _ _ _ => fl) () (fun _ _ _ _ => ()) y
noncomputable def mulK (x : V) : (V) → (KV) → RC := V.rec (motive_1 := fun _ => (V) → (KV) → RC) (motive_2 := fun _ => Unit)
  (fun _ _ => fl) (fun _ _ => fl) (fun _ _ => fl) (fun n y k => mulK_p y n k) (fun n y k => mulK_m y n k) (fun _ _ _ => fl) (fun kd n y k => mulK_k y kd n k) (fun _ _ _ _ => fl) (fun _ _ _ _ => fl) (fun _ _ _ _ => fl) (fun _ _ => fl) (fun _ _ _ _ _ _ _ _ => fl) (fun _ _ => fl) (fun _ _ => fl) (fun _ _ _ => fl) (fun _ _ => fl) (fun _ _ _ _ _ _ _ => fl) (fun _ _ => fl) (fun _ _ _ _ => fl) (fun _ _ _ _ => fl) () (fun _ _ _ _ => ()) x
noncomputable def quoK_p (y : V) : (Nat) → (KV) → RC := V.rec (motive_1 := fun _ => (Nat) → (KV) → RC) (motive_2 := fun _ => Unit)
  (fun _ _ => fl) (fun _ _ => fl) (fun _ _ => fl) (fun n a0 k => Bool.rec fl (k (.p (Nat.div a0 n))) (Nat.ble 1 n)) (fun _ _ _ => fl) (fun _ _ _ => fl) (fun _ _ _ _ => fl) (fun _ _ _ _ => fl) (fun _ _ _ _ => fl) (fun _ _ _ _ => fl) (fun _ _ => fl) (fun _ _ _ _ _ _ _ _ => fl) (fun _ _ => fl) (fun _ _ => fl) (fun _ _ _ => fl) (fun _ _ => fl) (fun _ _ _ _ _ _ _ => fl) (fun _ _ => fl) (fun _ _ _ _ => fl) (fun _ _ _ _ => fl) () (fun _ _ _ _ => ()) y
noncomputable def quoK_m (y : V) : (Nat) → (KV) → RC := V.rec (motive_1 := fun _ => (Nat) → (KV) → RC) (motive_2 := fun _ => Unit)
  (fun _ _ => fl) (fun _ _ => fl) (fun _ _ => fl) (fun n a0 k => Bool.rec fl (chkS (Nat.div (Nat.succ a0) n) k) (Nat.ble 1 n)) (fun _ _ _ => fl) (fun _ _ _ => fl) (fun _ _ _ _ => fl) (fun _ _ _ _ => fl) (fun _ _ _ _ => fl) (fun _ _ _ _ => fl) (fun _ _ => fl) (fun _ _ _ _ _ _ _ _ => fl) (fun _ _ => fl) (fun _ _ => fl) (fun _ _ _ => fl) (fun _ _ => fl) (fun _ _ _ _ _ _ _ => fl) (fun _ _ => fl) (fun _ _ _ _ => fl) (fun _ _ _ _ => fl) () (fun _ _ _ _ => ()) y
noncomputable def quoK_k (y : V) : (Nat) → (Nat) → (KV) → RC := V.rec (motive_1 := fun _ => (Nat) → (Nat) → (KV) → RC) (motive_2 := fun _ => Unit)
  (fun _ _ _ => fl) (fun _ _ _ => fl) (fun _ _ _ => fl) (fun _ _ _ _ => fl) (fun _ _ _ _ => fl) (fun _ _ _ _ => fl) (fun kd n a0 a1 k => Bool.rec fl (Bool.rec fl (k (.k a0 (Nat.div a1 n))) (Nat.ble 1 n)) (Nat.beq a0 kd)) (fun _ _ _ _ _ => fl) (fun _ _ _ _ _ => fl) (fun _ _ _ _ _ => fl) (fun _ _ _ => fl) (fun _ _ _ _ _ _ _ _ _ => fl) (fun _ _ _ => fl) (fun _ _ _ => fl) (fun _ _ _ _ => fl) (fun _ _ _ => fl) (fun _ _ _ _ _ _ _ _ => fl) (fun _ _ _ => fl) (fun _ _ _ _ _ => fl) (fun _ _ _ _ _ => fl) () (fun _ _ _ _ => ()) y
noncomputable def quoK (x : V) : (V) → (KV) → RC := V.rec (motive_1 := fun _ => (V) → (KV) → RC) (motive_2 := fun _ => Unit)
  (fun _ _ => fl) (fun _ _ => fl) (fun _ _ => fl) (fun n y k => quoK_p y n k) (fun n y k => quoK_m y n k) (fun _ _ _ => fl) (fun kd n y k => quoK_k y kd n k) (fun _ _ _ _ => fl) (fun _ _ _ _ => fl) (fun _ _ _ _ => fl) (fun _ _ => fl) (fun _ _ _ _ _ _ _ _ => fl) (fun _ _ => fl) (fun _ _ => fl) (fun _ _ _ => fl) (fun _ _ => fl) (fun _ _ _ _ _ _ _ => fl) (fun _ _ => fl) (fun _ _ _ _ => fl) (fun _ _ _ _ => fl) () (fun _ _ _ _ => ()) x
noncomputable def remK_p (y : V) : (Nat) → (KV) → RC := V.rec (motive_1 := fun _ => (Nat) → (KV) → RC) (motive_2 := fun _ => Unit)
  (fun _ _ => fl) (fun _ _ => fl) (fun _ _ => fl) (fun n a0 k => Bool.rec fl (k (.p (Nat.mod a0 n))) (Nat.ble 1 n)) (fun _ _ _ => fl) (fun _ _ _ => fl) (fun _ _ _ _ => fl) (fun _ _ _ _ => fl) (fun _ _ _ _ => fl) (fun _ _ _ _ => fl) (fun _ _ => fl) (fun _ _ _ _ _ _ _ _ => fl) (fun _ _ => fl) (fun _ _ => fl) (fun _ _ _ => fl) (fun _ _ => fl) (fun _ _ _ _ _ _ _ => fl) (fun _ _ => fl) (fun _ _ _ _ => fl) (fun _ _ _ _ => fl) () (fun _ _ _ _ => ()) y
noncomputable def remK_m (y : V) : (Nat) → (KV) → RC := V.rec (motive_1 := fun _ => (Nat) → (KV) → RC) (motive_2 := fun _ => Unit)
  (fun _ _ => fl) (fun _ _ => fl) (fun _ _ => fl) (fun n a0 k => Bool.rec fl (chkS (Nat.mod (Nat.succ a0) n) k) (Nat.ble 1 n)) (fun _ _ _ => fl) (fun _ _ _ => fl) (fun _ _ _ _ => fl) (fun _ _ _ _ => fl) (fun _ _ _ _ => fl) (fun _ _ _ _ => fl) (fun _ _ => fl) (fun _ _ _ _ _ _ _ _ => fl) (fun _ _ => fl) (fun _ _ => fl) (fun _ _ _ => fl) (fun _ _ => fl) (fun _ _ _ _ _ _ _ => fl) (fun _ _ => fl) (fun _ _ _ _ => fl) (fun _ _ _ _ => fl) () (fun _ _ _ _ => ()) y
noncomputable def remK_k (y : V) : (Nat) → (Nat) → (KV) → RC := V.rec (motive_1 := fun _ => (Nat) → (Nat) → (KV) → RC) (motive_2 := fun _ => Unit)
  (fun _ _ _ => fl) (fun _ _ _ => fl) (fun _ _ _ => fl) (fun _ _ _ _ => fl) (fun _ _ _ _ => fl) (fun _ _ _ _ => fl) (fun kd n a0 a1 k => Bool.rec fl (Bool.rec fl (k (.k a0 (Nat.mod a1 n))) (Nat.ble 1 n)) (Nat.beq a0 kd)) (fun _ _ _ _ _ => fl) (fun _ _ _ _ _ => fl) (fun _ _ _ _ _ => fl) (fun _ _ _ => fl) (fun _ _ _ _ _ _ _ _ _ => fl) (fun _ _ _ => fl) (fun _ _ _ => fl) (fun _ _ _ _ => fl) (fun _ _ _ => fl) (fun _ _ _ _ _ _ _ _ => fl) (fun _ _ _ => fl) (fun _ _ _ _ _ => fl) (fun _ _ _ _ _ => fl) () (fun _ _ _ _ => ()) y
noncomputable def remK (x : V) : (V) → (KV) → RC := V.rec (motive_1 := fun _ => (V) → (KV) → RC) (motive_2 := fun _ => Unit)
  (fun _ _ => fl) (fun _ _ => fl) (fun _ _ => fl) (fun n y k => remK_p y n k) (fun n y k => remK_m y n k) (fun _ _ _ => fl) (fun kd n y k => remK_k y kd n k) (fun _ _ _ _ => fl) (fun _ _ _ _ => fl) (fun _ _ _ _ => fl) (fun _ _ => fl) (fun _ _ _ _ _ _ _ _ => fl) (fun _ _ => fl) (fun _ _ => fl) (fun _ _ _ => fl) (fun _ _ => fl) (fun _ _ _ _ _ _ _ => fl) (fun _ _ => fl) (fun _ _ _ _ => fl) (fun _ _ _ _ => fl) () (fun _ _ _ _ => ()) x
noncomputable def andK_p (y : V) : (Nat) → (KV) → RC := V.rec (motive_1 := fun _ => (Nat) → (KV) → RC) (motive_2 := fun _ => Unit)
  (fun _ _ => fl) (fun _ _ => fl) (fun _ _ => fl) (fun n a0 k => k (.p (Nat.land a0 n))) (fun _ _ _ => fl) (fun _ _ _ => fl) (fun _ _ _ _ => fl) (fun _ _ _ _ => fl) (fun _ _ _ _ => fl) (fun _ _ _ _ => fl) (fun _ _ => fl) (fun _ _ _ _ _ _ _ _ => fl) (fun _ _ => fl) (fun _ _ => fl) (fun _ _ _ => fl) (fun _ _ => fl) (fun _ _ _ _ _ _ _ => fl) (fun _ _ => fl) (fun _ _ _ _ => fl) (fun _ _ _ _ => fl) () (fun _ _ _ _ => ()) y
noncomputable def andK_m (y : V) : (Nat) → (KV) → RC := V.rec (motive_1 := fun _ => (Nat) → (KV) → RC) (motive_2 := fun _ => Unit)
  (fun _ _ => fl) (fun _ _ => fl) (fun _ _ => fl) (fun n a0 k => k (.p (Nat.xor n (Nat.land a0 n)))) (fun _ _ _ => fl) (fun _ _ _ => fl) (fun _ _ _ _ => fl) (fun _ _ _ _ => fl) (fun _ _ _ _ => fl) (fun _ _ _ _ => fl) (fun _ _ => fl) (fun _ _ _ _ _ _ _ _ => fl) (fun _ _ => fl) (fun _ _ => fl) (fun _ _ _ => fl) (fun _ _ => fl) (fun _ _ _ _ _ _ _ => fl) (fun _ _ => fl) (fun _ _ _ _ => fl) (fun _ _ _ _ => fl) () (fun _ _ _ _ => ()) y
noncomputable def andK (x : V) : (V) → (KV) → RC := V.rec (motive_1 := fun _ => (V) → (KV) → RC) (motive_2 := fun _ => Unit)
  (fun _ _ => fl) (fun _ _ => fl) (fun _ _ => fl) (fun n y k => andK_p y n k) (fun n y k => andK_m y n k) (fun _ _ _ => fl) (fun _ _ _ _ => fl) (fun _ _ _ _ => fl) (fun _ _ _ _ => fl) (fun _ _ _ _ => fl) (fun _ _ => fl) (fun _ _ _ _ _ _ _ _ => fl) (fun _ _ => fl) (fun _ _ => fl) (fun _ _ _ => fl) (fun _ _ => fl) (fun _ _ _ _ _ _ _ => fl) (fun _ _ => fl) (fun _ _ _ _ => fl) (fun _ _ _ _ => fl) () (fun _ _ _ _ => ()) x
noncomputable def orK_p (y : V) : (Nat) → (KV) → RC := V.rec (motive_1 := fun _ => (Nat) → (KV) → RC) (motive_2 := fun _ => Unit)
  (fun _ _ => fl) (fun _ _ => fl) (fun _ _ => fl) (fun n a0 k => k (.p (Nat.lor a0 n))) (fun _ _ _ => fl) (fun _ _ _ => fl) (fun _ _ _ _ => fl) (fun _ _ _ _ => fl) (fun _ _ _ _ => fl) (fun _ _ _ _ => fl) (fun _ _ => fl) (fun _ _ _ _ _ _ _ _ => fl) (fun _ _ => fl) (fun _ _ => fl) (fun _ _ _ => fl) (fun _ _ => fl) (fun _ _ _ _ _ _ _ => fl) (fun _ _ => fl) (fun _ _ _ _ => fl) (fun _ _ _ _ => fl) () (fun _ _ _ _ => ()) y
noncomputable def orK_m (y : V) : (Nat) → (KV) → RC := V.rec (motive_1 := fun _ => (Nat) → (KV) → RC) (motive_2 := fun _ => Unit)
  (fun _ _ => fl) (fun _ _ => fl) (fun _ _ => fl) (fun n a0 k => k (.m (Nat.xor a0 (Nat.land a0 n)))) (fun _ _ _ => fl) (fun _ _ _ => fl) (fun _ _ _ _ => fl) (fun _ _ _ _ => fl) (fun _ _ _ _ => fl) (fun _ _ _ _ => fl) (fun _ _ => fl) (fun _ _ _ _ _ _ _ _ => fl) (fun _ _ => fl) (fun _ _ => fl) (fun _ _ _ => fl) (fun _ _ => fl) (fun _ _ _ _ _ _ _ => fl) (fun _ _ => fl) (fun _ _ _ _ => fl) (fun _ _ _ _ => fl) () (fun _ _ _ _ => ()) y
noncomputable def orK (x : V) : (V) → (KV) → RC := V.rec (motive_1 := fun _ => (V) → (KV) → RC) (motive_2 := fun _ => Unit)
  (fun _ _ => fl) (fun _ _ => fl) (fun _ _ => fl) (fun n y k => orK_p y n k) (fun n y k => orK_m y n k) (fun _ _ _ => fl) (fun _ _ _ _ => fl) (fun _ _ _ _ => fl) (fun _ _ _ _ => fl) (fun _ _ _ _ => fl) (fun _ _ => fl) (fun _ _ _ _ _ _ _ _ => fl) (fun _ _ => fl) (fun _ _ => fl) (fun _ _ _ => fl) (fun _ _ => fl) (fun _ _ _ _ _ _ _ => fl) (fun _ _ => fl) (fun _ _ _ _ => fl) (fun _ _ _ _ => fl) () (fun _ _ _ _ => ()) x
noncomputable def shlK_p (y : V) : (Nat) → (KV) → RC := V.rec (motive_1 := fun _ => (Nat) → (KV) → RC) (motive_2 := fun _ => Unit)
  (fun _ _ => fl) (fun _ _ => fl) (fun _ _ => fl) (fun n a0 k => chkP (Nat.shiftLeft a0 n) k) (fun _ _ _ => fl) (fun _ _ _ => fl) (fun _ n a0 k => chkP (Nat.shiftLeft a0 n) k) (fun _ _ _ _ => fl) (fun _ _ _ _ => fl) (fun _ _ _ _ => fl) (fun _ _ => fl) (fun _ _ _ _ _ _ _ _ => fl) (fun _ _ => fl) (fun _ _ => fl) (fun _ _ _ => fl) (fun _ _ => fl) (fun _ _ _ _ _ _ _ => fl) (fun _ _ => fl) (fun _ _ _ _ => fl) (fun _ _ _ _ => fl) () (fun _ _ _ _ => ()) y
noncomputable def shlK_m (y : V) : (Nat) → (KV) → RC := V.rec (motive_1 := fun _ => (Nat) → (KV) → RC) (motive_2 := fun _ => Unit)
  (fun _ _ => fl) (fun _ _ => fl) (fun _ _ => fl) (fun n a0 k => chkM (Nat.pred (Nat.shiftLeft (Nat.succ a0) n)) k) (fun _ _ _ => fl) (fun _ _ _ => fl) (fun _ n a0 k => chkM (Nat.pred (Nat.shiftLeft (Nat.succ a0) n)) k) (fun _ _ _ _ => fl) (fun _ _ _ _ => fl) (fun _ _ _ _ => fl) (fun _ _ => fl) (fun _ _ _ _ _ _ _ _ => fl) (fun _ _ => fl) (fun _ _ => fl) (fun _ _ _ => fl) (fun _ _ => fl) (fun _ _ _ _ _ _ _ => fl) (fun _ _ => fl) (fun _ _ _ _ => fl) (fun _ _ _ _ => fl) () (fun _ _ _ _ => ()) y
noncomputable def shlK (x : V) : (V) → (KV) → RC := V.rec (motive_1 := fun _ => (V) → (KV) → RC) (motive_2 := fun _ => Unit)
  (fun _ _ => fl) (fun _ _ => fl) (fun _ _ => fl) (fun n y k => shlK_p y n k) (fun n y k => shlK_m y n k) (fun _ _ _ => fl) (fun _ _ _ _ => fl) (fun _ _ _ _ => fl) (fun _ _ _ _ => fl) (fun _ _ _ _ => fl) (fun _ _ => fl) (fun _ _ _ _ _ _ _ _ => fl) (fun _ _ => fl) (fun _ _ => fl) (fun _ _ _ => fl) (fun _ _ => fl) (fun _ _ _ _ _ _ _ => fl) (fun _ _ => fl) (fun _ _ _ _ => fl) (fun _ _ _ _ => fl) () (fun _ _ _ _ => ()) x
noncomputable def shrK_p (y : V) : (Nat) → (KV) → RC := V.rec (motive_1 := fun _ => (Nat) → (KV) → RC) (motive_2 := fun _ => Unit)
  (fun _ _ => fl) (fun _ _ => fl) (fun _ _ => fl) (fun n a0 k => k (.p (Nat.shiftRight a0 n))) (fun _ _ _ => fl) (fun _ _ _ => fl) (fun _ n a0 k => k (.p (Nat.shiftRight a0 n))) (fun _ _ _ _ => fl) (fun _ _ _ _ => fl) (fun _ _ _ _ => fl) (fun _ _ => fl) (fun _ _ _ _ _ _ _ _ => fl) (fun _ _ => fl) (fun _ _ => fl) (fun _ _ _ => fl) (fun _ _ => fl) (fun _ _ _ _ _ _ _ => fl) (fun _ _ => fl) (fun _ _ _ _ => fl) (fun _ _ _ _ => fl) () (fun _ _ _ _ => ()) y
noncomputable def shrK_m (y : V) : (Nat) → (KV) → RC := V.rec (motive_1 := fun _ => (Nat) → (KV) → RC) (motive_2 := fun _ => Unit)
  (fun _ _ => fl) (fun _ _ => fl) (fun _ _ => fl) (fun n a0 k => k (.m (Nat.shiftRight a0 n))) (fun _ _ _ => fl) (fun _ _ _ => fl) (fun _ n a0 k => k (.m (Nat.shiftRight a0 n))) (fun _ _ _ _ => fl) (fun _ _ _ _ => fl) (fun _ _ _ _ => fl) (fun _ _ => fl) (fun _ _ _ _ _ _ _ _ => fl) (fun _ _ => fl) (fun _ _ => fl) (fun _ _ _ => fl) (fun _ _ => fl) (fun _ _ _ _ _ _ _ => fl) (fun _ _ => fl) (fun _ _ _ _ => fl) (fun _ _ _ _ => fl) () (fun _ _ _ _ => ()) y
noncomputable def shrK (x : V) : (V) → (KV) → RC := V.rec (motive_1 := fun _ => (V) → (KV) → RC) (motive_2 := fun _ => Unit)
  (fun _ _ => fl) (fun _ _ => fl) (fun _ _ => fl) (fun n y k => shrK_p y n k) (fun n y k => shrK_m y n k) (fun _ _ _ => fl) (fun _ _ _ _ => fl) (fun _ _ _ _ => fl) (fun _ _ _ _ => fl) (fun _ _ _ _ => fl) (fun _ _ => fl) (fun _ _ _ _ _ _ _ _ => fl) (fun _ _ => fl) (fun _ _ => fl) (fun _ _ _ => fl) (fun _ _ => fl) (fun _ _ _ _ _ _ _ => fl) (fun _ _ => fl) (fun _ _ _ _ => fl) (fun _ _ _ _ => fl) () (fun _ _ _ _ => ()) x
noncomputable def ltK_p (y : V) : (Nat) → (KV) → RC := V.rec (motive_1 := fun _ => (Nat) → (KV) → RC) (motive_2 := fun _ => Unit)
  (fun _ _ => fl) (fun _ _ => fl) (fun _ _ => fl) (fun n a0 k => k (B (Nat.blt a0 n))) (fun _ _ k => k .ff) (fun _ _ _ => fl) (fun _ _ _ _ => fl) (fun lo _ a0 k => Bool.rec fl (k .tt) (Nat.blt a0 lo)) (fun _ _ _ _ => fl) (fun _ _ _ _ => fl) (fun _ _ => fl) (fun _ _ _ _ _ _ _ _ => fl) (fun _ _ => fl) (fun _ _ => fl) (fun _ _ _ => fl) (fun _ _ => fl) (fun _ _ _ _ _ _ _ => fl) (fun _ _ => fl) (fun _ _ _ _ => fl) (fun _ _ _ _ => fl) () (fun _ _ _ _ => ()) y
noncomputable def ltK_m (y : V) : (Nat) → (KV) → RC := V.rec (motive_1 := fun _ => (Nat) → (KV) → RC) (motive_2 := fun _ => Unit)
  (fun _ _ => fl) (fun _ _ => fl) (fun _ _ => fl) (fun _ _ k => k .tt) (fun n a0 k => k (B (Nat.blt n a0))) (fun _ _ _ => fl) (fun _ _ _ _ => fl) (fun _ _ _ k => k .tt) (fun _ _ _ _ => fl) (fun _ _ _ _ => fl) (fun _ _ => fl) (fun _ _ _ _ _ _ _ _ => fl) (fun _ _ => fl) (fun _ _ => fl) (fun _ _ _ => fl) (fun _ _ => fl) (fun _ _ _ _ _ _ _ => fl) (fun _ _ => fl) (fun _ _ _ _ => fl) (fun _ _ _ _ => fl) () (fun _ _ _ _ => ()) y
noncomputable def ltK_by (y : V) : (Nat) → (KV) → RC := V.rec (motive_1 := fun _ => (Nat) → (KV) → RC) (motive_2 := fun _ => Unit)
  (fun _ _ => fl) (fun _ _ => fl) (fun _ _ => fl) (fun _ _ _ => fl) (fun _ _ _ => fl) (fun n a0 k => k (B (Nat.blt a0 n))) (fun _ _ _ _ => fl) (fun _ _ _ _ => fl) (fun _ _ _ _ => fl) (fun _ _ _ _ => fl) (fun _ _ => fl) (fun _ _ _ _ _ _ _ _ => fl) (fun _ _ => fl) (fun _ _ => fl) (fun _ _ _ => fl) (fun _ _ => fl) (fun _ _ _ _ _ _ _ => fl) (fun _ _ => fl) (fun _ _ _ _ => fl) (fun _ _ _ _ => fl) () (fun _ _ _ _ => ()) y
noncomputable def ltK_k (y : V) : (Nat) → (Nat) → (KV) → RC := V.rec (motive_1 := fun _ => (Nat) → (Nat) → (KV) → RC) (motive_2 := fun _ => Unit)
  (fun _ _ _ => fl) (fun _ _ _ => fl) (fun _ _ _ => fl) (fun _ _ _ _ => fl) (fun _ _ _ _ => fl) (fun _ _ _ _ => fl) (fun kd n a0 a1 k => Bool.rec fl (k (B (Nat.blt a1 n))) (Nat.beq a0 kd)) (fun _ _ _ _ _ => fl) (fun _ _ _ _ _ => fl) (fun _ _ _ _ _ => fl) (fun _ _ _ => fl) (fun _ _ _ _ _ _ _ _ _ => fl) (fun _ _ _ => fl) (fun _ _ _ => fl) (fun _ _ _ _ => fl) (fun _ _ _ => fl) (fun _ _ _ _ _ _ _ _ => fl) (fun _ _ _ => fl) (fun _ _ _ _ _ => fl) (fun _ _ _ _ _ => fl) () (fun _ _ _ _ => ()) y
noncomputable def ltK_sym (y : V) : (Nat) → (Nat) → (KV) → RC := V.rec (motive_1 := fun _ => (Nat) → (Nat) → (KV) → RC) (motive_2 := fun _ => Unit)
  (fun _ _ _ => fl) (fun _ _ _ => fl) (fun _ _ _ => fl) (fun n a0 _ k => Bool.rec fl (k .ff) (Nat.ble n a0)) (fun _ _ _ k => k .ff) (fun _ _ _ _ => fl) (fun _ _ _ _ _ => fl) (fun _ _ _ _ _ => fl) (fun _ _ _ _ _ => fl) (fun _ _ _ _ _ => fl) (fun _ _ _ => fl) (fun _ _ _ _ _ _ _ _ _ => fl) (fun _ _ _ => fl) (fun _ _ _ => fl) (fun _ _ _ _ => fl) (fun _ _ _ => fl) (fun _ _ _ _ _ _ _ _ => fl) (fun _ _ _ => fl) (fun _ _ _ _ _ => fl) (fun _ _ _ _ _ => fl) () (fun _ _ _ _ => ()) y
noncomputable def ltK (x : V) : (V) → (KV) → RC := V.rec (motive_1 := fun _ => (V) → (KV) → RC) (motive_2 := fun _ => Unit)
  (fun _ _ => fl) (fun _ _ => fl) (fun _ _ => fl) (fun n y k => ltK_p y n k) (fun n y k => ltK_m y n k) (fun n y k => ltK_by y n k) (fun kd n y k => ltK_k y kd n k) (fun lo n y k => ltK_sym y lo n k) (fun _ _ _ _ => fl) (fun _ _ _ _ => fl) (fun _ _ => fl) (fun _ _ _ _ _ _ _ _ => fl) (fun _ _ => fl) (fun _ _ => fl) (fun _ _ _ => fl) (fun _ _ => fl) (fun _ _ _ _ _ _ _ => fl) (fun _ _ => fl) (fun _ _ _ _ => fl) (fun _ _ _ _ => fl) () (fun _ _ _ _ => ()) x
noncomputable def eq0_p (y : V) : (Nat) → (KV) → RC := V.rec (motive_1 := fun _ => (Nat) → (KV) → RC) (motive_2 := fun _ => Unit)
  (fun _ _ => fl) (fun _ _ => fl) (fun _ _ => fl) (fun n a0 k => k (B (Nat.beq a0 n))) (fun _ _ k => k .ff) (fun _ _ _ => fl) (fun _ _ _ _ => fl) (fun _ _ _ _ => fl) (fun _ _ _ _ => fl) (fun _ _ _ _ => fl) (fun _ _ => fl) (fun _ _ _ _ _ _ _ _ => fl) (fun _ _ => fl) (fun _ _ => fl) (fun _ _ _ => fl) (fun _ _ => fl) (fun _ _ _ _ _ _ _ => fl) (fun _ _ => fl) (fun _ _ _ _ => fl) (fun _ _ _ _ => fl) () (fun _ _ _ _ => ()) y
noncomputable def eq0_m (y : V) : (Nat) → (KV) → RC := V.rec (motive_1 := fun _ => (Nat) → (KV) → RC) (motive_2 := fun _ => Unit)
  (fun _ _ => fl) (fun _ _ => fl) (fun _ _ => fl) (fun _ _ k => k .ff) (fun n a0 k => k (B (Nat.beq a0 n))) (fun _ _ _ => fl) (fun _ _ _ _ => fl) (fun _ _ _ _ => fl) (fun _ _ _ _ => fl) (fun _ _ _ _ => fl) (fun _ _ => fl) (fun _ _ _ _ _ _ _ _ => fl) (fun _ _ => fl) (fun _ _ => fl) (fun _ _ _ => fl) (fun _ _ => fl) (fun _ _ _ _ _ _ _ => fl) (fun _ _ => fl) (fun _ _ _ _ => fl) (fun _ _ _ _ => fl) () (fun _ _ _ _ => ()) y
noncomputable def eq0_by (y : V) : (Nat) → (KV) → RC := V.rec (motive_1 := fun _ => (Nat) → (KV) → RC) (motive_2 := fun _ => Unit)
  (fun _ _ => fl) (fun _ _ => fl) (fun _ _ => fl) (fun _ _ _ => fl) (fun _ _ _ => fl) (fun n a0 k => k (B (Nat.beq a0 n))) (fun _ _ _ _ => fl) (fun _ _ _ _ => fl) (fun _ _ _ _ => fl) (fun _ _ _ _ => fl) (fun _ _ => fl) (fun _ _ _ _ _ _ _ _ => fl) (fun _ _ => fl) (fun _ _ => fl) (fun _ _ _ => fl) (fun _ _ => fl) (fun _ _ _ _ _ _ _ => fl) (fun _ _ => fl) (fun _ _ _ _ => fl) (fun _ _ _ _ => fl) () (fun _ _ _ _ => ()) y
noncomputable def eq0_k (y : V) : (Nat) → (Nat) → (KV) → RC := V.rec (motive_1 := fun _ => (Nat) → (Nat) → (KV) → RC) (motive_2 := fun _ => Unit)
  (fun _ _ _ => fl) (fun _ _ _ => fl) (fun _ _ _ => fl) (fun _ _ _ _ => fl) (fun _ _ _ _ => fl) (fun _ _ _ _ => fl) (fun kd n a0 a1 k => Bool.rec fl (k (B (Nat.beq a1 n))) (Nat.beq a0 kd)) (fun _ _ _ _ _ => fl) (fun _ _ _ _ _ => fl) (fun _ _ _ _ _ => fl) (fun _ _ _ => fl) (fun _ _ _ _ _ _ _ _ _ => fl) (fun _ _ _ => fl) (fun _ _ _ => fl) (fun _ _ _ _ => fl) (fun _ _ _ => fl) (fun _ _ _ _ _ _ _ _ => fl) (fun _ _ _ => fl) (fun _ _ _ _ _ => fl) (fun _ _ _ _ _ => fl) () (fun _ _ _ _ => ()) y
noncomputable def eq0_str (y : V) : (Nat) → (Nat) → (KV) → RC := V.rec (motive_1 := fun _ => (Nat) → (Nat) → (KV) → RC) (motive_2 := fun _ => Unit)
  (fun _ _ _ => fl) (fun _ _ _ => fl) (fun _ _ _ => fl) (fun _ _ _ _ => fl) (fun _ _ _ _ => fl) (fun _ _ _ _ => fl) (fun _ _ _ _ _ => fl) (fun _ _ _ _ _ => fl) (fun l s a0 a1 k => k (B (Bool.rec false (Nat.beq a1 s) (Nat.beq a0 l)))) (fun _ _ _ _ _ => fl) (fun _ _ _ => fl) (fun _ _ _ _ _ _ _ _ _ => fl) (fun _ _ _ => fl) (fun _ _ _ => fl) (fun _ _ _ _ => fl) (fun _ _ _ => fl) (fun _ _ _ _ _ _ _ _ => fl) (fun _ _ _ => fl) (fun _ _ _ _ _ => fl) (fun _ _ _ _ _ => fl) () (fun _ _ _ _ => ()) y
noncomputable def eq0 (x : V) : (V) → (KV) → RC := V.rec (motive_1 := fun _ => (V) → (KV) → RC) (motive_2 := fun _ => Unit)
  (fun _ _ => fl) (fun _ _ => fl) (fun _ _ => fl) (fun n y k => eq0_p y n k) (fun n y k => eq0_m y n k) (fun n y k => eq0_by y n k) (fun kd n y k => eq0_k y kd n k) (fun _ _ _ _ => fl) (fun l s y k => eq0_str y l s k) (fun _ _ _ _ => fl) (fun _ _ => fl) (fun _ _ _ _ _ _ _ _ => fl) (fun _ _ => fl) (fun _ _ => fl) (fun _ _ _ => fl) (fun _ _ => fl) (fun _ _ _ _ _ _ _ => fl) (fun _ _ => fl) (fun _ _ _ _ => fl) (fun _ _ _ _ => fl) () (fun _ _ _ _ => ()) x
noncomputable def eqI_p (y : V) : (Nat) → (KV) → RC := V.rec (motive_1 := fun _ => (Nat) → (KV) → RC) (motive_2 := fun _ => Unit)
  (fun _ _ => fl) (fun _ _ => fl) (fun _ _ => fl) (fun n a0 k => k (B (Nat.beq a0 n))) (fun _ _ k => k .ff) (fun _ _ _ => fl) (fun _ _ _ _ => fl) (fun _ _ _ _ => fl) (fun _ _ _ _ => fl) (fun _ _ _ _ => fl) (fun _ _ => fl) (fun _ _ _ _ _ _ _ _ => fl) (fun _ _ => fl) (fun _ _ => fl) (fun _ _ _ => fl) (fun _ _ => fl) (fun _ _ _ _ _ _ _ => fl) (fun _ _ => fl) (fun _ _ _ _ => fl) (fun _ _ _ _ => fl) () (fun _ _ _ _ => ()) y
noncomputable def eqI_m (y : V) : (Nat) → (KV) → RC := V.rec (motive_1 := fun _ => (Nat) → (KV) → RC) (motive_2 := fun _ => Unit)
  (fun _ _ => fl) (fun _ _ => fl) (fun _ _ => fl) (fun _ _ k => k .ff) (fun n a0 k => k (B (Nat.beq a0 n))) (fun _ _ _ => fl) (fun _ _ _ _ => fl) (fun _ _ _ _ => fl) (fun _ _ _ _ => fl) (fun _ _ _ _ => fl) (fun _ _ => fl) (fun _ _ _ _ _ _ _ _ => fl) (fun _ _ => fl) (fun _ _ => fl) (fun _ _ _ => fl) (fun _ _ => fl) (fun _ _ _ _ _ _ _ => fl) (fun _ _ => fl) (fun _ _ _ _ => fl) (fun _ _ _ _ => fl) () (fun _ _ _ _ => ()) y
noncomputable def eqI_by (y : V) : (Nat) → (KV) → RC := V.rec (motive_1 := fun _ => (Nat) → (KV) → RC) (motive_2 := fun _ => Unit)
  (fun _ _ => fl) (fun _ _ => fl) (fun _ _ => fl) (fun _ _ _ => fl) (fun _ _ _ => fl) (fun n a0 k => k (B (Nat.beq a0 n))) (fun _ _ _ _ => fl) (fun _ _ _ _ => fl) (fun _ _ _ _ => fl) (fun _ _ _ _ => fl) (fun _ _ => fl) (fun _ _ _ _ _ _ _ _ => fl) (fun _ _ => fl) (fun _ _ => fl) (fun _ _ _ => fl) (fun _ _ => fl) (fun _ _ _ _ _ _ _ => fl) (fun _ _ => fl) (fun _ _ _ _ => fl) (fun _ _ _ _ => fl) () (fun _ _ _ _ => ()) y
noncomputable def eqI_k (y : V) : (Nat) → (Nat) → (KV) → RC := V.rec (motive_1 := fun _ => (Nat) → (Nat) → (KV) → RC) (motive_2 := fun _ => Unit)
  (fun _ _ _ => fl) (fun _ _ _ => fl) (fun _ _ _ => fl) (fun _ _ _ _ => fl) (fun _ _ _ _ => fl) (fun _ _ _ _ => fl) (fun kd n a0 a1 k => Bool.rec fl (k (B (Nat.beq a1 n))) (Nat.beq a0 kd)) (fun _ _ _ _ _ => fl) (fun _ _ _ _ _ => fl) (fun _ _ _ _ _ => fl) (fun _ _ _ => fl) (fun _ _ _ _ _ _ _ _ _ => fl) (fun _ _ _ => fl) (fun _ _ _ => fl) (fun _ _ _ _ => fl) (fun _ _ _ => fl) (fun _ _ _ _ _ _ _ _ => fl) (fun _ _ _ => fl) (fun _ _ _ _ _ => fl) (fun _ _ _ _ _ => fl) () (fun _ _ _ _ => ()) y
noncomputable def eqI (x : V) : (V) → (KV) → RC := V.rec (motive_1 := fun _ => (V) → (KV) → RC) (motive_2 := fun _ => Unit)
  (fun _ _ => fl) (fun _ _ => fl) (fun _ _ => fl) (fun n y k => eqI_p y n k) (fun n y k => eqI_m y n k) (fun n y k => eqI_by y n k) (fun kd n y k => eqI_k y kd n k) (fun _ _ _ _ => fl) (fun _ _ _ _ => fl) (fun _ _ _ _ => fl) (fun _ _ => fl) (fun _ _ _ _ _ _ _ _ => fl) (fun _ _ => fl) (fun _ _ => fl) (fun _ _ _ => fl) (fun _ _ => fl) (fun _ _ _ _ _ _ _ => fl) (fun _ _ => fl) (fun _ _ _ _ => fl) (fun _ _ _ _ => fl) () (fun _ _ _ _ => ()) x
noncomputable def eqBo_tt (y : V) : (KV) → RC := V.rec (motive_1 := fun _ => (KV) → RC) (motive_2 := fun _ => Unit)
  (fun _ => fl) (fun k => k .tt) (fun k => k .ff) (fun _ _ => fl) (fun _ _ => fl) (fun _ _ => fl) (fun _ _ _ => fl) (fun _ _ _ => fl) (fun _ _ _ => fl) (fun _ _ _ => fl) (fun _ => fl) (fun _ _ _ _ _ _ _ => fl) (fun _ => fl) (fun _ => fl) (fun _ _ => fl) (fun _ => fl) (fun _ _ _ _ _ _ => fl) (fun _ => fl) (fun _ _ _ => fl) (fun _ _ _ => fl) () (fun _ _ _ _ => ()) y
noncomputable def eqBo_ff (y : V) : (KV) → RC := V.rec (motive_1 := fun _ => (KV) → RC) (motive_2 := fun _ => Unit)
  (fun _ => fl) (fun k => k .ff) (fun k => k .tt) (fun _ _ => fl) (fun _ _ => fl) (fun _ _ => fl) (fun _ _ _ => fl) (fun _ _ _ => fl) (fun _ _ _ => fl) (fun _ _ _ => fl) (fun _ => fl) (fun _ _ _ _ _ _ _ => fl) (fun _ => fl) (fun _ => fl) (fun _ _ => fl) (fun _ => fl) (fun _ _ _ _ _ _ => fl) (fun _ => fl) (fun _ _ _ => fl) (fun _ _ _ => fl) () (fun _ _ _ _ => ()) y
noncomputable def eqBo (x : V) : (V) → (KV) → RC := V.rec (motive_1 := fun _ => (V) → (KV) → RC) (motive_2 := fun _ => Unit)
  (fun _ _ => fl) (fun y k => eqBo_tt y k) (fun y k => eqBo_ff y k) (fun _ _ _ => fl) (fun _ _ _ => fl) (fun _ _ _ => fl) (fun _ _ _ _ => fl) (fun _ _ _ _ => fl) (fun _ _ _ _ => fl) (fun _ _ _ _ => fl) (fun _ _ => fl) (fun _ _ _ _ _ _ _ _ => fl) (fun _ _ => fl) (fun _ _ => fl) (fun _ _ _ => fl) (fun _ _ => fl) (fun _ _ _ _ _ _ _ => fl) (fun _ _ => fl) (fun _ _ _ _ => fl) (fun _ _ _ _ => fl) () (fun _ _ _ _ => ()) x
noncomputable def eqNp_ptr (y : V) : (Pth) → (Nat) → (KV) → RC := V.rec (motive_1 := fun _ => (Pth) → (Nat) → (KV) → RC) (motive_2 := fun _ => Unit)
  (fun _ _ _ => fl) (fun _ _ _ => fl) (fun _ _ _ => fl) (fun _ _ _ _ => fl) (fun _ _ _ _ => fl) (fun _ _ _ _ => fl) (fun _ _ _ _ _ => fl) (fun _ _ _ _ _ => fl) (fun _ _ _ _ _ => fl) (fun _ _ _ _ _ => fl) (fun _ _ k => k .ff) (fun _ _ _ _ _ _ _ _ _ => fl) (fun _ _ _ => fl) (fun _ _ _ => fl) (fun _ _ _ _ => fl) (fun _ _ _ => fl) (fun _ _ _ _ _ _ _ _ => fl) (fun _ _ _ => fl) (fun _ _ _ _ _ => fl) (fun _ _ _ _ _ => fl) () (fun _ _ _ _ => ()) y
noncomputable def eqNp_nilp (y : V) : (KV) → RC := V.rec (motive_1 := fun _ => (KV) → RC) (motive_2 := fun _ => Unit)
  (fun _ => fl) (fun _ => fl) (fun _ => fl) (fun _ _ => fl) (fun _ _ => fl) (fun _ _ => fl) (fun _ _ _ => fl) (fun _ _ _ => fl) (fun _ _ _ => fl) (fun _ _ k => k .ff) (fun k => k .tt) (fun _ _ _ _ _ _ _ => fl) (fun _ => fl) (fun _ => fl) (fun _ _ => fl) (fun _ => fl) (fun _ _ _ _ _ _ => fl) (fun _ => fl) (fun _ _ _ => fl) (fun _ _ _ => fl) () (fun _ _ _ _ => ()) y
noncomputable def eqNp (x : V) : (V) → (KV) → RC := V.rec (motive_1 := fun _ => (V) → (KV) → RC) (motive_2 := fun _ => Unit)
  (fun _ _ => fl) (fun _ _ => fl) (fun _ _ => fl) (fun _ _ _ => fl) (fun _ _ _ => fl) (fun _ _ _ => fl) (fun _ _ _ _ => fl) (fun _ _ _ _ => fl) (fun _ _ _ _ => fl) (fun id off y k => eqNp_ptr y id off k) (fun y k => eqNp_nilp y k) (fun _ _ _ _ _ _ _ _ => fl) (fun _ _ => fl) (fun _ _ => fl) (fun _ _ _ => fl) (fun _ _ => fl) (fun _ _ _ _ _ _ _ => fl) (fun _ _ => fl) (fun _ _ _ _ => fl) (fun _ _ _ _ => fl) () (fun _ _ _ _ => ()) x
noncomputable def eqNs_nils (y : V) : (KV) → RC := V.rec (motive_1 := fun _ => (KV) → RC) (motive_2 := fun _ => Unit)
  (fun _ => fl) (fun _ => fl) (fun _ => fl) (fun _ _ => fl) (fun _ _ => fl) (fun _ _ => fl) (fun _ _ _ => fl) (fun _ _ _ => fl) (fun _ _ _ => fl) (fun _ _ _ => fl) (fun _ => fl) (fun _ _ _ _ _ _ k => k .ff) (fun k => k .ff) (fun k => k .tt) (fun _ _ => fl) (fun _ => fl) (fun _ _ _ _ _ _ => fl) (fun _ => fl) (fun _ _ _ => fl) (fun _ _ _ => fl) () (fun _ _ _ _ => ()) y
noncomputable def eqNs_slc (y : V) : (Pth) → (Nat) → (Nat) → (Bool) → (Nat) → (Nat) → (KV) → RC := V.rec (motive_1 := fun _ => (Pth) → (Nat) → (Nat) → (Bool) → (Nat) → (Nat) → (KV) → RC) (motive_2 := fun _ => Unit)
  (fun _ _ _ _ _ _ _ => fl) (fun _ _ _ _ _ _ _ => fl) (fun _ _ _ _ _ _ _ => fl) (fun _ _ _ _ _ _ _ _ => fl) (fun _ _ _ _ _ _ _ _ => fl) (fun _ _ _ _ _ _ _ _ => fl) (fun _ _ _ _ _ _ _ _ _ => fl) (fun _ _ _ _ _ _ _ _ _ => fl) (fun _ _ _ _ _ _ _ _ _ => fl) (fun _ _ _ _ _ _ _ _ _ => fl) (fun _ _ _ _ _ _ _ => fl) (fun _ _ _ _ _ _ _ _ _ _ _ _ _ => fl) (fun _ _ _ _ _ _ _ => fl) (fun _ _ _ _ _ _ k => k .ff) (fun _ _ _ _ _ _ _ _ => fl) (fun _ _ _ _ _ _ _ => fl) (fun _ _ _ _ _ _ _ _ _ _ _ _ => fl) (fun _ _ _ _ _ _ _ => fl) (fun _ _ _ _ _ _ _ _ _ => fl) (fun _ _ _ _ _ _ _ _ _ => fl) () (fun _ _ _ _ => ()) y
noncomputable def eqNs_esl (y : V) : (KV) → RC := V.rec (motive_1 := fun _ => (KV) → RC) (motive_2 := fun _ => Unit)
  (fun _ => fl) (fun _ => fl) (fun _ => fl) (fun _ _ => fl) (fun _ _ => fl) (fun _ _ => fl) (fun _ _ _ => fl) (fun _ _ _ => fl) (fun _ _ _ => fl) (fun _ _ _ => fl) (fun _ => fl) (fun _ _ _ _ _ _ _ => fl) (fun _ => fl) (fun k => k .ff) (fun _ _ => fl) (fun _ => fl) (fun _ _ _ _ _ _ => fl) (fun _ => fl) (fun _ _ _ => fl) (fun _ _ _ => fl) () (fun _ _ _ _ => ()) y
noncomputable def eqNs (x : V) : (V) → (KV) → RC := V.rec (motive_1 := fun _ => (V) → (KV) → RC) (motive_2 := fun _ => Unit)
  (fun _ _ => fl) (fun _ _ => fl) (fun _ _ => fl) (fun _ _ _ => fl) (fun _ _ _ => fl) (fun _ _ _ => fl) (fun _ _ _ _ => fl) (fun _ _ _ _ => fl) (fun _ _ _ _ => fl) (fun _ _ _ _ => fl) (fun _ _ => fl) (fun id off n ex c es y k => eqNs_slc y id off n ex c es k) (fun y k => eqNs_esl y k) (fun y k => eqNs_nils y k) (fun _ _ _ => fl) (fun _ _ => fl) (fun _ _ _ _ _ _ _ => fl) (fun _ _ => fl) (fun _ _ _ _ => fl) (fun _ _ _ _ => fl) () (fun _ _ _ _ => ()) x
noncomputable def eqNm_nilm (y : V) : (KV) → RC := V.rec (motive_1 := fun _ => (KV) → RC) (motive_2 := fun _ => Unit)
  (fun _ => fl) (fun _ => fl) (fun _ => fl) (fun _ _ => fl) (fun _ _ => fl) (fun _ _ => fl) (fun _ _ _ => fl) (fun _ _ _ => fl) (fun _ _ _ => fl) (fun _ _ _ => fl) (fun _ => fl) (fun _ _ _ _ _ _ _ => fl) (fun _ => fl) (fun _ => fl) (fun _ k => k .ff) (fun k => k .tt) (fun _ _ _ _ _ _ => fl) (fun _ => fl) (fun _ _ _ => fl) (fun _ _ _ => fl) () (fun _ _ _ _ => ()) y
noncomputable def eqNm_map (y : V) : (Pth) → (KV) → RC := V.rec (motive_1 := fun _ => (Pth) → (KV) → RC) (motive_2 := fun _ => Unit)
  (fun _ _ => fl) (fun _ _ => fl) (fun _ _ => fl) (fun _ _ _ => fl) (fun _ _ _ => fl) (fun _ _ _ => fl) (fun _ _ _ _ => fl) (fun _ _ _ _ => fl) (fun _ _ _ _ => fl) (fun _ _ _ _ => fl) (fun _ _ => fl) (fun _ _ _ _ _ _ _ _ => fl) (fun _ _ => fl) (fun _ _ => fl) (fun _ _ _ => fl) (fun _ k => k .ff) (fun _ _ _ _ _ _ _ => fl) (fun _ _ => fl) (fun _ _ _ _ => fl) (fun _ _ _ _ => fl) () (fun _ _ _ _ => ()) y
noncomputable def eqNm (x : V) : (V) → (KV) → RC := V.rec (motive_1 := fun _ => (V) → (KV) → RC) (motive_2 := fun _ => Unit)
  (fun _ _ => fl) (fun _ _ => fl) (fun _ _ => fl) (fun _ _ _ => fl) (fun _ _ _ => fl) (fun _ _ _ => fl) (fun _ _ _ _ => fl) (fun _ _ _ _ => fl) (fun _ _ _ _ => fl) (fun _ _ _ _ => fl) (fun _ _ => fl) (fun _ _ _ _ _ _ _ _ => fl) (fun _ _ => fl) (fun _ _ => fl) (fun id y k => eqNm_map y id k) (fun y k => eqNm_nilm y k) (fun _ _ _ _ _ _ _ => fl) (fun _ _ => fl) (fun _ _ _ _ => fl) (fun _ _ _ _ => fl) () (fun _ _ _ _ => ()) x
noncomputable def eqNf_nilf (y : V) : (KV) → RC := V.rec (motive_1 := fun _ => (KV) → RC) (motive_2 := fun _ => Unit)
  (fun _ => fl) (fun _ => fl) (fun _ => fl) (fun _ _ => fl) (fun _ _ => fl) (fun _ _ => fl) (fun _ _ _ => fl) (fun _ _ _ => fl) (fun _ _ _ => fl) (fun _ _ _ => fl) (fun _ => fl) (fun _ _ _ _ _ _ _ => fl) (fun _ => fl) (fun _ => fl) (fun _ _ => fl) (fun _ => fl) (fun _ _ _ _ _ k => k .ff) (fun k => k .tt) (fun _ _ _ => fl) (fun _ _ _ => fl) () (fun _ _ _ _ => ()) y
noncomputable def eqNf_fn (y : V) : (Pth) → (List V) → (List V) → (KV) → RC := V.rec (motive_1 := fun _ => (Pth) → (List V) → (List V) → (KV) → RC) (motive_2 := fun _ => Unit)
  (fun _ _ _ _ => fl) (fun _ _ _ _ => fl) (fun _ _ _ _ => fl) (fun _ _ _ _ _ => fl) (fun _ _ _ _ _ => fl) (fun _ _ _ _ _ => fl) (fun _ _ _ _ _ _ => fl) (fun _ _ _ _ _ _ => fl) (fun _ _ _ _ _ _ => fl) (fun _ _ _ _ _ _ => fl) (fun _ _ _ _ => fl) (fun _ _ _ _ _ _ _ _ _ _ => fl) (fun _ _ _ _ => fl) (fun _ _ _ _ => fl) (fun _ _ _ _ _ => fl) (fun _ _ _ _ => fl) (fun _ _ _ _ _ _ _ _ _ => fl) (fun _ _ _ k => k .ff) (fun _ _ _ _ _ _ => fl) (fun _ _ _ _ _ _ => fl) () (fun _ _ _ _ => ()) y
noncomputable def eqNf (x : V) : (V) → (KV) → RC := V.rec (motive_1 := fun _ => (V) → (KV) → RC) (motive_2 := fun _ => Unit)
  (fun _ _ => fl) (fun _ _ => fl) (fun _ _ => fl) (fun _ _ _ => fl) (fun _ _ _ => fl) (fun _ _ _ => fl) (fun _ _ _ _ => fl) (fun _ _ _ _ => fl) (fun _ _ _ _ => fl) (fun _ _ _ _ => fl) (fun _ _ => fl) (fun _ _ _ _ _ _ _ _ => fl) (fun _ _ => fl) (fun _ _ => fl) (fun _ _ _ => fl) (fun _ _ => fl) (fun f a b _ _ y k => eqNf_fn y f a b k) (fun y k => eqNf_nilf y k) (fun _ _ _ _ => fl) (fun _ _ _ _ => fl) () (fun _ _ _ _ => ()) x
noncomputable def eqL (l : L) : L → KV → RC := List.rec (motive := fun _ => L → KV → RC) (fun r k => List.rec (k .tt) (fun _ _ _ => fl) r)
  (fun a _ ih r k => List.rec fl (fun b r _ => eqI a b (fun v => V.rec (motive_1 := fun _ => RC) (motive_2 := fun _ => Unit) fl (ih r k) (k .ff) (fun _ => fl) (fun _ => fl) (fun _ => fl) (fun _ _ => fl) (fun _ _ => fl) (fun _ _ => fl) (fun _ _ => fl) fl (fun _ _ _ _ _ _ => fl) fl fl (fun _ => fl) fl (fun _ _ _ _ _ => fl) fl (fun _ _ => fl) (fun _ _ => fl) () (fun _ _ _ _ => ()) v)) r) l
noncomputable def eqA (y : V) : (L) → (KV) → RC := V.rec (motive_1 := fun _ => (L) → (KV) → RC) (motive_2 := fun _ => Unit)
  (fun _ _ => fl) (fun _ _ => fl) (fun _ _ => fl) (fun _ _ _ => fl) (fun _ _ _ => fl) (fun _ _ _ => fl) (fun _ _ _ _ => fl) (fun _ _ _ _ => fl) (fun _ _ _ _ => fl) (fun _ _ _ _ => fl) (fun _ _ => fl) (fun _ _ _ _ _ _ _ _ => fl) (fun _ _ => fl) (fun _ _ => fl) (fun _ _ _ => fl) (fun _ _ => fl) (fun _ _ _ _ _ _ _ => fl) (fun _ _ => fl) (fun l _ l0 k => eqL l0 l k) (fun _ _ _ _ => fl) () (fun _ _ _ _ => ()) y
noncomputable def eqS (x : V) : (V) → (KV) → RC := V.rec (motive_1 := fun _ => (V) → (KV) → RC) (motive_2 := fun _ => Unit)
  (fun _ _ => fl) (fun _ _ => fl) (fun _ _ => fl) (fun _ _ _ => fl) (fun _ _ _ => fl) (fun _ _ _ => fl) (fun _ _ _ _ => fl) (fun _ _ _ _ => fl) (fun _ _ _ _ => fl) (fun _ _ _ _ => fl) (fun _ _ => fl) (fun _ _ _ _ _ _ _ _ => fl) (fun _ _ => fl) (fun _ _ => fl) (fun _ _ _ => fl) (fun _ _ => fl) (fun _ _ _ _ _ _ _ => fl) (fun _ _ => fl) (fun l _ y k => eqA y l k) (fun _ _ _ _ => fl) () (fun _ _ _ _ => ()) x
noncomputable def same_tt (y : V) : Bool := V.rec (motive_1 := fun _ => Bool) (motive_2 := fun _ => Unit)
  (false) (true) (false) (fun _ => false) (fun _ => false) (fun _ => false) (fun _ _ => false) (fun _ _ => false) (fun _ _ => false) (fun _ _ => false) (false) (fun _ _ _ _ _ _ => false) (false) (false) (fun _ => false) (false) (fun _ _ _ _ _ => false) (false) (fun _ _ => false) (fun _ _ => false) () (fun _ _ _ _ => ()) y
noncomputable def same_ff (y : V) : Bool := V.rec (motive_1 := fun _ => Bool) (motive_2 := fun _ => Unit)
  (false) (false) (true) (fun _ => false) (fun _ => false) (fun _ => false) (fun _ _ => false) (fun _ _ => false) (fun _ _ => false) (fun _ _ => false) (false) (fun _ _ _ _ _ _ => false) (false) (false) (fun _ => false) (false) (fun _ _ _ _ _ => false) (false) (fun _ _ => false) (fun _ _ => false) () (fun _ _ _ _ => ()) y
noncomputable def same_p (y : V) : (Nat) → Bool := V.rec (motive_1 := fun _ => (Nat) → Bool) (motive_2 := fun _ => Unit)
  (fun _ => false) (fun _ => false) (fun _ => false) (fun n a0 => Nat.beq a0 n) (fun _ _ => false) (fun _ _ => false) (fun _ _ _ => false) (fun _ _ _ => false) (fun _ _ _ => false) (fun _ _ _ => false) (fun _ => false) (fun _ _ _ _ _ _ _ => false) (fun _ => false) (fun _ => false) (fun _ _ => false) (fun _ => false) (fun _ _ _ _ _ _ => false) (fun _ => false) (fun _ _ _ => false) (fun _ _ _ => false) () (fun _ _ _ _ => ()) y
noncomputable def same_m (y : V) : (Nat) → Bool := V.rec (motive_1 := fun _ => (Nat) → Bool) (motive_2 := fun _ => Unit)
  (fun _ => false) (fun _ => false) (fun _ => false) (fun _ _ => false) (fun n a0 => Nat.beq a0 n) (fun _ _ => false) (fun _ _ _ => false) (fun _ _ _ => false) (fun _ _ _ => false) (fun _ _ _ => false) (fun _ => false) (fun _ _ _ _ _ _ _ => false) (fun _ => false) (fun _ => false) (fun _ _ => false) (fun _ => false) (fun _ _ _ _ _ _ => false) (fun _ => false) (fun _ _ _ => false) (fun _ _ _ => false) () (fun _ _ _ _ => ()) y
noncomputable def same_by (y : V) : (Nat) → Bool := V.rec (motive_1 := fun _ => (Nat) → Bool) (motive_2 := fun _ => Unit)
  (fun _ => false) (fun _ => false) (fun _ => false) (fun _ _ => false) (fun _ _ => false) (fun n a0 => Nat.beq a0 n) (fun _ _ _ => false) (fun _ _ _ => false) (fun _ _ _ => false) (fun _ _ _ => false) (fun _ => false) (fun _ _ _ _ _ _ _ => false) (fun _ => false) (fun _ => false) (fun _ _ => false) (fun _ => false) (fun _ _ _ _ _ _ => false) (fun _ => false) (fun _ _ _ => false) (fun _ _ _ => false) () (fun _ _ _ _ => ()) y
noncomputable def same_k (y : V) : (Nat) → (Nat) → Bool := V.rec (motive_1 := fun _ => (Nat) → (Nat) → Bool) (motive_2 := fun _ => Unit)
  (fun _ _ => false) (fun _ _ => false) (fun _ _ => false) (fun _ _ _ => false) (fun _ _ _ => false) (fun _ _ _ => false) (fun kd n a0 a1 => Bool.rec false (Nat.beq a1 n) (Nat.beq a0 kd)) (fun _ _ _ _ => false) (fun _ _ _ _ => false) (fun _ _ _ _ => false) (fun _ _ => false) (fun _ _ _ _ _ _ _ _ => false) (fun _ _ => false) (fun _ _ => false) (fun _ _ _ => false) (fun _ _ => false) (fun _ _ _ _ _ _ _ => false) (fun _ _ => false) (fun _ _ _ _ => false) (fun _ _ _ _ => false) () (fun _ _ _ _ => ()) y
noncomputable def same_sym (y : V) : (Nat) → (Nat) → Bool := V.rec (motive_1 := fun _ => (Nat) → (Nat) → Bool) (motive_2 := fun _ => Unit)
  (fun _ _ => false) (fun _ _ => false) (fun _ _ => false) (fun _ _ _ => false) (fun _ _ _ => false) (fun _ _ _ => false) (fun _ _ _ _ => false) (fun lo n a0 a1 => Bool.rec false (Nat.beq a1 n) (Nat.beq a0 lo)) (fun _ _ _ _ => false) (fun _ _ _ _ => false) (fun _ _ => false) (fun _ _ _ _ _ _ _ _ => false) (fun _ _ => false) (fun _ _ => false) (fun _ _ _ => false) (fun _ _ => false) (fun _ _ _ _ _ _ _ => false) (fun _ _ => false) (fun _ _ _ _ => false) (fun _ _ _ _ => false) () (fun _ _ _ _ => ()) y
noncomputable def same_str (y : V) : (Nat) → (Nat) → Bool := V.rec (motive_1 := fun _ => (Nat) → (Nat) → Bool) (motive_2 := fun _ => Unit)
  (fun _ _ => false) (fun _ _ => false) (fun _ _ => false) (fun _ _ _ => false) (fun _ _ _ => false) (fun _ _ _ => false) (fun _ _ _ _ => false) (fun _ _ _ _ => false) (fun l s a0 a1 => Bool.rec false (Nat.beq a1 s) (Nat.beq a0 l)) (fun _ _ _ _ => false) (fun _ _ => false) (fun _ _ _ _ _ _ _ _ => false) (fun _ _ => false) (fun _ _ => false) (fun _ _ _ => false) (fun _ _ => false) (fun _ _ _ _ _ _ _ => false) (fun _ _ => false) (fun _ _ _ _ => false) (fun _ _ _ _ => false) () (fun _ _ _ _ => ()) y
noncomputable def same_ptr (y : V) : (Pth) → (Nat) → Bool := V.rec (motive_1 := fun _ => (Pth) → (Nat) → Bool) (motive_2 := fun _ => Unit)
  (fun _ _ => false) (fun _ _ => false) (fun _ _ => false) (fun _ _ _ => false) (fun _ _ _ => false) (fun _ _ _ => false) (fun _ _ _ _ => false) (fun _ _ _ _ => false) (fun _ _ _ _ => false) (fun id off a0 a1 => Bool.rec false (Nat.beq a1 off) (beqP a0 id)) (fun _ _ => false) (fun _ _ _ _ _ _ _ _ => false) (fun _ _ => false) (fun _ _ => false) (fun _ _ _ => false) (fun _ _ => false) (fun _ _ _ _ _ _ _ => false) (fun _ _ => false) (fun _ _ _ _ => false) (fun _ _ _ _ => false) () (fun _ _ _ _ => ()) y
noncomputable def same_nilp (y : V) : Bool := V.rec (motive_1 := fun _ => Bool) (motive_2 := fun _ => Unit)
  (false) (false) (false) (fun _ => false) (fun _ => false) (fun _ => false) (fun _ _ => false) (fun _ _ => false) (fun _ _ => false) (fun _ _ => false) (true) (fun _ _ _ _ _ _ => false) (false) (false) (fun _ => false) (false) (fun _ _ _ _ _ => false) (false) (fun _ _ => false) (fun _ _ => false) () (fun _ _ _ _ => ()) y
noncomputable def same_slc (y : V) : (Pth) → (Nat) → (Nat) → (Bool) → (Nat) → (Nat) → Bool := V.rec (motive_1 := fun _ => (Pth) → (Nat) → (Nat) → (Bool) → (Nat) → (Nat) → Bool) (motive_2 := fun _ => Unit)
  (fun _ _ _ _ _ _ => false) (fun _ _ _ _ _ _ => false) (fun _ _ _ _ _ _ => false) (fun _ _ _ _ _ _ _ => false) (fun _ _ _ _ _ _ _ => false) (fun _ _ _ _ _ _ _ => false) (fun _ _ _ _ _ _ _ _ => false) (fun _ _ _ _ _ _ _ _ => false) (fun _ _ _ _ _ _ _ _ => false) (fun _ _ _ _ _ _ _ _ => false) (fun _ _ _ _ _ _ => false) (fun id off n ex c es a0 a1 a2 a3 a4 a5 => Bool.rec false (Bool.rec false (Bool.rec false (Bool.rec false (Bool.rec false (Nat.beq a5 es) (Nat.beq a4 c)) (beqB a3 ex)) (Nat.beq a2 n)) (Nat.beq a1 off)) (beqP a0 id)) (fun _ _ _ _ _ _ => false) (fun _ _ _ _ _ _ => false) (fun _ _ _ _ _ _ _ => false) (fun _ _ _ _ _ _ => false) (fun _ _ _ _ _ _ _ _ _ _ _ => false) (fun _ _ _ _ _ _ => false) (fun _ _ _ _ _ _ _ _ => false) (fun _ _ _ _ _ _ _ _ => false) () (fun _ _ _ _ => ()) y
noncomputable def same_esl (y : V) : Bool := V.rec (motive_1 := fun _ => Bool) (motive_2 := fun _ => Unit)
  (false) (false) (false) (fun _ => false) (fun _ => false) (fun _ => false) (fun _ _ => false) (fun _ _ => false) (fun _ _ => false) (fun _ _ => false) (false) (fun _ _ _ _ _ _ => false) (true) (false) (fun _ => false) (false) (fun _ _ _ _ _ => false) (false) (fun _ _ => false) (fun _ _ => false) () (fun _ _ _ _ => ()) y
noncomputable def same_nils (y : V) : Bool := V.rec (motive_1 := fun _ => Bool) (motive_2 := fun _ => Unit)
  (false) (false) (false) (fun _ => false) (fun _ => false) (fun _ => false) (fun _ _ => false) (fun _ _ => false) (fun _ _ => false) (fun _ _ => false) (false) (fun _ _ _ _ _ _ => false) (false) (true) (fun _ => false) (false) (fun _ _ _ _ _ => false) (false) (fun _ _ => false) (fun _ _ => false) () (fun _ _ _ _ => ()) y
noncomputable def same_map (y : V) : (Pth) → Bool := V.rec (motive_1 := fun _ => (Pth) → Bool) (motive_2 := fun _ => Unit)
  (fun _ => false) (fun _ => false) (fun _ => false) (fun _ _ => false) (fun _ _ => false) (fun _ _ => false) (fun _ _ _ => false) (fun _ _ _ => false) (fun _ _ _ => false) (fun _ _ _ => false) (fun _ => false) (fun _ _ _ _ _ _ _ => false) (fun _ => false) (fun _ => false) (fun id a0 => beqP a0 id) (fun _ => false) (fun _ _ _ _ _ _ => false) (fun _ => false) (fun _ _ _ => false) (fun _ _ _ => false) () (fun _ _ _ _ => ()) y
noncomputable def same_nilm (y : V) : Bool := V.rec (motive_1 := fun _ => Bool) (motive_2 := fun _ => Unit)
  (false) (false) (false) (fun _ => false) (fun _ => false) (fun _ => false) (fun _ _ => false) (fun _ _ => false) (fun _ _ => false) (fun _ _ => false) (false) (fun _ _ _ _ _ _ => false) (false) (false) (fun _ => false) (true) (fun _ _ _ _ _ => false) (false) (fun _ _ => false) (fun _ _ => false) () (fun _ _ _ _ => ()) y
noncomputable def same_nilf (y : V) : Bool := V.rec (motive_1 := fun _ => Bool) (motive_2 := fun _ => Unit)
  (false) (false) (false) (fun _ => false) (fun _ => false) (fun _ => false) (fun _ _ => false) (fun _ _ => false) (fun _ _ => false) (fun _ _ => false) (false) (fun _ _ _ _ _ _ => false) (false) (false) (fun _ => false) (false) (fun _ _ _ _ _ => false) (true) (fun _ _ => false) (fun _ _ => false) () (fun _ _ _ _ => ()) y
noncomputable def same0 (x : V) : (V) → Bool := V.rec (motive_1 := fun _ => (V) → Bool) (motive_2 := fun _ => Unit)
  (fun _ => false) (fun y => same_tt y) (fun y => same_ff y) (fun n y => same_p y n) (fun n y => same_m y n) (fun n y => same_by y n) (fun kd n y => same_k y kd n) (fun lo n y => same_sym y lo n) (fun l s y => same_str y l s) (fun id off y => same_ptr y id off) (fun y => same_nilp y) (fun id off n ex c es y => same_slc y id off n ex c es) (fun y => same_esl y) (fun y => same_nils y) (fun id y => same_map y id) (fun y => same_nilm y) (fun _ _ _ _ _ _ => false) (fun y => same_nilf y) (fun _ _ _ => false) (fun _ _ _ => false) () (fun _ _ _ _ => ()) x
noncomputable def sameL (l : L) : L → Bool := List.rec (motive := fun _ => L → Bool) (fun r => List.rec true (fun _ _ _ => false) r)
  (fun a _ ih r => List.rec (motive := fun _ => V → (L → Bool) → Bool) (fun _ _ => false) (fun b r _ a ih => Bool.rec false (ih r) (same0 a b)) r a ih) l
noncomputable def sameA (y : V) : (L) → Bool := V.rec (motive_1 := fun _ => (L) → Bool) (motive_2 := fun _ => Unit)
  (fun _ => false) (fun _ => false) (fun _ => false) (fun _ _ => false) (fun _ _ => false) (fun _ _ => false) (fun _ _ _ => false) (fun _ _ _ => false) (fun _ _ _ => false) (fun _ _ _ => false) (fun _ => false) (fun _ _ _ _ _ _ _ => false) (fun _ => false) (fun _ => false) (fun _ _ => false) (fun _ => false) (fun _ _ _ _ _ _ => false) (fun _ => false) (fun l _ l0 => sameL l0 l) (fun _ _ _ => false) () (fun _ _ _ _ => ()) y
noncomputable def sameB (x : V) : (V) → Bool := V.rec (motive_1 := fun _ => (V) → Bool) (motive_2 := fun _ => Unit)
  (fun _ => false) (fun y => same_tt y) (fun y => same_ff y) (fun n y => same_p y n) (fun n y => same_m y n) (fun n y => same_by y n) (fun kd n y => same_k y kd n) (fun lo n y => same_sym y lo n) (fun l s y => same_str y l s) (fun id off y => same_ptr y id off) (fun y => same_nilp y) (fun id off n ex c es y => same_slc y id off n ex c es) (fun y => same_esl y) (fun y => same_nils y) (fun id y => same_map y id) (fun y => same_nilm y) (fun _ _ _ _ _ _ => false) (fun y => same_nilf y) (fun l _ y => sameA y l) (fun _ _ _ => false) () (fun _ _ _ _ => ()) x
noncomputable def sameK (x y : V) (r : RC) : RC := Bool.rec fl r (sameB x y)
noncomputable def notK (x : V) : (KV) → RC := V.rec (motive_1 := fun _ => (KV) → RC) (motive_2 := fun _ => Unit)
  (fun _ => fl) (fun k => k .ff) (fun k => k .tt) (fun _ _ => fl) (fun _ _ => fl) (fun _ _ => fl) (fun _ _ _ => fl) (fun _ _ _ => fl) (fun _ _ _ => fl) (fun _ _ _ => fl) (fun _ => fl) (fun _ _ _ _ _ _ _ => fl) (fun _ => fl) (fun _ => fl) (fun _ _ => fl) (fun _ => fl) (fun _ _ _ _ _ _ => fl) (fun _ => fl) (fun _ _ _ => fl) (fun _ _ _ => fl) () (fun _ _ _ _ => ()) x
noncomputable def negK (x : V) : (KV) → RC := V.rec (motive_1 := fun _ => (KV) → RC) (motive_2 := fun _ => Unit)
  (fun _ => fl) (fun _ => fl) (fun _ => fl) (fun n k => sb 0 n k) (fun n k => chkP (Nat.succ n) k) (fun _ _ => fl) (fun _ _ _ => fl) (fun _ _ _ => fl) (fun _ _ _ => fl) (fun _ _ _ => fl) (fun _ => fl) (fun _ _ _ _ _ _ _ => fl) (fun _ => fl) (fun _ => fl) (fun _ _ => fl) (fun _ => fl) (fun _ _ _ _ _ _ => fl) (fun _ => fl) (fun _ _ _ => fl) (fun _ _ _ => fl) () (fun _ _ _ _ => ()) x
noncomputable def nilcK (x : V) : (KV) → RC := V.rec (motive_1 := fun _ => (KV) → RC) (motive_2 := fun _ => Unit)
  (fun _ => fl) (fun _ => fl) (fun _ => fl) (fun _ _ => fl) (fun _ _ => fl) (fun _ _ => fl) (fun _ _ _ => fl) (fun _ _ _ => fl) (fun _ _ _ => fl) (fun id off k => k (.ptr id off)) (fun _ => fl) (fun _ _ _ _ _ _ _ => fl) (fun _ => fl) (fun _ => fl) (fun _ _ => fl) (fun _ => fl) (fun f a b _ _ k => k (.fn f a b)) (fun _ => fl) (fun _ _ _ => fl) (fun _ _ _ => fl) () (fun _ _ _ _ => ()) x
noncomputable def fadK (x : V) : (Nat) → (KV) → RC := V.rec (motive_1 := fun _ => (Nat) → (KV) → RC) (motive_2 := fun _ => Unit)
  (fun _ _ => fl) (fun _ _ => fl) (fun _ _ => fl) (fun _ _ _ => fl) (fun _ _ _ => fl) (fun _ _ _ => fl) (fun _ _ _ _ => fl) (fun _ _ _ _ => fl) (fun _ _ _ _ => fl) (fun id off o k => k (.ptr id (Nat.add off o))) (fun _ _ => fl) (fun _ _ _ _ _ _ _ _ => fl) (fun _ _ => fl) (fun _ _ => fl) (fun _ _ _ => fl) (fun _ _ => fl) (fun _ _ _ _ _ _ _ => fl) (fun _ _ => fl) (fun _ _ _ _ => fl) (fun _ _ _ _ => fl) () (fun _ _ _ _ => ()) x
noncomputable def pickK (x : V) : (V) → (V) → (KV) → RC := V.rec (motive_1 := fun _ => (V) → (V) → (KV) → RC) (motive_2 := fun _ => Unit)
  (fun _ _ _ => fl) (fun a0 _ k => k a0) (fun _ b0 k => k b0) (fun _ _ _ _ => fl) (fun _ _ _ _ => fl) (fun _ _ _ _ => fl) (fun _ _ _ _ _ => fl) (fun _ _ _ _ _ => fl) (fun _ _ _ _ _ => fl) (fun _ _ _ _ _ => fl) (fun _ _ _ => fl) (fun _ _ _ _ _ _ _ _ _ => fl) (fun _ _ _ => fl) (fun _ _ _ => fl) (fun _ _ _ _ => fl) (fun _ _ _ => fl) (fun _ _ _ _ _ _ _ _ => fl) (fun _ _ _ => fl) (fun _ _ _ _ _ => fl) (fun _ _ _ _ _ => fl) () (fun _ _ _ _ => ()) x
noncomputable def condK (x : V) : (RC) → (RC) → RC := V.rec (motive_1 := fun _ => (RC) → (RC) → RC) (motive_2 := fun _ => Unit)
  (fun _ _ => fl) (fun a0 _ => a0) (fun _ b0 => b0) (fun _ _ _ => fl) (fun _ _ _ => fl) (fun _ _ _ => fl) (fun _ _ _ _ => fl) (fun _ _ _ _ => fl) (fun _ _ _ _ => fl) (fun _ _ _ _ => fl) (fun _ _ => fl) (fun _ _ _ _ _ _ _ _ => fl) (fun _ _ => fl) (fun _ _ => fl) (fun _ _ _ => fl) (fun _ _ => fl) (fun _ _ _ _ _ _ _ => fl) (fun _ _ => fl) (fun _ _ _ _ => fl) (fun _ _ _ _ => fl) () (fun _ _ _ _ => ()) x
noncomputable def guardK (x : V) : (Bool) → (RC) → (RC) → RC := V.rec (motive_1 := fun _ => (Bool) → (RC) → (RC) → RC) (motive_2 := fun _ => Unit)
  (fun _ _ _ => fl) (fun w a0 b0 => Bool.rec b0 a0 w) (fun w a0 b0 => Bool.rec a0 b0 w) (fun _ _ _ b0 => b0) (fun _ _ _ b0 => b0) (fun _ _ _ b0 => b0) (fun _ _ _ _ b0 => b0) (fun _ _ _ _ b0 => b0) (fun _ _ _ _ b0 => b0) (fun _ _ _ _ b0 => b0) (fun _ _ b0 => b0) (fun _ _ _ _ _ _ _ _ b0 => b0) (fun _ _ b0 => b0) (fun _ _ b0 => b0) (fun _ _ _ b0 => b0) (fun _ _ b0 => b0) (fun _ _ _ _ _ _ _ b0 => b0) (fun _ _ b0 => b0) (fun _ _ _ _ b0 => b0) (fun _ _ _ _ b0 => b0) () (fun _ _ _ _ => ()) x
noncomputable def okK (x : V) : (KV) → RC := V.rec (motive_1 := fun _ => (KV) → RC) (motive_2 := fun _ => Unit)
  (fun _ => fl) (fun k => k .tt) (fun k => k .ff) (fun n k => k (.p n)) (fun n k => k (.m n)) (fun n k => k (.by n)) (fun kd n k => k (.k kd n)) (fun lo n k => k (.sym lo n)) (fun l s k => k (.str l s)) (fun id off k => k (.ptr id off)) (fun k => k .nilp) (fun id off n ex c es k => k (.slc id off n ex c es)) (fun k => k .esl) (fun k => k .nils) (fun id k => k (.map id)) (fun k => k .nilm) (fun f a b _ _ k => k (.fn f a b)) (fun k => k .nilf) (fun l _ k => k (.agg l)) (fun l _ k => k (.tup l)) () (fun _ _ _ _ => ()) x
/-! memory -/
noncomputable def rdObj (o : AObj) : Nat → V := AObj.rec (motive := fun _ => Nat → V) (fun _ => .bad) (fun l off => nth off l) (fun d t n z off => Bool.rec .bad (nget z d t off) (Nat.ble (Nat.succ off) n)) (fun _ _ _ => .bad) (fun _ _ _ _ => .bad) (fun _ _ => .bad) (fun _ _ => .bad) o
noncomputable def rdMany (o : AObj) : Nat → Nat → L := AObj.rec (motive := fun _ => Nat → Nat → L) (fun _ _ => []) (fun l off n => takeL n (dropL off l)) (fun d t m z off n => Bool.rec [] (getMany z d t n off) (Nat.ble (Nat.add off n) m)) (fun _ _ _ _ => []) (fun _ _ _ _ _ => []) (fun _ _ _ => []) (fun _ _ _ => []) o
noncomputable def wrObj (o : AObj) : Nat → L → (AObj → RC) → RC := AObj.rec (motive := fun _ => Nat → L → (AObj → RC) → RC) (fun _ _ _ => fl)
  (fun l' off l k => Bool.rec fl (k (.row (lsetMany l off l'))) (Nat.ble (Nat.add off (len l)) (len l')))
  (fun d t n z off l k => Bool.rec fl (k (.vec d (setMany d l off t) n z)) (Nat.ble (Nat.add off (len l)) n)) (fun _ _ _ _ _ => fl) (fun _ _ _ _ _ _ => fl) (fun _ _ _ _ => fl) (fun _ _ _ _ => fl) o
noncomputable def mkVec (l : L) : AObj := (fun n => .vec (depthOf n) (setMany (depthOf n) l 0 .mt) n .bad) (len l)
noncomputable def St.get (s : St) (id : Pth) : AObj := pget .none id s.rows
noncomputable def St.set (s : St) (id : Pth) (o : AObj) : St := ⟨pset .none id o s.rows, s.next⟩
noncomputable def St.push (s : St) (o : AObj) : St := ⟨pset .none s.next o s.rows, inc s.next⟩
noncomputable def cellsK (x : V) : (L → RC) → RC := V.rec (motive_1 := fun _ => (L → RC) → RC) (motive_2 := fun _ => Unit)
  (fun _ => fl) (fun k => k [.tt]) (fun k => k [.ff]) (fun n k => k [.p n]) (fun n k => k [.m n]) (fun n k => k [.by n]) (fun kd n k => k [.k kd n]) (fun lo n k => k [.sym lo n]) (fun l s k => k [.str l s]) (fun id off k => k [.ptr id off]) (fun k => k [.nilp]) (fun id off n ex c es k => k [.slc id off n ex c es]) (fun k => k [.esl]) (fun k => k [.nils]) (fun id k => k [.map id]) (fun k => k [.nilm]) (fun f a b _ _ k => k [.fn f a b]) (fun k => k [.nilf]) (fun l _ k => k l) (fun _ _ _ => fl) () (fun _ _ _ _ => ()) x
noncomputable def ldK (x : V) : (St) → (KV) → RC := V.rec (motive_1 := fun _ => (St) → (KV) → RC) (motive_2 := fun _ => Unit)
  (fun _ _ => fl) (fun _ _ => fl) (fun _ _ => fl) (fun _ _ _ => fl) (fun _ _ _ => fl) (fun _ _ _ => fl) (fun _ _ _ _ => fl) (fun _ _ _ _ => fl) (fun _ _ _ _ => fl) (fun id off s k => okK (rdObj (s.get id) off) k) (fun _ _ => fl) (fun _ _ _ _ _ _ _ _ => fl) (fun _ _ => fl) (fun _ _ => fl) (fun _ _ _ => fl) (fun _ _ => fl) (fun _ _ _ _ _ _ _ => fl) (fun _ _ => fl) (fun _ _ _ _ => fl) (fun _ _ _ _ => fl) () (fun _ _ _ _ => ()) x
noncomputable def ldAK (x : V) : (Nat) → (St) → (KV) → RC := V.rec (motive_1 := fun _ => (Nat) → (St) → (KV) → RC) (motive_2 := fun _ => Unit)
  (fun _ _ _ => fl) (fun _ _ _ => fl) (fun _ _ _ => fl) (fun _ _ _ _ => fl) (fun _ _ _ _ => fl) (fun _ _ _ _ => fl) (fun _ _ _ _ _ => fl) (fun _ _ _ _ _ => fl) (fun _ _ _ _ _ => fl) (fun id off c0 s k => (fun l => Bool.rec fl (k (.agg l)) (Nat.beq (len l) c0)) (rdMany (s.get id) off c0)) (fun _ _ _ => fl) (fun _ _ _ _ _ _ _ _ _ => fl) (fun _ _ _ => fl) (fun _ _ _ => fl) (fun _ _ _ _ => fl) (fun _ _ _ => fl) (fun _ _ _ _ _ _ _ _ => fl) (fun _ _ _ => fl) (fun _ _ _ _ _ => fl) (fun _ _ _ _ _ => fl) () (fun _ _ _ _ => ()) x
noncomputable def stK (x : V) : (Nat) → (V) → (St) → (K) → RC := V.rec (motive_1 := fun _ => (Nat) → (V) → (St) → (K) → RC) (motive_2 := fun _ => Unit)
  (fun _ _ _ _ => fl) (fun _ _ _ _ => fl) (fun _ _ _ _ => fl) (fun _ _ _ _ _ => fl) (fun _ _ _ _ _ => fl) (fun _ _ _ _ _ => fl) (fun _ _ _ _ _ _ => fl) (fun _ _ _ _ _ _ => fl) (fun _ _ _ _ _ _ => fl) (fun id off c0 v s k => cellsK v (fun l => Bool.rec fl (wrObj (s.get id) off l (fun o => k (.tup []) (s.set id o))) (Nat.beq (len l) c0))) (fun _ _ _ _ => fl) (fun _ _ _ _ _ _ _ _ _ _ => fl) (fun _ _ _ _ => fl) (fun _ _ _ _ => fl) (fun _ _ _ _ _ => fl) (fun _ _ _ _ => fl) (fun _ _ _ _ _ _ _ _ _ => fl) (fun _ _ _ _ => fl) (fun _ _ _ _ _ _ => fl) (fun _ _ _ _ _ _ => fl) () (fun _ _ _ _ => ()) x
noncomputable def fldK (x : V) : (Nat) → (KV) → RC := V.rec (motive_1 := fun _ => (Nat) → (KV) → RC) (motive_2 := fun _ => Unit)
  (fun _ _ => fl) (fun _ _ => fl) (fun _ _ => fl) (fun _ _ _ => fl) (fun _ _ _ => fl) (fun _ _ _ => fl) (fun _ _ _ _ => fl) (fun _ _ _ _ => fl) (fun _ _ _ _ => fl) (fun _ _ _ _ => fl) (fun _ _ => fl) (fun _ _ _ _ _ _ _ _ => fl) (fun _ _ => fl) (fun _ _ => fl) (fun _ _ _ => fl) (fun _ _ => fl) (fun _ _ _ _ _ _ _ => fl) (fun _ _ => fl) (fun l _ off k => okK (nth off l) k) (fun _ _ _ _ => fl) () (fun _ _ _ _ => ()) x
noncomputable def fldAK (x : V) : (Nat) → (Nat) → (KV) → RC := V.rec (motive_1 := fun _ => (Nat) → (Nat) → (KV) → RC) (motive_2 := fun _ => Unit)
  (fun _ _ _ => fl) (fun _ _ _ => fl) (fun _ _ _ => fl) (fun _ _ _ _ => fl) (fun _ _ _ _ => fl) (fun _ _ _ _ => fl) (fun _ _ _ _ _ => fl) (fun _ _ _ _ _ => fl) (fun _ _ _ _ _ => fl) (fun _ _ _ _ _ => fl) (fun _ _ _ => fl) (fun _ _ _ _ _ _ _ _ _ => fl) (fun _ _ _ => fl) (fun _ _ _ => fl) (fun _ _ _ _ => fl) (fun _ _ _ => fl) (fun _ _ _ _ _ _ _ _ => fl) (fun _ _ _ => fl) (fun l _ off n0 k => Bool.rec fl (k (.agg (takeL n0 (dropL off l)))) (Nat.ble (Nat.add off n0) (len l))) (fun _ _ _ _ _ => fl) () (fun _ _ _ _ => ()) x
noncomputable def iadK_i (i : V) : (Nat) → (Pth) → (Nat) → (Nat) → (KV) → RC := V.rec (motive_1 := fun _ => (Nat) → (Pth) → (Nat) → (Nat) → (KV) → RC) (motive_2 := fun _ => Unit)
  (fun _ _ _ _ _ => fl) (fun _ _ _ _ _ => fl) (fun _ _ _ _ _ => fl) (fun n sz id0 off0 len0 k => Bool.rec fl (k (.ptr id0 (Nat.add off0 (Nat.mul n sz)))) (Nat.ble (Nat.succ n) len0)) (fun _ _ _ _ _ _ => fl) (fun _ _ _ _ _ _ => fl) (fun _ _ _ _ _ _ _ => fl) (fun _ _ _ _ _ _ _ => fl) (fun _ _ _ _ _ _ _ => fl) (fun _ _ _ _ _ _ _ => fl) (fun _ _ _ _ _ => fl) (fun _ _ _ _ _ _ _ _ _ _ _ => fl) (fun _ _ _ _ _ => fl) (fun _ _ _ _ _ => fl) (fun _ _ _ _ _ _ => fl) (fun _ _ _ _ _ => fl) (fun _ _ _ _ _ _ _ _ _ _ => fl) (fun _ _ _ _ _ => fl) (fun _ _ _ _ _ _ _ => fl) (fun _ _ _ _ _ _ _ => fl) () (fun _ _ _ _ => ()) i
noncomputable def iadK (x : V) : (V) → (Nat) → (KV) → RC := V.rec (motive_1 := fun _ => (V) → (Nat) → (KV) → RC) (motive_2 := fun _ => Unit)
  (fun _ _ _ => fl) (fun _ _ _ => fl) (fun _ _ _ => fl) (fun _ _ _ _ => fl) (fun _ _ _ _ => fl) (fun _ _ _ _ => fl) (fun _ _ _ _ _ => fl) (fun _ _ _ _ _ => fl) (fun _ _ _ _ _ => fl) (fun _ _ _ _ _ => fl) (fun _ _ _ => fl) (fun id off n _ _ _ i sz k => iadK_i i sz id off n k) (fun _ _ _ => fl) (fun _ _ _ => fl) (fun _ _ _ _ => fl) (fun _ _ _ => fl) (fun _ _ _ _ _ _ _ _ => fl) (fun _ _ _ => fl) (fun _ _ _ _ _ => fl) (fun _ _ _ _ _ => fl) () (fun _ _ _ _ => ()) x
noncomputable def iadAK_i (i : V) : (Nat) → (Pth) → (Nat) → (Nat) → (KV) → RC := V.rec (motive_1 := fun _ => (Nat) → (Pth) → (Nat) → (Nat) → (KV) → RC) (motive_2 := fun _ => Unit)
  (fun _ _ _ _ _ => fl) (fun _ _ _ _ _ => fl) (fun _ _ _ _ _ => fl) (fun n sz id0 off0 len0 k => Bool.rec fl (k (.ptr id0 (Nat.add off0 (Nat.mul n sz)))) (Nat.ble (Nat.succ n) len0)) (fun _ _ _ _ _ _ => fl) (fun _ _ _ _ _ _ => fl) (fun _ n sz id0 off0 len0 k => Bool.rec fl (k (.ptr id0 (Nat.add off0 (Nat.mul n sz)))) (Nat.ble (Nat.succ n) len0)) (fun _ _ _ _ _ _ _ => fl) (fun _ _ _ _ _ _ _ => fl) (fun _ _ _ _ _ _ _ => fl) (fun _ _ _ _ _ => fl) (fun _ _ _ _ _ _ _ _ _ _ _ => fl) (fun _ _ _ _ _ => fl) (fun _ _ _ _ _ => fl) (fun _ _ _ _ _ _ => fl) (fun _ _ _ _ _ => fl) (fun _ _ _ _ _ _ _ _ _ _ => fl) (fun _ _ _ _ _ => fl) (fun _ _ _ _ _ _ _ => fl) (fun _ _ _ _ _ _ _ => fl) () (fun _ _ _ _ => ()) i
noncomputable def iadAK (x : V) : (V) → (Nat) → (Nat) → (KV) → RC := V.rec (motive_1 := fun _ => (V) → (Nat) → (Nat) → (KV) → RC) (motive_2 := fun _ => Unit)
  (fun _ _ _ _ => fl) (fun _ _ _ _ => fl) (fun _ _ _ _ => fl) (fun _ _ _ _ _ => fl) (fun _ _ _ _ _ => fl) (fun _ _ _ _ _ => fl) (fun _ _ _ _ _ _ => fl) (fun _ _ _ _ _ _ => fl) (fun _ _ _ _ _ _ => fl) (fun id off i sz len0 k => iadAK_i i sz id off len0 k) (fun _ _ _ _ => fl) (fun _ _ _ _ _ _ _ _ _ _ => fl) (fun _ _ _ _ => fl) (fun _ _ _ _ => fl) (fun _ _ _ _ _ => fl) (fun _ _ _ _ => fl) (fun _ _ _ _ _ _ _ _ _ => fl) (fun _ _ _ _ => fl) (fun _ _ _ _ _ _ => fl) (fun _ _ _ _ _ _ => fl) () (fun _ _ _ _ => ()) x
noncomputable def idxK_i (i : V) : (Nat) → (Nat) → (KV) → RC := V.rec (motive_1 := fun _ => (Nat) → (Nat) → (KV) → RC) (motive_2 := fun _ => Unit)
  (fun _ _ _ => fl) (fun _ _ _ => fl) (fun _ _ _ => fl) (fun n l0 s0 k => Bool.rec fl (k (.by (Nat.mod (Nat.shiftRight s0 (Nat.mul 8 n)) 256))) (Nat.ble (Nat.succ n) l0)) (fun _ _ _ _ => fl) (fun _ _ _ _ => fl) (fun _ _ _ _ _ => fl) (fun _ _ _ _ _ => fl) (fun _ _ _ _ _ => fl) (fun _ _ _ _ _ => fl) (fun _ _ _ => fl) (fun _ _ _ _ _ _ _ _ _ => fl) (fun _ _ _ => fl) (fun _ _ _ => fl) (fun _ _ _ _ => fl) (fun _ _ _ => fl) (fun _ _ _ _ _ _ _ _ => fl) (fun _ _ _ => fl) (fun _ _ _ _ _ => fl) (fun _ _ _ _ _ => fl) () (fun _ _ _ _ => ()) i
noncomputable def idxK (x : V) : (V) → (KV) → RC := V.rec (motive_1 := fun _ => (V) → (KV) → RC) (motive_2 := fun _ => Unit)
  (fun _ _ => fl) (fun _ _ => fl) (fun _ _ => fl) (fun _ _ _ => fl) (fun _ _ _ => fl) (fun _ _ _ => fl) (fun _ _ _ _ => fl) (fun _ _ _ _ => fl) (fun l s i k => idxK_i i l s k) (fun _ _ _ _ => fl) (fun _ _ => fl) (fun _ _ _ _ _ _ _ _ => fl) (fun _ _ => fl) (fun _ _ => fl) (fun _ _ _ => fl) (fun _ _ => fl) (fun _ _ _ _ _ _ _ => fl) (fun _ _ => fl) (fun _ _ _ _ => fl) (fun _ _ _ _ => fl) () (fun _ _ _ _ => ()) x
noncomputable def extK (x : V) : (Nat) → (KV) → RC := V.rec (motive_1 := fun _ => (Nat) → (KV) → RC) (motive_2 := fun _ => Unit)
  (fun _ _ => fl) (fun _ _ => fl) (fun _ _ => fl) (fun _ _ _ => fl) (fun _ _ _ => fl) (fun _ _ _ => fl) (fun _ _ _ _ => fl) (fun _ _ _ _ => fl) (fun _ _ _ _ => fl) (fun _ _ _ _ => fl) (fun _ _ => fl) (fun _ _ _ _ _ _ _ _ => fl) (fun _ _ => fl) (fun _ _ => fl) (fun _ _ _ => fl) (fun _ _ => fl) (fun _ _ _ _ _ _ _ => fl) (fun _ _ => fl) (fun _ _ _ _ => fl) (fun l _ j k => okK (nth j l) k) () (fun _ _ _ _ => ()) x
noncomputable def mapK {α : Type} (d : α) (o : AObj) : (List Ent → Nat → α) → α := AObj.rec (motive := fun _ => (List Ent → Nat → α) → α) (fun _ => d) (fun _ _ => d) (fun _ _ _ _ _ => d) (fun l c k => k l c) (fun _ _ _ _ => d) (fun _ _ => d) (fun _ _ => d) o
noncomputable def lenSK (x : V) : (KV) → RC := V.rec (motive_1 := fun _ => (KV) → RC) (motive_2 := fun _ => Unit)
  (fun _ => fl) (fun _ => fl) (fun _ => fl) (fun _ _ => fl) (fun _ _ => fl) (fun _ _ => fl) (fun _ _ _ => fl) (fun _ _ _ => fl) (fun l _ k => k (.p l)) (fun _ _ _ => fl) (fun _ => fl) (fun _ _ _ _ _ _ _ => fl) (fun _ => fl) (fun _ => fl) (fun _ _ => fl) (fun _ => fl) (fun _ _ _ _ _ _ => fl) (fun _ => fl) (fun _ _ _ => fl) (fun _ _ _ => fl) () (fun _ _ _ _ => ()) x
noncomputable def lenLK (x : V) : (KV) → RC := V.rec (motive_1 := fun _ => (KV) → RC) (motive_2 := fun _ => Unit)
  (fun _ => fl) (fun _ => fl) (fun _ => fl) (fun _ _ => fl) (fun _ _ => fl) (fun _ _ => fl) (fun _ _ _ => fl) (fun _ _ _ => fl) (fun _ _ _ => fl) (fun _ _ _ => fl) (fun _ => fl) (fun _ _ n _ _ _ k => k (.p n)) (fun k => k (.p 0)) (fun k => k (.p 0)) (fun _ _ => fl) (fun _ => fl) (fun _ _ _ _ _ _ => fl) (fun _ => fl) (fun _ _ _ => fl) (fun _ _ _ => fl) () (fun _ _ _ _ => ()) x
noncomputable def lenMK (x : V) : (St) → (KV) → RC := V.rec (motive_1 := fun _ => (St) → (KV) → RC) (motive_2 := fun _ => Unit)
  (fun _ _ => fl) (fun _ _ => fl) (fun _ _ => fl) (fun _ _ _ => fl) (fun _ _ _ => fl) (fun _ _ _ => fl) (fun _ _ _ _ => fl) (fun _ _ _ _ => fl) (fun _ _ _ _ => fl) (fun _ _ _ _ => fl) (fun _ _ => fl) (fun _ _ _ _ _ _ _ _ => fl) (fun _ _ => fl) (fun _ _ => fl) (fun id s0 k => mapK fl (s0.get id) (fun l _ => chkP (mlen l) k)) (fun _ k => k (.p 0)) (fun _ _ _ _ _ _ _ => fl) (fun _ _ => fl) (fun _ _ _ _ => fl) (fun _ _ _ _ => fl) () (fun _ _ _ _ => ()) x
noncomputable def minK_p (y : V) : (Nat) → (KV) → RC := V.rec (motive_1 := fun _ => (Nat) → (KV) → RC) (motive_2 := fun _ => Unit)
  (fun _ _ => fl) (fun _ _ => fl) (fun _ _ => fl) (fun n a0 k => Bool.rec (k (.p a0)) (k (.p n)) (Nat.ble n a0)) (fun _ _ _ => fl) (fun _ _ _ => fl) (fun _ _ _ _ => fl) (fun _ _ _ _ => fl) (fun _ _ _ _ => fl) (fun _ _ _ _ => fl) (fun _ _ => fl) (fun _ _ _ _ _ _ _ _ => fl) (fun _ _ => fl) (fun _ _ => fl) (fun _ _ _ => fl) (fun _ _ => fl) (fun _ _ _ _ _ _ _ => fl) (fun _ _ => fl) (fun _ _ _ _ => fl) (fun _ _ _ _ => fl) () (fun _ _ _ _ => ()) y
noncomputable def minK (x : V) : (V) → (KV) → RC := V.rec (motive_1 := fun _ => (V) → (KV) → RC) (motive_2 := fun _ => Unit)
  (fun _ _ => fl) (fun _ _ => fl) (fun _ _ => fl) (fun n y k => minK_p y n k) (fun _ _ _ => fl) (fun _ _ _ => fl) (fun _ _ _ _ => fl) (fun _ _ _ _ => fl) (fun _ _ _ _ => fl) (fun _ _ _ _ => fl) (fun _ _ => fl) (fun _ _ _ _ _ _ _ _ => fl) (fun _ _ => fl) (fun _ _ => fl) (fun _ _ _ => fl) (fun _ _ => fl) (fun _ _ _ _ _ _ _ => fl) (fun _ _ => fl) (fun _ _ _ _ => fl) (fun _ _ _ _ => fl) () (fun _ _ _ _ => ()) x
noncomputable def keyI_p (y : V) : (Nat) → (RC) → (RC) → RC := V.rec (motive_1 := fun _ => (Nat) → (RC) → (RC) → RC) (motive_2 := fun _ => Unit)
  (fun _ _ _ => fl) (fun _ _ _ => fl) (fun _ _ _ => fl) (fun n n0 a0 b0 => Bool.rec b0 a0 (Nat.beq n0 n)) (fun _ _ _ b0 => b0) (fun _ _ _ _ => fl) (fun _ _ _ _ _ => fl) (fun _ _ _ _ _ => fl) (fun _ _ _ _ _ => fl) (fun _ _ _ _ _ => fl) (fun _ _ _ => fl) (fun _ _ _ _ _ _ _ _ _ => fl) (fun _ _ _ => fl) (fun _ _ _ => fl) (fun _ _ _ _ => fl) (fun _ _ _ => fl) (fun _ _ _ _ _ _ _ _ => fl) (fun _ _ _ => fl) (fun _ _ _ _ _ => fl) (fun _ _ _ _ _ => fl) () (fun _ _ _ _ => ()) y
noncomputable def keyI_m (y : V) : (Nat) → (RC) → (RC) → RC := V.rec (motive_1 := fun _ => (Nat) → (RC) → (RC) → RC) (motive_2 := fun _ => Unit)
  (fun _ _ _ => fl) (fun _ _ _ => fl) (fun _ _ _ => fl) (fun _ _ _ b0 => b0) (fun n n0 a0 b0 => Bool.rec b0 a0 (Nat.beq n0 n)) (fun _ _ _ _ => fl) (fun _ _ _ _ _ => fl) (fun _ _ _ _ _ => fl) (fun _ _ _ _ _ => fl) (fun _ _ _ _ _ => fl) (fun _ _ _ => fl) (fun _ _ _ _ _ _ _ _ _ => fl) (fun _ _ _ => fl) (fun _ _ _ => fl) (fun _ _ _ _ => fl) (fun _ _ _ => fl) (fun _ _ _ _ _ _ _ _ => fl) (fun _ _ _ => fl) (fun _ _ _ _ _ => fl) (fun _ _ _ _ _ => fl) () (fun _ _ _ _ => ()) y
noncomputable def keyI (x : V) : (V) → (RC) → (RC) → RC := V.rec (motive_1 := fun _ => (V) → (RC) → (RC) → RC) (motive_2 := fun _ => Unit)
  (fun _ _ _ => fl) (fun _ _ _ => fl) (fun _ _ _ => fl) (fun n y a0 b0 => keyI_p y n a0 b0) (fun n y a0 b0 => keyI_m y n a0 b0) (fun _ _ _ _ => fl) (fun _ _ _ _ _ => fl) (fun _ _ _ _ _ => fl) (fun _ _ _ _ _ => fl) (fun _ _ _ _ _ => fl) (fun _ _ _ => fl) (fun _ _ _ _ _ _ _ _ _ => fl) (fun _ _ _ => fl) (fun _ _ _ => fl) (fun _ _ _ _ => fl) (fun _ _ _ => fl) (fun _ _ _ _ _ _ _ _ => fl) (fun _ _ _ => fl) (fun _ _ _ _ _ => fl) (fun _ _ _ _ _ => fl) () (fun _ _ _ _ => ()) x
noncomputable def keyS_str (y : V) : (Nat) → (Nat) → (RC) → (RC) → RC := V.rec (motive_1 := fun _ => (Nat) → (Nat) → (RC) → (RC) → RC) (motive_2 := fun _ => Unit)
  (fun _ _ _ _ => fl) (fun _ _ _ _ => fl) (fun _ _ _ _ => fl) (fun _ _ _ _ _ => fl) (fun _ _ _ _ _ => fl) (fun _ _ _ _ _ => fl) (fun _ _ _ _ _ _ => fl) (fun _ _ _ _ _ _ => fl) (fun l s l0 s0 a0 b0 => Bool.rec b0 (Bool.rec b0 a0 (Nat.beq s0 s)) (Nat.beq l0 l)) (fun _ _ _ _ _ _ => fl) (fun _ _ _ _ => fl) (fun _ _ _ _ _ _ _ _ _ _ => fl) (fun _ _ _ _ => fl) (fun _ _ _ _ => fl) (fun _ _ _ _ _ => fl) (fun _ _ _ _ => fl) (fun _ _ _ _ _ _ _ _ _ => fl) (fun _ _ _ _ => fl) (fun _ _ _ _ _ _ => fl) (fun _ _ _ _ _ _ => fl) () (fun _ _ _ _ => ()) y
noncomputable def keyS (x : V) : (V) → (RC) → (RC) → RC := V.rec (motive_1 := fun _ => (V) → (RC) → (RC) → RC) (motive_2 := fun _ => Unit)
  (fun _ _ _ => fl) (fun _ _ _ => fl) (fun _ _ _ => fl) (fun _ _ _ _ => fl) (fun _ _ _ _ => fl) (fun _ _ _ _ => fl) (fun _ _ _ _ _ => fl) (fun _ _ _ _ _ => fl) (fun l s y a0 b0 => keyS_str y l s a0 b0) (fun _ _ _ _ _ => fl) (fun _ _ _ => fl) (fun _ _ _ _ _ _ _ _ _ => fl) (fun _ _ _ => fl) (fun _ _ _ => fl) (fun _ _ _ _ => fl) (fun _ _ _ => fl) (fun _ _ _ _ _ _ _ _ => fl) (fun _ _ _ => fl) (fun _ _ _ _ _ => fl) (fun _ _ _ _ _ => fl) () (fun _ _ _ _ => ()) x
abbrev KF := V → V → RC → RC → RC
noncomputable def mfind (kf : KF) (d : RC) (f : Ent → RC) (k : V) (l : List Ent) : RC := List.rec d (fun p _ ih => kf p.key k (f p) ih) l
noncomputable def mpush (e : Ent) (l : List Ent) : List Ent := List.rec [e] (fun p _ ih => p :: ih) l
noncomputable def mstamp (b : Nat) (v : V) (l : List Ent) : List Ent := List.rec [] (fun p r ih => Bool.rec (p :: ih) (⟨p.key, v, p.born⟩ :: r) (Nat.beq p.born b)) l
noncomputable def mhasb (b : Nat) (l : List Ent) : Bool := List.rec false (fun p _ ih => Bool.rec ih true (Nat.beq p.born b)) l
noncomputable def lkres (ok : Bool) (k : KV) (v : V) (b : V) : RC := Bool.rec (k v) (k (.tup [v, b])) ok
noncomputable def mstK_b (b : V) : (AObj) → (Pth) → (V) → (St) → (K) → RC := V.rec (motive_1 := fun _ => (AObj) → (Pth) → (V) → (St) → (K) → RC) (motive_2 := fun _ => Unit)
  (fun _ _ _ _ _ => fl) (fun _ _ _ _ _ => fl) (fun _ _ _ _ _ => fl) (fun n o id0 v0 s k => mapK fl o (fun l c => Bool.rec fl (k (.tup []) (s.set id0 (.map (mstamp n v0 l) c))) (mhasb n l))) (fun _ _ _ _ _ _ => fl) (fun _ _ _ _ _ _ => fl) (fun _ _ _ _ _ _ _ => fl) (fun _ _ _ _ _ _ _ => fl) (fun _ _ _ _ _ _ _ => fl) (fun _ _ _ _ _ _ _ => fl) (fun _ _ _ _ _ => fl) (fun _ _ _ _ _ _ _ _ _ _ _ => fl) (fun _ _ _ _ _ => fl) (fun _ _ _ _ _ => fl) (fun _ _ _ _ _ _ => fl) (fun _ _ _ _ _ => fl) (fun _ _ _ _ _ _ _ _ _ _ => fl) (fun _ _ _ _ _ => fl) (fun _ _ _ _ _ _ _ => fl) (fun _ _ _ _ _ _ _ => fl) () (fun _ _ _ _ => ()) b
noncomputable def mstK (x : V) : (V) → (V) → (St) → (K) → RC := V.rec (motive_1 := fun _ => (V) → (V) → (St) → (K) → RC) (motive_2 := fun _ => Unit)
  (fun _ _ _ _ => fl) (fun _ _ _ _ => fl) (fun _ _ _ _ => fl) (fun _ _ _ _ _ => fl) (fun _ _ _ _ _ => fl) (fun _ _ _ _ _ => fl) (fun _ _ _ _ _ _ => fl) (fun _ _ _ _ _ _ => fl) (fun _ _ _ _ _ _ => fl) (fun _ _ _ _ _ _ => fl) (fun _ _ _ _ => fl) (fun _ _ _ _ _ _ _ _ _ _ => fl) (fun _ _ _ _ => fl) (fun _ _ _ _ => fl) (fun id b v0 s k => mstK_b b (s.get id) id v0 s k) (fun _ _ _ _ => fl) (fun _ _ _ _ _ _ _ _ _ => fl) (fun _ _ _ _ => fl) (fun _ _ _ _ _ _ => fl) (fun _ _ _ _ _ _ => fl) () (fun _ _ _ _ => ()) x
noncomputable def lookK (x : V) : (KF) → (V) → (Bool) → (V) → (St) → (KV) → RC := V.rec (motive_1 := fun _ => (KF) → (V) → (Bool) → (V) → (St) → (KV) → RC) (motive_2 := fun _ => Unit)
  (fun _ _ _ _ _ _ => fl) (fun _ _ _ _ _ _ => fl) (fun _ _ _ _ _ _ => fl) (fun _ _ _ _ _ _ _ => fl) (fun _ _ _ _ _ _ _ => fl) (fun _ _ _ _ _ _ _ => fl) (fun _ _ _ _ _ _ _ _ => fl) (fun _ _ _ _ _ _ _ _ => fl) (fun _ _ _ _ _ _ _ _ => fl) (fun _ _ _ _ _ _ _ _ => fl) (fun _ _ _ _ _ _ => fl) (fun _ _ _ _ _ _ _ _ _ _ _ _ => fl) (fun _ _ _ _ _ _ => fl) (fun _ _ _ _ _ _ => fl) (fun id kf z ok key s k => mapK fl (s.get id) (fun l _ => mfind kf (lkres ok k z .ff) (fun p => lkres ok k p.val .tt) key l)) (fun _ z ok _ _ k => lkres ok k z .ff) (fun _ _ _ _ _ _ _ _ _ _ _ => fl) (fun _ _ _ _ _ _ => fl) (fun _ _ _ _ _ _ _ _ => fl) (fun _ _ _ _ _ _ _ _ => fl) () (fun _ _ _ _ => ()) x
noncomputable def mupdK (x : V) : (KF) → (V) → (V) → (St) → (K) → RC := V.rec (motive_1 := fun _ => (KF) → (V) → (V) → (St) → (K) → RC) (motive_2 := fun _ => Unit)
  (fun _ _ _ _ _ => fl) (fun _ _ _ _ _ => fl) (fun _ _ _ _ _ => fl) (fun _ _ _ _ _ _ => fl) (fun _ _ _ _ _ _ => fl) (fun _ _ _ _ _ _ => fl) (fun _ _ _ _ _ _ _ => fl) (fun _ _ _ _ _ _ _ => fl) (fun _ _ _ _ _ _ _ => fl) (fun _ _ _ _ _ _ _ => fl) (fun _ _ _ _ _ => fl) (fun _ _ _ _ _ _ _ _ _ _ _ => fl) (fun _ _ _ _ _ => fl) (fun _ _ _ _ _ => fl) (fun id kf key v s k => mapK fl (s.get id) (fun l c => mfind kf (k (.tup []) (s.set id (.map (mpush ⟨key, v, c⟩ l) (Nat.succ c)))) (fun p => k (.tup []) (s.set id (.map (mstamp p.born v l) c))) key l)) (fun _ _ _ _ _ => fl) (fun _ _ _ _ _ _ _ _ _ _ => fl) (fun _ _ _ _ _ => fl) (fun _ _ _ _ _ _ _ => fl) (fun _ _ _ _ _ _ _ => fl) () (fun _ _ _ _ => ()) x
noncomputable def mentK (x : V) : (KF) → (V) → (V) → (St) → (K) → RC := V.rec (motive_1 := fun _ => (KF) → (V) → (V) → (St) → (K) → RC) (motive_2 := fun _ => Unit)
  (fun _ _ _ _ _ => fl) (fun _ _ _ _ _ => fl) (fun _ _ _ _ _ => fl) (fun _ _ _ _ _ _ => fl) (fun _ _ _ _ _ _ => fl) (fun _ _ _ _ _ _ => fl) (fun _ _ _ _ _ _ _ => fl) (fun _ _ _ _ _ _ _ => fl) (fun _ _ _ _ _ _ _ => fl) (fun _ _ _ _ _ _ _ => fl) (fun _ _ _ _ _ => fl) (fun _ _ _ _ _ _ _ _ _ _ _ => fl) (fun _ _ _ _ _ => fl) (fun _ _ _ _ _ => fl) (fun id kf z key s k => mapK fl (s.get id) (fun l c => Bool.rec fl (mfind kf (k (.tup [z, .p c]) (s.set id (.map (mpush ⟨key, z, c⟩ l) (Nat.succ c)))) (fun p => k (.tup [p.val, .p p.born]) s) key l) (Nat.ble c 1048576))) (fun _ _ _ _ _ => fl) (fun _ _ _ _ _ _ _ _ _ _ => fl) (fun _ _ _ _ _ => fl) (fun _ _ _ _ _ _ _ => fl) (fun _ _ _ _ _ _ _ => fl) () (fun _ _ _ _ => ()) x
noncomputable def rangeK (x : V) : (St) → (K) → RC := V.rec (motive_1 := fun _ => (St) → (K) → RC) (motive_2 := fun _ => Unit)
  (fun _ _ => fl) (fun _ _ => fl) (fun _ _ => fl) (fun _ _ _ => fl) (fun _ _ _ => fl) (fun _ _ _ => fl) (fun _ _ _ _ => fl) (fun _ _ _ _ => fl) (fun l s s0 k => k (.ptr s0.next 0) (s0.push (.iter l s 0))) (fun _ _ _ _ => fl) (fun _ _ => fl) (fun _ _ _ _ _ _ _ _ => fl) (fun _ _ => fl) (fun _ _ => fl) (fun _ _ _ => fl) (fun _ _ => fl) (fun _ _ _ _ _ _ _ => fl) (fun _ _ => fl) (fun _ _ _ _ => fl) (fun _ _ _ _ => fl) () (fun _ _ _ _ => ()) x
noncomputable def nextO (o : AObj) : Pth → St → K → RC := AObj.rec (motive := fun _ => Pth → St → K → RC) (fun _ _ _ => fl) (fun _ _ _ _ => fl) (fun _ _ _ _ _ _ _ => fl) (fun _ _ _ _ _ => fl)
  (fun l n p id s k => Bool.rec (k (.tup [.ff]) s) ((fun c => Bool.rec fl (k (.tup [.tt, .p p, .k 2 c]) (s.set id (.iter l n (Nat.succ p)))) (Nat.ble c 127)) (Nat.mod (Nat.shiftRight n (Nat.mul 8 p)) 256)) (Nat.ble (Nat.succ p) l))
  (fun _ _ _ _ => fl) (fun _ _ _ _ => fl) o
noncomputable def nextK (x : V) : (St) → (K) → RC := V.rec (motive_1 := fun _ => (St) → (K) → RC) (motive_2 := fun _ => Unit)
  (fun _ _ => fl) (fun _ _ => fl) (fun _ _ => fl) (fun _ _ _ => fl) (fun _ _ _ => fl) (fun _ _ _ => fl) (fun _ _ _ _ => fl) (fun _ _ _ _ => fl) (fun _ _ _ _ => fl) (fun id off s k => Bool.rec fl (nextO (s.get id) id s k) (Nat.beq off 0)) (fun _ _ => fl) (fun _ _ _ _ _ _ _ _ => fl) (fun _ _ => fl) (fun _ _ => fl) (fun _ _ _ => fl) (fun _ _ => fl) (fun _ _ _ _ _ _ _ => fl) (fun _ _ => fl) (fun _ _ _ _ => fl) (fun _ _ _ _ => fl) () (fun _ _ _ _ => ()) x
noncomputable def asBy (x : V) : (Nat → RC) → RC := V.rec (motive_1 := fun _ => (Nat → RC) → RC) (motive_2 := fun _ => Unit)
  (fun _ => fl) (fun _ => fl) (fun _ => fl) (fun _ _ => fl) (fun _ _ => fl) (fun n k => k n) (fun _ _ _ => fl) (fun _ _ _ => fl) (fun _ _ _ => fl) (fun _ _ _ => fl) (fun _ => fl) (fun _ _ _ _ _ _ _ => fl) (fun _ => fl) (fun _ => fl) (fun _ _ => fl) (fun _ => fl) (fun _ _ _ _ _ _ => fl) (fun _ => fl) (fun _ _ _ => fl) (fun _ _ _ => fl) () (fun _ _ _ _ => ()) x
noncomputable def asNat (x : V) : (Nat → RC) → RC := V.rec (motive_1 := fun _ => (Nat → RC) → RC) (motive_2 := fun _ => Unit)
  (fun _ => fl) (fun _ => fl) (fun _ => fl) (fun n k => k n) (fun _ _ => fl) (fun _ _ => fl) (fun _ _ _ => fl) (fun _ _ _ => fl) (fun _ _ _ => fl) (fun _ _ _ => fl) (fun _ => fl) (fun _ _ _ _ _ _ _ => fl) (fun _ => fl) (fun _ => fl) (fun _ _ => fl) (fun _ => fl) (fun _ _ _ _ _ _ => fl) (fun _ => fl) (fun _ _ _ => fl) (fun _ _ _ => fl) () (fun _ _ _ _ => ()) x
noncomputable def bytesNum (l : L) : (Nat → RC) → RC := List.rec (motive := fun _ => (Nat → RC) → RC) (fun k => k 0) (fun v _ ih k => asBy v (fun n => ih (fun m => k (Nat.add n (Nat.mul 256 m))))) l
noncomputable def conv0K (x : V) : (KV) → RC := V.rec (motive_1 := fun _ => (KV) → RC) (motive_2 := fun _ => Unit)
  (fun _ => fl) (fun _ => fl) (fun _ => fl) (fun n k => k (.p n)) (fun n k => k (.m n)) (fun n k => k (.p n)) (fun _ n k => chkP n k) (fun _ _ _ => fl) (fun _ _ _ => fl) (fun _ _ _ => fl) (fun _ => fl) (fun _ _ _ _ _ _ _ => fl) (fun _ => fl) (fun _ => fl) (fun _ _ => fl) (fun _ => fl) (fun _ _ _ _ _ _ => fl) (fun _ => fl) (fun _ _ _ => fl) (fun _ _ _ => fl) () (fun _ _ _ _ => ()) x
noncomputable def conv1K (x : V) : (KV) → RC := V.rec (motive_1 := fun _ => (KV) → RC) (motive_2 := fun _ => Unit)
  (fun _ => fl) (fun _ => fl) (fun _ => fl) (fun n k => k (.by (Nat.mod n 256))) (fun _ _ => fl) (fun n k => k (.by n)) (fun _ n k => k (.by (Nat.mod n 256))) (fun _ _ _ => fl) (fun _ _ _ => fl) (fun _ _ _ => fl) (fun _ => fl) (fun _ _ _ _ _ _ _ => fl) (fun _ => fl) (fun _ => fl) (fun _ _ => fl) (fun _ => fl) (fun _ _ _ _ _ _ => fl) (fun _ => fl) (fun _ _ _ => fl) (fun _ _ _ => fl) () (fun _ _ _ _ => ()) x
noncomputable def conv2K (x : V) : (KV) → RC := V.rec (motive_1 := fun _ => (KV) → RC) (motive_2 := fun _ => Unit)
  (fun _ => fl) (fun _ => fl) (fun _ => fl) (fun n k => Bool.rec fl (k (.k 2 n)) (Nat.ble n 2147483647)) (fun _ _ => fl) (fun n k => k (.k 2 n)) (fun _ n k => Bool.rec fl (k (.k 2 n)) (Nat.ble n 2147483647)) (fun _ _ _ => fl) (fun _ _ _ => fl) (fun _ _ _ => fl) (fun _ => fl) (fun _ _ _ _ _ _ _ => fl) (fun _ => fl) (fun _ => fl) (fun _ _ => fl) (fun _ => fl) (fun _ _ _ _ _ _ => fl) (fun _ => fl) (fun _ _ _ => fl) (fun _ _ _ => fl) () (fun _ _ _ _ => ()) x
noncomputable def conv3K (x : V) : (KV) → RC := V.rec (motive_1 := fun _ => (KV) → RC) (motive_2 := fun _ => Unit)
  (fun _ => fl) (fun _ => fl) (fun _ => fl) (fun n k => k (.k 3 n)) (fun _ _ => fl) (fun n k => k (.k 3 n)) (fun _ n k => k (.k 3 n)) (fun _ _ _ => fl) (fun _ _ _ => fl) (fun _ _ _ => fl) (fun _ => fl) (fun _ _ _ _ _ _ _ => fl) (fun _ => fl) (fun _ => fl) (fun _ _ => fl) (fun _ => fl) (fun _ _ _ _ _ _ => fl) (fun _ => fl) (fun _ _ _ => fl) (fun _ _ _ => fl) () (fun _ _ _ _ => ()) x
noncomputable def conv10K (x : V) : (St) → (KV) → RC := V.rec (motive_1 := fun _ => (St) → (KV) → RC) (motive_2 := fun _ => Unit)
  (fun _ _ => fl) (fun _ _ => fl) (fun _ _ => fl) (fun _ _ _ => fl) (fun _ _ _ => fl) (fun _ _ _ => fl) (fun _ _ _ _ => fl) (fun _ _ _ _ => fl) (fun _ _ _ _ => fl) (fun _ _ _ _ => fl) (fun _ _ => fl) (fun id off n _ _ _ s0 k => (fun l => Bool.rec fl (bytesNum l (fun m => k (.str n m))) (Nat.beq (len l) n)) (rdMany (s0.get id) off n)) (fun _ k => k (.str 0 0)) (fun _ k => k (.str 0 0)) (fun _ _ _ => fl) (fun _ _ => fl) (fun _ _ _ _ _ _ _ => fl) (fun _ _ => fl) (fun _ _ _ _ => fl) (fun _ _ _ _ => fl) () (fun _ _ _ _ => ()) x
noncomputable def conv11K (x : V) : (KV) → RC := V.rec (motive_1 := fun _ => (KV) → RC) (motive_2 := fun _ => Unit)
  (fun _ => fl) (fun _ => fl) (fun _ => fl) (fun _ _ => fl) (fun _ _ => fl) (fun _ _ => fl) (fun _ _ _ => fl) (fun _ _ _ => fl) (fun l s k => k (.str l s)) (fun _ _ _ => fl) (fun _ => fl) (fun _ _ _ _ _ _ _ => fl) (fun _ => fl) (fun _ => fl) (fun _ _ => fl) (fun _ => fl) (fun _ _ _ _ _ _ => fl) (fun _ => fl) (fun _ _ _ => fl) (fun _ _ _ => fl) () (fun _ _ _ _ => ()) x
noncomputable def partsV (ps : List (Nat × Nat × Opd)) : L → Env → L → (L → RC) → RC := List.rec (motive := fun _ => L → Env → L → (L → RC) → RC) (fun _ _ z k => k z)
  (fun p _ ih t e z k => cellsK (p.2.2 t e) (fun l => Bool.rec fl (ih t e (lsetMany l p.1 z) k) (Bool.rec false (Nat.ble (Nat.add p.1 (len l)) (len z)) (Nat.beq (len l) p.2.1)))) ps
noncomputable def repL (n : Nat) (z : L) : L := Nat.rec [] (fun _ ih => appL z ih) n
noncomputable def clrK (x : V) : (Nat) → (L) → (St) → (K) → RC := V.rec (motive_1 := fun _ => (Nat) → (L) → (St) → (K) → RC) (motive_2 := fun _ => Unit)
  (fun _ _ _ _ => fl) (fun _ _ _ _ => fl) (fun _ _ _ _ => fl) (fun _ _ _ _ _ => fl) (fun _ _ _ _ _ => fl) (fun _ _ _ _ _ => fl) (fun _ _ _ _ _ _ => fl) (fun _ _ _ _ _ _ => fl) (fun _ _ _ _ _ _ => fl) (fun _ _ _ _ _ _ => fl) (fun _ _ _ _ => fl) (fun id off n _ _ es sz0 z s0 k => Bool.rec (Bool.rec fl (wrObj (s0.get id) off (repL n z) (fun o => k (.tup []) (s0.set id o))) (Nat.beq es sz0)) (k (.tup []) s0) (Nat.beq n 0)) (fun _ _ s0 k => k (.tup []) s0) (fun _ _ s0 k => k (.tup []) s0) (fun _ _ _ _ _ => fl) (fun _ _ _ _ => fl) (fun _ _ _ _ _ _ _ _ _ => fl) (fun _ _ _ _ => fl) (fun _ _ _ _ _ _ => fl) (fun _ _ _ _ _ _ => fl) () (fun _ _ _ _ => ()) x
noncomputable def strSl (l s o h : Nat) (k : KV) : RC := Bool.rec fl (Bool.rec fl (k (.str (Nat.sub h o) (Nat.mod (Nat.shiftRight s (Nat.mul 8 o)) (Nat.shiftLeft 1 (Nat.mul 8 (Nat.sub h o)))))) (Nat.ble h l)) (Nat.ble o h)
noncomputable def slSl (id : Pth) (off _n : Nat) (ex : Bool) (c es sz o h : Nat) (k : KV) : RC := Bool.rec fl (Bool.rec fl
  (Bool.rec (Bool.rec (Bool.rec (k .esl) (k (.slc id off (Nat.sub h o) ex (Nat.sub c o) es)) (Nat.beq o 0)) (k (.slc id (Nat.add off (Nat.mul o sz)) (Nat.sub h o) ex (Nat.sub c o) es)) (Nat.ble (Nat.succ o) c))
    (k (.slc id (Bool.rec (Nat.add off (Nat.mul o sz)) off (Nat.beq c o)) (Nat.sub h o) ex (Nat.sub c o) es)) ex) (Nat.ble h c)) (Nat.ble o h)
noncomputable def slSl3 (id : Pth) (off _n : Nat) (_ex : Bool) (c es sz o h m : Nat) (k : KV) : RC := Bool.rec fl (Bool.rec fl (Bool.rec fl
  (k (.slc id (Bool.rec (Nat.add off (Nat.mul o sz)) off (Nat.beq m o)) (Nat.sub h o) true (Nat.sub m o) es)) (Nat.ble m c)) (Nat.ble h m)) (Nat.ble o h)
noncomputable def slS (x : V) : (V) → (V) → (KV) → RC := V.rec (motive_1 := fun _ => (V) → (V) → (KV) → RC) (motive_2 := fun _ => Unit)
  (fun _ _ _ => fl) (fun _ _ _ => fl) (fun _ _ _ => fl) (fun _ _ _ _ => fl) (fun _ _ _ _ => fl) (fun _ _ _ _ => fl) (fun _ _ _ _ _ => fl) (fun _ _ _ _ _ => fl) (fun l s o h k => asNat o (fun o => asNat h (fun h => strSl l s o h k))) (fun _ _ _ _ _ => fl) (fun _ _ _ => fl) (fun _ _ _ _ _ _ _ _ _ => fl) (fun _ _ _ => fl) (fun _ _ _ => fl) (fun _ _ _ _ => fl) (fun _ _ _ => fl) (fun _ _ _ _ _ _ _ _ => fl) (fun _ _ _ => fl) (fun _ _ _ _ _ => fl) (fun _ _ _ _ _ => fl) () (fun _ _ _ _ => ()) x
noncomputable def slL (x : V) : (Nat) → (V) → (V) → (KV) → RC := V.rec (motive_1 := fun _ => (Nat) → (V) → (V) → (KV) → RC) (motive_2 := fun _ => Unit)
  (fun _ _ _ _ => fl) (fun _ _ _ _ => fl) (fun _ _ _ _ => fl) (fun _ _ _ _ _ => fl) (fun _ _ _ _ _ => fl) (fun _ _ _ _ _ => fl) (fun _ _ _ _ _ _ => fl) (fun _ _ _ _ _ _ => fl) (fun _ _ _ _ _ _ => fl) (fun _ _ _ _ _ _ => fl) (fun _ _ _ _ => fl) (fun id off n ex c es sz o h k => asNat o (fun o => asNat h (fun h => Bool.rec fl (slSl id off n ex c es sz o h k) (Nat.beq es sz)))) (fun _ _ _ _ => fl) (fun _ o h k => asNat o (fun o => asNat h (fun h => Bool.rec fl (k .nils) (Nat.beq (Nat.add o h) 0)))) (fun _ _ _ _ _ => fl) (fun _ _ _ _ => fl) (fun _ _ _ _ _ _ _ _ _ => fl) (fun _ _ _ _ => fl) (fun _ _ _ _ _ _ => fl) (fun _ _ _ _ _ _ => fl) () (fun _ _ _ _ => ()) x
noncomputable def lenV (x : V) : V := V.rec (motive_1 := fun _ => V) (motive_2 := fun _ => Unit)
  (.bad) (.bad) (.bad) (fun _ => .bad) (fun _ => .bad) (fun _ => .bad) (fun _ _ => .bad) (fun _ _ => .bad) (fun l _ => .p l) (fun _ _ => .bad) (.bad) (fun _ _ n _ _ _ => .p n) (.p 0) (.p 0) (fun _ => .bad) (.bad) (fun _ _ _ _ _ => .bad) (.bad) (fun _ _ => .bad) (fun _ _ => .bad) () (fun _ _ _ _ => ()) x
noncomputable def sl3K (x : V) : (Nat) → (V) → (V) → (V) → (KV) → RC := V.rec (motive_1 := fun _ => (Nat) → (V) → (V) → (V) → (KV) → RC) (motive_2 := fun _ => Unit)
  (fun _ _ _ _ _ => fl) (fun _ _ _ _ _ => fl) (fun _ _ _ _ _ => fl) (fun _ _ _ _ _ _ => fl) (fun _ _ _ _ _ _ => fl) (fun _ _ _ _ _ _ => fl) (fun _ _ _ _ _ _ _ => fl) (fun _ _ _ _ _ _ _ => fl) (fun _ _ _ _ _ _ _ => fl) (fun _ _ _ _ _ _ _ => fl) (fun _ _ _ _ _ => fl) (fun id off n ex c es sz o h m0 k => asNat o (fun o => asNat h (fun h => asNat m0 (fun m0 => Bool.rec fl (slSl3 id off n ex c es sz o h m0 k) (Nat.beq es sz))))) (fun _ _ _ _ _ => fl) (fun _ o h m0 k => asNat o (fun o => asNat h (fun h => asNat m0 (fun m0 => Bool.rec fl (k .nils) (Nat.beq (Nat.add (Nat.add o h) m0) 0))))) (fun _ _ _ _ _ _ => fl) (fun _ _ _ _ _ => fl) (fun _ _ _ _ _ _ _ _ _ _ => fl) (fun _ _ _ _ _ => fl) (fun _ _ _ _ _ _ _ => fl) (fun _ _ _ _ _ _ _ => fl) () (fun _ _ _ _ => ()) x
noncomputable def newCells (x : V) : (Nat) → (St) → (Nat → L → RC) → RC := V.rec (motive_1 := fun _ => (Nat) → (St) → (Nat → L → RC) → RC) (motive_2 := fun _ => Unit)
  (fun _ _ _ => fl) (fun _ _ _ => fl) (fun _ _ _ => fl) (fun _ _ _ _ => fl) (fun _ _ _ _ => fl) (fun _ _ _ _ => fl) (fun _ _ _ _ _ => fl) (fun _ _ _ _ _ => fl) (fun l s sz _ k => Bool.rec fl (k l (strBytes l s)) (Nat.beq sz 1)) (fun _ _ _ _ _ => fl) (fun _ _ _ => fl) (fun id off n _ _ es sz s0 k => (fun l => Bool.rec fl (Bool.rec fl (k n l) (Nat.beq es sz)) (Nat.beq (len l) (Nat.mul n sz))) (rdMany (s0.get id) off (Nat.mul n sz))) (fun _ _ k => k 0 []) (fun _ _ k => k 0 []) (fun _ _ _ _ => fl) (fun _ _ _ => fl) (fun _ _ _ _ _ _ _ _ => fl) (fun _ _ _ => fl) (fun _ _ _ _ _ => fl) (fun _ _ _ _ _ => fl) () (fun _ _ _ _ => ()) x
noncomputable def appFresh (sz : Nat) (id : Pth) (off n m : Nat) (l : L) (s : St) (k : K) : RC := (fun old => Bool.rec fl (k (.slc s.next 0 (Nat.add n m) false (Nat.add n m) sz) (s.push (mkVec (appL old l)))) (Nat.beq (len old) (Nat.mul n sz))) (rdMany (s.get id) off (Nat.mul n sz))
noncomputable def appE (o : AObj) : Nat → Pth → Nat → Nat → L → St → K → RC := AObj.rec (motive := fun _ => Nat → Pth → Nat → Nat → L → St → K → RC) (fun _ _ _ _ _ _ _ => fl)
  (fun _ _ _ _ _ _ _ _ => fl)
  (fun d t k0 z sz id n m l s k => Bool.rec fl ((fun dd => k (.slc s.next 0 (Nat.add n m) false (Nat.add n m) sz) ((s.set id .none).push (.vec dd (setMany dd l (Nat.mul n sz) (deepen (Nat.sub dd d) t)) (Nat.mul (Nat.add n m) sz) z))) ((fun d' => Bool.rec d' d (Nat.ble d' d)) (depthOf (Nat.mul (Nat.add n m) sz)))) (Nat.ble (Nat.mul n sz) k0))
  (fun _ _ _ _ _ _ _ _ _ => fl) (fun _ _ _ _ _ _ _ _ _ _ => fl) (fun _ _ _ _ _ _ _ _ => fl) (fun _ _ _ _ _ _ _ _ => fl) o
noncomputable def appS (sz : Nat) (id : Pth) (off n : Nat) (ex : Bool) (c m : Nat) (l : L) (s : St) (k : K) : RC :=
  Bool.rec (Bool.rec (Bool.rec fl (appE (s.get id) sz id n m l s k) (Nat.beq off 0)) (appFresh sz id off n m l s k) ex)
    (wrObj (s.get id) (Nat.add off (Nat.mul n sz)) l (fun o => k (.slc id off (Nat.add n m) ex c sz) (s.set id o))) (Nat.ble (Nat.add n m) c)
noncomputable def appX (x : V) : (Nat) → (Nat) → (L) → (St) → (K) → RC := V.rec (motive_1 := fun _ => (Nat) → (Nat) → (L) → (St) → (K) → RC) (motive_2 := fun _ => Unit)
  (fun _ _ _ _ _ => fl) (fun _ _ _ _ _ => fl) (fun _ _ _ _ _ => fl) (fun _ _ _ _ _ _ => fl) (fun _ _ _ _ _ _ => fl) (fun _ _ _ _ _ _ => fl) (fun _ _ _ _ _ _ _ => fl) (fun _ _ _ _ _ _ _ => fl) (fun _ _ _ _ _ _ _ => fl) (fun _ _ _ _ _ _ _ => fl) (fun _ _ _ _ _ => fl) (fun id off n ex c es sz m0 l0 s0 k => Bool.rec fl (Bool.rec fl (Bool.rec (appS sz id off n ex c m0 l0 s0 k) (k (.slc id off n ex c es) s0) (Nat.beq m0 0)) (Nat.ble (Nat.add n m0) 16777216)) (Nat.beq es sz)) (fun _ _ _ _ _ => fl) (fun sz m0 l0 s0 k => Bool.rec (k (.slc s0.next 0 m0 false m0 sz) (s0.push (mkVec l0))) (k .nils s0) (Nat.beq m0 0)) (fun _ _ _ _ _ _ => fl) (fun _ _ _ _ _ => fl) (fun _ _ _ _ _ _ _ _ _ _ => fl) (fun _ _ _ _ _ => fl) (fun _ _ _ _ _ _ _ => fl) (fun _ _ _ _ _ _ _ => fl) () (fun _ _ _ _ => ()) x
noncomputable def appK (sz : Nat) (x y : V) (s : St) (k : K) : RC := newCells y sz s (fun m l => Bool.rec fl (appX x sz m l s k) (Nat.ble m 1048576))
noncomputable def mkslK (sz : Nat) (z : L) (n c : V) (s : St) (k : K) : RC := asNat n (fun n => asNat c (fun c => Bool.rec fl (Bool.rec fl (Bool.rec (k (.slc s.next 0 n true c sz) (s.push (mkVec (repL c z)))) (k (.slc s.next 0 n true c sz) (s.push (.vec (depthOf c) .mt c (hd z)))) (Nat.beq sz 1)) (Nat.ble c 1048576)) (Nat.ble n c)))
noncomputable def callvK (x : V) : (CF) → (L) → (St) → (K) → RC := V.rec (motive_1 := fun _ => (CF) → (L) → (St) → (K) → RC) (motive_2 := fun _ => Unit)
  (fun _ _ _ _ => fl) (fun _ _ _ _ => fl) (fun _ _ _ _ => fl) (fun _ _ _ _ _ => fl) (fun _ _ _ _ _ => fl) (fun _ _ _ _ _ => fl) (fun _ _ _ _ _ _ => fl) (fun _ _ _ _ _ _ => fl) (fun _ _ _ _ _ _ => fl) (fun _ _ _ _ _ _ => fl) (fun _ _ _ _ => fl) (fun _ _ _ _ _ _ _ _ _ _ => fl) (fun _ _ _ _ => fl) (fun _ _ _ _ => fl) (fun _ _ _ _ _ => fl) (fun _ _ _ _ => fl) (fun f a b _ _ call as s k => call f (appL a (appL as b)) s k) (fun _ _ _ _ => fl) (fun _ _ _ _ _ _ => fl) (fun _ _ _ _ _ _ => fl) () (fun _ _ _ _ => ()) x
/-! steps -/
def mv (x : Opd) : SF := fun _ t e s k => k (x t e) s
def w1 (f : V → KV → RC) (x : Opd) : SF := fun _ t e s k => f (x t e) (fun v => k v s)
def w2 (f : V → V → KV → RC) (x y : Opd) : SF := fun _ t e s k => f (x t e) (y t e) (fun v => k v s)
noncomputable def le (x y : Opd) : SF := fun _ t e s k => ltK (y t e) (x t e) (fun v => notK v (fun v => k v s))
noncomputable def ge (x y : Opd) : SF := fun _ t e s k => ltK (x t e) (y t e) (fun v => notK v (fun v => k v s))
noncomputable def gt (x y : Opd) : SF := fun _ t e s k => ltK (y t e) (x t e) (fun v => k v s)
noncomputable def ne (f : V → V → KV → RC) (x y : Opd) : SF := fun _ t e s k => f (x t e) (y t e) (fun v => notK v (fun v => k v s))
noncomputable def pick (c a b : Opd) : SF := fun _ t e s k => pickK (c t e) (a t e) (b t e) (fun v => k v s)
noncomputable def alloc (l : L) : SF := fun _ _ _ s k => k (.ptr s.next 0) (s.push (.row l))
noncomputable def box (x : Opd) : SF := fun _ t e s k => cellsK (x t e) (fun l => k (.ptr s.next 0) (s.push (.row l)))
noncomputable def build (z : L) (ps : List (Nat × Nat × Opd)) : SF := fun _ t e s k => partsV ps t e z (fun l => k (.agg l) s)
noncomputable def bslice (n : Nat) (z : L) (ps : List (Nat × Nat × Opd)) : SF := fun _ t e s k => partsV ps t e (repL n z) (fun l => k (.slc s.next 0 n true n (len z)) (s.push (mkVec l)))
noncomputable def ld (x : Opd) : SF := fun _ t e s k => ldK (x t e) s (fun v => k v s)
noncomputable def ldA (n : Nat) (x : Opd) : SF := fun _ t e s k => ldAK (x t e) n s (fun v => k v s)
noncomputable def sto (n : Nat) (a x : Opd) : SF := fun _ t e s k => stK (a t e) n (x t e) s k
noncomputable def fad (o : Nat) (x : Opd) : SF := fun _ t e s k => fadK (x t e) o (fun v => k v s)
noncomputable def fld (o : Nat) (x : Opd) : SF := fun _ t e s k => fldK (x t e) o (fun v => k v s)
noncomputable def fldA (o n : Nat) (x : Opd) : SF := fun _ t e s k => fldAK (x t e) o n (fun v => k v s)
noncomputable def iad (sz : Nat) (x i : Opd) : SF := fun _ t e s k => iadK (x t e) (i t e) sz (fun v => k v s)
noncomputable def iadA (n sz : Nat) (x i : Opd) : SF := fun _ t e s k => iadAK (x t e) (i t e) sz n (fun v => k v s)
noncomputable def look (kf : KF) (z : V) (ok : Bool) (m key : Opd) : SF := fun _ t e s k => lookK (m t e) kf z ok (key t e) s (fun v => k v s)
noncomputable def mupd (kf : KF) (m key v : Opd) : SF := fun _ t e s k => mupdK (m t e) kf (key t e) (v t e) s k
noncomputable def ment (kf : KF) (z : V) (m key : Opd) : SF := fun _ t e s k => mentK (m t e) kf z (key t e) s k
noncomputable def rng (x : Opd) : SF := fun _ t e s k => rangeK (x t e) s k
noncomputable def nxt (x : Opd) : SF := fun _ t e s k => nextK (x t e) s k
noncomputable def ext (x : Opd) (j : Nat) : SF := fun _ t e s k => extK (x t e) j (fun v => k v s)
noncomputable def call (f : Pth) (as : List Opd) : SF := fun c t e s k => c f (opds as t e) s k
noncomputable def callv (x : Opd) (as : List Opd) : SF := fun c t e s k => callvK (x t e) c (opds as t e) s k
noncomputable def app (sz : Nat) (x y : Opd) : SF := fun _ t e s k => appK sz (x t e) (y t e) s k
noncomputable def clr (sz : Nat) (z : L) (x : Opd) : SF := fun _ t e s k => clrK (x t e) sz z s k
/-- one element put behind a slice; an id is passed over -/
noncomputable def app1 (sz : Nat) (x y : Opd) : SF := fun _ t e s k => cellsK (y t e) (fun l => Bool.rec fl (appX (x t e) sz 1 l (s.push .none) k) (Nat.beq (len l) sz))
noncomputable def lenM (x : Opd) : SF := fun _ t e s k => lenMK (x t e) s (fun v => k v s)
noncomputable def conv10 (x : Opd) : SF := fun _ t e s k => conv10K (x t e) s (fun v => k v s)
noncomputable def mkfn (f : Pth) (a b : List Opd) : SF := fun _ t e s k => k (.fn f (opds a t e) (opds b t e)) s
noncomputable def mkmap : SF := fun _ _ _ s k => k (.map s.next) (s.push (.map [] 0))
noncomputable def mksl (sz : Nat) (z : L) (n c : Opd) : SF := fun _ t e s k => mkslK sz z (n t e) (c t e) s k
noncomputable def slS1 (x o : Opd) : SF := fun _ t e s k => slS (x t e) (o t e) (lenV (x t e)) (fun v => k v s)
noncomputable def slS2 (x h : Opd) : SF := fun _ t e s k => slS (x t e) (.p 0) (h t e) (fun v => k v s)
noncomputable def slS3 (x o h : Opd) : SF := fun _ t e s k => slS (x t e) (o t e) (h t e) (fun v => k v s)
noncomputable def slL1 (sz : Nat) (x o : Opd) : SF := fun _ t e s k => slL (x t e) sz (o t e) (lenV (x t e)) (fun v => k v s)
noncomputable def slL2 (sz : Nat) (x h : Opd) : SF := fun _ t e s k => slL (x t e) sz (.p 0) (h t e) (fun v => k v s)
noncomputable def slL3 (sz : Nat) (x o h : Opd) : SF := fun _ t e s k => slL (x t e) sz (o t e) (h t e) (fun v => k v s)
noncomputable def slhm (sz : Nat) (x h m : Opd) : SF := fun _ t e s k => sl3K (x t e) sz (.p 0) (h t e) (m t e) (fun v => k v s)
noncomputable def reS (f : SF) (j : Nat) : SF := fun c t e s k => f c t e s (fun v _ => sameK (nth j t) v (k (.tup []) s))
noncomputable def mst (m b v : Opd) : SF := fun _ t e s k => mstK (m t e) (b t e) (v t e) s k
def unsup (n : Nat) : SF := fun _ _ _ _ _ => .f n
noncomputable def evalK (c : CF) (ops : AOps) : L → Env → St → RC := AOps.rec (motive := fun _ => L → Env → St → RC)
  (fun _ e s => .norm e s)
  (fun f _ ih t e s => f c t e s (fun v s => ih (v :: t) e s))
  (fun f q _ ih t e s => f c t e s (fun v s => ih (v :: t) (pset .bad q v e) s))
  (fun j w f _ ih t e s => guardK (nth j t) w (f c t e s (fun v s => ih (v :: t) e s)) (ih (.tup [] :: t) e s))
  (fun j w f q _ ih t e s => guardK (nth j t) w (f c t e s (fun v s => ih (v :: t) (pset .bad q v e) s)) (ih (.tup [] :: t) (pset .bad q (.tup []) e) s)) ops
noncomputable def loopK (body : Env → St → RC) (n : Nat) : Env → St → RC := Nat.rec (motive := fun _ => Env → St → RC) (fun _ _ => .f 43)
  (fun _ ih e s => RC.rec (motive := fun _ => (Env → St → RC) → RC) (fun w _ => .f w) (fun e s ih => ih e s) (fun id e s _ => .exit id e s) (fun e s _ => .ret e s) (body e s) ih) n
noncomputable def seqK (r : RC) : (Env → St → RC) → RC := RC.rec (motive := fun _ => (Env → St → RC) → RC) (fun w _ => .f w) (fun e s ih => ih e s) (fun id e s _ => .exit id e s) (fun e s _ => .ret e s) r
noncomputable def blockK (id : Nat) (r : RC) : RC := RC.rec (motive := fun _ => Nat → RC) (fun w _ => .f w) (fun e s _ => .norm e s) (fun id' e s id => Bool.rec (.exit id' e s) (.norm e s) (Nat.beq id' id)) (fun e s _ => .ret e s) r id
noncomputable def execK (c : CF) (co : ACode) : Env → St → RC := ACode.rec (motive := fun _ => Env → St → RC)
  (fun e s => .norm e s)
  (fun ops => evalK c ops [])
  (fun _ _ iha ihb e s => seqK (iha e s) ihb)
  (fun x _ _ iha ihb e s => condK (x [] e) (iha e s) (ihb e s))
  (fun id _ ih e s => blockK id (ih e s))
  (fun _ ih => loopK ih 100000)
  (fun id e s => .exit id e s)
  (fun e s => .ret e s)
  (fun _ _ => .f 45) co
noncomputable def bindG (p : Option Pth) : V → Env → Env := Option.rec (motive := fun _ => V → Env → Env) (fun _ e => e) (fun p v e => pset .bad p v e) p
noncomputable def bindP (ps : List (Option Pth)) : L → Env := List.rec (motive := fun _ => L → Env) (fun _ => .mt) (fun p _ ih l => bindG p (hd l) (ih (tl l))) ps
noncomputable def res1 (r : Opd × Option Nat) (e : Env) (s : St) (k : KV) : RC := Option.rec (motive := fun _ => V → St → KV → RC) (fun v _ k => k v) (fun n v s k => Bool.rec (ldAK v n s k) (ldK v s k) (Nat.beq n 0)) r.2 (r.1 [] e) s k
noncomputable def resL (rs : List (Opd × Option Nat)) : Env → St → (L → RC) → RC := List.rec (motive := fun _ => Env → St → (L → RC) → RC) (fun _ _ k => k []) (fun r _ ih e s k => res1 r e s (fun v => ih e s (fun l => k (v :: l)))) rs
noncomputable def res2 (l : L) (k : KV) : RC := List.rec (motive := fun _ => KV → RC) (fun k => k (.tup [])) (fun v t _ k => List.rec (motive := fun _ => V → KV → RC) (fun v k => k v) (fun w t _ v k => k (.tup (v :: w :: t))) t v k) l k
noncomputable def finK (r : RC) : List (Opd × Option Nat) → K → RC := RC.rec (motive := fun _ => List (Opd × Option Nat) → K → RC) (fun w _ _ => .f w) (fun e s rs k => resL rs e s (fun l => res2 l (fun v => k v s))) (fun _ _ _ _ _ => fl) (fun e s rs k => resL rs e s (fun l => res2 l (fun v => k v s))) r
/-! specials -/
noncomputable def isSmallW (w : Int) : Bool := Int.rec (fun n => Bool.rec false (Nat.ble n 2147483647) (Nat.beq (Nat.mod n 2) 1)) (fun n => Bool.rec false (Nat.ble n 2147483646) (Nat.beq (Nat.mod n 2) 0)) w
noncomputable def isPtrW (w : Int) : Bool := Int.rec (fun n => Bool.rec false (Bool.rec false (Nat.ble n 262144) (Nat.ble 6 n)) (Nat.beq (Nat.mod n 2) 0)) (fun _ => false) w
noncomputable def half (w : Int) : Nat := Int.rec (fun n => Nat.div n 2) (fun _ => 0) w
noncomputable def Mem.word (m : Mem) (a : Nat) : Int := nget 0 17 m.words a
noncomputable def isW (t : NT Bool) (w : Int) : Bool := Bool.rec false (nget false 17 t (half w)) (isPtrW w)
noncomputable def atW (t : NT Bool) (o : Int) : Nat := Bool.rec 0 (half o) (isW t o)
noncomputable def mayW (t : NT Bool) (w : Int) : Bool := Bool.rec (Bool.rec (Bool.rec (Bool.rec (isW t w) true (isSmallW w)) true (iEq w 4)) true (iEq w 2)) true (iEq w 0)
noncomputable def clsW (t : NT Bool) (w : Int) : Bool := Bool.rec (isW t w) true (iEq w 0)
noncomputable def Mem.fields (m : Mem) (a : Nat) : Int := m.word a / 4
noncomputable def Mem.format (m : Mem) (a : Nat) : Int := m.word a % 4
/-- a field's address: that it lies below the end is looked at, too -/
noncomputable def Mem.field (m : Mem) (a : Nat) (i : Int) (k : Nat → RC) (err : Nat → RC) : RC := Bool.rec (Bool.rec fl (Bool.rec (Bool.rec (err 5) ((fun j => Bool.rec fl (k j) (Nat.ble (Nat.succ j) m.endd)) (a + 3 + i.toNat)) (iLt i (m.fields a))) (err 5) (iLt i 0)) (Nat.ble (a + 3) m.endd)) (err 1) (Nat.beq a 0)
noncomputable def Mem.set (m : Mem) (a : Nat) (w : Int) : Mem := ⟨m.size, m.endd, m.made, nset w 17 m.words a, m.pl⟩
noncomputable def memK (o : AObj) : (Mem → RC) → RC := AObj.rec (motive := fun _ => (Mem → RC) → RC) (fun _ => fl) (fun _ _ => fl) (fun _ _ _ _ _ => fl) (fun _ _ _ => fl) (fun _ _ _ _ => fl) (fun m k => k m) (fun _ _ => fl) o
noncomputable def setK (o : AObj) : (NT Bool → RC) → RC := AObj.rec (motive := fun _ => (NT Bool → RC) → RC) (fun _ => fl) (fun _ _ => fl) (fun _ _ _ _ _ => fl) (fun _ _ _ => fl) (fun _ _ _ _ => fl) (fun _ _ => fl) (fun t k => k t) o
noncomputable def asPtr (x : V) : (Pth → RC) → RC := V.rec (motive_1 := fun _ => (Pth → RC) → RC) (motive_2 := fun _ => Unit)
  (fun _ => fl) (fun _ => fl) (fun _ => fl) (fun _ _ => fl) (fun _ _ => fl) (fun _ _ => fl) (fun _ _ _ => fl) (fun _ _ _ => fl) (fun _ _ _ => fl) (fun id off k => Bool.rec fl (k id) (Nat.beq off 0)) (fun _ => fl) (fun _ _ _ _ _ _ _ => fl) (fun _ => fl) (fun _ => fl) (fun _ _ => fl) (fun _ => fl) (fun _ _ _ _ _ _ => fl) (fun _ => fl) (fun _ _ _ => fl) (fun _ _ _ => fl) () (fun _ _ _ _ => ()) x
noncomputable def asInt (x : V) : (Int → RC) → RC := V.rec (motive_1 := fun _ => (Int → RC) → RC) (motive_2 := fun _ => Unit)
  (fun _ => fl) (fun _ => fl) (fun _ => fl) (fun n k => k (.ofNat n)) (fun n k => k (.negSucc n)) (fun _ _ => fl) (fun _ _ _ => fl) (fun _ _ _ => fl) (fun _ _ _ => fl) (fun _ _ _ => fl) (fun _ => fl) (fun _ _ _ _ _ _ _ => fl) (fun _ => fl) (fun _ => fl) (fun _ _ => fl) (fun _ => fl) (fun _ _ _ _ _ _ => fl) (fun _ => fl) (fun _ _ _ => fl) (fun _ _ _ => fl) () (fun _ _ _ _ => ()) x
noncomputable def asStr (x : V) : (Nat → Nat → RC) → RC := V.rec (motive_1 := fun _ => (Nat → Nat → RC) → RC) (motive_2 := fun _ => Unit)
  (fun _ => fl) (fun _ => fl) (fun _ => fl) (fun _ _ => fl) (fun _ _ => fl) (fun _ _ => fl) (fun _ _ _ => fl) (fun _ _ _ => fl) (fun l s k => k l s) (fun _ _ _ => fl) (fun _ => fl) (fun _ _ _ _ _ _ _ => fl) (fun _ => fl) (fun _ => fl) (fun _ _ => fl) (fun _ => fl) (fun _ _ _ _ _ _ => fl) (fun _ => fl) (fun _ _ _ => fl) (fun _ _ _ => fl) () (fun _ _ _ _ => ()) x
noncomputable def newM (x : V) : (St) → (K) → RC := V.rec (motive_1 := fun _ => (St) → (K) → RC) (motive_2 := fun _ => Unit)
  (fun _ _ => fl) (fun _ _ => fl) (fun _ _ => fl) (fun n s k => Bool.rec (k .nilp s) (Bool.rec (k .nilp s) (k (.ptr s.next 0) ((s.push (.mem ⟨.p n, 3, 0, .mt, inc s.next⟩)).push (.set .mt))) (Nat.ble n 131072)) (Nat.ble 16 n)) (fun _ s k => k .nilp s) (fun _ _ _ => fl) (fun _ _ _ _ => fl) (fun lo n s k => Bool.rec fl (k (.ptr s.next 0) ((s.push (.mem ⟨.sym lo n, 3, 0, .mt, inc s.next⟩)).push (.set .mt))) (Nat.ble 16 lo)) (fun _ _ _ _ => fl) (fun _ _ _ _ => fl) (fun _ _ => fl) (fun _ _ _ _ _ _ _ _ => fl) (fun _ _ => fl) (fun _ _ => fl) (fun _ _ _ => fl) (fun _ _ => fl) (fun _ _ _ _ _ _ _ => fl) (fun _ _ => fl) (fun _ _ _ _ => fl) (fun _ _ _ _ => fl) () (fun _ _ _ _ => ()) x
noncomputable def roomV (sz : V) : (Nat) → (KV) → RC := V.rec (motive_1 := fun _ => (Nat) → (KV) → RC) (motive_2 := fun _ => Unit)
  (fun _ _ => fl) (fun _ _ => fl) (fun _ _ => fl) (fun n x k => Bool.rec fl (k (.p (Nat.sub n x))) (Nat.ble x n)) (fun _ _ _ => fl) (fun _ _ _ => fl) (fun _ _ _ _ => fl) (fun lo n x k => Bool.rec fl (k (.sym (Nat.sub lo x) (Nat.sub n x))) (Nat.ble x lo)) (fun _ _ _ _ => fl) (fun _ _ _ _ => fl) (fun _ _ => fl) (fun _ _ _ _ _ _ _ _ => fl) (fun _ _ => fl) (fun _ _ => fl) (fun _ _ _ => fl) (fun _ _ => fl) (fun _ _ _ _ _ _ _ => fl) (fun _ _ => fl) (fun _ _ _ _ => fl) (fun _ _ _ _ => fl) () (fun _ _ _ _ => ()) sz
noncomputable def roomLt (sz : V) : (Nat) → (RC) → (RC) → RC := V.rec (motive_1 := fun _ => (Nat) → (RC) → (RC) → RC) (motive_2 := fun _ => Unit)
  (fun _ _ _ => fl) (fun _ _ _ => fl) (fun _ _ _ => fl) (fun n x a0 b0 => Bool.rec b0 a0 (Nat.ble (Nat.succ n) x)) (fun _ _ _ _ => fl) (fun _ _ _ _ => fl) (fun _ _ _ _ _ => fl) (fun lo _ x _ b0 => Bool.rec fl b0 (Nat.ble x lo)) (fun _ _ _ _ _ => fl) (fun _ _ _ _ _ => fl) (fun _ _ _ => fl) (fun _ _ _ _ _ _ _ _ _ => fl) (fun _ _ _ => fl) (fun _ _ _ => fl) (fun _ _ _ _ => fl) (fun _ _ _ => fl) (fun _ _ _ _ _ _ _ _ => fl) (fun _ _ _ => fl) (fun _ _ _ _ _ => fl) (fun _ _ _ _ _ => fl) () (fun _ _ _ _ => ()) sz
noncomputable def E (n : Nat) (k : K) (s : St) : RC := k (.p n) s
noncomputable def a1 (l : L) (k : V → RC) : RC := k (hd l)
noncomputable def m0 (as : L) (s : St) (k : Pth → Mem → RC) : RC := asPtr (hd as) (fun id => memK (s.get id) (k id))
noncomputable def m2 (as : L) (s : St) (k : Pth → Mem → NT Bool → RC) : RC := m0 as s (fun id m => setK (s.get m.pl) (k id m))
noncomputable def m1 (f : NT Bool → Int → V) (as : L) (s : St) (k : K) : RC := m2 as s (fun _ _ t => asInt (hd (tl as)) (fun w => k (f t w) s))
noncomputable def m3 (f : Mem → Nat → V) (as : L) (s : St) (k : K) : RC := m2 as s (fun _ m t => asInt (hd (tl as)) (fun w => (fun a => Bool.rec fl (k (f m a) s) (Nat.ble (a + 3) m.endd)) (atW t w)))
noncomputable def sp_new (as : L) (s : St) (k : K) : RC := newM (hd as) s k
noncomputable def sp_size (as : L) (s : St) (k : K) : RC := m2 as s (fun _ m _ => k m.size s)
noncomputable def sp_room (as : L) (s : St) (k : K) : RC := m2 as s (fun _ m _ => roomV m.size m.endd (fun v => k v s))
noncomputable def sp_is := m1 fun t w => B (isW t w)
noncomputable def sp_may := m1 fun t w => B (mayW t w)
noncomputable def sp_cls := m1 fun t w => B (clsW t w)
noncomputable def sp_at := m1 fun t w => .p (atW t w)
noncomputable def sp_klass := m3 fun m a => vI (m.word (a + 1))
noncomputable def sp_format := m3 fun m a => vI (m.format a)
noncomputable def sp_fields := m3 fun m a => vI (m.fields a)
noncomputable def sp_get (as : L) (s : St) (k : K) : RC := m2 as s (fun _ m t => asInt (hd (tl as)) (fun o => asInt (hd (tl (tl as))) (fun i => m.field (atW t o) i (fun a => k (.tup [vI (m.word a), .p 0]) s) (fun e => k (.tup [.p 0, .p e]) s))))
noncomputable def sp_setClass (as : L) (s : St) (k : K) : RC := m2 as s (fun id m t => asInt (hd (tl as)) (fun o => asInt (hd (tl (tl as))) (fun c => (fun a => Bool.rec (Bool.rec (k (.p 1) s) (Bool.rec fl (k (.p 0) (s.set id (.mem (m.set (a + 1) c)))) (Nat.ble (a + 3) m.endd)) (clsW t c)) (k (.p 1) s) (Nat.beq a 0)) (atW t o))))
noncomputable def sp_put (as : L) (s : St) (k : K) : RC := m2 as s (fun id m t => asInt (hd (tl as)) (fun o => asInt (hd (tl (tl as))) (fun i => asInt (hd (tl (tl (tl as)))) (fun w => (fun a0 => m.field a0 i (fun a =>
  (fun ok bad => Bool.rec (Bool.rec ok (Bool.rec (Bool.rec ok bad (iLt 255 w)) bad (iLt w 0)) (iEq (m.format a0) 2)) (Bool.rec bad ok (mayW t w)) (iEq (m.format a0) 0)) (k (.p 0) (s.set id (.mem (m.set a w)))) (k (.p 6) s)) (fun e => k (.p e) s)) (atW t o)))))
noncomputable def badMake (t : NT Bool) (c f n : Int) : Bool := Bool.rec true (Bool.rec (Bool.rec (Bool.rec (iLt 256 n) true (iLt n 0)) true (iLt 2 f)) true (iLt f 0)) (clsW t c)
noncomputable def sp_make (as : L) (s : St) (k : K) : RC := m2 as s (fun id m t => asInt (hd (tl as)) (fun c => asInt (hd (tl (tl as))) (fun f => asInt (hd (tl (tl (tl as)))) (fun n =>
  Bool.rec (roomLt m.size (m.endd + (n.toNat + 3)) (k (.tup [.p 0, .p 4]) s) (Bool.rec
      ((fun a => k (.tup [.p (2 * a), .p 0]) ((s.set id (.mem ⟨m.size, a + n.toNat + 3, m.made + 1, nset (.ofNat (m.made + 1)) 17 (nset c 17 (nset (n * 4 + f) 17 m.words a) (a + 1)) (a + 2), m.pl⟩)).set m.pl (.set (nset true 17 t a)))) m.endd)
      (k (.tup [.p 0, .p 4]) s) (Nat.ble 1099511627776 m.made)))
    (k (.tup [.p 0, .p 1]) s) (badMake t c f n)))))
noncomputable def i1 (f : Int → V) (as : L) (s : St) (k : K) : RC := asInt (hd as) (fun w => k (f w) s)
noncomputable def sp_isSmall := i1 fun w => B (isSmallW w)
noncomputable def sp_isPtr := i1 fun w => B (isPtrW w)
noncomputable def sp_addr := i1 fun w => .p (Bool.rec 0 (half w) (isPtrW w))
noncomputable def sp_value := i1 fun w => Bool.rec (.p 0) (vI (w / 2)) (isSmallW w)
noncomputable def sp_small := i1 fun n => Bool.rec (Bool.rec (.tup [vI (2 * n + 1), .tt]) (.tup [.p 0, .ff]) (iLt 1073741823 n)) (.tup [.p 0, .ff]) (iLt n (-1073741824))
noncomputable def sp_ptr := i1 fun n => Bool.rec (Bool.rec (.tup [vI (2 * n), .tt]) (.tup [.p 0, .ff]) (iLt 131072 n)) (.tup [.p 0, .ff]) (iLt n 3)
noncomputable def findB (c : Nat) (l : Nat) : Nat → Nat → V := Nat.rec (motive := fun _ => Nat → Nat → V) (fun _ _ => .m 0) (fun _ ih n i => Bool.rec (ih (Nat.div n 256) (Nat.succ i)) (.p i) (Nat.beq (Nat.mod n 256) c)) l
noncomputable def sp_idxByte (as : L) (s : St) (k : K) : RC := asStr (hd as) (fun l n => asBy (hd (tl as)) (fun c => k (findB c l n 0) s))
noncomputable def callF (fe : FE) : CF → L → St → K → RC := FE.rec (motive := fun _ => CF → L → St → K → RC) (fun _ _ _ _ => .f 47)
  (fun fn c as s k => finK (execK c fn.code (bindP fn.params as) s) fn.results k) (fun x _ as s k => x as s k) fe
noncomputable def callK (F : Tr FE) (n : Nat) : CF := Nat.rec (motive := fun _ => CF) (fun _ _ _ _ => .f 46) (fun _ ih f as s k => callF (pget .no f F) ih as s k) n
noncomputable def okB (f : V → Bool) (r : (V → St → RC) → RC) : Bool := RC.rec (motive := fun _ => Bool) (fun _ => false) (fun _ _ => false) (fun _ _ _ => false) (fun _ _ => true) (r (fun v _ => Bool.rec fl (.ret .mt ⟨.mt, .h⟩) (f v)))
end Viv

/-
  THE RELATION between abstract states and worlds, and its laws.
-/
namespace Viv
open Go (Value World IntKind Addr Program Act Exit Oper Operand Ending undef)

/-! ### paths and numbers -/
def num : Pth → Nat
  | .h => 0
  | .o p => 2 * num p + 1
  | .i p => 2 * num p + 2

theorem num_inj : ∀ {p q : Pth}, num p = num q → p = q
  | .h, .h, _ => rfl
  | .h, .o q, h => by simp [num] at h
  | .h, .i q, h => by simp [num] at h
  | .o p, .h, h => by simp [num] at h
  | .i p, .h, h => by simp [num] at h
  | .o p, .o q, h => by rw [num_inj (p := p) (q := q) (by simp only [num] at h; omega)]
  | .i p, .i q, h => by rw [num_inj (p := p) (q := q) (by simp only [num] at h; omega)]
  | .o p, .i q, h => by simp only [num] at h; omega
  | .i p, .o q, h => by simp only [num] at h; omega

theorem inc_h : inc .h = .o .h := rfl
theorem inc_o (p : Pth) : inc (.o p) = .i p := rfl
theorem inc_i (p : Pth) : inc (.i p) = .o (inc p) := rfl
theorem num_inc : ∀ p : Pth, num (inc p) = num p + 1
  | .h => rfl
  | .o p => by rw [inc_o]; simp only [num]
  | .i p => by rw [inc_i]; simp only [num, num_inc p]; omega

instance : DecidableEq Pth := fun p q =>
  if h : num p = num q then isTrue (num_inj h) else isFalse (fun e => h (e ▸ rfl))

theorem beqP_h : ∀ q, beqP .h q = decide (Pth.h = q)
  | .h => rfl
  | .o _q => rfl
  | .i _q => rfl
theorem beqP_eq : ∀ p q : Pth, beqP p q = true ↔ p = q
  | .h, .h => ⟨fun _ => rfl, fun _ => rfl⟩
  | .h, .o q => ⟨(fun h => by cases h), (fun h => by cases h)⟩
  | .h, .i q => ⟨(fun h => by cases h), (fun h => by cases h)⟩
  | .o p, .h => ⟨(fun h => by cases h), (fun h => by cases h)⟩
  | .i p, .h => ⟨(fun h => by cases h), (fun h => by cases h)⟩
  | .o p, .o q => ⟨(fun h => by rw [(beqP_eq p q).1 h]), (fun h => (beqP_eq p q).2 (by cases h; rfl))⟩
  | .i p, .i q => ⟨(fun h => by rw [(beqP_eq p q).1 h]), (fun h => (beqP_eq p q).2 (by cases h; rfl))⟩
  | .o p, .i q => ⟨(fun h => by cases h), (fun h => by cases h)⟩
  | .i p, .o q => ⟨(fun h => by cases h), (fun h => by cases h)⟩

/-! ### tries by path -/
section
variable {α : Type} (d : α)
theorem pget_h (t : Tr α) : pget d .h t = geH d t := rfl
theorem pget_o (p : Pth) (t : Tr α) : pget d (.o p) t = geL d t (pget d p) := rfl
theorem pget_i (p : Pth) (t : Tr α) : pget d (.i p) t = geR d t (pget d p) := rfl
theorem pset_h (v : α) (t : Tr α) : pset d .h v t = seH v t := rfl
theorem pset_o (p : Pth) (v : α) (t : Tr α) : pset d (.o p) v t = seL d t v (pset d p) := rfl
theorem pset_i (p : Pth) (v : α) (t : Tr α) : pset d (.i p) v t = seR d t v (pset d p) := rfl
theorem pget_e : ∀ p : Pth, pget d p .mt = d
  | .h => rfl
  | .o _p => rfl
  | .i _p => rfl
theorem pget_pset : ∀ (p q : Pth) (v : α) (t : Tr α), pget d q (pset d p v t) = if q = p then v else pget d q t
  | .h, .h, v, t => by cases t <;> rfl
  | .h, .o q, v, t => by cases t <;> simp [pset_h, pget_o, seH, geL, pget_e]
  | .h, .i q, v, t => by cases t <;> simp [pset_h, pget_i, seH, geR, pget_e]
  | .o p, .h, v, t => by cases t <;> simp [pset_o, pget_h, seL, geH]
  | .i p, .h, v, t => by cases t <;> simp [pset_i, pget_h, seR, geH]
  | .o p, .o q, v, t => by
    cases t <;> simp [pset_o, pget_o, seL, geL, pget_pset p q, pget_e]
  | .i p, .i q, v, t => by
    cases t <;> simp [pset_i, pget_i, seR, geR, pget_pset p q, pget_e]
  | .o p, .i q, v, t => by cases t <;> simp [pset_o, pget_i, seL, geR, pget_e]
  | .i p, .o q, v, t => by cases t <;> simp [pset_i, pget_o, seR, geL, pget_e]
theorem pget_pset_same (p : Pth) (v : α) (t : Tr α) : pget d p (pset d p v t) = v := by simp [pget_pset]
theorem pget_pset_ne {p q : Pth} (h : q ≠ p) (v : α) (t : Tr α) : pget d q (pset d p v t) = pget d q t := by simp [pget_pset, h]
end

/-! ### tries by number -/
section
variable {α : Type} (d : α)
theorem nget_zero (t : NT α) (i : Nat) : nget d 0 t i = nV d t := rfl
theorem nget_succ (k : Nat) (t : NT α) (i : Nat) : nget d (k + 1) t i = if 2 ^ k ≤ i then nget d k (nR t) (i - 2 ^ k) else nget d k (nL t) i := by
  show (Bool.rec _ _ (Nat.ble (2 ^ k) i) : α) = _
  by_cases h : 2 ^ k ≤ i
  · rw [if_pos h, Nat.ble_eq_true_of_le h]; rfl
  · rw [if_neg h]
    have : Nat.ble (2 ^ k) i = false := by
      cases hb : Nat.ble (2 ^ k) i
      · rfl
      · exact absurd (Nat.le_of_ble_eq_true hb) h
    rw [this]; rfl
theorem nset_zero (v : α) (t : NT α) (i : Nat) : nset v 0 t i = .l v := rfl
theorem nset_succ (v : α) (k : Nat) (t : NT α) (i : Nat) : nset v (k + 1) t i = if 2 ^ k ≤ i then .n (nL t) (nset v k (nR t) (i - 2 ^ k)) else .n (nset v k (nL t) i) (nR t) := by
  show (Bool.rec (sN t false (fun u => nset v k u i)) (sN t true (fun u => nset v k u (i - 2 ^ k))) (Nat.ble (2 ^ k) i) : NT α) = _
  by_cases h : 2 ^ k ≤ i
  · rw [if_pos h, Nat.ble_eq_true_of_le h]; cases t <;> rfl
  · rw [if_neg h]
    have : Nat.ble (2 ^ k) i = false := by
      cases hb : Nat.ble (2 ^ k) i
      · rfl
      · exact absurd (Nat.le_of_ble_eq_true hb) h
    rw [this]; cases t <;> rfl
theorem nget_e : ∀ (k i : Nat), nget d k .mt i = d
  | 0, i => rfl
  | k + 1, i => by rw [nget_succ]; simp [nR, nL, nget_e k]
theorem nget_nset : ∀ (k : Nat) (v : α) (t : NT α) (i j : Nat), i < 2 ^ k → j < 2 ^ k → nget d k (nset v k t i) j = if j = i then v else nget d k t j
  | 0, v, t, i, j, hi, hj => by
    have h1 : i = 0 := by simp at hi; omega
    have h2 : j = 0 := by simp at hj; omega
    subst h1; subst h2; rfl
  | k + 1, v, t, i, j, hi, hj => by
    have hp : 2 ^ (k + 1) = 2 * 2 ^ k := by rw [Nat.pow_succ]; omega
    rw [nset_succ]
    by_cases h : 2 ^ k ≤ i
    · rw [if_pos h]
      by_cases h' : 2 ^ k ≤ j
      · rw [nget_succ, if_pos h', nget_succ, if_pos h']
        show nget d k (nset v k (nR t) (i - 2 ^ k)) (j - 2 ^ k) = _
        rw [nget_nset k v (nR t) (i - 2 ^ k) (j - 2 ^ k) (by omega) (by omega)]
        have : (j - 2 ^ k = i - 2 ^ k) ↔ j = i := by omega
        simp only [this]
      · rw [nget_succ, if_neg h', nget_succ, if_neg h']
        show nget d k (nL t) j = _
        rw [if_neg (by omega)]
    · rw [if_neg h]
      by_cases h' : 2 ^ k ≤ j
      · rw [nget_succ, if_pos h', nget_succ, if_pos h']
        show nget d k (nR t) (j - 2 ^ k) = _
        rw [if_neg (by omega)]
      · rw [nget_succ, if_neg h', nget_succ, if_neg h']
        show nget d k (nset v k (nL t) i) j = _
        rw [nget_nset k v (nL t) i j (by omega) (by omega)]
end

/-! ### values -/
/-- where the struct and the words of a memory lie: block, first cell, cells of the block -/
structure ML where
  b : Nat
  o : Nat
  sb : Nat
  bw : Nat
  ow : Nat
  sw : Nat
/-- where an abstract row lies: block, first cell, how many cells the block has; or the blocks of another object -/
inductive Loc where
  | row (b o sz : Nat)
  | map (b : Nat)
  | iter (b : Nat)
  | mem (x : ML)
def Loc.blocks : Loc → List Nat
  | .row b _ _ => [b]
  | .map b => [b]
  | .iter b => [b]
  | .mem x => [x.b, x.bw]
abbrev Beta := Pth → Option Loc
def Beta.le (β β' : Beta) : Prop := ∀ id loc, β id = some loc → β' id = some loc
theorem Beta.le_refl (β : Beta) : β.le β := fun _ _ h => h
theorem Beta.le_trans {a b c : Beta} (h : a.le b) (h' : b.le c) : a.le c := fun _ _ x => h' _ _ (h _ _ x)

/-- bytes as a number, the first one least -/
def bnum : List UInt8 → Nat
  | [] => 0
  | b :: l => b.toNat + 256 * bnum l

mutual
inductive VRel (β : Beta) : V → Value → Prop
  | bad (x : Value) : VRel β .bad x
  | tt : VRel β .tt (.bool true)
  | ff : VRel β .ff (.bool false)
  | p (n : Nat) : n < 9223372036854775808 → VRel β (.p n) (.int .i64 n)
  | m (n : Nat) : n < 9223372036854775808 → VRel β (.m n) (.int .i64 (Int.negSucc n))
  | by (n : Nat) : n < 256 → VRel β (.by n) (.int .u8 n)
  | k2 (n : Nat) : n < 2147483648 → VRel β (.k 2 n) (.int .i32 n)
  | k3 (n : Nat) : n < 9223372036854775808 → VRel β (.k 3 n) (.int .u64 n)
  | sym (lo n : Nat) : lo ≤ n → n ≤ 131072 → VRel β (.sym lo n) (.int .i64 n)
  | str (l s : Nat) (b : ByteArray) : b.size = l → bnum b.data.toList = s → l < 9223372036854775808 → VRel β (.str l s) (.string b)
  | ptr (id : Pth) (off b o sz : Nat) : β id = some (.row b o sz) → VRel β (.ptr id off) (.pointer (some ⟨b, o + off, none⟩))
  | ptrm (id : Pth) (off : Nat) (x : ML) : β id = some (.mem x) → VRel β (.ptr id off) (.pointer (some ⟨x.b, x.o + off, none⟩))
  | ptri (id : Pth) (off b : Nat) : β id = some (.iter b) → VRel β (.ptr id off) (.pointer (some ⟨b, off, none⟩))
  | nilp : VRel β .nilp (.pointer none)
  | slc (id : Pth) (off n : Nat) (ex : Bool) (c es b o sz c' : Nat) : β id = some (.row b o sz) → n ≤ c → c ≤ c' → (ex = true → c' = c) → o + off + c' * es ≤ sz → c < 281474976710656 →
      VRel β (.slc id off n ex c es) (.slice (some ⟨b, o + off, none⟩) n c')
  | esl (a : Addr) (c' : Nat) : VRel β .esl (.slice (some a) 0 c')
  | nils : VRel β .nils (.slice none 0 0)
  | map (id : Pth) (b : Nat) : β id = some (.map b) → VRel β (.map id) (.map (some b))
  | nilm : VRel β .nilm (.map none)
  | fn (f : Pth) (a b : List V) (a' b' : List Value) : VRels β a a' → VRels β b b' → VRel β (.fn f a b) (.func (.func (num f)) a'.toArray b'.toArray)
  | nilf : VRel β .nilf .nilFunc
  | agg (l : List V) (l' : List Value) : VRels β l l' → (∀ x ∈ l', x.oneCell' = true) → VRel β (.agg l) (.agg l'.toArray)
  | tup (l : List V) (l' : List Value) : VRels β l l' → VRel β (.tup l) (.tuple l'.toArray)
inductive VRels (β : Beta) : List V → List Value → Prop
  | nil : VRels β [] []
  | cons (v : V) (x : Value) (l : List V) (l' : List Value) : VRel β v x → VRels β l l' → VRels β (v :: l) (x :: l')
end

mutual
theorem VRel.mono {β β' : Beta} (h : β.le β') {v : V} {x : Value} : VRel β v x → VRel β' v x
  | .bad x => .bad x
  | .tt => .tt
  | .ff => .ff
  | .p n hn => .p n hn
  | .m n hn => .m n hn
  | .by n hn => .by n hn
  | .k2 n hn => .k2 n hn
  | .k3 n hn => .k3 n hn
  | .sym lo n a b => .sym lo n a b
  | .str l s b a c d => .str l s b a c d
  | .ptr id off b o sz e => .ptr id off b o sz (h _ _ e)
  | .ptrm id off x e => .ptrm id off x (h _ _ e)
  | .ptri id off b e => .ptri id off b (h _ _ e)
  | .nilp => .nilp
  | .slc id off n ex c es b o sz c' e a1 a2 a3 a4 a5 => .slc id off n ex c es b o sz c' (h _ _ e) a1 a2 a3 a4 a5
  | .esl a c' => .esl a c'
  | .nils => .nils
  | .map id b e => .map id b (h _ _ e)
  | .nilm => .nilm
  | .fn f a b a' b' ha hb => .fn f a b a' b' (VRels.mono h ha) (VRels.mono h hb)
  | .nilf => .nilf
  | .agg l l' hl ho => .agg l l' (VRels.mono h hl) ho
  | .tup l l' hl => .tup l l' (VRels.mono h hl)
theorem VRels.mono {β β' : Beta} (h : β.le β') {l : List V} {l' : List Value} : VRels β l l' → VRels β' l l'
  | .nil => .nil
  | .cons v x l l' a b => .cons v x l l' (VRel.mono h a) (VRels.mono h b)
end

theorem VRels.length {β : Beta} {l : List V} {l' : List Value} (h : VRels β l l') : l.length = l'.length := by
  induction l generalizing l' with
  | nil => cases h; rfl
  | cons v l ih => cases h with | cons _ _ _ _ a b => simp [ih b]
theorem VRels.get {β : Beta} {l : List V} {l' : List Value} (h : VRels β l l') : ∀ (i : Nat) (v : V), l[i]? = some v → ∃ x, l'[i]? = some x ∧ VRel β v x := by
  induction l generalizing l' with
  | nil => intro i v hv; simp at hv
  | cons u l ih =>
    cases h with
    | cons _ x _ l' a b =>
      intro i v hv
      cases i with
      | zero => simp at hv; subst hv; exact ⟨x, by simp, a⟩
      | succ i => simp at hv; simpa using ih b i v hv
theorem VRels.append {β : Beta} {l m : List V} {l' m' : List Value} (h : VRels β l l') (h2 : VRels β m m') : VRels β (l ++ m) (l' ++ m') := by
  induction l generalizing l' with
  | nil => cases h; exact h2
  | cons v l ih => cases h with | cons _ x _ l'' a b => exact .cons _ _ _ _ a (ih b)


/-! ### objects -/
def RowRel (β : Beta) (w : World) (n : Nat) (f : Nat → V) (b off sz : Nat) : Prop :=
  ∃ cur e, w.heap[b]? = some (.cells cur e (0, 0)) ∧ cur.size = sz ∧ off + n ≤ sz ∧
    ∀ i, i < n → ∃ x : Value, cur[off + i]? = some x ∧ x.oneCell' = true ∧ VRel β (f i) x

structure EntRel (β : Beta) (e : Ent) (m : Go.MapEntry) : Prop where
  key : VRel β e.key m.key
  val : VRel β e.val m.val
  born : m.born = e.born
inductive EntsRel (β : Beta) : List Ent → List Go.MapEntry → Prop
  | nil : EntsRel β [] []
  | cons (e : Ent) (m : Go.MapEntry) (l : List Ent) (l' : List Go.MapEntry) : EntRel β e m → EntsRel β l l' → EntsRel β (e :: l) (m :: l')
theorem EntsRel.mono {β β' : Beta} (h : β.le β') {l : List Ent} {l' : List Go.MapEntry} (hr : EntsRel β l l') : EntsRel β' l l' := by
  induction hr with
  | nil => exact .nil
  | cons e m l l' a _ ih => exact .cons e m l l' ⟨a.key.mono h, a.val.mono h, a.born⟩ ih

/-- the stamps of a map's entries rise, below the clock -/
inductive Born : List Ent → Nat → Prop
  | nil (c : Nat) : Born [] c
  | cons (e : Ent) (l : List Ent) (c : Nat) : e.born < c → (∀ x ∈ l, e.born < x.born) → Born l c → Born (e :: l) c

/-- a memory of package heap is sound -/
structure MemWf (m : Mem) (sz : Nat) : Prop where
  lo : 16 ≤ sz
  hi : sz ≤ 131072
  size : VRel (fun _ => none) m.size (.int .i64 sz)
  end1 : 3 ≤ m.endd
  end2 : m.endd ≤ sz
  made : m.made ≤ 1099511627776
  rest : ∀ i, m.endd ≤ i → i < 131072 → m.word i = 0
  range : ∀ i, i < 131072 → -9223372036854775808 ≤ m.word i ∧ m.word i < 9223372036854775808
/-- the blocks of a memory, as those of plain rows -/
def vb (x : ML) (bp : Nat) : Beta := fun i => match i with
  | .h => some (.row x.b x.o x.sb)
  | .o .h => some (.row x.bw x.ow x.sw)
  | .i .h => some (.map bp)
  | _ => none
/-- its struct, as a row -/
def memRow (m : Mem) (sz : Nat) : L := [.slc (.o .h) 0 sz true sz 1, .p m.endd, .p m.made, .map (.i .h)]
/-- how it lies in a world: the struct, the words; the places are an object of their own -/
def MemRel (β : Beta) (m : Mem) (x : ML) (w : World) : Prop :=
  x.b ≠ x.bw ∧ ∃ sz bp, MemWf m sz ∧ β m.pl = some (.map bp) ∧ RowRel (vb x bp) w 4 (fun i => nth i (memRow m sz)) x.b x.o x.sb ∧ RowRel (vb x bp) w sz (fun i => vI (m.word i)) x.bw x.ow x.sw
/-- a map whose values are all true, as the set of its keys -/
structure SetRel (t : NT Bool) (l : List Ent) : Prop where
  all : ∀ x ∈ l, ∃ a : Nat, a < 131072 ∧ x.key = .p a ∧ x.val = .tt ∧ nget false 17 t a = true
  has : ∀ a : Nat, a < 131072 → nget false 17 t a = true → ∃ x ∈ l, x.key = .p a
  top : nget false 17 t 131071 = false

def ObjRel (β : Beta) (w : World) (o : AObj) (loc : Loc) : Prop :=
  match o, loc with
  | .none, _ => True
  | .row l, .row b off sz => RowRel β w l.length (fun i => nth i l) b off sz
  | .vec d t n z, .row b off sz => RowRel β w n (fun i => nget z d t i) b off sz ∧ n ≤ 2 ^ d
  | .map l c, .map b => ∃ es, w.heap[b]? = some (.map es c) ∧ EntsRel β l es.toList ∧ Born l c
  | .iter len s p, .iter b => ∃ bs, w.heap[b]? = some (.stringIter bs p) ∧ VRel β (.str len s) (.string bs)
  | .mem m, .mem x => MemRel β m x w
  | .set t, .map b => ∃ es c l, w.heap[b]? = some (.map es c) ∧ EntsRel (fun _ => none) l es.toList ∧ Born l c ∧ SetRel t l
  | _, _ => False

theorem RowRel.mono {β β' : Beta} (h : β.le β') {w : World} {n : Nat} {f : Nat → V} {b off sz : Nat} (hr : RowRel β w n f b off sz) : RowRel β' w n f b off sz := by
  obtain ⟨cur, e, h1, h2, h3, h4⟩ := hr
  exact ⟨cur, e, h1, h2, h3, fun i hi => by obtain ⟨x, a, b, c⟩ := h4 i hi; exact ⟨x, a, b, c.mono h⟩⟩

theorem ObjRel.mono {β β' : Beta} (h : β.le β') {w : World} {o : AObj} {loc : Loc} (hr : ObjRel β w o loc) : ObjRel β' w o loc := by
  cases o <;> cases loc <;> simp only [ObjRel] at hr ⊢
  case row => exact RowRel.mono h hr
  case vec => exact ⟨RowRel.mono h hr.1, hr.2⟩
  case map => obtain ⟨es, a, b, c⟩ := hr; exact ⟨es, a, b.mono h, c⟩
  case iter => obtain ⟨bs, a, b⟩ := hr; exact ⟨bs, a, b.mono h⟩
  case mem => obtain ⟨n, sz, bp, a, b, c⟩ := hr; exact ⟨n, sz, bp, a, h _ _ b, c⟩
  case set => exact hr

/-- an object's relation looks at its blocks alone -/
theorem ObjRel.world {β : Beta} {w w' : World} {o : AObj} {loc : Loc} (hr : ObjRel β w o loc) (h : ∀ b ∈ loc.blocks, w'.heap[b]? = w.heap[b]?) : ObjRel β w' o loc := by
  cases o <;> cases loc <;> simp only [ObjRel, Loc.blocks, List.mem_cons, List.not_mem_nil, or_false, forall_eq] at hr h ⊢
  case row => obtain ⟨cur, e, h1, h2⟩ := hr; exact ⟨cur, e, h ▸ h1, h2⟩
  case vec => obtain ⟨⟨cur, e, h1, h2⟩, h3⟩ := hr; exact ⟨⟨cur, e, h ▸ h1, h2⟩, h3⟩
  case map => obtain ⟨es, a, b⟩ := hr; exact ⟨es, h ▸ a, b⟩
  case iter => obtain ⟨bs, a, b⟩ := hr; exact ⟨bs, h ▸ a, b⟩
  case mem x =>
    obtain ⟨n, sz, bp, a, hb, ⟨cur, e, h1, h1'⟩, ⟨cur2, e2, h2, h2'⟩⟩ := hr
    have e1 := h x.b (.inl rfl); have e2' := h x.bw (.inr rfl)
    exact ⟨n, sz, bp, a, hb, ⟨cur, e, e1 ▸ h1, h1'⟩, ⟨cur2, e2, e2' ▸ h2, h2'⟩⟩
  case set => obtain ⟨es, c, l, a, b⟩ := hr; exact ⟨es, c, l, h ▸ a, b⟩

/-- the blocks of what lives are there -/
theorem ObjRel.lt {β : Beta} {w : World} {o : AObj} {loc : Loc} (hr : ObjRel β w o loc) (hn : o ≠ .none) : ∀ b ∈ loc.blocks, b < w.heap.size := by
  have key : ∀ {b : Nat} {x : Go.Obj}, w.heap[b]? = some x → b < w.heap.size := fun {b x} h => (Array.getElem?_eq_some_iff.1 h).1
  cases o <;> cases loc <;> simp only [ObjRel, Loc.blocks, List.mem_cons, List.not_mem_nil, or_false, forall_eq, ne_eq, not_true_eq_false] at hr hn ⊢
  case row => obtain ⟨cur, e, h1, h2⟩ := hr; exact key h1
  case vec => obtain ⟨⟨cur, e, h1, h2⟩, h3⟩ := hr; exact key h1
  case map => obtain ⟨es, a, b⟩ := hr; exact key a
  case iter => obtain ⟨bs, a, b⟩ := hr; exact key a
  case mem x =>
    obtain ⟨n, sz, bp, a, hb, ⟨cur, e, h1, h1'⟩, ⟨cur2, e2, h2, h2'⟩⟩ := hr
    rintro y (rfl | rfl)
    · exact key h1
    · exact key h2
  case set => obtain ⟨es, c, l, a, b⟩ := hr; exact key a

/-! ### states -/
def Live (s : St) (β : Beta) (b : Nat) : Prop := ∃ id loc, β id = some loc ∧ s.get id ≠ .none ∧ b ∈ loc.blocks

structure Sim (β : Beta) (s : St) (w : World) : Prop where
  fresh : ∀ id loc, β id = some loc → num id < num s.next
  obj : ∀ id loc, β id = some loc → ObjRel β w (s.get id) loc
  disj : ∀ id id' loc loc', β id = some loc → β id' = some loc' → s.get id ≠ .none → s.get id' ≠ .none → id ≠ id' → ∀ b ∈ loc.blocks, b ∉ loc'.blocks

/-- what has become of a world and its abstract state -/
structure Post (β : Beta) (s : St) (w : World) (β' : Beta) (s' : St) (w' : World) : Prop where
  le : β.le β'
  size : w.heap.size ≤ w'.heap.size
  next : num s.next ≤ num s'.next
  keep : ∀ b, b < w.heap.size → ¬ Live s β b → w'.heap[b]? = w.heap[b]?
  new : ∀ id loc, β' id = some loc → β id = none → num s.next ≤ num id ∧ ∀ b ∈ loc.blocks, w.heap.size ≤ b ∨ Live s β b
  dead : ∀ id, β id ≠ none → s.get id = .none → s'.get id = .none
  ghost : ∀ id, num id < num s.next → β id = none → s'.get id = s.get id
  tape : w'.tape = w.tape
  os : w'.os = w.os
  output : w'.output = w.output

theorem Post.refl (β : Beta) (s : St) (w : World) : Post β s w β s w :=
  ⟨Beta.le_refl β, Nat.le_refl _, Nat.le_refl _, (fun _ _ _ => rfl), (fun _ _ h h' => by rw [h] at h'; cases h'), (fun _ _ h => h), (fun _ _ _ => rfl), rfl, rfl, rfl⟩

theorem Post.live {β β' : Beta} {s s' : St} {w w' : World} (h : Post β s w β' s' w') {b : Nat} (hb : Live s' β' b) : w.heap.size ≤ b ∨ Live s β b := by
  obtain ⟨id, loc, h1, h2, h3⟩ := hb
  cases hβ : β id with
  | none => exact (h.new id loc h1 hβ).2 b h3
  | some l =>
    have : l = loc := by have := h.le id l hβ; rw [h1] at this; exact (Option.some.inj this).symm
    subst this
    refine .inr ⟨id, l, hβ, fun hn => h2 (h.dead id (by simp [hβ]) hn), h3⟩

theorem Post.trans {β β1 β2 : Beta} {s s1 s2 : St} {w w1 w2 : World} (h : Post β s w β1 s1 w1) (h' : Post β1 s1 w1 β2 s2 w2) : Post β s w β2 s2 w2 where
  le := Beta.le_trans h.le h'.le
  size := Nat.le_trans h.size h'.size
  next := Nat.le_trans h.next h'.next
  keep b hb hl := by
    rw [h'.keep b (Nat.lt_of_lt_of_le hb h.size) (fun hl' => (h.live hl').elim (fun x => absurd hb (Nat.not_lt.2 x)) hl), h.keep b hb hl]
  new id loc h2 hn := by
    cases h1 : β1 id with
    | none =>
      obtain ⟨a, b⟩ := h'.new id loc h2 h1
      refine ⟨Nat.le_trans h.next a, fun x hx => ?_⟩
      rcases b x hx with hx | hx
      · exact .inl (Nat.le_trans h.size hx)
      · exact h.live hx
    | some l =>
      have : l = loc := by have := h'.le id l h1; rw [h2] at this; exact (Option.some.inj this).symm
      subst this
      exact h.new id l h1 hn
  dead id hb hn := by
    have h1 := h.dead id hb hn
    cases hβ : β id with
    | none => exact absurd hβ hb
    | some l => exact h'.dead id (by simp [h.le id l hβ]) h1
  ghost id hlt hn := by
    cases h1 : β1 id with
    | none => rw [h'.ghost id (Nat.lt_of_lt_of_le hlt h.next) h1, h.ghost id hlt hn]
    | some l => exact absurd (h.new id l h1 hn).1 (Nat.not_le.2 hlt)
  tape := h'.tape.trans h.tape
  os := h'.os.trans h.os
  output := h'.output.trans h.output


/-! ### changes of a state -/
theorem St.get_set (s : St) (id id' : Pth) (o : AObj) : (s.set id o).get id' = if id' = id then o else s.get id' := by
  show pget _ id' (pset _ id o s.rows) = _
  rw [pget_pset]; rfl
theorem St.get_set_same (s : St) (id : Pth) (o : AObj) : (s.set id o).get id = o := by simp [St.get_set]
theorem St.get_set_ne (s : St) {id id' : Pth} (o : AObj) (h : id' ≠ id) : (s.set id o).get id' = s.get id' := by simp [St.get_set, h]
theorem St.next_set (s : St) (id : Pth) (o : AObj) : (s.set id o).next = s.next := rfl
theorem St.get_push (s : St) (id' : Pth) (o : AObj) : (s.push o).get id' = if id' = s.next then o else s.get id' := by
  show pget _ id' (pset _ s.next o s.rows) = _
  rw [pget_pset]; rfl
theorem St.next_push (s : St) (o : AObj) : (s.push o).next = inc s.next := rfl
theorem St.num_push (s : St) (o : AObj) : num (s.push o).next = num s.next + 1 := num_inc _

/-- a new block for a new row -/
def Beta.ext (β : Beta) (id : Pth) (loc : Loc) : Beta := fun i => if i = id then some loc else β i
theorem Beta.ext_same (β : Beta) (id : Pth) (loc : Loc) : β.ext id loc id = some loc := by simp [Beta.ext]
theorem Beta.ext_ne (β : Beta) {id i : Pth} (loc : Loc) (h : i ≠ id) : β.ext id loc i = β i := by simp [Beta.ext, h]
theorem Beta.le_ext {β : Beta} {id : Pth} {loc : Loc} (h : β id = none) : β.le (β.ext id loc) := by
  intro i l hi
  by_cases e : i = id
  · subst e; rw [h] at hi; cases hi
  · rw [Beta.ext_ne β loc e]; exact hi

theorem Sim.next_none {β : Beta} {s : St} {w : World} (h : Sim β s w) : β s.next = none := by
  cases hb : β s.next with
  | none => rfl
  | some l => exact absurd (h.fresh _ _ hb) (Nat.lt_irrefl _)

/-- worlds with the same memory -/
theorem Sim.world {β : Beta} {s : St} {w w' : World} (h : Sim β s w) (hh : w'.heap = w.heap) : Sim β s w' :=
  ⟨h.fresh, fun id loc hb => (h.obj id loc hb).world (fun b _ => by rw [hh]), h.disj⟩
theorem Post.world {β β' : Beta} {s s' : St} {w w' w'' : World} (h : Post β s w β' s' w') (hh : w''.heap = w'.heap) (ht : w''.tape = w'.tape) (ho : w''.os = w'.os) (hp : w''.output = w'.output) :
    Post β s w β' s' w'' :=
  ⟨h.le, by rw [hh]; exact h.size, h.next, fun b hb hl => by rw [hh]; exact h.keep b hb hl, h.new, h.dead, h.ghost, ht.trans h.tape, ho.trans h.os, hp.trans h.output⟩

/-- a new object in a new block -/
theorem Sim.push {β : Beta} {s : St} {w w' : World} (h : Sim β s w) (o : AObj) (loc : Loc) (hs : w.heap.size ≤ w'.heap.size)
    (hold : ∀ b, b < w.heap.size → w'.heap[b]? = w.heap[b]?) (hb : ∀ b ∈ loc.blocks, w.heap.size ≤ b)
    (ho : ObjRel (β.ext s.next loc) w' o loc) (ht : w'.tape = w.tape) (hos : w'.os = w.os) (hout : w'.output = w.output) :
    Sim (β.ext s.next loc) (s.push o) w' ∧ Post β s w (β.ext s.next loc) (s.push o) w' := by
  have hn := h.next_none
  have hle : β.le (β.ext s.next loc) := Beta.le_ext hn
  have hlt : ∀ id l, β id = some l → id ≠ s.next := fun id l hb e => by subst e; rw [hn] at hb; cases hb
  have hblk : ∀ id l, β id = some l → s.get id ≠ .none → ∀ b ∈ l.blocks, b < w.heap.size := fun id l hb hne => (h.obj id l hb).lt hne
  refine ⟨⟨?_, ?_, ?_⟩, ⟨hle, hs, by rw [St.num_push]; omega, fun b hb _ => hold b hb, ?_, ?_, ?_, ht, hos, hout⟩⟩
  · intro id l hid
    rw [St.num_push]
    by_cases e : id = s.next
    · subst e; omega
    · rw [Beta.ext_ne _ _ e] at hid; have := h.fresh id l hid; omega
  · intro id l hid
    by_cases e : id = s.next
    · subst e; rw [Beta.ext_same] at hid; cases hid
      rw [St.get_push, if_pos rfl]; exact ho
    · rw [Beta.ext_ne _ _ e] at hid
      rw [St.get_push, if_neg e]
      by_cases hl : s.get id = .none
      · rw [hl]; cases l <;> trivial
      · exact ((h.obj id l hid).world (fun b hb => hold b (hblk id l hid hl b hb))).mono hle
  · intro id id' l l' h1 h2 g1 g2 hne b hb1 hb2
    rw [St.get_push] at g1 g2
    by_cases e : id = s.next
    · subst e; rw [Beta.ext_same] at h1; cases h1
      have e' : id' ≠ s.next := fun e' => hne e'.symm
      rw [Beta.ext_ne _ _ e'] at h2; rw [if_neg e'] at g2
      have := hblk id' l' h2 g2 b hb2
      have := hb b hb1
      omega
    · rw [Beta.ext_ne _ _ e] at h1; rw [if_neg e] at g1
      by_cases e' : id' = s.next
      · subst e'; rw [Beta.ext_same] at h2; cases h2
        have := hblk id l h1 g1 b hb1
        have := hb b hb2
        omega
      · rw [Beta.ext_ne _ _ e'] at h2; rw [if_neg e'] at g2
        exact h.disj id id' l l' h1 h2 g1 g2 hne b hb1 hb2
  · intro id l h1 h2
    by_cases e : id = s.next
    · subst e; rw [Beta.ext_same] at h1; cases h1
      exact ⟨Nat.le_refl _, fun b hb' => .inl (hb b hb')⟩
    · rw [Beta.ext_ne _ _ e] at h1; rw [h1] at h2; cases h2
  · intro id hne hnone
    have e : id ≠ s.next := fun e => by subst e; exact hne hn
    rw [St.get_push, if_neg e]; exact hnone
  · intro id hlt' _
    have e : id ≠ s.next := fun e => by subst e; omega
    rw [St.get_push, if_neg e]

/-- a change of one object in its own blocks -/
theorem Sim.set {β : Beta} {s : St} {w w' : World} (h : Sim β s w) (id : Pth) (o : AObj) (loc : Loc) (hid : β id = some loc) (hlive : s.get id ≠ .none)
    (hs : w'.heap.size = w.heap.size) (hold : ∀ b, b ∉ loc.blocks → w'.heap[b]? = w.heap[b]?) (ho : ObjRel β w' o loc)
    (ht : w'.tape = w.tape) (hos : w'.os = w.os) (hout : w'.output = w.output) :
    Sim β (s.set id o) w' ∧ Post β s w β (s.set id o) w' := by
  refine ⟨⟨h.fresh, ?_, ?_⟩, ⟨Beta.le_refl β, by omega, Nat.le_refl _, fun b hb hl => hold b (fun hm => hl ⟨id, loc, hid, hlive, hm⟩), ?_, ?_, ?_, ht, hos, hout⟩⟩
  · intro i l hi
    by_cases e : i = id
    · subst e; rw [hid] at hi; cases hi; rw [St.get_set_same]; exact ho
    · rw [St.get_set_ne _ _ e]
      by_cases hl : s.get i = .none
      · rw [hl]; cases l <;> trivial
      · exact (h.obj i l hi).world (fun b hb => hold b (fun hm => h.disj i id l loc hi hid hl hlive e b hb hm))
  · intro i i' l l' h1 h2 g1 g2 hne
    refine h.disj i i' l l' h1 h2 ?_ ?_ hne
    · by_cases e : i = id
      · subst e; exact hlive
      · rwa [St.get_set_ne _ _ e] at g1
    · by_cases e : i' = id
      · subst e; exact hlive
      · rwa [St.get_set_ne _ _ e] at g2
  · intro i l h1 h2; rw [h1] at h2; cases h2
  · intro i hne hn
    have e : i ≠ id := fun e => by subst e; exact hlive hn
    rw [St.get_set_ne _ _ e]; exact hn
  · intro i _ hn
    have e : i ≠ id := fun e => by subst e; rw [hid] at hn; cases hn
    rw [St.get_set_ne _ _ e]


/-- an object is given up -/
theorem Sim.forget {β : Beta} {s : St} {w : World} (h : Sim β s w) (id : Pth) (hid : β id ≠ none) : Sim β (s.set id .none) w ∧ Post β s w β (s.set id .none) w := by
  refine ⟨⟨h.fresh, ?_, ?_⟩, ⟨Beta.le_refl β, Nat.le_refl _, Nat.le_refl _, (fun _ _ _ => rfl), ?_, ?_, ?_, rfl, rfl, rfl⟩⟩
  · intro i l hi
    by_cases e : i = id
    · subst e; rw [St.get_set_same]; cases l <;> trivial
    · rw [St.get_set_ne _ _ e]; exact h.obj i l hi
  · intro i i' l l' h1 h2 g1 g2 hne
    refine h.disj i i' l l' h1 h2 ?_ ?_ hne
    · by_cases e : i = id
      · subst e; rw [St.get_set_same] at g1; exact absurd rfl g1
      · rwa [St.get_set_ne _ _ e] at g1
    · by_cases e : i' = id
      · subst e; rw [St.get_set_same] at g2; exact absurd rfl g2
      · rwa [St.get_set_ne _ _ e] at g2
  · intro i l h1 h2; rw [h1] at h2; cases h2
  · intro i _ hn
    by_cases e : i = id
    · subst e; exact St.get_set_same _ _ _
    · rw [St.get_set_ne _ _ e]; exact hn
  · intro i _ hn
    have e : i ≠ id := fun e => by subst e; exact hid hn
    rw [St.get_set_ne _ _ e]

/-- an object's blocks go over to a new one -/
theorem Sim.rebind {β : Beta} {s : St} {w w' : World} (h : Sim β s w) (id : Pth) (o : AObj) (loc : Loc) (hid : β id = some loc) (hlive : s.get id ≠ .none)
    (hs : w'.heap.size = w.heap.size) (hold : ∀ b, b ∉ loc.blocks → w'.heap[b]? = w.heap[b]?) (ho : ObjRel (β.ext s.next loc) w' o loc)
    (ht : w'.tape = w.tape) (hos : w'.os = w.os) (hout : w'.output = w.output) :
    Sim (β.ext s.next loc) ((s.set id .none).push o) w' ∧ Post β s w (β.ext s.next loc) ((s.set id .none).push o) w' := by
  have hn := h.next_none
  have hle : β.le (β.ext s.next loc) := Beta.le_ext hn
  have hne : id ≠ s.next := fun e => by subst e; rw [hn] at hid; cases hid
  have get1 : ∀ i, ((s.set id .none).push o).get i = if i = s.next then o else if i = id then .none else s.get i := by
    intro i
    rw [St.get_push, St.next_set, St.get_set]
  refine ⟨⟨?_, ?_, ?_⟩, ⟨hle, by omega, by rw [St.num_push, St.next_set]; omega, (fun b hb hl => hold b (fun hm => hl ⟨id, loc, hid, hlive, hm⟩)), ?_, ?_, ?_, ht, hos, hout⟩⟩
  · intro i l hi
    rw [St.num_push, St.next_set]
    by_cases e : i = s.next
    · subst e; omega
    · rw [Beta.ext_ne _ _ e] at hi; have := h.fresh i l hi; omega
  · intro i l hi
    rw [get1]
    by_cases e : i = s.next
    · subst e; rw [Beta.ext_same] at hi; cases hi; rw [if_pos rfl]; exact ho
    · rw [Beta.ext_ne _ _ e] at hi; rw [if_neg e]
      by_cases e2 : i = id
      · rw [if_pos e2]; cases l <;> trivial
      · rw [if_neg e2]
        by_cases hl : s.get i = .none
        · rw [hl]; cases l <;> trivial
        · exact ((h.obj i l hi).world (fun b hb => hold b (fun hm => h.disj i id l loc hi hid hl hlive e2 b hb hm))).mono hle
  · intro i i' l l' h1 h2 g1 g2 hd b hb1 hb2
    rw [get1] at g1 g2
    by_cases e : i = s.next
    · subst e; rw [Beta.ext_same] at h1; cases h1
      have e' : i' ≠ s.next := fun e' => hd e'.symm
      rw [Beta.ext_ne _ _ e'] at h2; rw [if_neg e'] at g2
      by_cases e2 : i' = id
      · rw [if_pos e2] at g2; exact g2 rfl
      · rw [if_neg e2] at g2; exact h.disj i' id l' loc h2 hid g2 hlive e2 b hb2 hb1
    · rw [Beta.ext_ne _ _ e] at h1; rw [if_neg e] at g1
      by_cases e2 : i = id
      · rw [if_pos e2] at g1; exact g1 rfl
      · rw [if_neg e2] at g1
        by_cases e' : i' = s.next
        · subst e'; rw [Beta.ext_same] at h2; cases h2
          exact h.disj i id l loc h1 hid g1 hlive e2 b hb1 hb2
        · rw [Beta.ext_ne _ _ e'] at h2; rw [if_neg e'] at g2
          by_cases e3 : i' = id
          · rw [if_pos e3] at g2; exact g2 rfl
          · rw [if_neg e3] at g2
            exact h.disj i i' l l' h1 h2 g1 g2 hd b hb1 hb2
  · intro i l h1 h2
    by_cases e : i = s.next
    · subst e; rw [Beta.ext_same] at h1; cases h1
      exact ⟨Nat.le_refl _, fun b hb' => .inr ⟨id, _, hid, hlive, hb'⟩⟩
    · rw [Beta.ext_ne _ _ e] at h1; rw [h1] at h2; cases h2
  · intro i hni hnone
    have e : i ≠ s.next := fun e => by subst e; exact hni hn
    rw [get1, if_neg e]
    by_cases e2 : i = id
    · rw [if_pos e2]
    · rw [if_neg e2]; exact hnone
  · intro i hlt hni
    have e : i ≠ s.next := fun e => by subst e; omega
    have e2 : i ≠ id := fun e => by subst e; rw [hid] at hni; cases hni
    rw [get1, if_neg e, if_neg e2]

end Viv
