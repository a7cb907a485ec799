/-
  kernel.New, where there is no room: the errors.
-/
import Derived.Test.YtfppefhcmmfgcaaGreatNwJ
set_option maxRecDepth 100000
namespace Viv
open Go (Value World IntKind Addr Program Act Exit Oper Operand Ending undef)
open Go.Proofs

theorem q52_new (v : V) (s : St) (k : K) : callK FT 60 q52 [v] s k = sp_new [v] s k := by kernel_rfl
theorem new_e1 {v : V} (s : St) (k : K) (h : ∀ k, sp_new [v] s k = k .nilp s) : callF (.fn A20) (callK FT 60) [v] s k = k (.tup [.nilp, .p 1]) s := by
  simp [A20, q52_new, h, q37, q38, q28, q29, q18, q13, q14, q6, e28, e29, e37, e38]
theorem new_e4 {n : Nat} (s : St) (k : K) (h1 : 16 ≤ n) (h2 : n < 16384) : callF (.fn A20) (callK FT 60) [.p n] s k = k (.tup [.nilp, .p 4]) ((s.push (.mem ⟨.p n, 3, 0, .mt, inc s.next⟩)).push (.set .mt)) := by
  have h : ∀ k, sp_new [.p n] s k = k (.ptr s.next 0) ((s.push (.mem ⟨.p n, 3, 0, .mt, inc s.next⟩)).push (.set .mt)) := fun k => by
    show (Bool.rec (k .nilp s) (Bool.rec (k .nilp s) (k (.ptr s.next 0) ((s.push (.mem ⟨.p n, 3, 0, .mt, inc s.next⟩)).push (.set .mt))) (Nat.ble n 131072)) (Nat.ble 16 n) : RC) = _
    rw [bleRec, bleRec, if_pos h1, if_pos (by omega)]
  have hb : Nat.blt n 16384 = true := (blt_iff _ _).2 h2
  simp [A20, q52_new, h, hb, q37, q38, q28, q29, q18, q13, q14, q6, e28, e29, e37, e38]
end Viv
