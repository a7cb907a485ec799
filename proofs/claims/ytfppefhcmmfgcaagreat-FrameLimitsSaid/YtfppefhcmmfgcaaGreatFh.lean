/-
  FUNCTIONS OF THE PROGRAM, AS THE EVALUATOR HAS THEM. Printed by TrP.lean and mkF.py of wip/.
-/
import Derived.Test.YtfppefhcmmfgcaaGreatCodeJ
import Derived.Test.YtfppefhcmmfgcaaGreatProg
import Derived.KernelRfl
set_option maxRecDepth 100000
namespace Viv
open Go.Proofs
def sl31 : List Nat := [1, 0, 4]
def pl31 : List PlanD := []
noncomputable def A31 : AFunc := ⟨[some q1, some q0], [(e2, none)], (.seq (.reg (.d (mv (cn .ff)) q2 .nil)) (.seq (.reg (.p (mv e0) (.p (w2 eq0 l0 (cn (.p 0))) (.p (mv l0) (.g 0 false (mv e0) (.g 1 false (w2 eq0 l0 (cn (.p 2))) (.p (pick l2 (cn .tt) l0) (.p (mv l0) (.g 0 false (mv e0) (.g 1 false (w2 eq0 l0 (cn (.p 4))) (.p (pick l2 (cn .tt) l0) (.p (mv l0) (.g 0 false (mv e0) (.g 1 false (call q91 [l0]) (.p (pick l2 (cn .tt) l0) (.p (mv l0) (.g 0 false (mv e1) (.g 1 false (mv e0) (.g 2 false (call q44 [l1, l0]) (.p (pick l3 (cn .tt) l0) (.d (mv l0) q2 .nil))))))))))))))))))))) .ret))⟩
theorem T31 : trFunc Tryz.prog Tryz.f31 2 sl31 pl31 = some A31 := by kernel_rfl
def sl44 : List Nat := [1, 0, 4]
def pl44 : List PlanD := [⟨1, [.op 0, .op 1, .op 2, .op 3, .op 4, .op 5, .op 7, .op 6, .op 8, .re 6, .op 9, .op 10, .op 11], [0, 1, 2, 3, 4, 5, 7, 6, 8, 10, 11, 12], [0, 1, 3, 7, 15, 31, 63, 7, 135, 511, 1023, 2047]⟩]
noncomputable def A44 : AFunc := ⟨[some q1, some q0], [(e2, none)], (.seq (.reg (.d (mv (cn .ff)) q2 .nil)) (.seq (.reg (.p (mv e0) (.p (call q107 [l0]) (.p (mv l0) (.g 0 true (mv e1) (.g 1 true (w1 nilcK l0) (.g 2 true (fad 3 l0) (.g 3 true (mv e0) (.g 4 true (ld l1) (.g 5 true (call q108 [l1]) (.g 6 true (reS (ld l3) 1) (.g 7 true (look keyI .ff false l2 l1) (.p (pick (lo 8) l0 (cn .ff)) (.d (mv l0) q2 .nil)))))))))))))) .ret))⟩
theorem T44 : trFunc Tryz.prog Tryz.f44 2 sl44 pl44 = some A44 := by kernel_rfl
def sl51 : List Nat := [0, 2]
def pl51 : List PlanD := []
noncomputable def A51 : AFunc := ⟨[some q0], [(e1, none)], (.seq (.reg (.d (mv (cn (.p 0))) q1 .nil)) (.seq (.reg (.p (mv e0) (.p (w1 nilcK l0) (.p (fad 0 l0) (.p (ld l0) (.p (w1 lenLK l0) (.d (mv l0) q1 .nil))))))) .ret))⟩
theorem T51 : trFunc Tryz.prog Tryz.f51 1 sl51 pl51 = some A51 := by kernel_rfl
def sl52 : List Nat := [0, 8, 2]
def pl52 : List PlanD := []
noncomputable def A52 : AFunc := ⟨[some q0], [(e2, none)], (.seq (.reg (.d (mv (cn .nilp)) q2 .nil)) (.seq (.seq (.reg (.p (mv e0) (.p (w2 ltK l0 (cn (.p 16))) (.p (mv l0) (.g 0 false (mv e0) (.g 1 false (gt l0 (cn (.p 131072))) (.d (pick l2 (cn .tt) l0) q1 .nil))))))) (.cond e1 (.seq (.reg (.d (mv (cn .nilp)) q2 .nil)) .ret) .skip)) (.seq (.reg (.p (mv e0) (.p (mksl 1 [(.p 0)] l0 l0) (.p (mkmap) (.p (build [.nils, (.p 0), (.p 0), .nilm] [(0, 1, l1), (1, 1, (cn (.p 3))), (3, 1, l0)]) (.p (box l0) (.d (mv l0) q2 .nil))))))) .ret)))⟩
theorem T52 : trFunc Tryz.prog Tryz.f52 1 sl52 pl52 = some A52 := by kernel_rfl
def sl53 : List Nat := [0, 10, 3, 2, 1, 11, 13, 34, 8, 9]
def pl53 : List PlanD := [⟨7, [.op 0, .op 1, .op 2, .op 4, .op 5, .op 6, .op 7, .op 9, .op 10, .op 11, .op 12, .op 13, .op 15, .op 16, .op 17, .op 18, .op 19, .op 20, .op 21, .op 22, .op 23, .op 24, .op 3, .op 8, .op 14, .op 25, .op 26, .op 27, .op 28, .op 29, .op 30, .op 31], [0, 1, 2, 22, 3, 4, 5, 6, 23, 7, 8, 9, 10, 11, 24, 12, 13, 14, 15, 16, 17, 18, 19, 20, 21, 25, 26, 27, 28, 29, 30, 31], [0, 1, 3, 7, 0, 0, 32, 96, 224, 0, 512, 0, 2048, 6144, 14336, 0, 32768, 0, 131072, 0, 917504, 0, 0, 4194304, 12582912, 29360128, 64911871, 132020735, 268337151, 536772607, 1073741823, 2147483647]⟩]
noncomputable def A53 : AFunc := ⟨[some q0, some q4, some q3, some q2], [(e8, none), (e9, none)], (.seq (.reg (.d (mv (cn (.p 0))) q8 (.d (mv (cn (.p 0))) q9 .nil))) (.seq (.block 0 (.seq (.reg (.p (mv e0) (.p (mv e4) (.p (call q115 [l1, l0]) (.p (w1 notK l0) (.p (mv l0) (.g 0 false (mv e3) (.g 1 false (w2 ltK l0 (cn (.p 0))) (.p (pick l2 (cn .tt) l0) (.p (mv l0) (.g 0 false (mv e3) (.g 1 false (gt l0 (cn (.p 2))) (.p (pick l2 (cn .tt) l0) (.p (mv l0) (.g 0 false (mv e2) (.g 1 false (w2 ltK l0 (cn (.p 0))) (.p (pick l2 (cn .tt) l0) (.p (mv l0) (.g 0 false (mv e2) (.g 1 false (gt l0 (cn (.p 256))) (.p (pick l2 (cn .tt) l0) (.d (mv l0) q6 .nil)))))))))))))))))))))) (.cond e6 (.seq (.reg (.d (mv (cn (.p 0))) q8 (.d (mv (cn (.p 1))) q9 .nil))) .ret) (.seq (.reg (.p (mv e0) (.p (call q60 [l0]) (.p (mv e2) (.p (w2 addK l0 (cn (.p 3))) (.p (w2 ltK l2 l0) (.p (mv l0) (.g 0 false (mv e0) (.g 1 false (w1 nilcK l0) (.g 2 false (fad 2 l0) (.g 3 false (ld l0) (.g 4 false (ge l0 (cn (.p 1099511627776))) (.p (pick (lo 5) (cn .tt) l0) (.d (mv l0) q7 .nil)))))))))))))) (.cond e7 (.seq (.reg (.d (mv (cn (.p 0))) q8 (.d (mv (cn (.p 4))) q9 .nil))) .ret) .skip))))) (.seq (.reg (.p (mv e0) (.p (w1 nilcK l0) (.p (fad 1 l0) (.p (ld l0) (.d (mv l0) q1 .nil)))))) (.seq (.reg (.p (mv e0) (.p (w1 nilcK l0) (.p (fad 2 l0) (.p (ld l0) (.p (w2 addK l0 (cn (.p 1))) (.p (w1 nilcK l4) (.p (fad 2 l0) (.p (sto 1 l0 l2) .nil))))))))) (.seq (.reg (.p (mv e0) (.p (w1 nilcK l0) (.p (fad 0 l0) (.p (mv e1) (.p (mv e0) (.p (w1 nilcK l0) (.p (fad 0 l0) (.p (mv e1) (.p (w2 addK l0 (cn (.p 1))) (.p (mv e0) (.p (w1 nilcK l0) (.p (fad 0 l0) (.p (mv e1) (.p (w2 addK l0 (cn (.p 2))) (.p (mv e2) (.p (w2 shlK l0 (cn (.k 3 2))) (.p (mv e3) (.p (w2 orK l1 l0) (.p (mv e4) (.p (mv e0) (.p (w1 nilcK l0) (.p (fad 2 l0) (.p (ld (lo 19)) (.p (ld (lo 16)) (.p (ld (lo 12)) (.p (ld l3) (.p (iad 1 l3 (lo 22)) (.p (sto 1 l0 (lo 9)) (.p (iad 1 l4 (lo 19)) (.p (sto 1 l0 (lo 10)) (.p (iad 1 (lo 5) (lo 16)) (.p (sto 1 l0 (lo 5)) .nil))))))))))))))))))))))))))))))))) (.seq (.reg (.p (mv e0) (.p (w1 nilcK l0) (.p (fad 0 l0) (.p (ld l0) (.p (mv e1) (.p (w2 addK l0 (cn (.p 3))) (.p (mv e1) (.p (w2 addK l0 (cn (.p 3))) (.p (mv e2) (.p (w2 addK l1 l0) (.p (slL3 1 (lo 6) l4 l0) (.p (clr 1 [(.p 0)] l0) .nil))))))))))))) (.seq (.reg (.p (mv e0) (.p (w1 nilcK l0) (.p (fad 1 l0) (.p (ld l0) (.p (mv e2) (.p (w2 addK l0 (cn (.p 3))) (.p (w2 addK l2 l0) (.p (w1 nilcK (lo 6)) (.p (fad 1 l0) (.p (sto 1 l0 l2) .nil))))))))))) (.seq (.reg (.p (mv e0) (.p (w1 nilcK l0) (.p (fad 3 l0) (.p (ld l0) (.p (mv e1) (.p (mupd keyI l1 l0 (cn .tt)) .nil))))))) (.seq (.reg (.p (mv e1) (.p (call q116 [l0]) (.p (mv l0) (.p (ext l0 0) (.p (ext l1 1) (.d (mv l1) q5 (.p (mv l1) .nil)))))))) (.seq (.reg (.p (mv e5) (.d (mv l0) q8 (.d (mv (cn (.p 0))) q9 .nil)))) .ret))))))))))⟩
theorem T53 : trFunc Tryz.prog Tryz.f53 4 sl53 pl53 = some A53 := by kernel_rfl
def sl60 : List Nat := [0, 2]
def pl60 : List PlanD := [⟨1, [.op 0, .op 1, .op 2, .op 5, .op 6, .op 7, .op 3, .op 4, .op 8, .op 9, .op 10], [0, 1, 2, 6, 7, 3, 4, 5, 8, 9, 10], [0, 1, 3, 7, 15, 0, 32, 96, 224, 511, 1023]⟩]
noncomputable def A60 : AFunc := ⟨[some q0], [(e1, none)], (.seq (.reg (.d (mv (cn (.p 0))) q1 .nil)) (.seq (.reg (.p (mv e0) (.p (w1 nilcK l0) (.p (fad 0 l0) (.p (mv e0) (.p (w1 nilcK l0) (.p (fad 1 l0) (.p (ld l3) (.p (w1 lenLK l0) (.p (ld l2) (.p (w2 subK l1 l0) (.d (mv l0) q1 .nil)))))))))))) .ret))⟩
theorem T60 : trFunc Tryz.prog Tryz.f60 1 sl60 pl60 = some A60 := by kernel_rfl
def sl84 : List Nat := [0, 7, 2, 1, 18, 6]
def pl84 : List PlanD := []
noncomputable def A84 : AFunc := ⟨[some q0, some q3, some q2], [(e5, none)], (.seq (.reg (.d (mv (cn (.p 0))) q5 .nil)) (.seq (.reg (.p (mv e0) (.p (mv e3) (.p (call q169 [l1, l0]) (.d (mv l0) q1 .nil))))) (.seq (.seq (.reg (.p (mv e1) (.p (w2 eq0 l0 (cn (.p 0))) (.p (mv l0) (.g 0 false (mv e0) (.g 1 false (mv e2) (.g 2 false (call q115 [l1, l0]) (.g 3 false (w1 notK l0) (.d (pick l4 (cn .tt) l0) q4 .nil))))))))) (.cond e4 (.seq (.reg (.d (mv (cn (.p 1))) q5 .nil)) .ret) .skip)) (.seq (.reg (.p (mv e0) (.p (w1 nilcK l0) (.p (fad 0 l0) (.p (ld l0) (.p (mv e1) (.p (w2 addK l0 (cn (.p 1))) (.p (mv e2) (.p (iad 1 l3 l1) (.p (sto 1 l0 l1) .nil)))))))))) (.seq (.reg (.d (mv (cn (.p 0))) q5 .nil)) .ret)))))⟩
theorem T84 : trFunc Tryz.prog Tryz.f84 3 sl84 pl84 = some A84 := by kernel_rfl
def sl87 : List Nat := [0, 3, 1, 10, 23, 2, 9, 19, 24, 29, 30, 37, 8]
def pl87 : List PlanD := []
noncomputable def A87 : AFunc := ⟨[some q0, some q2, some q5, some q1], [(e12, none)], (.seq (.reg (.d (mv (cn (.p 0))) q12 .nil)) (.seq (.reg (.p (mv e0) (.p (mv e2) (.p (mv e5) (.p (call q171 [l2, l1, l0]) (.p (mv l0) (.p (ext l0 0) (.p (ext l1 1) (.d (mv l1) q6 (.d (mv l1) q3 .nil)))))))))) (.seq (.seq (.reg (.p (mv e3) (.d (ne eq0 l0 (cn (.p 0))) q7 .nil))) (.cond e7 (.seq (.reg (.p (mv e3) (.d (mv l0) q12 .nil))) .ret) .skip)) (.seq (.seq (.reg (.p (mv e0) (.p (mv e2) (.d (call q98 [l1, l0]) q4 .nil)))) (.block 0 (.seq (.reg (.p (w2 eq0 e4 (cn (.p 0))) (.d (mv l0) q8 .nil))) (.cond e8 (.seq (.reg (.p (mv e0) (.p (mv e1) (.p (call q31 [l1, l0]) (.d (w1 notK l0) q9 .nil))))) (.cond e9 (.seq (.reg (.d (mv (cn (.p 6))) q12 .nil)) .ret) .skip)) (.seq (.reg (.p (w2 eq0 e4 (cn (.p 2))) (.d (mv l0) q10 .nil))) (.cond e10 (.seq (.reg (.p (mv e1) (.p (w2 ltK l0 (cn (.p 0))) (.p (mv l0) (.g 0 false (mv e1) (.g 1 false (gt l0 (cn (.p 255))) (.d (pick l2 (cn .tt) l0) q11 .nil))))))) (.cond e11 (.seq (.reg (.d (mv (cn (.p 6))) q12 .nil)) .ret) .skip)) .skip)))))) (.seq (.reg (.p (mv e0) (.p (w1 nilcK l0) (.p (fad 0 l0) (.p (ld l0) (.p (mv e6) (.p (mv e1) (.p (iad 1 l2 l1) (.p (sto 1 l0 l1) .nil))))))))) (.seq (.reg (.d (mv (cn (.p 0))) q12 .nil)) .ret))))))⟩
theorem T87 : trFunc Tryz.prog Tryz.f87 4 sl87 pl87 = some A87 := by kernel_rfl
def sl91 : List Nat := [0, 2]
def pl91 : List PlanD := []
noncomputable def A91 : AFunc := ⟨[some q0], [(e1, none)], (.seq (.reg (.d (mv (cn .ff)) q1 .nil)) (.seq (.reg (.p (mv e0) (.p (w2 andK l0 (cn (.p 1))) (.p (w2 eq0 l0 (cn (.p 1))) (.p (mv l0) (.g 0 true (mv e0) (.g 1 true (w2 shrK l0 (cn (.k 3 1))) (.g 2 true (call q172 [l0, (cn (.m 1073741823)), (cn (.p 1073741823))]) (.p (pick l3 l0 (cn .ff)) (.d (mv l0) q1 .nil)))))))))) .ret))⟩
theorem T91 : trFunc Tryz.prog Tryz.f91 1 sl91 pl91 = some A91 := by kernel_rfl
def sl96 : List Nat := [0, 9, 1, 2, 8, 18, 6, 7]
def pl96 : List PlanD := []
noncomputable def A96 : AFunc := ⟨[some q0, some q2, some q3], [(e6, none), (e7, none)], (.seq (.reg (.d (mv (cn (.p 0))) q6 (.d (mv (cn (.p 0))) q7 .nil))) (.seq (.reg (.p (mv e0) (.p (mv e2) (.p (mv e3) (.p (call q171 [l2, l1, l0]) (.p (mv l0) (.p (ext l0 0) (.p (ext l1 1) (.d (mv l1) q4 (.d (mv l1) q1 .nil)))))))))) (.seq (.seq (.reg (.p (mv e1) (.d (ne eq0 l0 (cn (.p 0))) q5 .nil))) (.cond e5 (.seq (.reg (.p (mv e1) (.d (mv (cn (.p 0))) q6 (.d (mv l1) q7 .nil)))) .ret) .skip)) (.seq (.reg (.p (mv e0) (.p (w1 nilcK l0) (.p (fad 0 l0) (.p (ld l0) (.p (mv e4) (.p (iad 1 l1 l0) (.p (ld l0) (.d (mv l0) q6 (.d (mv (cn (.p 0))) q7 .nil)))))))))) .ret))))⟩
theorem T96 : trFunc Tryz.prog Tryz.f96 3 sl96 pl96 = some A96 := by kernel_rfl
def sl97 : List Nat := [0, 1, 4]
def pl97 : List PlanD := [⟨1, [.op 0, .op 1, .op 2, .op 4, .op 5, .op 3, .op 6, .re 3, .op 7, .op 8, .op 9, .op 10], [0, 1, 2, 5, 3, 4, 6, 8, 9, 10, 11], [0, 1, 3, 7, 0, 0, 48, 112, 255, 511, 1023]⟩]
noncomputable def A97 : AFunc := ⟨[some q0, some q1], [(e2, none)], (.seq (.reg (.d (mv (cn (.p 0))) q2 .nil)) (.seq (.reg (.p (mv e0) (.p (w1 nilcK l0) (.p (fad 0 l0) (.p (mv e0) (.p (mv e1) (.p (ld l2) (.p (call q169 [l2, l1]) (.p (reS (ld l4) 1) (.p (w2 addK l1 (cn (.p 1))) (.p (iad 1 l3 l0) (.p (ld l0) (.d (mv l0) q2 .nil))))))))))))) .ret))⟩
theorem T97 : trFunc Tryz.prog Tryz.f97 2 sl97 pl97 = some A97 := by kernel_rfl
def sl98 : List Nat := [0, 1, 4]
def pl98 : List PlanD := [⟨1, [.op 0, .op 1, .op 2, .op 4, .op 5, .op 3, .op 6, .re 3, .op 7, .op 8, .op 9, .op 10], [0, 1, 2, 5, 3, 4, 6, 8, 9, 10, 11], [0, 1, 3, 7, 0, 0, 48, 127, 255, 511, 1023]⟩]
noncomputable def A98 : AFunc := ⟨[some q0, some q1], [(e2, none)], (.seq (.reg (.d (mv (cn (.p 0))) q2 .nil)) (.seq (.reg (.p (mv e0) (.p (w1 nilcK l0) (.p (fad 0 l0) (.p (mv e0) (.p (mv e1) (.p (ld l2) (.p (call q169 [l2, l1]) (.p (reS (ld l4) 1) (.p (iad 1 l2 l1) (.p (ld l0) (.p (w2 andK l0 (cn (.p 3))) (.d (mv l0) q2 .nil))))))))))))) .ret))⟩
theorem T98 : trFunc Tryz.prog Tryz.f98 2 sl98 pl98 = some A98 := by kernel_rfl
def sl99 : List Nat := [0, 1, 4]
def pl99 : List PlanD := [⟨1, [.op 0, .op 1, .op 2, .op 4, .op 5, .op 3, .op 6, .re 3, .op 7, .op 8, .op 9, .op 10], [0, 1, 2, 5, 3, 4, 6, 8, 9, 10, 11], [0, 1, 3, 7, 0, 0, 48, 127, 255, 511, 1023]⟩]
noncomputable def A99 : AFunc := ⟨[some q0, some q1], [(e2, none)], (.seq (.reg (.d (mv (cn (.p 0))) q2 .nil)) (.seq (.reg (.p (mv e0) (.p (w1 nilcK l0) (.p (fad 0 l0) (.p (mv e0) (.p (mv e1) (.p (ld l2) (.p (call q169 [l2, l1]) (.p (reS (ld l4) 1) (.p (iad 1 l2 l1) (.p (ld l0) (.p (w2 shrK l0 (cn (.k 3 2))) (.d (mv l0) q2 .nil))))))))))))) .ret))⟩
theorem T99 : trFunc Tryz.prog Tryz.f99 2 sl99 pl99 = some A99 := by kernel_rfl
def sl104 : List Nat := [0, 6, 2, 3]
def pl104 : List PlanD := []
noncomputable def A104 : AFunc := ⟨[some q0], [(e2, none), (e3, none)], (.seq (.reg (.d (mv (cn (.p 0))) q2 (.d (mv (cn .ff)) q3 .nil))) (.seq (.seq (.reg (.p (mv e0) (.p (call q172 [l0, (cn (.m 1073741823)), (cn (.p 1073741823))]) (.d (w1 notK l0) q1 .nil)))) (.cond e1 (.seq (.reg (.d (mv (cn (.p 0))) q2 (.d (mv (cn .ff)) q3 .nil))) .ret) .skip)) (.seq (.reg (.p (mv e0) (.p (w2 shlK l0 (cn (.k 3 1))) (.p (w2 orK l0 (cn (.p 1))) (.d (mv l0) q2 (.d (mv (cn .tt)) q3 .nil)))))) .ret)))⟩
theorem T104 : trFunc Tryz.prog Tryz.f104 1 sl104 pl104 = some A104 := by kernel_rfl
def sl106 : List Nat := [0, 5, 2]
def pl106 : List PlanD := []
noncomputable def A106 : AFunc := ⟨[some q0], [(e2, none)], (.seq (.reg (.d (mv (cn (.p 0))) q2 .nil)) (.seq (.seq (.reg (.p (mv e0) (.p (call q91 [l0]) (.d (w1 notK l0) q1 .nil)))) (.cond e1 (.seq (.reg (.d (mv (cn (.p 0))) q2 .nil)) .ret) .skip)) (.seq (.reg (.p (mv e0) (.p (w2 shrK l0 (cn (.k 3 1))) (.d (mv l0) q2 .nil)))) .ret)))⟩
theorem T106 : trFunc Tryz.prog Tryz.f106 1 sl106 pl106 = some A106 := by kernel_rfl
def sl107 : List Nat := [0, 2]
def pl107 : List PlanD := []
noncomputable def A107 : AFunc := ⟨[some q0], [(e1, none)], (.seq (.reg (.d (mv (cn .ff)) q1 .nil)) (.seq (.reg (.p (mv e0) (.p (w2 andK l0 (cn (.p 1))) (.p (w2 eq0 l0 (cn (.p 0))) (.p (mv l0) (.g 0 true (mv e0) (.g 1 true (w2 shrK l0 (cn (.k 3 1))) (.g 2 true (call q172 [l0, (cn (.p 3)), (cn (.p 131072))]) (.p (pick l3 l0 (cn .ff)) (.d (mv l0) q1 .nil)))))))))) .ret))⟩
theorem T107 : trFunc Tryz.prog Tryz.f107 1 sl107 pl107 = some A107 := by kernel_rfl
def sl108 : List Nat := [0, 5, 2]
def pl108 : List PlanD := []
noncomputable def A108 : AFunc := ⟨[some q0], [(e2, none)], (.seq (.reg (.d (mv (cn (.p 0))) q2 .nil)) (.seq (.seq (.reg (.p (mv e0) (.p (call q107 [l0]) (.d (w1 notK l0) q1 .nil)))) (.cond e1 (.seq (.reg (.d (mv (cn (.p 0))) q2 .nil)) .ret) .skip)) (.seq (.reg (.p (mv e0) (.p (w2 shrK l0 (cn (.k 3 1))) (.d (mv l0) q2 .nil)))) .ret)))⟩
theorem T108 : trFunc Tryz.prog Tryz.f108 1 sl108 pl108 = some A108 := by kernel_rfl
def sl115 : List Nat := [1, 0, 4]
def pl115 : List PlanD := []
noncomputable def A115 : AFunc := ⟨[some q1, some q0], [(e2, none)], (.seq (.reg (.d (mv (cn .ff)) q2 .nil)) (.seq (.reg (.p (mv e0) (.p (w2 eq0 l0 (cn (.p 0))) (.p (mv l0) (.g 0 false (mv e1) (.g 1 false (mv e0) (.g 2 false (call q44 [l1, l0]) (.p (pick l3 (cn .tt) l0) (.d (mv l0) q2 .nil))))))))) .ret))⟩
theorem T115 : trFunc Tryz.prog Tryz.f115 2 sl115 pl115 = some A115 := by kernel_rfl
def sl116 : List Nat := [0, 6, 2, 3]
def pl116 : List PlanD := []
noncomputable def A116 : AFunc := ⟨[some q0], [(e2, none), (e3, none)], (.seq (.reg (.d (mv (cn (.p 0))) q2 (.d (mv (cn .ff)) q3 .nil))) (.seq (.seq (.reg (.p (mv e0) (.p (call q172 [l0, (cn (.p 3)), (cn (.p 131072))]) (.d (w1 notK l0) q1 .nil)))) (.cond e1 (.seq (.reg (.d (mv (cn (.p 0))) q2 (.d (mv (cn .ff)) q3 .nil))) .ret) .skip)) (.seq (.reg (.p (mv e0) (.p (w2 shlK l0 (cn (.k 3 1))) (.d (mv l0) q2 (.d (mv (cn .tt)) q3 .nil))))) .ret)))⟩
theorem T116 : trFunc Tryz.prog Tryz.f116 1 sl116 pl116 = some A116 := by kernel_rfl
def sl169 : List Nat := [1, 0, 8, 4]
def pl169 : List PlanD := []
noncomputable def A169 : AFunc := ⟨[some q1, some q0], [(e3, none)], (.seq (.reg (.d (mv (cn (.p 0))) q3 .nil)) (.seq (.seq (.reg (.p (mv e1) (.p (mv e0) (.p (call q44 [l1, l0]) (.d (w1 notK l0) q2 .nil))))) (.cond e2 (.seq (.reg (.d (mv (cn (.p 0))) q3 .nil)) .ret) .skip)) (.seq (.reg (.p (mv e0) (.p (call q108 [l0]) (.d (mv l0) q3 .nil)))) .ret)))⟩
theorem T169 : trFunc Tryz.prog Tryz.f169 2 sl169 pl169 = some A169 := by kernel_rfl
def sl171 : List Nat := [2, 0, 1, 8, 12, 15, 6, 7]
def pl171 : List PlanD := []
noncomputable def A171 : AFunc := ⟨[some q1, some q2, some q0], [(e6, none), (e7, none)], (.seq (.reg (.d (mv (cn (.p 0))) q6 (.d (mv (cn (.p 0))) q7 .nil))) (.seq (.reg (.p (mv e1) (.p (mv e2) (.p (call q169 [l1, l0]) (.d (mv l0) q3 .nil))))) (.seq (.block 0 (.seq (.reg (.p (mv e3) (.p (w2 eq0 l0 (cn (.p 0))) (.d (mv l0) q4 .nil)))) (.cond e4 (.seq (.reg (.d (mv (cn (.p 0))) q6 (.d (mv (cn (.p 1))) q7 .nil))) .ret) (.seq (.reg (.p (mv e0) (.p (w2 ltK l0 (cn (.p 0))) (.p (mv l0) (.g 0 false (mv e0) (.g 1 false (mv e1) (.g 2 false (mv e2) (.g 3 false (call q99 [l1, l0]) (.g 4 false (ge l3 l0) (.p (pick (lo 5) (cn .tt) l0) (.d (mv l0) q5 .nil))))))))))) (.cond e5 (.seq (.reg (.d (mv (cn (.p 0))) q6 (.d (mv (cn (.p 5))) q7 .nil))) .ret) .skip))))) (.seq (.reg (.p (mv e3) (.p (w2 addK l0 (cn (.p 3))) (.p (mv e0) (.p (w2 addK l1 l0) (.d (mv l0) q6 (.d (mv (cn (.p 0))) q7 .nil))))))) .ret))))⟩
theorem T171 : trFunc Tryz.prog Tryz.f171 3 sl171 pl171 = some A171 := by kernel_rfl
def sl172 : List Nat := [0, 1, 2, 6]
def pl172 : List PlanD := []
noncomputable def A172 : AFunc := ⟨[some q0, some q1, some q2], [(e3, none)], (.seq (.reg (.d (mv (cn .ff)) q3 .nil)) (.seq (.reg (.p (mv e0) (.p (mv e1) (.p (ge l1 l0) (.p (mv l0) (.g 0 true (mv e0) (.g 1 true (mv e2) (.g 2 true (le l1 l0) (.p (pick l3 l0 (cn .ff)) (.d (mv l0) q3 .nil)))))))))) .ret))⟩
theorem T172 : trFunc Tryz.prog Tryz.f172 3 sl172 pl172 = some A172 := by kernel_rfl
def sl280 : List Nat := [0, 1, 4]
def pl280 : List PlanD := []
noncomputable def A280 : AFunc := ⟨[some q0, some q1], [(e2, none)], (.seq (.reg (.d (mv (cn (.p 0))) q2 .nil)) (.seq (.reg (.p (mv e0) (.p (mv e1) (.p (call q328 [l1, l0]) (.d (mv l0) q2 .nil))))) .ret))⟩
theorem T280 : trFunc Tryz.prog Tryz.f280 2 sl280 pl280 = some A280 := by kernel_rfl
def sl328 : List Nat := [0, 1, 4]
def pl328 : List PlanD := []
noncomputable def A328 : AFunc := ⟨[some q0, some q1], [(e2, none)], (.seq (.reg (.d (mv (cn (.p 0))) q2 .nil)) (.seq (.reg (.p (mv e0) (.p (mv e1) (.p (call q364 [l1, l0]) (.d (mv l0) q2 .nil))))) .ret))⟩
theorem T328 : trFunc Tryz.prog Tryz.f328 2 sl328 pl328 = some A328 := by kernel_rfl
end Viv
