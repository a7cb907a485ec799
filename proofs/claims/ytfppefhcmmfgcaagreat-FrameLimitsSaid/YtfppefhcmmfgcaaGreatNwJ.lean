/-
  kernel.New, ITS CONTRACT FOR A SIZE BETWEEN 16384 AND 131072. Printed by mkNw.py of wip/.
-/
import Derived.Test.YtfppefhcmmfgcaaGreatN0
import Derived.Test.YtfppefhcmmfgcaaGreatN1
import Derived.Test.YtfppefhcmmfgcaaGreatN2
import Derived.Test.YtfppefhcmmfgcaaGreatN3
import Derived.Test.YtfppefhcmmfgcaaGreatN4
import Derived.Test.YtfppefhcmmfgcaaGreatN5
import Derived.Test.YtfppefhcmmfgcaaGreatN6
import Derived.Test.YtfppefhcmmfgcaaGreatN7
import Derived.Test.YtfppefhcmmfgcaaGreatCutJ
import Derived.Test.YtfppefhcmmfgcaaGreatTok
import Derived.Test.YtfppefhcmmfgcaaGreatLtJ
set_option maxRecDepth 100000
namespace Viv
open Go (Value World IntKind Addr Program Act Exit Oper Operand Ending undef)
open Go.Proofs
def sqA : Go.Code → Go.Code
  | .seq a _ => a
  | c => c
def sqB : Go.Code → Go.Code
  | .seq _ b => b
  | c => c
def inBk : Go.Code → Go.Code
  | .block _ c => c
  | c => c
def inLp : Go.Code → Go.Code
  | .loop c => c
  | c => c
noncomputable def c20 : Go.Code := match Tryz.f20.body with
  | some c => c
  | none => .skip
noncomputable def c20p : Nat → Go.Code
  | 0 => c20
  | n + 1 => sqB (c20p n)
noncomputable def p20 : List Go.Code := [sqA (c20p 0), sqA (c20p 1), sqA (c20p 2), sqA (c20p 3), sqA (c20p 4), sqA (c20p 5)]
noncomputable def pI20 : Go.Code := sqA (sqA (c20p 6))
noncomputable def pB20 : Go.Code := inLp (inBk (sqB (sqA (c20p 6))))
noncomputable def pT20 : Go.Code := sqB (c20p 6)
theorem c20_eq : Tryz.f20.body = some (thenC p20 (.seq (.seq pI20 (.block 7 (.loop pB20))) pT20)) := by kernel_rfl
theorem pre20 : preA (trCode Tryz.prog sl20 Tryz.f20.ntmps pl20) p20 = nPre := by kernel_rfl
theorem init20 : trCode Tryz.prog sl20 Tryz.f20.ntmps pl20 pI20 = nInit := by kernel_rfl
theorem body20 : trCode Tryz.prog sl20 Tryz.f20.ntmps pl20 pB20 = nBody := by kernel_rfl
noncomputable def nTail : ACode := trCode Tryz.prog sl20 Tryz.f20.ntmps pl20 pT20
noncomputable def nRet : Env := match execK cF nTail (mkE bE) ⟨.mt, .h⟩ with
  | .ret e _ => e
  | _ => .mt
theorem n_tail (s : St) : execK cF nTail (mkE bE) s = .ret nRet s := by kernel_rfl
noncomputable def rs20 : List (Opd × Option Nat) := [(e37, none), (e38, none)]
theorem res20 : resOf Tryz.prog sl20 Tryz.f20.results.toList = some rs20 := by kernel_rfl
theorem n_res (s : St) (k : L → RC) : resL rs20 nRet s k = k [.ptr q5 0, .p 0] := by kernel_rfl
theorem n_par : paramsOf sl20 0 1 = [some q8] := by kernel_rfl
theorem n_sz (N e m r ns : Nat) (l : List (Nat × Nat)) : sizesOf (nS N e m r ns l) = [.sym 16384 N] := by kernel_rfl
theorem w_sz (N e m r ns : Nat) (l : List (Nat × Nat)) : sizesOf (wRows N e m r ns l) = [.sym 16384 N] := by kernel_rfl
theorem Sim_none (w : World) (s : St) : Sim (fun _ => none) s w := ⟨(fun _ _ h => by cases h), (fun _ _ h => by cases h), (fun _ _ _ _ h => by cases h)⟩
theorem n_ck {c : CF} {co : Go.Code} {ac : ACode} {e : Env} {s : St} {lE lS nx z z'} (h1 : trCode Tryz.prog sl20 Tryz.f20.ntmps pl20 co = ac) (h : chk (execK c ac e s) lE lS nx = some z) (h2 : sizesOf lS = z') (h3 : z' = z) : chk (execK c (trCode Tryz.prog sl20 Tryz.f20.ntmps pl20 co) e s) lE lS nx = some (sizesOf lS) := by
  rw [h1, h, h2, h3]
theorem asNorm_ok {id : Nat} {r : RC} {lE lS nx zs} (h : chk (asNorm id r) lE lS nx = some zs) : ∃ e s, r = .exit id e s ∧ chk (.norm e s) lE lS nx = some zs := by
  cases r with
  | f why => cases h
  | norm e s => cases h
  | ret e s => cases h
  | exit j e s =>
    simp only [asNorm] at h
    split at h
    · rename_i hb
      exact ⟨e, s, by rw [Nat.eq_of_beq_eq_true hb], h⟩
    · cases h
section
variable {w0 : World} {Q : Exit → Act → World → Prop} {N : Nat}
abbrev Rl (w0 : World) (lE : List (Pth × V)) (lS : List (Pth × AObj)) (nx : Pth) (a : Act) (w : World) : Prop := RelC sl20 Tryz.f20.ntmps w0 lE lS nx a w
theorem n_rounds (hc : CFSound Tryz.prog cF) (hend : ∀ a w, Rl w0 bE (fS N) q6 a w → Q (.exit 7) a w) (a : Act) (w : World) (h : Rl w0 (nE 0) (nS0 N) q82 a w) : Go.Code.rounds Tryz.prog pB20 Q 76 a w := by
  have r75 : ∀ a w, Rl w0 (nE 75) (nS75 N) q82 a w → Go.Code.rounds Tryz.prog pB20 Q 1 a w := fun a w h => by
    rw [Go.rounds_succ]
    have hn := n_end N
    rw [← body20] at hn
    obtain ⟨e1, s1, h1, h2⟩ := asNorm_ok hn
    exact exit_wp hc mixed h1 (h2.trans (congrArg some (w_sz N _ _ _ _ _).symm)) h hend
  have r74 : ∀ a w, Rl w0 (nE 74) (nS74 N) q82 a w → Go.Code.rounds Tryz.prog pB20 Q 2 a w := fun a w h => round_cut hc mixed (n_ck body20 (n_74 N) (n_sz N _ _ _ _ _) rfl) r75 h
  have r73 : ∀ a w, Rl w0 (nE 73) (nS73 N) q82 a w → Go.Code.rounds Tryz.prog pB20 Q 3 a w := fun a w h => round_cut hc mixed (n_ck body20 (n_73 N) (n_sz N _ _ _ _ _) rfl) r74 h
  have r72 : ∀ a w, Rl w0 (nE 72) (nS72 N) q82 a w → Go.Code.rounds Tryz.prog pB20 Q 4 a w := fun a w h => round_cut hc mixed (n_ck body20 (n_72 N) (n_sz N _ _ _ _ _) rfl) r73 h
  have r71 : ∀ a w, Rl w0 (nE 71) (nS71 N) q82 a w → Go.Code.rounds Tryz.prog pB20 Q 5 a w := fun a w h => round_cut hc mixed (n_ck body20 (n_71 N) (n_sz N _ _ _ _ _) rfl) r72 h
  have r70 : ∀ a w, Rl w0 (nE 70) (nS70 N) q82 a w → Go.Code.rounds Tryz.prog pB20 Q 6 a w := fun a w h => round_cut hc mixed (n_ck body20 (n_70 N) (n_sz N _ _ _ _ _) rfl) r71 h
  have r69 : ∀ a w, Rl w0 (nE 69) (nS69 N) q82 a w → Go.Code.rounds Tryz.prog pB20 Q 7 a w := fun a w h => round_cut hc mixed (n_ck body20 (n_69 N) (n_sz N _ _ _ _ _) rfl) r70 h
  have r68 : ∀ a w, Rl w0 (nE 68) (nS68 N) q82 a w → Go.Code.rounds Tryz.prog pB20 Q 8 a w := fun a w h => round_cut hc mixed (n_ck body20 (n_68 N) (n_sz N _ _ _ _ _) rfl) r69 h
  have r67 : ∀ a w, Rl w0 (nE 67) (nS67 N) q82 a w → Go.Code.rounds Tryz.prog pB20 Q 9 a w := fun a w h => round_cut hc mixed (n_ck body20 (n_67 N) (n_sz N _ _ _ _ _) rfl) r68 h
  have r66 : ∀ a w, Rl w0 (nE 66) (nS66 N) q82 a w → Go.Code.rounds Tryz.prog pB20 Q 10 a w := fun a w h => round_cut hc mixed (n_ck body20 (n_66 N) (n_sz N _ _ _ _ _) rfl) r67 h
  have r65 : ∀ a w, Rl w0 (nE 65) (nS65 N) q82 a w → Go.Code.rounds Tryz.prog pB20 Q 11 a w := fun a w h => round_cut hc mixed (n_ck body20 (n_65 N) (n_sz N _ _ _ _ _) rfl) r66 h
  have r64 : ∀ a w, Rl w0 (nE 64) (nS64 N) q82 a w → Go.Code.rounds Tryz.prog pB20 Q 12 a w := fun a w h => round_cut hc mixed (n_ck body20 (n_64 N) (n_sz N _ _ _ _ _) rfl) r65 h
  have r63 : ∀ a w, Rl w0 (nE 63) (nS63 N) q82 a w → Go.Code.rounds Tryz.prog pB20 Q 13 a w := fun a w h => round_cut hc mixed (n_ck body20 (n_63 N) (n_sz N _ _ _ _ _) rfl) r64 h
  have r62 : ∀ a w, Rl w0 (nE 62) (nS62 N) q82 a w → Go.Code.rounds Tryz.prog pB20 Q 14 a w := fun a w h => round_cut hc mixed (n_ck body20 (n_62 N) (n_sz N _ _ _ _ _) rfl) r63 h
  have r61 : ∀ a w, Rl w0 (nE 61) (nS61 N) q82 a w → Go.Code.rounds Tryz.prog pB20 Q 15 a w := fun a w h => round_cut hc mixed (n_ck body20 (n_61 N) (n_sz N _ _ _ _ _) rfl) r62 h
  have r60 : ∀ a w, Rl w0 (nE 60) (nS60 N) q82 a w → Go.Code.rounds Tryz.prog pB20 Q 16 a w := fun a w h => round_cut hc mixed (n_ck body20 (n_60 N) (n_sz N _ _ _ _ _) rfl) r61 h
  have r59 : ∀ a w, Rl w0 (nE 59) (nS59 N) q82 a w → Go.Code.rounds Tryz.prog pB20 Q 17 a w := fun a w h => round_cut hc mixed (n_ck body20 (n_59 N) (n_sz N _ _ _ _ _) rfl) r60 h
  have r58 : ∀ a w, Rl w0 (nE 58) (nS58 N) q82 a w → Go.Code.rounds Tryz.prog pB20 Q 18 a w := fun a w h => round_cut hc mixed (n_ck body20 (n_58 N) (n_sz N _ _ _ _ _) rfl) r59 h
  have r57 : ∀ a w, Rl w0 (nE 57) (nS57 N) q82 a w → Go.Code.rounds Tryz.prog pB20 Q 19 a w := fun a w h => round_cut hc mixed (n_ck body20 (n_57 N) (n_sz N _ _ _ _ _) rfl) r58 h
  have r56 : ∀ a w, Rl w0 (nE 56) (nS56 N) q82 a w → Go.Code.rounds Tryz.prog pB20 Q 20 a w := fun a w h => round_cut hc mixed (n_ck body20 (n_56 N) (n_sz N _ _ _ _ _) rfl) r57 h
  have r55 : ∀ a w, Rl w0 (nE 55) (nS55 N) q82 a w → Go.Code.rounds Tryz.prog pB20 Q 21 a w := fun a w h => round_cut hc mixed (n_ck body20 (n_55 N) (n_sz N _ _ _ _ _) rfl) r56 h
  have r54 : ∀ a w, Rl w0 (nE 54) (nS54 N) q82 a w → Go.Code.rounds Tryz.prog pB20 Q 22 a w := fun a w h => round_cut hc mixed (n_ck body20 (n_54 N) (n_sz N _ _ _ _ _) rfl) r55 h
  have r53 : ∀ a w, Rl w0 (nE 53) (nS53 N) q82 a w → Go.Code.rounds Tryz.prog pB20 Q 23 a w := fun a w h => round_cut hc mixed (n_ck body20 (n_53 N) (n_sz N _ _ _ _ _) rfl) r54 h
  have r52 : ∀ a w, Rl w0 (nE 52) (nS52 N) q82 a w → Go.Code.rounds Tryz.prog pB20 Q 24 a w := fun a w h => round_cut hc mixed (n_ck body20 (n_52 N) (n_sz N _ _ _ _ _) rfl) r53 h
  have r51 : ∀ a w, Rl w0 (nE 51) (nS51 N) q82 a w → Go.Code.rounds Tryz.prog pB20 Q 25 a w := fun a w h => round_cut hc mixed (n_ck body20 (n_51 N) (n_sz N _ _ _ _ _) rfl) r52 h
  have r50 : ∀ a w, Rl w0 (nE 50) (nS50 N) q82 a w → Go.Code.rounds Tryz.prog pB20 Q 26 a w := fun a w h => round_cut hc mixed (n_ck body20 (n_50 N) (n_sz N _ _ _ _ _) rfl) r51 h
  have r49 : ∀ a w, Rl w0 (nE 49) (nS49 N) q82 a w → Go.Code.rounds Tryz.prog pB20 Q 27 a w := fun a w h => round_cut hc mixed (n_ck body20 (n_49 N) (n_sz N _ _ _ _ _) rfl) r50 h
  have r48 : ∀ a w, Rl w0 (nE 48) (nS48 N) q82 a w → Go.Code.rounds Tryz.prog pB20 Q 28 a w := fun a w h => round_cut hc mixed (n_ck body20 (n_48 N) (n_sz N _ _ _ _ _) rfl) r49 h
  have r47 : ∀ a w, Rl w0 (nE 47) (nS47 N) q82 a w → Go.Code.rounds Tryz.prog pB20 Q 29 a w := fun a w h => round_cut hc mixed (n_ck body20 (n_47 N) (n_sz N _ _ _ _ _) rfl) r48 h
  have r46 : ∀ a w, Rl w0 (nE 46) (nS46 N) q82 a w → Go.Code.rounds Tryz.prog pB20 Q 30 a w := fun a w h => round_cut hc mixed (n_ck body20 (n_46 N) (n_sz N _ _ _ _ _) rfl) r47 h
  have r45 : ∀ a w, Rl w0 (nE 45) (nS45 N) q82 a w → Go.Code.rounds Tryz.prog pB20 Q 31 a w := fun a w h => round_cut hc mixed (n_ck body20 (n_45 N) (n_sz N _ _ _ _ _) rfl) r46 h
  have r44 : ∀ a w, Rl w0 (nE 44) (nS44 N) q82 a w → Go.Code.rounds Tryz.prog pB20 Q 32 a w := fun a w h => round_cut hc mixed (n_ck body20 (n_44 N) (n_sz N _ _ _ _ _) rfl) r45 h
  have r43 : ∀ a w, Rl w0 (nE 43) (nS43 N) q82 a w → Go.Code.rounds Tryz.prog pB20 Q 33 a w := fun a w h => round_cut hc mixed (n_ck body20 (n_43 N) (n_sz N _ _ _ _ _) rfl) r44 h
  have r42 : ∀ a w, Rl w0 (nE 42) (nS42 N) q82 a w → Go.Code.rounds Tryz.prog pB20 Q 34 a w := fun a w h => round_cut hc mixed (n_ck body20 (n_42 N) (n_sz N _ _ _ _ _) rfl) r43 h
  have r41 : ∀ a w, Rl w0 (nE 41) (nS41 N) q82 a w → Go.Code.rounds Tryz.prog pB20 Q 35 a w := fun a w h => round_cut hc mixed (n_ck body20 (n_41 N) (n_sz N _ _ _ _ _) rfl) r42 h
  have r40 : ∀ a w, Rl w0 (nE 40) (nS40 N) q82 a w → Go.Code.rounds Tryz.prog pB20 Q 36 a w := fun a w h => round_cut hc mixed (n_ck body20 (n_40 N) (n_sz N _ _ _ _ _) rfl) r41 h
  have r39 : ∀ a w, Rl w0 (nE 39) (nS39 N) q82 a w → Go.Code.rounds Tryz.prog pB20 Q 37 a w := fun a w h => round_cut hc mixed (n_ck body20 (n_39 N) (n_sz N _ _ _ _ _) rfl) r40 h
  have r38 : ∀ a w, Rl w0 (nE 38) (nS38 N) q82 a w → Go.Code.rounds Tryz.prog pB20 Q 38 a w := fun a w h => round_cut hc mixed (n_ck body20 (n_38 N) (n_sz N _ _ _ _ _) rfl) r39 h
  have r37 : ∀ a w, Rl w0 (nE 37) (nS37 N) q82 a w → Go.Code.rounds Tryz.prog pB20 Q 39 a w := fun a w h => round_cut hc mixed (n_ck body20 (n_37 N) (n_sz N _ _ _ _ _) rfl) r38 h
  have r36 : ∀ a w, Rl w0 (nE 36) (nS36 N) q82 a w → Go.Code.rounds Tryz.prog pB20 Q 40 a w := fun a w h => round_cut hc mixed (n_ck body20 (n_36 N) (n_sz N _ _ _ _ _) rfl) r37 h
  have r35 : ∀ a w, Rl w0 (nE 35) (nS35 N) q82 a w → Go.Code.rounds Tryz.prog pB20 Q 41 a w := fun a w h => round_cut hc mixed (n_ck body20 (n_35 N) (n_sz N _ _ _ _ _) rfl) r36 h
  have r34 : ∀ a w, Rl w0 (nE 34) (nS34 N) q82 a w → Go.Code.rounds Tryz.prog pB20 Q 42 a w := fun a w h => round_cut hc mixed (n_ck body20 (n_34 N) (n_sz N _ _ _ _ _) rfl) r35 h
  have r33 : ∀ a w, Rl w0 (nE 33) (nS33 N) q82 a w → Go.Code.rounds Tryz.prog pB20 Q 43 a w := fun a w h => round_cut hc mixed (n_ck body20 (n_33 N) (n_sz N _ _ _ _ _) rfl) r34 h
  have r32 : ∀ a w, Rl w0 (nE 32) (nS32 N) q82 a w → Go.Code.rounds Tryz.prog pB20 Q 44 a w := fun a w h => round_cut hc mixed (n_ck body20 (n_32 N) (n_sz N _ _ _ _ _) rfl) r33 h
  have r31 : ∀ a w, Rl w0 (nE 31) (nS31 N) q82 a w → Go.Code.rounds Tryz.prog pB20 Q 45 a w := fun a w h => round_cut hc mixed (n_ck body20 (n_31 N) (n_sz N _ _ _ _ _) rfl) r32 h
  have r30 : ∀ a w, Rl w0 (nE 30) (nS30 N) q82 a w → Go.Code.rounds Tryz.prog pB20 Q 46 a w := fun a w h => round_cut hc mixed (n_ck body20 (n_30 N) (n_sz N _ _ _ _ _) rfl) r31 h
  have r29 : ∀ a w, Rl w0 (nE 29) (nS29 N) q82 a w → Go.Code.rounds Tryz.prog pB20 Q 47 a w := fun a w h => round_cut hc mixed (n_ck body20 (n_29 N) (n_sz N _ _ _ _ _) rfl) r30 h
  have r28 : ∀ a w, Rl w0 (nE 28) (nS28 N) q82 a w → Go.Code.rounds Tryz.prog pB20 Q 48 a w := fun a w h => round_cut hc mixed (n_ck body20 (n_28 N) (n_sz N _ _ _ _ _) rfl) r29 h
  have r27 : ∀ a w, Rl w0 (nE 27) (nS27 N) q82 a w → Go.Code.rounds Tryz.prog pB20 Q 49 a w := fun a w h => round_cut hc mixed (n_ck body20 (n_27 N) (n_sz N _ _ _ _ _) rfl) r28 h
  have r26 : ∀ a w, Rl w0 (nE 26) (nS26 N) q82 a w → Go.Code.rounds Tryz.prog pB20 Q 50 a w := fun a w h => round_cut hc mixed (n_ck body20 (n_26 N) (n_sz N _ _ _ _ _) rfl) r27 h
  have r25 : ∀ a w, Rl w0 (nE 25) (nS25 N) q82 a w → Go.Code.rounds Tryz.prog pB20 Q 51 a w := fun a w h => round_cut hc mixed (n_ck body20 (n_25 N) (n_sz N _ _ _ _ _) rfl) r26 h
  have r24 : ∀ a w, Rl w0 (nE 24) (nS24 N) q82 a w → Go.Code.rounds Tryz.prog pB20 Q 52 a w := fun a w h => round_cut hc mixed (n_ck body20 (n_24 N) (n_sz N _ _ _ _ _) rfl) r25 h
  have r23 : ∀ a w, Rl w0 (nE 23) (nS23 N) q82 a w → Go.Code.rounds Tryz.prog pB20 Q 53 a w := fun a w h => round_cut hc mixed (n_ck body20 (n_23 N) (n_sz N _ _ _ _ _) rfl) r24 h
  have r22 : ∀ a w, Rl w0 (nE 22) (nS22 N) q82 a w → Go.Code.rounds Tryz.prog pB20 Q 54 a w := fun a w h => round_cut hc mixed (n_ck body20 (n_22 N) (n_sz N _ _ _ _ _) rfl) r23 h
  have r21 : ∀ a w, Rl w0 (nE 21) (nS21 N) q82 a w → Go.Code.rounds Tryz.prog pB20 Q 55 a w := fun a w h => round_cut hc mixed (n_ck body20 (n_21 N) (n_sz N _ _ _ _ _) rfl) r22 h
  have r20 : ∀ a w, Rl w0 (nE 20) (nS20 N) q82 a w → Go.Code.rounds Tryz.prog pB20 Q 56 a w := fun a w h => round_cut hc mixed (n_ck body20 (n_20 N) (n_sz N _ _ _ _ _) rfl) r21 h
  have r19 : ∀ a w, Rl w0 (nE 19) (nS19 N) q82 a w → Go.Code.rounds Tryz.prog pB20 Q 57 a w := fun a w h => round_cut hc mixed (n_ck body20 (n_19 N) (n_sz N _ _ _ _ _) rfl) r20 h
  have r18 : ∀ a w, Rl w0 (nE 18) (nS18 N) q82 a w → Go.Code.rounds Tryz.prog pB20 Q 58 a w := fun a w h => round_cut hc mixed (n_ck body20 (n_18 N) (n_sz N _ _ _ _ _) rfl) r19 h
  have r17 : ∀ a w, Rl w0 (nE 17) (nS17 N) q82 a w → Go.Code.rounds Tryz.prog pB20 Q 59 a w := fun a w h => round_cut hc mixed (n_ck body20 (n_17 N) (n_sz N _ _ _ _ _) rfl) r18 h
  have r16 : ∀ a w, Rl w0 (nE 16) (nS16 N) q82 a w → Go.Code.rounds Tryz.prog pB20 Q 60 a w := fun a w h => round_cut hc mixed (n_ck body20 (n_16 N) (n_sz N _ _ _ _ _) rfl) r17 h
  have r15 : ∀ a w, Rl w0 (nE 15) (nS15 N) q82 a w → Go.Code.rounds Tryz.prog pB20 Q 61 a w := fun a w h => round_cut hc mixed (n_ck body20 (n_15 N) (n_sz N _ _ _ _ _) rfl) r16 h
  have r14 : ∀ a w, Rl w0 (nE 14) (nS14 N) q82 a w → Go.Code.rounds Tryz.prog pB20 Q 62 a w := fun a w h => round_cut hc mixed (n_ck body20 (n_14 N) (n_sz N _ _ _ _ _) rfl) r15 h
  have r13 : ∀ a w, Rl w0 (nE 13) (nS13 N) q82 a w → Go.Code.rounds Tryz.prog pB20 Q 63 a w := fun a w h => round_cut hc mixed (n_ck body20 (n_13 N) (n_sz N _ _ _ _ _) rfl) r14 h
  have r12 : ∀ a w, Rl w0 (nE 12) (nS12 N) q82 a w → Go.Code.rounds Tryz.prog pB20 Q 64 a w := fun a w h => round_cut hc mixed (n_ck body20 (n_12 N) (n_sz N _ _ _ _ _) rfl) r13 h
  have r11 : ∀ a w, Rl w0 (nE 11) (nS11 N) q82 a w → Go.Code.rounds Tryz.prog pB20 Q 65 a w := fun a w h => round_cut hc mixed (n_ck body20 (n_11 N) (n_sz N _ _ _ _ _) rfl) r12 h
  have r10 : ∀ a w, Rl w0 (nE 10) (nS10 N) q82 a w → Go.Code.rounds Tryz.prog pB20 Q 66 a w := fun a w h => round_cut hc mixed (n_ck body20 (n_10 N) (n_sz N _ _ _ _ _) rfl) r11 h
  have r9 : ∀ a w, Rl w0 (nE 9) (nS9 N) q82 a w → Go.Code.rounds Tryz.prog pB20 Q 67 a w := fun a w h => round_cut hc mixed (n_ck body20 (n_9 N) (n_sz N _ _ _ _ _) rfl) r10 h
  have r8 : ∀ a w, Rl w0 (nE 8) (nS8 N) q82 a w → Go.Code.rounds Tryz.prog pB20 Q 68 a w := fun a w h => round_cut hc mixed (n_ck body20 (n_8 N) (n_sz N _ _ _ _ _) rfl) r9 h
  have r7 : ∀ a w, Rl w0 (nE 7) (nS7 N) q82 a w → Go.Code.rounds Tryz.prog pB20 Q 69 a w := fun a w h => round_cut hc mixed (n_ck body20 (n_7 N) (n_sz N _ _ _ _ _) rfl) r8 h
  have r6 : ∀ a w, Rl w0 (nE 6) (nS6 N) q82 a w → Go.Code.rounds Tryz.prog pB20 Q 70 a w := fun a w h => round_cut hc mixed (n_ck body20 (n_6 N) (n_sz N _ _ _ _ _) rfl) r7 h
  have r5 : ∀ a w, Rl w0 (nE 5) (nS5 N) q82 a w → Go.Code.rounds Tryz.prog pB20 Q 71 a w := fun a w h => round_cut hc mixed (n_ck body20 (n_5 N) (n_sz N _ _ _ _ _) rfl) r6 h
  have r4 : ∀ a w, Rl w0 (nE 4) (nS4 N) q82 a w → Go.Code.rounds Tryz.prog pB20 Q 72 a w := fun a w h => round_cut hc mixed (n_ck body20 (n_4 N) (n_sz N _ _ _ _ _) rfl) r5 h
  have r3 : ∀ a w, Rl w0 (nE 3) (nS3 N) q82 a w → Go.Code.rounds Tryz.prog pB20 Q 73 a w := fun a w h => round_cut hc mixed (n_ck body20 (n_3 N) (n_sz N _ _ _ _ _) rfl) r4 h
  have r2 : ∀ a w, Rl w0 (nE 2) (nS2 N) q82 a w → Go.Code.rounds Tryz.prog pB20 Q 74 a w := fun a w h => round_cut hc mixed (n_ck body20 (n_2 N) (n_sz N _ _ _ _ _) rfl) r3 h
  have r1 : ∀ a w, Rl w0 (nE 1) (nS1 N) q82 a w → Go.Code.rounds Tryz.prog pB20 Q 75 a w := fun a w h => round_cut hc mixed (n_ck body20 (n_1 N) (n_sz N _ _ _ _ _) rfl) r2 h
  have r0 : ∀ a w, Rl w0 (nE 0) (nS0 N) q82 a w → Go.Code.rounds Tryz.prog pB20 Q 76 a w := fun a w h => round_cut hc mixed (n_ck body20 (n_0 N) (n_sz N _ _ _ _ _) rfl) r1 h
  exact r0 a w h
end
/-- New of a size between 16384 and 131072: the kernel and no error -/
theorem new_says (hc : CFSound Tryz.prog cF) {N : Nat} (h1 : 16384 ≤ N) (h2 : N ≤ 131072) (w : World) :
    Goes Tryz.prog (Go.callFunc 20 #[.int .i64 N]) w (fun x w' => ∃ β, VRel β (.tup [.ptr q5 0, .p 0]) x ∧ Sim β ⟨mkR (fS N), q6⟩ w' ∧ Since w β w') := by
  unfold Goes
  rw [Tryz.call20]
  refine Go.calls_of_wp Tryz.func20 c20_eq ?_
  have hr0 : ERel sl20 Tryz.f20.ntmps (fun _ => none) (bindP [some q8] [.sym 16384 N]) { tmps := #[.int .i64 N] ++ Array.replicate (Tryz.f20.ntmps - (#[.int .i64 N] : Array Value).size) undef, defers := [] } := by
    have := enter_rel (sl := sl20) (β := fun _ => none) («as» := [.sym 16384 N]) (args := [.int .i64 N]) (VRels.cons _ _ _ _ (VRel.sym _ _ h1 h2) VRels.nil) 1 Tryz.f20.ntmps
    rwa [n_par] at this
  obtain ⟨e1, s1, hp1⟩ := chk_norm (n_pre N)
  refine pre_wp hc mixed (nt := Tryz.f20.ntmps) (pls := pl20) p20 _ ⟨.mt, .h⟩ (fun _ => none) w _ e1 s1 (by simp [p20]) (Sim_none w _) hr0 (by rw [pre20]; exact hp1) fun β' a' w' hs' hp' he' => ?_
  have hn := n_pre N
  rw [hp1] at hn
  have hR : Rl w bE (bS N) q6 a' w' := relC_of (hn.trans (congrArg some (w_sz N _ _ _ _ _).symm)) (Since.refl w) hs' hp' he'
  refine Go.wp_seq (Go.wp_seq (cut_wp hc mixed (n_ck init20 (n_init N) (n_sz N _ _ _ _ _) rfl) hR fun a w h => ?_))
  refine Go.wp_block (Go.wp_loop_rounds 76 (n_rounds hc (fun a w h => ?_) a w h))
  show Go.Code.wp _ _ _ _ _
  obtain ⟨β, hs, he, hsi⟩ := h
  have ht : execK cF (trCode Tryz.prog sl20 Tryz.f20.ntmps pl20 pT20) (mkE bE) ⟨mkR (fS N), q6⟩ = .ret nRet ⟨mkR (fS N), q6⟩ := n_tail _
  refine code_says hc Tryz.f20.ntmps pl20 mixed pT20 (mkE bE) _ β w a hs he _ (fun why h => by rw [ht] at h; cases h) fun ex e' s' β' a' w' hm hs' hp' he' => ?_
  rw [ht] at hm
  cases hm
  rcases results_out res20 hs' he' with hfl | ⟨l2, xs, hl2, hrel, hrun⟩
  · have := hfl (fun _ => .norm .mt ⟨.mt, .h⟩)
    rw [n_res] at this
    cases this
  · have hl : l2 = [.ptr q5 0, .p 0] := uniqL hl2 (n_res _)
    subst hl
    obtain ⟨v', hv', hvr⟩ := res2_out hrel
    have hv : v' = .tup [.ptr q5 0, .p 0] := uniqV hv' (fun k => rfl)
    subst hv
    exact ⟨he'.defers, _, hrun, _, rfl, β', hvr, hs', hsi.post hp'⟩
end Viv

/-
  kernel.New, whole.
-/
set_option maxRecDepth 100000
namespace Viv
open Go (Value World)
open Go.Proofs
theorem cF_ok : CFSound Tryz.prog cF := FT_snd ok341 60
theorem callK_ok (n : Nat) : CFSound Tryz.prog (callK FT n) := FT_snd ok341 n
theorem new_ok {N : Nat} (h1 : 16384 ≤ N) (h2 : N ≤ 131072) (w : World) :
    Goes Tryz.prog (Go.callFunc 20 #[.int .i64 N]) w (fun x w' => ∃ β, VRel β (.tup [.ptr q5 0, .p 0]) x ∧ Sim β ⟨mkR (fS N), q6⟩ w' ∧ Since w β w') := new_says cF_ok h1 h2 w
end Viv

/-
  kernel.New with its size as a plain number.
-/
set_option maxRecDepth 100000
namespace Viv
open Go (Value World IntKind Addr Program Act Exit Oper Operand Ending undef)
open Go.Proofs

theorem get_cons (q : Pth) (o : AObj) (r : List (Pth × AObj)) (nx id : Pth) : (⟨mkR ((q, o) :: r), nx⟩ : St).get id = if id = q then o else (⟨mkR r, nx⟩ : St).get id := by unfold St.get; exact pget_pset AObj.none q id o (mkR r)
theorem Sim.plain {β : Beta} {w : World} {q nx : Pth} {m : Mem} {r : List (Pth × AObj)} {lo N : Nat} (h : Sim β ⟨mkR ((q, .mem m) :: r), nx⟩ w) (hm : m.size = .sym lo N) : Sim β ⟨mkR ((q, .mem { m with size := .p N }) :: r), nx⟩ w := by
  refine ⟨h.fresh, fun id loc hb => ?_, fun id id' loc loc' h1 h2 g1 g2 => h.disj id id' loc loc' h1 h2 ?_ ?_⟩
  · have := h.obj id loc hb
    rw [get_cons] at this ⊢
    by_cases e : id = q
    · rw [if_pos e] at this ⊢
      cases loc with
      | mem x =>
        obtain ⟨hne, sz, bp, hw, hp, h4, h5⟩ := this
        refine ⟨hne, sz, bp, ⟨hw.lo, hw.hi, ?_, hw.end1, hw.end2, hw.made, hw.rest, hw.range⟩, hp, h4, h5⟩
        have hs := hw.size
        rw [hm] at hs
        have hi := hw.hi
        cases hs
        exact .p _ (by omega)
      | _ => exact this.elim
    · rw [if_neg e] at this ⊢; exact this
  · rw [get_cons] at g1 ⊢
    by_cases e : id = q
    · rw [if_pos e]; simp
    · rw [if_neg e] at g1 ⊢; exact g1
  · rw [get_cons] at g2 ⊢
    by_cases e : id' = q
    · rw [if_pos e]; simp
    · rw [if_neg e] at g2 ⊢; exact g2
/-- the rows of New's world, the size a number -/
noncomputable def fP (N : Nat) : List (Pth × AObj) := match fS N with
  | (q, .mem m) :: r => (q, .mem { m with size := .p N }) :: r
  | l => l
theorem new_okP {N : Nat} (h1 : 16384 ≤ N) (h2 : N ≤ 131072) (w : World) :
    Goes Tryz.prog (Go.callFunc 20 #[.int .i64 N]) w (fun x w' => ∃ β, VRel β (.tup [.ptr q5 0, .p 0]) x ∧ Sim β ⟨mkR (fP N), q6⟩ w' ∧ Since w β w') :=
  (new_ok h1 h2 w).mono fun _x _w' ⟨β, hx, hs, hsi⟩ => ⟨β, hx, Sim.plain (lo := 16384) (N := N) hs rfl, hsi⟩
end Viv

/-
  kernel.New as an entry of the table: where nothing has been made yet. A closed run with no argument as an entry: its answer, nothing else.
-/
set_option maxRecDepth 100000
namespace Viv
open Go (Value World IntKind Addr Program Act Exit Oper Operand Ending undef)
open Go.Proofs

noncomputable def sp_new0 (l : L) (s : St) (k : K) : RC := match s.next with
  | .h => match l with
    | [.p n] => match Nat.ble 16384 n && Nat.ble n 131072 with
      | true => k (.tup [.ptr q5 0, .p 0]) ⟨mkR (fP n), q6⟩
      | false => fl
    | _ => fl
  | _ => fl
/-- what is new since a world, told of a state in which nothing lives -/
theorem Since.after {β : Beta} {s s' : St} {w w' : World} (hs : Sim β s w) (hn : s.next = .h) {v : V} {x : Value} {β' : Beta} (hv : VRel β' v x) (hs' : Sim β' s' w') (h : Since w β' w') : After β s w v s' x w' := by
  have hno : ∀ id, β id = none := fun id => by
    cases hb : β id with
    | none => rfl
    | some loc => have := hs.fresh id loc hb; rw [hn] at this; exact absurd this (Nat.not_lt_zero _)
  refine ⟨β', hv, hs', ⟨?_, h.size, ?_, fun b hb _ => h.keep b hb, ?_, fun id hne => absurd (hno id) hne, ?_, h.tape, h.os, h.output⟩⟩
  · intro id loc hb; rw [hno] at hb; cases hb
  · rw [hn]; exact Nat.zero_le _
  · intro id loc hb _
    exact ⟨by rw [hn]; exact Nat.zero_le _, fun b hm => .inl (h.new id loc hb b hm)⟩
  · intro id hl; rw [hn] at hl; exact absurd hl (Nat.not_lt_zero _)
theorem sp20 : SpOk Tryz.prog 20 sp_new0 := fun β s w l args hs ha => by
  cases hn : s.next with
  | o p => exact .inl ⟨0, fun k => by unfold sp_new0; rw [hn]; rfl⟩
  | i p => exact .inl ⟨0, fun k => by unfold sp_new0; rw [hn]; rfl⟩
  | h =>
    by_cases hl : ∃ n, l = [.p n]
    case neg =>
      refine .inl ⟨0, fun k => ?_⟩
      unfold sp_new0; rw [hn]
      match l, hl with
      | [], _ => rfl
      | [.p n], h => exact absurd ⟨n, rfl⟩ h
      | v :: u :: r, _ => cases v <;> rfl
      | [.bad], _ | [.tt], _ | [.ff], _ | [.m _], _ | [.by _], _ | [.k _ _], _ | [.sym _ _], _ | [.str _ _], _ | [.ptr _ _], _ | [.nilp], _ | [.slc ..], _ | [.esl], _ | [.nils], _ | [.map _], _ | [.nilm], _ | [.fn ..], _ | [.nilf], _ | [.agg _], _ | [.tup _], _ => rfl
    obtain ⟨n, rfl⟩ := hl
    cases hb : (Nat.ble 16384 n && Nat.ble n 131072) with
    | false => exact .inl ⟨0, fun k => by unfold sp_new0; rw [hn]; simp only [hb]; rfl⟩
    | true =>
      refine .inr ⟨.tup [.ptr q5 0, .p 0], ⟨mkR (fP n), q6⟩, fun k => by unfold sp_new0; rw [hn]; simp only [hb], ?_⟩
      simp only [Bool.and_eq_true, Nat.ble_eq] at hb
      cases ha with | cons _ x _ l' a b =>
      cases b
      cases a
      exact (new_okP hb.1 hb.2 w).mono fun v w' ⟨β', hv, hs', hsi⟩ => hsi.after hs hn hv hs'
end Viv
