/-
  kernel.New, A SOURCE AT A TIME, CHECKED. Printed by genN.py of wip/.
-/
import Derived.Test.YtfppefhcmmfgcaaGreatLit
set_option maxRecDepth 100000
namespace Viv
theorem n_29 (N : Nat) : chk (execK cF nBody (mkE (nE 29)) ⟨mkR (nS29 N), q82⟩) (nE 30) (nS30 N) q82 = some [.sym 16384 N] := by kernel_rfl
theorem n_30 (N : Nat) : chk (execK cF nBody (mkE (nE 30)) ⟨mkR (nS30 N), q82⟩) (nE 31) (nS31 N) q82 = some [.sym 16384 N] := by kernel_rfl
theorem n_31 (N : Nat) : chk (execK cF nBody (mkE (nE 31)) ⟨mkR (nS31 N), q82⟩) (nE 32) (nS32 N) q82 = some [.sym 16384 N] := by kernel_rfl
theorem n_32 (N : Nat) : chk (execK cF nBody (mkE (nE 32)) ⟨mkR (nS32 N), q82⟩) (nE 33) (nS33 N) q82 = some [.sym 16384 N] := by kernel_rfl
theorem n_33 (N : Nat) : chk (execK cF nBody (mkE (nE 33)) ⟨mkR (nS33 N), q82⟩) (nE 34) (nS34 N) q82 = some [.sym 16384 N] := by kernel_rfl
theorem n_34 (N : Nat) : chk (execK cF nBody (mkE (nE 34)) ⟨mkR (nS34 N), q82⟩) (nE 35) (nS35 N) q82 = some [.sym 16384 N] := by kernel_rfl
theorem n_35 (N : Nat) : chk (execK cF nBody (mkE (nE 35)) ⟨mkR (nS35 N), q82⟩) (nE 36) (nS36 N) q82 = some [.sym 16384 N] := by kernel_rfl
theorem n_36 (N : Nat) : chk (execK cF nBody (mkE (nE 36)) ⟨mkR (nS36 N), q82⟩) (nE 37) (nS37 N) q82 = some [.sym 16384 N] := by kernel_rfl
theorem n_37 (N : Nat) : chk (execK cF nBody (mkE (nE 37)) ⟨mkR (nS37 N), q82⟩) (nE 38) (nS38 N) q82 = some [.sym 16384 N] := by kernel_rfl
end Viv
