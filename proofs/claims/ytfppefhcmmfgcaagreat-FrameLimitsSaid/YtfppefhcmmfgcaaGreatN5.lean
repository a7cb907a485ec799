/-
  kernel.New, A SOURCE AT A TIME, CHECKED. Printed by genN.py of wip/.
-/
import Derived.Test.YtfppefhcmmfgcaaGreatLit
set_option maxRecDepth 100000
namespace Viv
theorem n_47 (N : Nat) : chk (execK cF nBody (mkE (nE 47)) ⟨mkR (nS47 N), q82⟩) (nE 48) (nS48 N) q82 = some [.sym 16384 N] := by kernel_rfl
theorem n_48 (N : Nat) : chk (execK cF nBody (mkE (nE 48)) ⟨mkR (nS48 N), q82⟩) (nE 49) (nS49 N) q82 = some [.sym 16384 N] := by kernel_rfl
theorem n_49 (N : Nat) : chk (execK cF nBody (mkE (nE 49)) ⟨mkR (nS49 N), q82⟩) (nE 50) (nS50 N) q82 = some [.sym 16384 N] := by kernel_rfl
theorem n_50 (N : Nat) : chk (execK cF nBody (mkE (nE 50)) ⟨mkR (nS50 N), q82⟩) (nE 51) (nS51 N) q82 = some [.sym 16384 N] := by kernel_rfl
theorem n_51 (N : Nat) : chk (execK cF nBody (mkE (nE 51)) ⟨mkR (nS51 N), q82⟩) (nE 52) (nS52 N) q82 = some [.sym 16384 N] := by kernel_rfl
theorem n_52 (N : Nat) : chk (execK cF nBody (mkE (nE 52)) ⟨mkR (nS52 N), q82⟩) (nE 53) (nS53 N) q82 = some [.sym 16384 N] := by kernel_rfl
theorem n_53 (N : Nat) : chk (execK cF nBody (mkE (nE 53)) ⟨mkR (nS53 N), q82⟩) (nE 54) (nS54 N) q82 = some [.sym 16384 N] := by kernel_rfl
theorem n_54 (N : Nat) : chk (execK cF nBody (mkE (nE 54)) ⟨mkR (nS54 N), q82⟩) (nE 55) (nS55 N) q82 = some [.sym 16384 N] := by kernel_rfl
theorem n_55 (N : Nat) : chk (execK cF nBody (mkE (nE 55)) ⟨mkR (nS55 N), q82⟩) (nE 56) (nS56 N) q82 = some [.sym 16384 N] := by kernel_rfl
theorem n_56 (N : Nat) : chk (execK cF nBody (mkE (nE 56)) ⟨mkR (nS56 N), q82⟩) (nE 57) (nS57 N) q82 = some [.sym 16384 N] := by kernel_rfl
end Viv
