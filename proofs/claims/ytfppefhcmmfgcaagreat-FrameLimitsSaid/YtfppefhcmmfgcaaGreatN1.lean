/-
  kernel.New, A SOURCE AT A TIME, CHECKED. Printed by genN.py of wip/.
-/
import Derived.Test.YtfppefhcmmfgcaaGreatLit
set_option maxRecDepth 100000
namespace Viv
theorem n_10 (N : Nat) : chk (execK cF nBody (mkE (nE 10)) ⟨mkR (nS10 N), q82⟩) (nE 11) (nS11 N) q82 = some [.sym 16384 N] := by kernel_rfl
theorem n_11 (N : Nat) : chk (execK cF nBody (mkE (nE 11)) ⟨mkR (nS11 N), q82⟩) (nE 12) (nS12 N) q82 = some [.sym 16384 N] := by kernel_rfl
theorem n_12 (N : Nat) : chk (execK cF nBody (mkE (nE 12)) ⟨mkR (nS12 N), q82⟩) (nE 13) (nS13 N) q82 = some [.sym 16384 N] := by kernel_rfl
theorem n_13 (N : Nat) : chk (execK cF nBody (mkE (nE 13)) ⟨mkR (nS13 N), q82⟩) (nE 14) (nS14 N) q82 = some [.sym 16384 N] := by kernel_rfl
theorem n_14 (N : Nat) : chk (execK cF nBody (mkE (nE 14)) ⟨mkR (nS14 N), q82⟩) (nE 15) (nS15 N) q82 = some [.sym 16384 N] := by kernel_rfl
theorem n_15 (N : Nat) : chk (execK cF nBody (mkE (nE 15)) ⟨mkR (nS15 N), q82⟩) (nE 16) (nS16 N) q82 = some [.sym 16384 N] := by kernel_rfl
theorem n_16 (N : Nat) : chk (execK cF nBody (mkE (nE 16)) ⟨mkR (nS16 N), q82⟩) (nE 17) (nS17 N) q82 = some [.sym 16384 N] := by kernel_rfl
theorem n_17 (N : Nat) : chk (execK cF nBody (mkE (nE 17)) ⟨mkR (nS17 N), q82⟩) (nE 18) (nS18 N) q82 = some [.sym 16384 N] := by kernel_rfl
theorem n_18 (N : Nat) : chk (execK cF nBody (mkE (nE 18)) ⟨mkR (nS18 N), q82⟩) (nE 19) (nS19 N) q82 = some [.sym 16384 N] := by kernel_rfl
end Viv
