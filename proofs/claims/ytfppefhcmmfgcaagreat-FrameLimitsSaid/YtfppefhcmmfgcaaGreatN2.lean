/-
  kernel.New, A SOURCE AT A TIME, CHECKED. Printed by genN.py of wip/.
-/
import Derived.Test.YtfppefhcmmfgcaaGreatLit
set_option maxRecDepth 100000
namespace Viv
theorem n_19 (N : Nat) : chk (execK cF nBody (mkE (nE 19)) ⟨mkR (nS19 N), q82⟩) (nE 20) (nS20 N) q82 = some [.sym 16384 N] := by kernel_rfl
theorem n_20 (N : Nat) : chk (execK cF nBody (mkE (nE 20)) ⟨mkR (nS20 N), q82⟩) (nE 21) (nS21 N) q82 = some [.sym 16384 N] := by kernel_rfl
theorem n_21 (N : Nat) : chk (execK cF nBody (mkE (nE 21)) ⟨mkR (nS21 N), q82⟩) (nE 22) (nS22 N) q82 = some [.sym 16384 N] := by kernel_rfl
theorem n_22 (N : Nat) : chk (execK cF nBody (mkE (nE 22)) ⟨mkR (nS22 N), q82⟩) (nE 23) (nS23 N) q82 = some [.sym 16384 N] := by kernel_rfl
theorem n_23 (N : Nat) : chk (execK cF nBody (mkE (nE 23)) ⟨mkR (nS23 N), q82⟩) (nE 24) (nS24 N) q82 = some [.sym 16384 N] := by kernel_rfl
theorem n_24 (N : Nat) : chk (execK cF nBody (mkE (nE 24)) ⟨mkR (nS24 N), q82⟩) (nE 25) (nS25 N) q82 = some [.sym 16384 N] := by kernel_rfl
theorem n_25 (N : Nat) : chk (execK cF nBody (mkE (nE 25)) ⟨mkR (nS25 N), q82⟩) (nE 26) (nS26 N) q82 = some [.sym 16384 N] := by kernel_rfl
theorem n_26 (N : Nat) : chk (execK cF nBody (mkE (nE 26)) ⟨mkR (nS26 N), q82⟩) (nE 27) (nS27 N) q82 = some [.sym 16384 N] := by kernel_rfl
theorem n_27 (N : Nat) : chk (execK cF nBody (mkE (nE 27)) ⟨mkR (nS27 N), q82⟩) (nE 28) (nS28 N) q82 = some [.sym 16384 N] := by kernel_rfl
theorem n_28 (N : Nat) : chk (execK cF nBody (mkE (nE 28)) ⟨mkR (nS28 N), q82⟩) (nE 29) (nS29 N) q82 = some [.sym 16384 N] := by kernel_rfl
end Viv
