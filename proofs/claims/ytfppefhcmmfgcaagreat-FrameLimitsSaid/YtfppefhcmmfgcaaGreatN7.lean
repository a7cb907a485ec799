/-
  kernel.New, A SOURCE AT A TIME, CHECKED. Printed by genN.py of wip/.
-/
import Derived.Test.YtfppefhcmmfgcaaGreatLit
set_option maxRecDepth 100000
namespace Viv
theorem n_66 (N : Nat) : chk (execK cF nBody (mkE (nE 66)) ⟨mkR (nS66 N), q82⟩) (nE 67) (nS67 N) q82 = some [.sym 16384 N] := by kernel_rfl
theorem n_67 (N : Nat) : chk (execK cF nBody (mkE (nE 67)) ⟨mkR (nS67 N), q82⟩) (nE 68) (nS68 N) q82 = some [.sym 16384 N] := by kernel_rfl
theorem n_68 (N : Nat) : chk (execK cF nBody (mkE (nE 68)) ⟨mkR (nS68 N), q82⟩) (nE 69) (nS69 N) q82 = some [.sym 16384 N] := by kernel_rfl
theorem n_69 (N : Nat) : chk (execK cF nBody (mkE (nE 69)) ⟨mkR (nS69 N), q82⟩) (nE 70) (nS70 N) q82 = some [.sym 16384 N] := by kernel_rfl
theorem n_70 (N : Nat) : chk (execK cF nBody (mkE (nE 70)) ⟨mkR (nS70 N), q82⟩) (nE 71) (nS71 N) q82 = some [.sym 16384 N] := by kernel_rfl
theorem n_71 (N : Nat) : chk (execK cF nBody (mkE (nE 71)) ⟨mkR (nS71 N), q82⟩) (nE 72) (nS72 N) q82 = some [.sym 16384 N] := by kernel_rfl
theorem n_72 (N : Nat) : chk (execK cF nBody (mkE (nE 72)) ⟨mkR (nS72 N), q82⟩) (nE 73) (nS73 N) q82 = some [.sym 16384 N] := by kernel_rfl
theorem n_73 (N : Nat) : chk (execK cF nBody (mkE (nE 73)) ⟨mkR (nS73 N), q82⟩) (nE 74) (nS74 N) q82 = some [.sym 16384 N] := by kernel_rfl
theorem n_74 (N : Nat) : chk (execK cF nBody (mkE (nE 74)) ⟨mkR (nS74 N), q82⟩) (nE 75) (nS75 N) q82 = some [.sym 16384 N] := by kernel_rfl
theorem n_end (N : Nat) : chk (asNorm 7 (execK cF nBody (mkE (nE 75)) ⟨mkR (nS75 N), q82⟩)) bE (fS N) q6 = some [.sym 16384 N] := by kernel_rfl
end Viv
