/-
  kernel.New, A SOURCE AT A TIME, CHECKED. Printed by genN.py of wip/.
-/
import Derived.Test.YtfppefhcmmfgcaaGreatLit
set_option maxRecDepth 100000
namespace Viv
theorem n_pre (N : Nat) : chk (execK cF nPre (bindP [some q8] [.sym 16384 N]) ⟨.mt, .h⟩) bE (bS N) q6 = some [.sym 16384 N] := by kernel_rfl
theorem n_init (N : Nat) : chk (execK cF nInit (mkE bE) ⟨mkR (bS N), q6⟩) (nE 0) (nS0 N) q82 = some [.sym 16384 N] := by kernel_rfl
theorem n_0 (N : Nat) : chk (execK cF nBody (mkE (nE 0)) ⟨mkR (nS0 N), q82⟩) (nE 1) (nS1 N) q82 = some [.sym 16384 N] := by kernel_rfl
theorem n_1 (N : Nat) : chk (execK cF nBody (mkE (nE 1)) ⟨mkR (nS1 N), q82⟩) (nE 2) (nS2 N) q82 = some [.sym 16384 N] := by kernel_rfl
theorem n_2 (N : Nat) : chk (execK cF nBody (mkE (nE 2)) ⟨mkR (nS2 N), q82⟩) (nE 3) (nS3 N) q82 = some [.sym 16384 N] := by kernel_rfl
theorem n_3 (N : Nat) : chk (execK cF nBody (mkE (nE 3)) ⟨mkR (nS3 N), q82⟩) (nE 4) (nS4 N) q82 = some [.sym 16384 N] := by kernel_rfl
theorem n_4 (N : Nat) : chk (execK cF nBody (mkE (nE 4)) ⟨mkR (nS4 N), q82⟩) (nE 5) (nS5 N) q82 = some [.sym 16384 N] := by kernel_rfl
theorem n_5 (N : Nat) : chk (execK cF nBody (mkE (nE 5)) ⟨mkR (nS5 N), q82⟩) (nE 6) (nS6 N) q82 = some [.sym 16384 N] := by kernel_rfl
theorem n_6 (N : Nat) : chk (execK cF nBody (mkE (nE 6)) ⟨mkR (nS6 N), q82⟩) (nE 7) (nS7 N) q82 = some [.sym 16384 N] := by kernel_rfl
theorem n_7 (N : Nat) : chk (execK cF nBody (mkE (nE 7)) ⟨mkR (nS7 N), q82⟩) (nE 8) (nS8 N) q82 = some [.sym 16384 N] := by kernel_rfl
theorem n_8 (N : Nat) : chk (execK cF nBody (mkE (nE 8)) ⟨mkR (nS8 N), q82⟩) (nE 9) (nS9 N) q82 = some [.sym 16384 N] := by kernel_rfl
theorem n_9 (N : Nat) : chk (execK cF nBody (mkE (nE 9)) ⟨mkR (nS9 N), q82⟩) (nE 10) (nS10 N) q82 = some [.sym 16384 N] := by kernel_rfl
end Viv
