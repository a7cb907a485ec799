/-
  kernel.New, A SOURCE AT A TIME, CHECKED. Printed by genN.py of wip/.
-/
import Derived.Test.YtfppefhcmmfgcaaGreatLit
set_option maxRecDepth 100000
namespace Viv
theorem n_38 (N : Nat) : chk (execK cF nBody (mkE (nE 38)) ⟨mkR (nS38 N), q82⟩) (nE 39) (nS39 N) q82 = some [.sym 16384 N] := by kernel_rfl
theorem n_39 (N : Nat) : chk (execK cF nBody (mkE (nE 39)) ⟨mkR (nS39 N), q82⟩) (nE 40) (nS40 N) q82 = some [.sym 16384 N] := by kernel_rfl
theorem n_40 (N : Nat) : chk (execK cF nBody (mkE (nE 40)) ⟨mkR (nS40 N), q82⟩) (nE 41) (nS41 N) q82 = some [.sym 16384 N] := by kernel_rfl
theorem n_41 (N : Nat) : chk (execK cF nBody (mkE (nE 41)) ⟨mkR (nS41 N), q82⟩) (nE 42) (nS42 N) q82 = some [.sym 16384 N] := by kernel_rfl
theorem n_42 (N : Nat) : chk (execK cF nBody (mkE (nE 42)) ⟨mkR (nS42 N), q82⟩) (nE 43) (nS43 N) q82 = some [.sym 16384 N] := by kernel_rfl
theorem n_43 (N : Nat) : chk (execK cF nBody (mkE (nE 43)) ⟨mkR (nS43 N), q82⟩) (nE 44) (nS44 N) q82 = some [.sym 16384 N] := by kernel_rfl
theorem n_44 (N : Nat) : chk (execK cF nBody (mkE (nE 44)) ⟨mkR (nS44 N), q82⟩) (nE 45) (nS45 N) q82 = some [.sym 16384 N] := by kernel_rfl
theorem n_45 (N : Nat) : chk (execK cF nBody (mkE (nE 45)) ⟨mkR (nS45 N), q82⟩) (nE 46) (nS46 N) q82 = some [.sym 16384 N] := by kernel_rfl
theorem n_46 (N : Nat) : chk (execK cF nBody (mkE (nE 46)) ⟨mkR (nS46 N), q82⟩) (nE 47) (nS47 N) q82 = some [.sym 16384 N] := by kernel_rfl
end Viv
