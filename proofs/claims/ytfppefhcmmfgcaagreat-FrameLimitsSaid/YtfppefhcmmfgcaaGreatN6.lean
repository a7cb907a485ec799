/-
  kernel.New, A SOURCE AT A TIME, CHECKED. Printed by genN.py of wip/.
-/
import Derived.Test.YtfppefhcmmfgcaaGreatLit
set_option maxRecDepth 100000
namespace Viv
theorem n_57 (N : Nat) : chk (execK cF nBody (mkE (nE 57)) ⟨mkR (nS57 N), q82⟩) (nE 58) (nS58 N) q82 = some [.sym 16384 N] := by kernel_rfl
theorem n_58 (N : Nat) : chk (execK cF nBody (mkE (nE 58)) ⟨mkR (nS58 N), q82⟩) (nE 59) (nS59 N) q82 = some [.sym 16384 N] := by kernel_rfl
theorem n_59 (N : Nat) : chk (execK cF nBody (mkE (nE 59)) ⟨mkR (nS59 N), q82⟩) (nE 60) (nS60 N) q82 = some [.sym 16384 N] := by kernel_rfl
theorem n_60 (N : Nat) : chk (execK cF nBody (mkE (nE 60)) ⟨mkR (nS60 N), q82⟩) (nE 61) (nS61 N) q82 = some [.sym 16384 N] := by kernel_rfl
theorem n_61 (N : Nat) : chk (execK cF nBody (mkE (nE 61)) ⟨mkR (nS61 N), q82⟩) (nE 62) (nS62 N) q82 = some [.sym 16384 N] := by kernel_rfl
theorem n_62 (N : Nat) : chk (execK cF nBody (mkE (nE 62)) ⟨mkR (nS62 N), q82⟩) (nE 63) (nS63 N) q82 = some [.sym 16384 N] := by kernel_rfl
theorem n_63 (N : Nat) : chk (execK cF nBody (mkE (nE 63)) ⟨mkR (nS63 N), q82⟩) (nE 64) (nS64 N) q82 = some [.sym 16384 N] := by kernel_rfl
theorem n_64 (N : Nat) : chk (execK cF nBody (mkE (nE 64)) ⟨mkR (nS64 N), q82⟩) (nE 65) (nS65 N) q82 = some [.sym 16384 N] := by kernel_rfl
theorem n_65 (N : Nat) : chk (execK cF nBody (mkE (nE 65)) ⟨mkR (nS65 N), q82⟩) (nE 66) (nS66 N) q82 = some [.sym 16384 N] := by kernel_rfl
end Viv
