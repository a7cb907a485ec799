/-
  strings.IndexByte.
-/
import Derived.Test.YtfppefhcmmfgcaaGreatSw
import Derived.Lib.Bytealg
set_option maxRecDepth 100000
namespace Viv
open Go (Value World IntKind Addr Program Act Exit Oper Operand Ending undef)
open Go.Proofs

theorem findB_succ (c l n i : Nat) : findB c (l + 1) n i = if n % 256 = c then .p i else findB c l (n / 256) (i + 1) := by
  show (Bool.rec (findB c l (n / 256) (i + 1)) (.p i) (Nat.beq (n % 256) c) : V) = _
  rw [beqRec]
theorem indexByte_cons (b : UInt8) (bs : List UInt8) (c : UInt8) : Go.Lib.indexByte (b :: bs) c = if b == c then 0 else if Go.Lib.indexByte bs c == -1 then -1 else Go.Lib.indexByte bs c + 1 := rfl
theorem findB_eq (c : UInt8) : ∀ (bs : List UInt8) (i : Nat), findB c.toNat bs.length (bnum bs) i = if Go.Lib.indexByte bs c = -1 then .m 0 else .p (i + (Go.Lib.indexByte bs c).toNat)
  | [], i => by show V.m 0 = _; simp [Go.Lib.indexByte]
  | b :: bs, i => by
    have hb : b.toNat < 256 := b.toNat_lt
    have e1 : bnum (b :: bs) % 256 = b.toNat := by simp only [bnum]; omega
    have e2 : bnum (b :: bs) / 256 = bnum bs := by simp only [bnum]; omega
    rw [List.length_cons, findB_succ, e1, e2, findB_eq c bs]
    have hge := Go.Lib.indexByte_ge bs c
    have hbc : (b.toNat = c.toNat) ↔ b = c := ⟨fun h => UInt8.toNat_inj.1 h, fun h => by rw [h]⟩
    rw [indexByte_cons]
    by_cases h : b = c
    · subst h; simp
    · rw [if_neg (fun e => h (hbc.1 e)), if_neg (show ¬ ((b == c) = true) by simpa using h)]
      by_cases h1 : Go.Lib.indexByte bs c = -1
      · simp [h1]
      · rw [if_neg h1, if_neg (show ¬ ((Go.Lib.indexByte bs c == -1) = true) by simpa using h1), if_neg (by omega)]
        congr 1; omega
theorem run364 (s : ByteArray) (c : Int) (w : World) : (Go.callFunc 364 #[.string s, .int .u8 c]).run Tryz.prog w = .ok (.value (.int .i64 (Go.Lib.indexByte s.data.toList c.toNat.toUInt8))) w := by
  rw [Go.run_callFunc_extern Tryz.func364 (by kernel_rfl) (by kernel_rfl) (by kernel_rfl) (e := Go.Extern.BytealgIndexByte.indexByte) (by kernel_rfl), Go.Lib.run_indexByteString]
  rfl
/-- two arguments alone -/
noncomputable def sp_ib2 (ls : L) (s : St) (k : K) : RC := match ls with
  | [x, y] => asStr x (fun l n => asBy y (fun c => k (findB c l n 0) s))
  | _ => fl
theorem sp364 : SpOk Tryz.prog 364 sp_ib2 := by
  intro β s w ls args hsim hr
  rcases hr with _ | ⟨x, x', _, _, hx, hr⟩
  · exact .fail fun k => rfl
  rcases hr with _ | ⟨y, y', _, _, hy, hr⟩
  · exact .fail fun k => rfl
  rcases hr with _ | ⟨z, z', _, _, hz, hr⟩
  · cases hx <;> first | exact .fail fun k => rfl | skip
    case str l n b h1 h2 h3 =>
      cases hy <;> first | exact .fail fun k => rfl | skip
      case «by» c hc =>
        have hlen : b.data.toList.length = l := by rw [← h1]; rfl
        have hcc : (c.toUInt8).toNat = c := by simp [Nat.toUInt8]; omega
        have hfind := findB_eq c.toUInt8 b.data.toList 0
        rw [hlen, hcc, h2] at hfind
        refine .inr ⟨findB c l n 0, s, fun k => rfl, ?_⟩
        unfold Goes
        have hrun := run364 b (c : Int) w
        simp only [Int.toNat_natCast] at hrun
        rw [show ([Value.string b, Value.int IntKind.u8 ↑c] : List Value).toArray = #[.string b, .int .u8 c] from rfl, hrun]
        refine ⟨β, ?_, hsim, .refl β s w⟩
        rw [hfind]
        have hge := Go.Lib.indexByte_ge b.data.toList c.toUInt8
        have hle : Go.Lib.indexByte b.data.toList c.toUInt8 ≤ b.data.toList.length := by
          generalize b.data.toList = bs
          induction bs with
          | nil => simp [Go.Lib.indexByte]
          | cons x bs ih => rw [indexByte_cons]; split <;> first | (simp; omega) | (split <;> (simp at ih ⊢; omega))
        split
        · rename_i h; rw [h]; exact .m 0 (by omega)
        · rename_i h
          rw [Nat.zero_add]
          have := VRel.p (β := β) (Go.Lib.indexByte b.data.toList c.toUInt8).toNat (by omega)
          rwa [Int.toNat_of_nonneg (by omega)] at this
  · exact .fail fun k => rfl
noncomputable def TI : Tr FE := pset .no q328 (.fn A328) (pset .no q364 (.sp sp_ib2) .mt)
theorem TI_ok : ∀ f, FEok Tryz.prog (num f) (pget .no f TI) := FEok_pset (FEok_pset FEok_mt (num_q (i := 364) rfl (.sp _ sp364))) (num_q (i := 328) rfl (feok_fn T328 Tryz.func328 Tryz.call328))
theorem TI_snd (n : Nat) : CFSound Tryz.prog (callK TI n) := callK_sound mixed TI_ok n
theorem asStr_cases (v : V) : (∃ l n, v = .str l n) ∨ ∀ f, asStr v f = fl := by
  cases v <;> first | exact .inr fun f => rfl | exact .inl ⟨_, _, rfl⟩
theorem asBy_cases (v : V) : (∃ n, v = .by n) ∨ ∀ f, asBy v f = fl := by
  cases v <;> first | exact .inr fun f => rfl | exact .inl ⟨_, rfl⟩
theorem sp280 : SpOk Tryz.prog 280 sp_idxByte := by
  refine .of_code T280 Tryz.func280 Tryz.call280 (TI_snd 9) fun ls s => ?_
  rcases ls with _ | ⟨v, r⟩
  · exact .inl fun k => rfl
  · rcases asStr_cases v with ⟨l, n, rfl⟩ | hv
    · rcases r with _ | ⟨u, r⟩
      · exact .inl fun k => rfl
      · rcases asBy_cases u with ⟨c, rfl⟩ | hu
        · refine .inr fun k => ?_
          have h1 : ∀ (s : St) (k : K), callK TI 8 q364 [.str l n, .by c] s k = k (findB c l n 0) s := fun s k => rfl
          have h2 : ∀ (s : St) (k : K), callK TI 9 q328 [.str l n, .by c] s k = k (findB c l n 0) s := fun s k => by
            show callF (.fn A328) (callK TI 8) [.str l n, .by c] s k = _
            simp [A328, h1]
          simp [A280, h2]
          rfl
        · exact .inl fun k => hu _
    · exact .inl fun k => hv _
end Viv
