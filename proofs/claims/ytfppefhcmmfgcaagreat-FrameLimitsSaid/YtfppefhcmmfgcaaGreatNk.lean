/-
  kernel.New as an entry of the table, for every size; lives as entries.
-/
import Derived.Test.YtfppefhcmmfgcaaGreatLv
import Derived.Test.YtfppefhcmmfgcaaGreatNe
set_option maxRecDepth 100000
namespace Viv
open Go (Value World IntKind Addr Program Act Exit Oper Operand Ending undef)
open Go.Proofs

noncomputable def sp_newK (l : L) (s : St) (k : K) : RC := match l with
  | [.m _] => k (.tup [.nilp, .p 1]) s
  | [.p n] => match Nat.ble 16 n && Nat.ble n 131072 with
    | false => k (.tup [.nilp, .p 1]) s
    | true => match Nat.ble 16384 n with
      | false => k (.tup [.nilp, .p 4]) ((s.push (.mem ⟨.p n, 3, 0, .mt, inc s.next⟩)).push (.set .mt))
      | true => sp_new0 [.p n] s k
  | _ => fl
theorem sp20K : SpOk Tryz.prog 20 sp_newK := fun β s w l args hs ha => by
  by_cases hl : ∃ v, l = [v]
  case neg =>
    refine .inl ⟨0, fun k => ?_⟩
    match l, hl with
    | [], _ => rfl
    | [v], h => exact absurd ⟨v, rfl⟩ h
    | v :: u :: r, _ => cases v <;> rfl
  obtain ⟨v, rfl⟩ := hl
  have hf := func_out (callK_ok 60) mixed T20 Tryz.func20 Tryz.call20 hs ha
  have use : ∀ (r : V) (s' : St), (∀ k, callF (.fn A20) (callK FT 60) [v] s k = k r s') → (∀ k, sp_newK [v] s k = k r s') → Out β s w Tryz.prog (sp_newK [v] s) (Go.callFunc 20 args.toArray) := fun r s' h1 h2 => hf.congr fun k => (h2 k).trans (h1 k).symm
  cases v with
  | m n => exact use _ _ (fun k => new_e1 s k fun k => rfl) (fun k => rfl)
  | p n =>
    cases hb : (Nat.ble 16 n && Nat.ble n 131072) with
    | false =>
      refine use (.tup [.nilp, .p 1]) s (fun k => new_e1 s k fun k => ?_) (fun k => by unfold sp_newK; simp only [hb])
      show (Bool.rec (k .nilp s) (Bool.rec (k .nilp s) (k (.ptr s.next 0) ((s.push (.mem ⟨.p n, 3, 0, .mt, inc s.next⟩)).push (.set .mt))) (Nat.ble n 131072)) (Nat.ble 16 n) : RC) = _
      cases h1 : Nat.ble 16 n with
      | false => rfl
      | true => rw [h1] at hb; simp only [Bool.true_and] at hb; rw [hb]
    | true =>
      cases h4 : Nat.ble 16384 n with
      | true =>
        have h := sp20 β s w [.p n] args hs ha
        exact h.congr fun k => by unfold sp_newK; simp only [hb, h4]
      | false =>
        simp only [Bool.and_eq_true, Nat.ble_eq] at hb
        have hlt : n < 16384 := Nat.lt_of_not_le fun h => by rw [Nat.ble_eq_true_of_le h] at h4; cases h4
        refine use _ _ (fun k => new_e4 s k hb.1 hlt) (fun k => ?_)
        unfold sp_newK
        simp only [Nat.ble_eq_true_of_le hb.1, Nat.ble_eq_true_of_le hb.2, Bool.and_self, h4]
  | _ => exact .inl ⟨0, fun k => rfl⟩
/-- an answer of true, and nothing else -/
noncomputable def sp_tt (l : L) (s : St) (k : K) : RC := match l with
  | [] => k .tt s
  | _ => fl
theorem spTT {f : Nat} (h : ∀ w, Goes Tryz.prog (Go.callFunc f #[]) w (fun x w' => x = .bool true ∧ ∃ β, Since w β w')) : SpOk Tryz.prog f sp_tt := fun β s w l args hs ha => by
  cases l with
  | cons v r => exact .inl ⟨0, fun k => rfl⟩
  | nil =>
    cases ha
    refine .inr ⟨.tt, s, fun k => rfl, (h w).mono fun x w' ⟨hx, β2, hsi⟩ => ?_⟩
    subst hx
    obtain ⟨a, b⟩ := hs.graft (β' := β) (s' := s) (w' := w') (Nat.le_refl _) (fun _ _ => ⟨rfl, rfl⟩) (fun id loc hl hb => absurd (hs.fresh id loc hb) (by omega)) (fun id id' loc loc' hl _ hb => absurd (hs.fresh id loc hb) (by omega)) hsi.size hsi.keep hsi.tape hsi.os hsi.output
    exact ⟨β, .tt, a, b⟩
theorem sp41 : SpOk Tryz.prog 41 sp_tt := spTT (closed_true (q := q41) lives41_ev)
theorem sp36 : SpOk Tryz.prog 36 sp_tt := spTT (closed_true (q := q36) lives36_ev)
/-- the table for the laws -/
noncomputable def FW : Tr FE := pset .no q36 (.sp sp_tt) (pset .no q41 (.sp sp_tt) (pset .no q20 (.sp sp_newK) FT))
theorem FW_ok : ∀ f, FEok Tryz.prog (num f) (pget .no f FW) := FEok_pset (FEok_pset (FEok_pset (FT_ok ok341) (num_q (i := 20) rfl (.sp _ sp20K))) (num_q (i := 41) rfl (.sp _ sp41))) (num_q (i := 36) rfl (.sp _ sp36))
theorem FW_snd (n : Nat) : CFSound Tryz.prog (callK FW n) := callK_sound mixed FW_ok n
end Viv
