/-
  THE MEMORY OF A WORLD IN A STATE: what the functions of package heap answer, as plain functions of its words.
-/
import Derived.Test.YtfppefhcmmfgcaaGreatGn
set_option maxRecDepth 100000
namespace Viv
open Go (Value World IntKind Addr Program Act Exit Oper Operand Ending undef)
open Go.Proofs

noncomputable def Cont.w (C : Cont) (a : Nat) : Int := nget 0 17 C.W a
/-- an object stands at an address -/
noncomputable def Cont.pl (C : Cont) (a : Nat) : Prop := a < 131072 ∧ nget false 17 C.t a = true
/-- a memory is sound: sizes, objects apart from one another, nothing behind the end -/
structure Cont.Ok (C : Cont) : Prop where
  e3 : 3 ≤ C.e
  eN : C.e ≤ C.N
  N0 : 16 ≤ C.N
  hi : C.N ≤ 131072
  mk3 : 3 * C.made + 3 ≤ C.e
  w0 : C.w 0 = 0
  w1 : C.w 1 = 0
  obj : ∀ a, C.pl a → 3 ≤ a ∧ ∃ n f : Nat, C.w a = ((4 * n + f : Nat) : Int) ∧ f ≤ 2 ∧ n ≤ 256 ∧ a + 3 + n ≤ C.e
  sep : ∀ a b, C.pl a → C.pl b → a < b → (a : Int) + 3 + C.w a / 4 ≤ b
  rest : ∀ i, C.e ≤ i → i < 131072 → C.w i = 0
/-- the address of an object's word; 0: it is none -/
noncomputable def Cont.ad (C : Cont) (o : Int) : Nat := atW C.t o
noncomputable def Cont.cls (C : Cont) (o : Int) : Int := C.w (C.ad o + 1)
noncomputable def Cont.fmt (C : Cont) (o : Int) : Int := C.w (C.ad o) % 4
noncomputable def Cont.nf (C : Cont) (o : Int) : Int := C.w (C.ad o) / 4
noncomputable def Cont.getE (C : Cont) (o i : Int) : Nat := if C.ad o = 0 then 1 else if 0 ≤ i ∧ i < C.nf o then 0 else 5
noncomputable def Cont.get (C : Cont) (o i : Int) : Int := if C.getE o i = 0 then C.w (C.ad o + 3 + i.toNat) else 0
/-- may a word stand in a field of an object of some format? -/
noncomputable def fitW (t : NT Bool) (f w : Int) : Bool := if f = 0 then mayW t w else if f = 2 then decide (0 ≤ w) && decide (w ≤ 255) else true
noncomputable def Cont.putE (C : Cont) (o i w : Int) : Nat := if C.getE o i = 0 then (if fitW C.t (C.fmt o) w then 0 else 6) else C.getE o i
noncomputable def Cont.put (C : Cont) (o i w : Int) : Cont := if C.putE o i w = 0 then { C with W := nset w 17 C.W (C.ad o + 3 + i.toNat) } else C
/-- one object more -/
noncomputable def Cont.add (C : Cont) (c : Int) (f n : Nat) : Cont := { C with
  e := C.e + n + 3
  made := C.made + 1
  W := nset (.ofNat (C.made + 1)) 17 (nset c 17 (nset ((n : Int) * 4 + f) 17 C.W C.e) (C.e + 1)) (C.e + 2)
  t := nset true 17 C.t C.e }

section
variable {C : Cont} (hok : C.Ok)
include hok
theorem Cont.Ok.top : nget false 17 C.t 131071 = false := by
  cases h : nget false 17 C.t 131071 with
  | false => rfl
  | true =>
    obtain ⟨_, n, f, _, _, _, h4⟩ := hok.obj 131071 ⟨by omega, h⟩
    have := hok.eN; have := hok.hi; omega
theorem Cont.Ok.isW_iff (o : Int) : isW C.t o = true ↔ ∃ a : Nat, o = ((2 * a : Nat) : Int) ∧ C.pl a := by
  constructor
  · intro h
    cases o with
    | negSucc n => exact absurd h (by simp [isW, isPtrW])
    | ofNat n =>
      have h' : (Bool.rec false (nget false 17 C.t (n / 2)) (Bool.rec false (Bool.rec false (Nat.ble n 262144) (Nat.ble 6 n)) (Nat.beq (n % 2) 0)) : Bool) = true := h
      rw [beqRec, bleRec] at h'
      by_cases h1 : n % 2 = 0
      · rw [if_pos h1] at h'
        by_cases h2 : 6 ≤ n
        · rw [if_pos h2] at h'
          by_cases h3 : n ≤ 262144
          · rw [Nat.ble_eq_true_of_le h3] at h'
            have h' : nget false 17 C.t (n / 2) = true := h'
            have hlt : n / 2 < 131072 := by
              rcases Nat.lt_or_ge (n / 2) 131072 with h | h
              · exact h
              · have : n / 2 = 131072 := by omega
                rw [this, nget_top, hok.top] at h'; cases h'
            exact ⟨n / 2, by simp only [Int.ofNat_eq_natCast]; omega, hlt, h'⟩
          · have : Nat.ble n 262144 = false := by cases hb : Nat.ble n 262144 with
              | false => rfl
              | true => exact absurd (Nat.le_of_ble_eq_true hb) h3
            rw [this] at h'; cases h'
        · rw [if_neg h2] at h'; cases h'
      · rw [if_neg h1] at h'; cases h'
  · rintro ⟨a, rfl, ha, hp⟩
    obtain ⟨h3, _⟩ := hok.obj a ⟨ha, hp⟩
    show (Bool.rec false (nget false 17 C.t (2 * a / 2)) (Bool.rec false (Bool.rec false (Nat.ble (2 * a) 262144) (Nat.ble 6 (2 * a))) (Nat.beq (2 * a % 2) 0)) : Bool) = true
    rw [beqRec, bleRec, if_pos (by omega), if_pos (by omega), Nat.ble_eq_true_of_le (by omega), show 2 * a / 2 = a by omega]
    exact hp
theorem Cont.Ok.ad_cases (o : Int) : (isW C.t o = false ∧ C.ad o = 0) ∨ ∃ a : Nat, o = ((2 * a : Nat) : Int) ∧ C.pl a ∧ isW C.t o = true ∧ C.ad o = a := by
  cases h : isW C.t o with
  | false => exact .inl ⟨rfl, by unfold Cont.ad atW; rw [h]⟩
  | true =>
    obtain ⟨a, h1, h2⟩ := (hok.isW_iff o).1 h
    refine .inr ⟨a, h1, h2, rfl, ?_⟩
    unfold Cont.ad atW; rw [h]
    subst h1
    show 2 * a / 2 = a
    omega
theorem Cont.Ok.ad_of {a : Nat} (h : C.pl a) : isW C.t ((2 * a : Nat) : Int) = true ∧ C.ad ((2 * a : Nat) : Int) = a := by
  have h1 := (hok.isW_iff ((2 * a : Nat) : Int)).2 ⟨a, rfl, h⟩
  refine ⟨h1, ?_⟩
  unfold Cont.ad atW; rw [h1]
  show 2 * a / 2 = a
  omega
theorem Cont.Ok.ad3 (o : Int) : C.ad o + 3 ≤ C.e := by
  rcases hok.ad_cases o with ⟨_, h⟩ | ⟨a, _, h, _, h2⟩
  · rw [h]; have := hok.e3; omega
  · obtain ⟨_, n, f, _, _, _, h4⟩ := hok.obj a h
    omega
/-- a field that is there lies below the end -/
theorem Cont.Ok.field {o i : Int} (h : C.getE o i = 0) : ∃ (a j : Nat), o = ((2 * a : Nat) : Int) ∧ C.pl a ∧ C.ad o = a ∧ i = j ∧ (j : Int) < C.w a / 4 ∧ a + 3 + j < C.e := by
  unfold Cont.getE at h
  split at h
  · cases h
  · rename_i h0
    split at h
    · rename_i h1
      rcases hok.ad_cases o with ⟨_, h2⟩ | ⟨a, ha, hp, _, hd⟩
      · exact absurd h2 h0
      · refine ⟨a, i.toNat, ha, hp, hd, by omega, ?_, ?_⟩
        · have := h1.2; unfold Cont.nf at this; rw [hd] at this; omega
        · obtain ⟨_, n, f, hw, hf, _, h4⟩ := hok.obj a hp
          have := h1.2; unfold Cont.nf at this; rw [hd, hw] at this
          omega
    · cases h
end

/-! ### the functions of package heap -/
section
variable {L : Lay} {C : Cont} {s : St} (hA : At L C s) (hok : C.Ok) (n : Nat) (k : K)
include hA
theorem m2_at (r : List V) (f : Pth → Mem → NT Bool → RC) : m2 (.ptr L.mem 0 :: r) s f = f L.mem (C.m L) C.t := by
  show memK (s.get L.mem) _ = _
  rw [hA.mem]
  show setK (s.get L.pl) _ = _
  rw [hA.pl]; rfl
theorem size_at : sp_size [.ptr L.mem 0] s k = k (.p C.N) s := by unfold sp_size; rw [m2_at hA]; rfl
theorem is_at (o : Int) : sp_is [.ptr L.mem 0, vI o] s k = k (B (isW C.t o)) s := by
  unfold sp_is m1
  rw [m2_at hA]; exact asInt_vI _ _
theorem may_at (o : Int) : sp_may [.ptr L.mem 0, vI o] s k = k (B (mayW C.t o)) s := by
  unfold sp_may m1
  rw [m2_at hA]; exact asInt_vI _ _
include hok
theorem room_at : sp_room [.ptr L.mem 0] s k = k (.p (C.N - C.e)) s := by
  unfold sp_room; rw [m2_at hA]
  show (Bool.rec fl (k (.p (C.N - C.e)) s) (Nat.ble C.e C.N) : RC) = _
  rw [bleRec, if_pos hok.eN]
theorem klass_at (o : Int) : sp_klass [.ptr L.mem 0, vI o] s k = k (vI (C.cls o)) s := by
  unfold sp_klass m3
  rw [m2_at hA]
  show asInt (vI o) _ = _
  rw [asInt_vI]
  show (Bool.rec fl (k (vI (C.w (C.ad o + 1))) s) (Nat.ble (C.ad o + 3) C.e) : RC) = _
  rw [bleRec, if_pos (hok.ad3 o)]; rfl
theorem format_at (o : Int) : sp_format [.ptr L.mem 0, vI o] s k = k (vI (C.fmt o)) s := by
  unfold sp_format m3
  rw [m2_at hA]
  show asInt (vI o) _ = _
  rw [asInt_vI]
  show (Bool.rec fl (k (vI (C.w (C.ad o) % 4)) s) (Nat.ble (C.ad o + 3) C.e) : RC) = _
  rw [bleRec, if_pos (hok.ad3 o)]; rfl
theorem fields_at (o : Int) : sp_fields [.ptr L.mem 0, vI o] s k = k (vI (C.nf o)) s := by
  unfold sp_fields m3
  rw [m2_at hA]
  show asInt (vI o) _ = _
  rw [asInt_vI]
  show (Bool.rec fl (k (vI (C.w (C.ad o) / 4)) s) (Nat.ble (C.ad o + 3) C.e) : RC) = _
  rw [bleRec, if_pos (hok.ad3 o)]; rfl
omit hA in
/-- the look-up of a field -/
theorem field_at (o i : Int) (f err : Nat → RC) : (C.m L).field (C.ad o) i f err = if C.getE o i = 0 then f (C.ad o + 3 + i.toNat) else err (C.getE o i) := by
  rw [field_form]
  by_cases h0 : C.ad o = 0
  · have : C.getE o i = 1 := by unfold Cont.getE; rw [if_pos h0]
    rw [if_pos h0, this, if_neg (by omega)]
  · rw [if_neg h0, if_pos (show C.ad o + 3 ≤ (C.m L).endd from hok.ad3 o)]
    by_cases h1 : i < 0
    · have : C.getE o i = 5 := by unfold Cont.getE; rw [if_neg h0, if_neg (by omega)]
      rw [if_pos h1, this, if_neg (by omega)]
    · rw [if_neg h1]
      have hf : (C.m L).fields (C.ad o) = C.nf o := rfl
      rw [hf]
      by_cases h2 : i < C.nf o
      · have h3 : C.getE o i = 0 := by unfold Cont.getE; rw [if_neg h0, if_pos ⟨by omega, h2⟩]
        obtain ⟨a, j, _, _, h4, h5, _, h6⟩ := hok.field h3
        rw [if_pos h2, h3, if_pos rfl, if_pos]
        show _ < C.e
        rw [h4, h5]; simpa using h6
      · have : C.getE o i = 5 := by unfold Cont.getE; rw [if_neg h0, if_neg (by omega)]
        rw [if_neg h2, this, if_neg (by omega)]
theorem get_at (o i : Int) : sp_get [.ptr L.mem 0, vI o, vI i] s k = k (.tup [vI (C.get o i), .p (C.getE o i)]) s := by
  unfold sp_get
  rw [m2_at hA]
  show asInt (vI o) _ = _
  rw [asInt_vI]
  show asInt (vI i) _ = _
  rw [asInt_vI]
  show (C.m L).field (C.ad o) i _ _ = _
  rw [field_at hok]
  unfold Cont.get
  by_cases h : C.getE o i = 0
  · rw [if_pos h, if_pos h, h]; rfl
  · rw [if_neg h, if_neg h]; rfl
theorem put_at (o i w : Int) : ∃ s', (∀ k, sp_put [.ptr L.mem 0, vI o, vI i, vI w] s k = k (.p (C.putE o i w)) s') ∧ At L (C.put o i w) s' ∧ Keep L.of s s' := by
  have hform : ∀ k : K, sp_put [.ptr L.mem 0, vI o, vI i, vI w] s k = if C.getE o i = 0 then (if fitW C.t (C.fmt o) w then k (.p 0) (s.set L.mem (.mem ((C.m L).set (C.ad o + 3 + i.toNat) w))) else k (.p 6) s) else k (.p (C.getE o i)) s := fun k => by
    unfold sp_put
    rw [m2_at hA]
    show asInt (vI o) _ = _
    rw [asInt_vI]
    show asInt (vI i) _ = _
    rw [asInt_vI]
    show asInt (vI w) _ = _
    rw [asInt_vI]
    show (C.m L).field (C.ad o) i _ _ = _
    rw [field_at hok]
    by_cases h : C.getE o i = 0
    · rw [if_pos h, if_pos h]
      show (Bool.rec (Bool.rec _ (Bool.rec (Bool.rec _ _ (iLt 255 w)) _ (iLt w 0)) (iEq (C.fmt o) 2)) (Bool.rec _ _ (mayW C.t w)) (iEq (C.fmt o) 0) : RC) = _
      unfold fitW
      have he : ∀ a b : Int, iEq a b = decide (a = b) := fun a b => by
        rw [Bool.eq_iff_iff]
        cases a <;> cases b <;> simp only [iEq, decide_eq_true_eq, Int.ofNat.injEq, Int.negSucc.injEq, reduceCtorEq, Bool.false_eq_true] <;> exact beq_iff _ _
      rw [he, he, iLt_eq, iLt_eq]
      by_cases f0 : C.fmt o = 0
      · rw [if_pos f0, decide_eq_true f0]
        cases mayW C.t w <;> rfl
      · rw [if_neg f0, decide_eq_false f0]
        by_cases f2 : C.fmt o = 2
        · rw [if_pos f2, decide_eq_true f2]
          by_cases w0 : w < 0
          · rw [decide_eq_true w0, decide_eq_false (show ¬ 0 ≤ w by omega)]; rfl
          · rw [decide_eq_false w0, decide_eq_true (show 0 ≤ w by omega)]
            by_cases w2 : 255 < w
            · rw [decide_eq_true w2, decide_eq_false (show ¬ w ≤ 255 by omega)]; rfl
            · rw [decide_eq_false w2, decide_eq_true (show w ≤ 255 by omega)]; rfl
        · rw [if_neg f2, decide_eq_false f2]; rfl
    · rw [if_neg h, if_neg h]
  unfold Cont.put Cont.putE
  by_cases h : C.getE o i = 0
  · simp only [h, if_true] at hform ⊢
    cases hf : fitW C.t (C.fmt o) w with
    | true =>
      simp only [hf, if_true] at hform ⊢
      exact ⟨_, hform, hA.setMem _ _ _, Keep.set s _ (.inl L.of_mem)⟩
    | false =>
      simp only [hf, Bool.false_eq_true, if_false] at hform ⊢
      exact ⟨s, hform, hA, Keep.refl _ s⟩
  · simp only [h, if_false] at hform ⊢
    exact ⟨s, hform, hA, Keep.refl _ s⟩
/-- a new object; or there is no room -/
theorem make_at {c : Int} {f m : Nat} (hc : clsW C.t c = true) (hf : f ≤ 2) (hm : m ≤ 256) :
    (C.N < C.e + m + 3 ∧ ∀ k, sp_make [.ptr L.mem 0, vI c, vI f, vI m] s k = k (.tup [.p 0, .p 4]) s) ∨
    (C.e + m + 3 ≤ C.N ∧ ∃ s', (∀ k, sp_make [.ptr L.mem 0, vI c, vI f, vI m] s k = k (.tup [.p (2 * C.e), .p 0]) s') ∧ At L (C.add c f m) s' ∧ Keep L.of s s') := by
  have hbad : badMake C.t c f m = false := by
    rw [badMake_eq, hc]
    simp; omega
  have hmade : ¬ (1099511627776 ≤ C.made) := by have := hok.mk3; have := hok.eN; have := hok.hi; omega
  have hform : ∀ k : K, sp_make [.ptr L.mem 0, vI c, vI f, vI m] s k = if C.N < C.e + (m + 3) then k (.tup [.p 0, .p 4]) s else
      k (.tup [.p (2 * C.e), .p 0]) ((s.set L.mem (.mem ⟨.p C.N, C.e + m + 3, C.made + 1, nset (.ofNat (C.made + 1)) 17 (nset c 17 (nset ((m : Int) * 4 + f) 17 C.W C.e) (C.e + 1)) (C.e + 2), L.pl⟩)).set L.pl (.set (nset true 17 C.t C.e))) := fun k => by
    unfold sp_make
    rw [m2_at hA]
    show asInt (vI c) _ = _
    rw [asInt_vI]
    show asInt (vI (f : Int)) _ = _
    rw [asInt_vI]
    show asInt (vI (m : Int)) _ = _
    rw [asInt_vI]
    rw [hbad]
    show (Bool.rec (Bool.rec (k (.tup [.p (2 * C.e), .p 0]) _) (k (.tup [.p 0, .p 4]) s) (Nat.ble 1099511627776 C.made)) (k (.tup [.p 0, .p 4]) s) (Nat.ble (C.N + 1) (C.e + (((m : Int)).toNat + 3))) : RC) = _
    rw [bleRec, bleRec, if_neg hmade, Int.toNat_natCast]
    by_cases h : C.N < C.e + (m + 3)
    · rw [if_pos (show C.N + 1 ≤ C.e + (m + 3) from h), if_pos h]
    · rw [if_neg (show ¬ C.N + 1 ≤ C.e + (m + 3) from h), if_neg h]
      rfl
  by_cases h : C.N < C.e + (m + 3)
  · exact .inl ⟨by omega, fun k => by rw [hform, if_pos h]⟩
  · have h2 := (hA.setMem (C.e + m + 3) (C.made + 1) (nset (.ofNat (C.made + 1)) 17 (nset c 17 (nset ((m : Int) * 4 + f) 17 C.W C.e) (C.e + 1)) (C.e + 2))).setPl (nset true 17 C.t C.e)
    exact .inr ⟨by omega, _, fun k => by rw [hform, if_neg h], h2, (Keep.set s _ (.inl L.of_mem)).trans (Keep.set _ _ (.inl L.of_pl))⟩
end
end Viv
