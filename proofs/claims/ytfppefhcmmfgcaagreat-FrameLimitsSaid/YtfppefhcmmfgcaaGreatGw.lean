/-
  THE WORLD OF kernel.New IS SOUND: checked by the kernel, object by object.
-/
import Derived.Test.YtfppefhcmmfgcaaGreatGk4
set_option maxRecDepth 100000
namespace Viv

/-! ### the literals, read -/
theorem decB_get : ∀ (k n i : Nat), n < 2 ^ 2 ^ k → i < 2 ^ k → nget false k (decB k n) i = n.testBit i
  | 0, n, i, hn, hi => by
    have hi : i = 0 := by simpa using hi
    subst hi
    have hn : n < 2 := by simpa using hn
    show nV false (Bool.rec (.l true) .mt (Nat.beq n 0)) = _
    match n, hn with
    | 0, _ => rfl
    | 1, _ => rfl
  | k + 1, n, i, hn, hi => by
    have hp : 2 ^ (k + 1) = 2 * 2 ^ k := by rw [Nat.pow_succ]; omega
    by_cases h0 : n = 0
    · subst h0
      show nget false (k + 1) .mt i = _
      rw [nget_e]; simp
    · have hd : decB (k + 1) n = .n (decB k (n % 2 ^ 2 ^ k)) (decB k (n >>> 2 ^ k)) := by
        show (Bool.rec (.n (decB k (n % 2 ^ 2 ^ k)) (decB k (n >>> 2 ^ k))) .mt (Nat.beq n 0) : NT Bool) = _
        rw [beqRec, if_neg h0]
      have hn2 : n >>> 2 ^ k < 2 ^ 2 ^ k := by
        rw [Nat.shiftRight_eq_div_pow, Nat.div_lt_iff_lt_mul (Nat.pos_of_ne_zero (by simp)), ← Nat.pow_add]
        rw [hp, Nat.two_mul] at hn; exact hn
      rw [hd, nget_succ]
      by_cases h : 2 ^ k ≤ i
      · rw [if_pos h]
        show nget false k (decB k (n >>> 2 ^ k)) (i - 2 ^ k) = _
        rw [decB_get k _ _ hn2 (by omega), Nat.testBit_shiftRight, show 2 ^ k + (i - 2 ^ k) = i by omega]
      · rw [if_neg h]
        show nget false k (decB k (n % 2 ^ 2 ^ k)) i = _
        rw [decB_get k _ _ (Nat.mod_lt _ (Nat.pos_of_ne_zero (by simp))) (by omega), Nat.testBit_mod_two_pow]
        simp; omega
def word14 (n i : Nat) : Nat := (n >>> (14 * i)) % 2 ^ 14
theorem decT_get : ∀ (k l n i : Nat), 1 ≤ l → l ≤ 2 ^ k → n < 2 ^ (14 * l) → i < 2 ^ k → nget 0 k (decT k l n) i = if i < l then ((word14 n i : Nat) : Int) else 0
  | 0, l, n, i, h1, h2, hn, hi => by
    have hi : i = 0 := by simpa using hi
    have hl : l = 1 := by simp at h2; omega
    subst hi; subst hl
    show (Int.ofNat n) = _
    unfold word14
    rw [if_pos (by omega)]
    simp only [Nat.mul_zero, Nat.shiftRight_zero]
    rw [Nat.mod_eq_of_lt (by simpa using hn)]; rfl
  | k + 1, l, n, i, h1, h2, hn, hi => by
    have hp : 2 ^ (k + 1) = 2 * 2 ^ k := by rw [Nat.pow_succ]; omega
    have hd : decT (k + 1) l n = if l ≤ 2 ^ k then .n (decT k l n) .mt else .n (decT k (2 ^ k) (n % 2 ^ (14 * 2 ^ k))) (decT k (l - 2 ^ k) (n >>> (14 * 2 ^ k))) := by
      show (Bool.rec (Bool.rec (.n (decT k (2 ^ k) (n % 2 ^ (14 * 2 ^ k))) (decT k (l - 2 ^ k) (n >>> (14 * 2 ^ k)))) (.n (decT k l n) .mt) (Nat.ble l (2 ^ k))) .mt (Nat.beq l 0) : NT Int) = _
      rw [beqRec, bleRec, if_neg (by omega)]
    rw [hd, nget_succ]
    by_cases hl : l ≤ 2 ^ k
    · rw [if_pos hl]
      by_cases h : 2 ^ k ≤ i
      · rw [if_pos h, if_neg (by omega)]
        show nget 0 k .mt _ = _
        rw [nget_e]
      · rw [if_neg h]
        exact decT_get k l n i h1 hl hn (by omega)
    · rw [if_neg hl]
      have hpos := Nat.pos_of_ne_zero (show 2 ^ k ≠ 0 by simp)
      by_cases h : 2 ^ k ≤ i
      · rw [if_pos h]
        have hn2 : n >>> (14 * 2 ^ k) < 2 ^ (14 * (l - 2 ^ k)) := by
          rw [Nat.shiftRight_eq_div_pow, Nat.div_lt_iff_lt_mul (Nat.pos_of_ne_zero (by simp)), ← Nat.pow_add, show 14 * (l - 2 ^ k) + 14 * 2 ^ k = 14 * l by omega]; exact hn
        show nget 0 k (decT k (l - 2 ^ k) (n >>> (14 * 2 ^ k))) (i - 2 ^ k) = _
        rw [decT_get k _ _ _ (by omega) (by omega) hn2 (by omega)]
        unfold word14
        rw [← Nat.shiftRight_add, show 14 * 2 ^ k + 14 * (i - 2 ^ k) = 14 * i by omega]
        by_cases hi2 : i < l
        · rw [if_pos (by omega), if_pos hi2]
        · rw [if_neg (by omega), if_neg hi2]
      · rw [if_neg h]
        show nget 0 k (decT k (2 ^ k) (n % 2 ^ (14 * 2 ^ k))) i = _
        rw [decT_get k _ _ _ hpos (Nat.le_refl _) (Nat.mod_lt _ (Nat.pos_of_ne_zero (by simp))) (by omega), if_pos (by omega), if_pos (by omega)]
        unfold word14
        congr 1
        rw [Nat.shiftRight_eq_div_pow, Nat.shiftRight_eq_div_pow]
        have : 2 ^ (14 * 2 ^ k) = 2 ^ (14 * i) * 2 ^ (14 * (2 ^ k - i)) := by rw [← Nat.pow_add]; congr 1; omega
        rw [this, Nat.mod_mul_right_div_self, Nat.mod_mod_of_dvd]
        exact Nat.pow_dvd_pow 2 (by omega)

/-! ### the world of New -/
def L0 : Lay := ⟨q5, q0, q1, q2, q3, q4⟩
def rt0 : List Int := [8370, 1096, 6, 24, 42, 60, 78, 96, 114, 132, 150, 168, 186, 204, 222, 240, 258, 276]
noncomputable def C0 (N : Nat) : Cont := ⟨N, 4321, 583, wordsAt 4321 [], placesAt 4321, rt0, symL, 80, clsL, 16⟩
noncomputable def S0 (N : Nat) : St := ⟨mkR (fP N), q6⟩
theorem at0 (N : Nat) : At L0 (C0 N) (S0 N) := by
  refine ⟨?_, ?_, ?_, ?_, ?_, ?_, ?_, ?_, ?_, ?_, ?_, ?_, ?_, ?_⟩
  · kernel_rfl
  · kernel_rfl
  · kernel_rfl
  · kernel_rfl
  · kernel_rfl
  · kernel_rfl
  all_goals first | (show num _ < num q6; decide) | (show _ ≠ _; decide)
noncomputable def allUp (n : Nat) (p : Nat → Bool) : Bool := Nat.rec true (fun n ih => Bool.rec false ih (p n)) n
theorem allUp_get {p : Nat → Bool} : ∀ {n : Nat}, allUp n p = true → ∀ i, i < n → p i = true
  | 0, _, i, hi => absurd hi (Nat.not_lt_zero _)
  | n + 1, h, i, hi => by
    have h' : (Bool.rec false (allUp n p) (p n) : Bool) = true := h
    cases hp : p n with
    | false => rw [hp] at h'; cases h'
    | true =>
      rw [hp] at h'
      by_cases e : i = n
      · subst e; exact hp
      · exact allUp_get h' i (by omega)
noncomputable def okObj (i : Nat) : Bool := match pLit.testBit i with
  | false => true
  | true => Nat.ble 3 i && Nat.ble (word14 wLit i % 4) 2 && Nat.ble (word14 wLit i / 4) 256 && Nat.ble (i + 3 + word14 wLit i / 4) 4321 && Nat.beq ((pLit >>> (i + 1)) % 2 ^ (2 + word14 wLit i / 4)) 0 && Nat.beq (word14 wLit (i + 1) % 2) 0 && pLit.testBit (word14 wLit (i + 1) / 2)
theorem wordsAt_of {n e : Nat} (h : n < 2 ^ (14 * e)) : patch [] (decT 17 e (Nat.mod n (Nat.pow 2 (Nat.mul 14 e)))) = decT 17 e n := by
  have h1 : ∀ t : NT Int, patch [] t = t := fun t => rfl
  have h2 : Nat.mod n (Nat.pow 2 (Nat.mul 14 e)) = n := Nat.mod_eq_of_lt h
  rw [h1, h2]
theorem wordsAt_nil {e : Nat} (h : wLit < 2 ^ (14 * e)) : wordsAt e [] = decT 17 e wLit := by
  unfold wordsAt
  exact wordsAt_of h
theorem placesAt_of {n e : Nat} (h : n < 2 ^ e) : decB 17 (Nat.mod n (Nat.pow 2 e)) = decB 17 n := by
  have h2 : Nat.mod n (Nat.pow 2 e) = n := Nat.mod_eq_of_lt h
  rw [h2]
theorem placesAt_eq {e : Nat} (h : pLit < 2 ^ e) : placesAt e = decB 17 pLit := by
  unfold placesAt
  exact placesAt_of h
theorem decB_get' {k n i e : Nat} (h : n < 2 ^ e) (he : e ≤ 2 ^ k) (hi : i < 2 ^ k) : nget false k (decB k n) i = n.testBit i :=
  decB_get k n i (Nat.lt_of_lt_of_le h (Nat.pow_le_pow_right (by omega) he)) hi
theorem bit_lt {n e a : Nat} (h : n < 2 ^ e) (hb : n.testBit a = true) : a < e := Nat.lt_of_not_le fun hle => by
  rw [Nat.testBit_lt_two_pow (Nat.lt_of_lt_of_le h (Nat.pow_le_pow_right (by omega) hle))] at hb; cases hb
theorem w_lt : wLit < 2 ^ (14 * 4321) := (blt_iff _ _).1 (by kernel_rfl)
theorem p_lt : pLit < 2 ^ 4321 := (blt_iff _ _).1 (by kernel_rfl)
theorem okObjs : allUp 4321 okObj = true := by kernel_rfl
theorem w_0 : word14 wLit 0 = 0 ∧ word14 wLit 1 = 0 := ⟨by kernel_rfl, by kernel_rfl⟩
theorem c0_w (N : Nat) {i : Nat} (h : i < 131072) : (C0 N).w i = if i < 4321 then ((word14 wLit i : Nat) : Int) else 0 := by
  show nget 0 17 (wordsAt 4321 []) i = _
  rw [wordsAt_nil (e := 4321) w_lt]
  exact decT_get 17 4321 wLit i (by omega) (by omega) w_lt (by omega)
theorem c0_pl (N : Nat) (a : Nat) : (C0 N).pl a ↔ pLit.testBit a = true := by
  have hm := placesAt_eq (e := 4321) p_lt
  have hg : ∀ h1 : a < 131072, nget false 17 (placesAt 4321) a = pLit.testBit a := fun h1 => by rw [hm]; exact decB_get' (e := 4321) p_lt (by omega) (by omega)
  have ht : (C0 N).t = placesAt 4321 := by simp only [C0]
  unfold Cont.pl
  rw [ht]
  constructor
  · rintro ⟨h1, h2⟩
    rw [hg h1] at h2; exact h2
  · intro h
    have ha : a < 4321 := bit_lt (e := 4321) p_lt h
    exact ⟨by omega, by rw [hg (by omega)]; exact h⟩
theorem p_4321 {a : Nat} (h : pLit.testBit a = true) : a < 4321 := bit_lt (e := 4321) p_lt h
/-- what was checked, of an object -/
structure ObjOk (a : Nat) : Prop where
  lo : 3 ≤ a
  f : word14 wLit a % 4 ≤ 2
  n : word14 wLit a / 4 ≤ 256
  e : a + 3 + word14 wLit a / 4 ≤ 4321
  gap : ∀ j, a < j → j < a + 3 + word14 wLit a / 4 → pLit.testBit j = false
  c1 : word14 wLit (a + 1) % 2 = 0
  c2 : pLit.testBit (word14 wLit (a + 1) / 2) = true
theorem objOk {a : Nat} (h : pLit.testBit a = true) : ObjOk a := by
  have hc := allUp_get okObjs a (p_4321 h)
  unfold okObj at hc
  rw [h] at hc
  simp only [Bool.and_eq_true, Nat.ble_eq, beq_iff] at hc
  obtain ⟨⟨⟨⟨⟨⟨h1, h2⟩, h3⟩, h4⟩, h5⟩, h6⟩, h7⟩ := hc
  refine ⟨h1, h2, h3, h4, fun j hj1 hj2 => ?_, h6, h7⟩
  have := congrArg (fun n => Nat.testBit n (j - (a + 1))) h5
  simp only [Nat.testBit_mod_two_pow, Nat.testBit_shiftRight, Nat.zero_testBit] at this
  rw [show a + 1 + (j - (a + 1)) = j by omega, decide_eq_true (by omega)] at this
  simpa using this
theorem ok0 {N : Nat} (h1 : 16384 ≤ N) (h2 : N ≤ 131072) : (C0 N).Ok := by
  refine ⟨by show 3 ≤ 4321; omega, by show 4321 ≤ N; omega, by show 16 ≤ N; omega, h2, by show 3 * 583 + 3 ≤ 4321; omega, ?_, ?_, fun a ha => ?_, fun a b ha hb hab => ?_, fun i h3 h4 => ?_⟩
  · rw [c0_w N (by omega), if_pos (by omega), w_0.1]; rfl
  · rw [c0_w N (by omega), if_pos (by omega), w_0.2]; rfl
  · have hb := (c0_pl N a).1 ha
    have ho := objOk hb
    have := p_4321 hb
    refine ⟨ho.lo, word14 wLit a / 4, word14 wLit a % 4, ?_, ho.f, ho.n, ho.e⟩
    rw [c0_w N (by omega), if_pos (by omega)]; omega
  · have h3 := (c0_pl N a).1 ha
    have h4 := (c0_pl N b).1 hb
    have ho := objOk h3
    have := p_4321 h3
    rw [c0_w N (by omega), if_pos (by omega)]
    rcases Nat.lt_or_ge b (a + 3 + word14 wLit a / 4) with hlt | hge
    · rw [ho.gap b hab hlt] at h4; cases h4
    · omega
  · rw [c0_w N h4, if_neg (by show ¬ i < 4321; exact Nat.not_lt.2 h3)]
/-! ### its symbols and classes -/
noncomputable def okByte (a x i : Nat) : Bool := Nat.beq (word14 wLit (a + 3 + i)) (byteAt x i)
noncomputable def okSym (p : Ent) : Bool := match p.key, p.val with
  | .str l x, .p o => Nat.ble 1 l && Nat.ble l 60 && Nat.ble (x + 1) (256 ^ l) && Nat.beq (o % 2) 0 && pLit.testBit (o / 2) && Nat.beq (word14 wLit (o / 2)) (4 * l + 2) && Nat.beq (word14 wLit (o / 2 + 1)) 204 && allUp l (okByte (o / 2) x) && Nat.ble (p.born + 1) 80
  | _, _ => false
noncomputable def okCls (p : Ent) : Bool := match p.key, p.val with
  | .str _ _, .p _ => true
  | _, _ => false
noncomputable def allE (p : Ent → Bool) (l : List Ent) : Bool := List.rec true (fun e _ ih => Bool.rec false ih (p e)) l
theorem allE_get {p : Ent → Bool} : ∀ {l : List Ent}, allE p l = true → ∀ e ∈ l, p e = true
  | [], _, e, he => by cases he
  | x :: l, h, e, he => by
    have h' : (Bool.rec false (allE p l) (p x) : Bool) = true := h
    cases hp : p x with
    | false => rw [hp] at h'; cases h'
    | true =>
      rw [hp] at h'
      rcases List.mem_cons.1 he with rfl | he
      · exact hp
      · exact allE_get h' e he
theorem okSyms : allE okSym symL = true := by kernel_rfl
theorem okClss : allE okCls clsL = true := by kernel_rfl
noncomputable def okKn (i : Nat) : Bool := match rt0.getD (2 + i) 0 with
  | .ofNat o => Nat.beq (o % 2) 0 && pLit.testBit (o / 2)
  | .negSucc _ => false
theorem okKns : allUp 16 okKn = true := by kernel_rfl
theorem wo0 {N : Nat} (h1 : 16384 ≤ N) (h2 : N ≤ 131072) : Wo (C0 N) := by
  have hok := ok0 h1 h2
  have kn11 : (C0 N).kn 11 = 204 := rfl
  refine ⟨hok, rfl, fun i hi => ?_, fun p hp => ?_, fun p hp => ?_, by show 80 ≤ 4321; omega, fun p hp => ?_, fun a ha => ?_⟩
  · have hk := allUp_get okKns i hi
    unfold okKn at hk
    show isW (C0 N).t (rt0.getD (2 + i) 0) = true
    cases hr : rt0.getD (2 + i) 0 with
    | negSucc n => rw [hr] at hk; cases hk
    | ofNat o =>
      rw [hr] at hk
      simp only [Bool.and_eq_true, beq_iff] at hk
      exact (hok.isW_iff _).2 ⟨o / 2, by simp only [Int.ofNat_eq_natCast]; omega, (c0_pl N _).2 hk.2⟩
  · have hs := allE_get okSyms p hp
    unfold okSym at hs
    split at hs
    · rename_i l x o hk hv
      simp only [Bool.and_eq_true, Nat.ble_eq, beq_iff] at hs
      obtain ⟨⟨⟨⟨⟨⟨⟨⟨a1, a2⟩, a3⟩, a4⟩, a5⟩, a6⟩, a7⟩, a8⟩, a9⟩ := hs
      have hlt := p_4321 a5
      have ho := objOk a5
      obtain ⟨hi, hd⟩ := hok.ad_of ((c0_pl N _).2 a5)
      rw [show 2 * (o / 2) = o by omega] at hi hd
      have hl4 : word14 wLit (o / 2) / 4 = l := by omega
      have hw : (C0 N).w (o / 2) = ((4 * l + 2 : Nat) : Int) := by rw [c0_w N (by omega), if_pos (by omega), a6]
      have hnf : (C0 N).nf o = l := by unfold Cont.nf; rw [hd, hw]; omega
      refine ⟨l, x, o, hk, hv, a1, ⟨a2, by omega⟩, ⟨by rw [hd]; have := ho.lo; omega, ?_, ?_, hnf, fun i hi2 => ?_⟩⟩
      · unfold Cont.cls; rw [hd, c0_w N (by omega), if_pos (by have := ho.e; omega), a7, kn11]; rfl
      · unfold Cont.fmt; rw [hd, hw]; omega
      · have hge : (C0 N).getE o i = 0 := by unfold Cont.getE; rw [if_neg (by rw [hd]; have := ho.lo; omega), if_pos ⟨by omega, by rw [hnf]; omega⟩]
        unfold Cont.get
        rw [if_pos hge, hd, Int.toNat_natCast, c0_w N (by have := ho.e; omega), if_pos (by have := ho.e; omega)]
        have := allUp_get a8 i hi2
        unfold okByte at this
        rw [beq_iff] at this
        rw [this]
    · cases hs
  · have hs := allE_get okSyms p hp
    unfold okSym at hs
    split at hs
    · simp only [Bool.and_eq_true, Nat.ble_eq, beq_iff] at hs
      show p.born < 80
      omega
    · cases hs
  · have hs := allE_get okClss p hp
    unfold okCls at hs
    split at hs
    · rename_i a b v hk hv
      exact ⟨a, b, v, hk, hv⟩
    · cases hs
  · have hb := (c0_pl N a).1 ha
    have ho := objOk hb
    have he := ho.e
    rw [c0_w N (by omega), if_pos (by omega)]
    exact (hok.isW_iff _).2 ⟨word14 wLit (a + 1) / 2, by have := ho.c1; omega, (c0_pl N _).2 ho.c2⟩
end Viv
