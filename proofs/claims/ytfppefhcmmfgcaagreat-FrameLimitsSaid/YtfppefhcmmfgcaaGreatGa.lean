/-
  SLICES THAT GROW.
-/
import Derived.Test.YtfppefhcmmfgcaaGreatGn
set_option maxRecDepth 100000
namespace Viv

def V.ref (v : V) (i : Pth) : Prop := match v with
  | .slc id _ _ _ _ _ => i = id
  | _ => False
/-- a slice that is appended to: its cells, from its row's first one on -/
inductive Vc (s : St) (es : Nat) : V → Nat → List V → Prop
  | nils : Vc s es .nils 0 []
  | vec (id : Pth) (d : Nat) (t : NT V) (z : V) (n c : Nat) (xs : List V) : s.get id = .vec d t (c * es) z → c * es ≤ 2 ^ d → num id < num s.next → n ≤ c → xs.length = n * es →
      (∀ j (h : j < xs.length), nget z d t j = xs[j]) → Vc s es (.slc id 0 n false c es) n xs
theorem Vc.keep {X : Pth → Prop} {s s' : St} {es n : Nat} {v : V} {xs : List V} (h : Vc s es v n xs) (hk : Keep X s s') (hx : ∀ i, v.ref i → ¬ X i) : Vc s' es v n xs := by
  cases h with
  | nils => exact .nils
  | vec id d t z n c xs h1 h2 h3 h4 h5 h6 => exact .vec id d t z n c xs (by rw [hk.same id h3 (hx id rfl)]; exact h1) h2 (Nat.lt_of_lt_of_le h3 hk.next) h4 h5 h6
theorem Vc.old {s : St} {es n : Nat} {v : V} {xs : List V} (h : Vc s es v n xs) {i : Pth} (hi : v.ref i) : num i < num s.next := by
  cases h with
  | nils => exact hi.elim
  | vec id d t z n c xs h1 h2 h3 h4 h5 h6 => cases hi; exact h3
theorem Vc.lenv {s : St} {es n : Nat} {v : V} {xs : List V} (h : Vc s es v n xs) (kv : KV) : lenLK v kv = kv (.p n) := by
  cases h <;> rfl
theorem Vc.rd {s : St} {es n : Nat} {v : V} {xs : List V} (h : Vc s es v n xs) : ∀ i, v.ref i → ∀ j (hj : j < xs.length), rdObj (s.get i) j = xs[j] := by
  cases h with
  | nils => exact fun i hi => hi.elim
  | vec id d t z n c xs h1 h2 h3 h4 h5 h6 =>
    intro i hi j hj
    cases hi
    have : n * es ≤ c * es := Nat.mul_le_mul_right es h4
    rw [h1, rdObj_vec, if_pos (by omega)]; exact h6 j hj
/-- what lies in a new row of cells, read again -/
theorem rdMany_mkVec (l : List V) : rdMany (mkVec l) 0 l.length = l := by
  rw [mkVec_eq]
  show (Bool.rec [] (getMany .bad (depthOf l.length) (setMany (depthOf l.length) l 0 .mt) l.length 0) (Nat.ble (0 + l.length) l.length) : List V) = l
  rw [bleRec, if_pos (by omega)]
  apply List.ext_getElem?
  intro j
  by_cases hj : j < l.length
  · have := depthOf_le l.length
    rw [getMany_get _ _ _ _ _ j hj, setMany_get .bad l _ 0 .mt (0 + j) (by omega) (by omega), if_pos (by omega)]
    simp [List.getElem?_eq_getElem hj]
  · rw [List.getElem?_eq_none (by rw [getMany_length]; omega), List.getElem?_eq_none (by omega)]
/-- a new row as what is put behind -/
theorem newCells_new {s : St} {j : Pth} {l : List V} {m es : Nat} (h : s.get j = mkVec l) (hl : l.length = m * es) (k : Nat → List V → RC) : newCells (.slc j 0 m true m es) es s k = k m l := by
  show (Bool.rec fl (Bool.rec fl (k m (rdMany (s.get j) 0 (m * es))) (Nat.beq es es)) (Nat.beq (len (rdMany (s.get j) 0 (m * es))) (m * es)) : RC) = _
  rw [beqRec, beqRec, h, ← hl, rdMany_mkVec, len_eq, if_pos rfl, if_pos rfl]
theorem appX_nl {m es : Nat} (hm : 0 < m) (l : List V) (s : St) (k : K) : appX .nils es m l s k = k (.slc s.next 0 m false m es) (s.push (mkVec l)) := by
  show (Bool.rec (k (.slc s.next 0 m false m es) (s.push (mkVec l))) (k .nils s) (Nat.beq m 0) : RC) = _
  rw [beqRec, if_neg (by omega)]
theorem appX_sl {m n c es : Nat} {id : Pth} (hm : 0 < m) (hn : n + m ≤ 16777216) (l : List V) (s : St) (k : K) : appX (.slc id 0 n false c es) es m l s k = appS es id 0 n false c m l s k := by
  show (Bool.rec fl (Bool.rec fl (Bool.rec (appS es id 0 n false c m l s k) (k (.slc id 0 n false c es) s) (Nat.beq m 0)) (Nat.ble (n + m) 16777216)) (Nat.beq es es) : RC) = _
  rw [beqRec, bleRec, beqRec, if_pos rfl, if_pos hn, if_neg (by omega)]
/-- one or more elements put behind -/
theorem Vc.app {s : St} {es n m : Nat} {v : V} {xs l : List V} (h : Vc s es v n xs) (hm : 0 < m) (hl : l.length = m * es) (hn : n + m ≤ 16777216) :
    ∃ v' s', (∀ k, appX v es m l s k = k v' s') ∧ Vc s' es v' (n + m) (xs ++ l) ∧ Keep v.ref s s' ∧ ∀ i, v'.ref i → v.ref i ∨ num s.next ≤ num i := by
  cases h with
  | nils =>
    refine ⟨_, _, fun k => appX_nl hm l s k, ?_, Keep.push _ s _, fun i hi => .inr ?_⟩
    · have hd := depthOf_le l.length
      rw [Nat.zero_add]
      refine .vec s.next (depthOf l.length) (setMany (depthOf l.length) l 0 .mt) .bad m m ([] ++ l) ?_ (by rw [← hl]; exact hd) (by rw [St.num_push]; omega) (Nat.le_refl _) (by simpa using hl) fun j hj => ?_
      · rw [St.get_push, if_pos rfl, mkVec_eq, hl]
      · simp only [List.nil_append] at hj ⊢
        rw [setMany_get .bad l _ 0 .mt j (by omega) (by omega), if_pos (by omega)]
        simp [List.getElem?_eq_getElem hj]
    · cases hi; exact Nat.le_refl _
  | vec id d t z _ c _ h1 h2 h3 h4 h5 h6 =>
    have hx := fun k => appX_sl (id := id) (n := n) (c := c) (es := es) hm hn l s k
    by_cases hc : n + m ≤ c
    · -- in place
      have hmul : (n + m) * es ≤ c * es := Nat.mul_le_mul_right es hc
      have hadd : (n + m) * es = n * es + m * es := Nat.add_mul n m es
      have hw : ∀ k, appS es id 0 n false c m l s k = k (.slc id 0 (n + m) false c es) (s.set id (.vec d (setMany d l (n * es) t) (c * es) z)) := fun k => by
        show (Bool.rec _ (wrObj (s.get id) (0 + n * es) l (fun o => k (.slc id 0 (n + m) false c es) (s.set id o))) (Nat.ble (n + m) c) : RC) = _
        rw [bleRec, if_pos hc, h1]
        show (Bool.rec fl (k (.slc id 0 (n + m) false c es) (s.set id (.vec d (setMany d l (0 + n * es) t) (c * es) z))) (Nat.ble (0 + n * es + Viv.len l) (c * es)) : RC) = _
        rw [bleRec, len_eq, if_pos (by omega), Nat.zero_add]
      refine ⟨_, _, fun k => (hx k).trans (hw k), ?_, Keep.set s _ (.inl rfl), fun i hi => .inl hi⟩
      refine .vec id d _ z (n + m) c (xs ++ l) (St.get_set_same _ _ _) h2 h3 hc (by rw [List.length_append, h5, hl, hadd]) fun j hj => ?_
      rw [List.length_append] at hj
      rw [setMany_get z l d (n * es) t j (by omega) (by omega)]
      by_cases hj1 : n * es ≤ j
      · rw [if_pos (by omega), List.getElem_append_right (by omega), List.getElem?_eq_getElem (by omega)]
        simp only [Option.getD_some, h5]
      · rw [if_neg (by omega), List.getElem_append_left (by omega)]; exact h6 j (by omega)
    · -- into new room
      have hmul : n * es ≤ c * es := Nat.mul_le_mul_right es h4
      have hadd : (n + m) * es = n * es + m * es := Nat.add_mul n m es
      have hd := depthOf_le ((n + m) * es)
      have hw : ∃ dd, d ≤ dd ∧ (n + m) * es ≤ 2 ^ dd ∧ ∀ k, appS es id 0 n false c m l s k = k (.slc s.next 0 (n + m) false (n + m) es) ((s.set id .none).push (.vec dd (setMany dd l (n * es) (deepen (dd - d) t)) ((n + m) * es) z)) := by
        refine ⟨if depthOf ((n + m) * es) ≤ d then d else depthOf ((n + m) * es), by split <;> omega, ?_, fun k => ?_⟩
        · split
          · rename_i hle
            exact Nat.le_trans hd (Nat.pow_le_pow_right (by omega) hle)
          · exact hd
        · show (Bool.rec (Bool.rec (Bool.rec fl (appE (s.get id) es id n m l s k) (Nat.beq 0 0)) (appFresh es id 0 n m l s k) false) _ (Nat.ble (n + m) c) : RC) = _
          rw [bleRec, if_neg hc]
          show appE (s.get id) es id n m l s k = _
          rw [h1]
          show (Bool.rec fl _ (Nat.ble (n * es) (c * es)) : RC) = _
          rw [bleRec, if_pos hmul]
          show (fun dd => k (.slc s.next 0 (n + m) false (n + m) es) ((s.set id .none).push (.vec dd (setMany dd l (n * es) (deepen (dd - d) t)) ((n + m) * es) z))) (Bool.rec (depthOf ((n + m) * es)) d (Nat.ble (depthOf ((n + m) * es)) d)) = _
          rw [bleRec]
      obtain ⟨dd, hdd, hdd2, hw⟩ := hw
      have hne : s.next ≠ id := fun e => by rw [← e] at h3; omega
      refine ⟨_, _, fun k => (hx k).trans (hw k), ?_, (Keep.set (X := V.ref (.slc id 0 n false c es)) s .none (.inl rfl)).trans (Keep.push _ _ _), fun i hi => .inr (by cases hi; exact Nat.le_refl _)⟩
      have hpow : 2 ^ d ≤ 2 ^ dd := Nat.pow_le_pow_right (by omega) hdd
      refine .vec s.next dd _ z (n + m) (n + m) (xs ++ l) (by rw [St.get_push]; exact if_pos rfl) hdd2 (by rw [St.num_push]; show num s.next < num s.next + 1; omega) (Nat.le_refl _) (by rw [List.length_append, h5, hl, hadd]) fun j hj => ?_
      rw [List.length_append] at hj
      rw [setMany_get z l dd (n * es) _ j (by omega) (by omega)]
      by_cases hj1 : n * es ≤ j
      · rw [if_pos (by omega), List.getElem_append_right (by omega), List.getElem?_eq_getElem (by omega)]
        simp only [Option.getD_some, h5]
      · rw [if_neg (by omega), List.getElem_append_left (by omega), show dd = d + (dd - d) by omega, Nat.add_sub_cancel_left, deepen_get z (dd - d) d t j (by omega)]; exact h6 j (by omega)
/-- a new row put behind -/
theorem Vc.appK {s : St} {es n m : Nat} {v : V} {xs l : List V} (h : Vc s es v n xs) (hm : 0 < m) (hl : l.length = m * es) (hn : n + m ≤ 16777216) (hm1 : m ≤ 1048576) {y : V} (hy : ∀ k, newCells y es s k = k m l) :
    ∃ v' s', (∀ k, Viv.appK es v y s k = k v' s') ∧ Vc s' es v' (n + m) (xs ++ l) ∧ Keep v.ref s s' ∧ ∀ i, v'.ref i → v.ref i ∨ num s.next ≤ num i := by
  obtain ⟨v', s', h1, h2⟩ := h.app hm hl hn
  refine ⟨v', s', fun k => ?_, h2⟩
  show newCells y es s (fun m l => Bool.rec fl (appX v es m l s k) (Nat.ble m 1048576)) = _
  rw [hy, bleRec, if_pos hm1, h1]
end Viv
