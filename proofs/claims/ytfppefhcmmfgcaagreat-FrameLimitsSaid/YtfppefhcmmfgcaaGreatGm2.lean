/-
  THE WORDS OF A MEMORY: what is written is read; soundness is kept.
-/
import Derived.Test.YtfppefhcmmfgcaaGreatGm
set_option maxRecDepth 100000
namespace Viv

section
variable {C : Cont}
theorem Cont.pl_hi (hok : C.Ok) {a : Nat} (h : C.pl a) : a + 3 ≤ C.e := by
  obtain ⟨_, n, f, _, _, _, h4⟩ := hok.obj a h; omega
theorem putC_same (o i w : Int) (h : C.putE o i w ≠ 0) : C.put o i w = C := by unfold Cont.put; rw [if_neg h]
theorem putE_getE {o i w : Int} (h : C.putE o i w = 0) : C.getE o i = 0 ∧ fitW C.t (C.fmt o) w = true := by
  unfold Cont.putE at h
  split at h
  · rename_i h0
    refine ⟨h0, ?_⟩
    cases hf : fitW C.t (C.fmt o) w with
    | true => rfl
    | false => rw [hf] at h; simp at h
  · rename_i h0; exact absurd h h0
theorem put_w (hok : C.Ok) (o i w : Int) {j : Nat} (hj : j < 131072) : (C.put o i w).w j = if C.putE o i w = 0 ∧ j = C.ad o + 3 + i.toNat then w else C.w j := by
  unfold Cont.put
  by_cases h : C.putE o i w = 0
  · rw [if_pos h]
    obtain ⟨a, x, _, _, h4, h5, _, h6⟩ := hok.field (putE_getE h).1
    have := hok.eN; have := hok.hi
    show nget 0 17 (nset w 17 C.W _) j = _
    rw [nget_nset 0 17 w C.W _ j (by rw [h4, h5]; simp; omega) hj]
    simp only [h, true_and]; rfl
  · rw [if_neg h, if_neg (fun x => h x.1)]
@[simp] theorem put_e (o i w : Int) : (C.put o i w).e = C.e := by unfold Cont.put; split <;> rfl
@[simp] theorem put_N (o i w : Int) : (C.put o i w).N = C.N := by unfold Cont.put; split <;> rfl
@[simp] theorem put_made (o i w : Int) : (C.put o i w).made = C.made := by unfold Cont.put; split <;> rfl
@[simp] theorem put_t (o i w : Int) : (C.put o i w).t = C.t := by unfold Cont.put; split <;> rfl
@[simp] theorem put_rt (o i w : Int) : (C.put o i w).rt = C.rt := by unfold Cont.put; split <;> rfl
@[simp] theorem put_sy (o i w : Int) : (C.put o i w).sy = C.sy := by unfold Cont.put; split <;> rfl
@[simp] theorem put_cs (o i w : Int) : (C.put o i w).cs = C.cs := by unfold Cont.put; split <;> rfl
@[simp] theorem put_cl (o i w : Int) : (C.put o i w).cl = C.cl := by unfold Cont.put; split <;> rfl
@[simp] theorem put_cc (o i w : Int) : (C.put o i w).cc = C.cc := by unfold Cont.put; split <;> rfl
/-- a field lies in no other object's head -/
theorem field_off (hok : C.Ok) {a j b : Nat} (ha : C.pl a) (hj : (j : Int) < C.w a / 4) (hb : C.pl b) : a + 3 + j ≠ b ∧ a + 3 + j ≠ b + 1 ∧ a + 3 + j ≠ b + 2 := by
  rcases Nat.lt_trichotomy a b with h | h | h
  · have := hok.sep a b ha hb h; omega
  · subst h; omega
  · have := hok.sep b a hb ha h
    obtain ⟨_, n, f, hw, _⟩ := hok.obj b hb
    omega
/-- fields of different objects, or of different places, are apart -/
theorem field_apart (hok : C.Ok) {a j b i : Nat} (ha : C.pl a) (hj : (j : Int) < C.w a / 4) (hb : C.pl b) (hi : (i : Int) < C.w b / 4) (h : a + 3 + j = b + 3 + i) : a = b ∧ j = i := by
  rcases Nat.lt_trichotomy a b with h' | h' | h'
  · have := hok.sep a b ha hb h'; omega
  · subst h'; omega
  · have := hok.sep b a hb ha h'; omega
theorem put_pl (o i w : Int) (a : Nat) : (C.put o i w).pl a ↔ C.pl a := by unfold Cont.pl; rw [put_t]
theorem put_head (hok : C.Ok) (o i w : Int) {b : Nat} (hb : C.pl b) : (C.put o i w).w b = C.w b ∧ (C.put o i w).w (b + 1) = C.w (b + 1) := by
  have h3 := Cont.pl_hi hok hb
  have := hok.eN; have := hok.hi
  rw [put_w hok o i w (by omega), put_w hok o i w (by omega)]
  by_cases h : C.putE o i w = 0
  · obtain ⟨a, x, _, hp, h4, h5, h6, _⟩ := hok.field (putE_getE h).1
    obtain ⟨n1, n2, n3⟩ := field_off hok hp h6 hb
    rw [h4, h5, Int.toNat_natCast]
    exact ⟨if_neg (fun x => by omega), if_neg (fun x => by omega)⟩
  · exact ⟨if_neg (fun x => h x.1), if_neg (fun x => h x.1)⟩
theorem put_Ok (hok : C.Ok) (o i w : Int) : (C.put o i w).Ok := by
  have hN := hok.hi; have hE := hok.eN; have h3 := hok.e3
  have lo : ∀ j, j < 3 → (C.put o i w).w j = C.w j := fun j hj => by
    rw [put_w hok o i w (by omega)]
    refine if_neg fun ⟨h, x⟩ => ?_
    obtain ⟨a, y, _, hp, h4, h5, h6, _⟩ := hok.field (putE_getE h).1
    obtain ⟨h7, _⟩ := hok.obj a hp
    rw [h4] at x; omega
  refine ⟨by simpa using hok.e3, by simpa using hok.eN, by simpa using hok.N0, by simpa using hok.hi, by simpa using hok.mk3, by rw [lo 0 (by omega)]; exact hok.w0, by rw [lo 1 (by omega)]; exact hok.w1, fun a ha => ?_, fun a b ha hb hab => ?_, fun j h1 h2 => ?_⟩
  · rw [put_pl] at ha
    rw [(put_head hok o i w ha).1, put_e]; exact hok.obj a ha
  · rw [put_pl] at ha hb
    rw [(put_head hok o i w ha).1]; exact hok.sep a b ha hb hab
  · rw [put_e] at h1
    rw [put_w hok o i w h2, if_neg]
    · exact hok.rest j h1 h2
    · rintro ⟨h, x⟩
      obtain ⟨a, y, _, hp, h4, h5, h6, h7⟩ := hok.field (putE_getE h).1
      rw [h4, h5, Int.toNat_natCast] at x; omega
@[simp] theorem put_ad (o i w x : Int) : (C.put o i w).ad x = C.ad x := by unfold Cont.ad; rw [put_t]
theorem ad0_w (hok : C.Ok) (x : Int) : (C.ad x = 0 ∨ C.pl (C.ad x)) := by
  rcases hok.ad_cases x with ⟨_, h⟩ | ⟨a, _, h, _, h2⟩
  · exact .inl h
  · exact .inr (h2 ▸ h)
theorem put_lo (hok : C.Ok) (o i w : Int) (x : Int) : (C.put o i w).w (C.ad x) = C.w (C.ad x) ∧ (C.put o i w).w (C.ad x + 1) = C.w (C.ad x + 1) := by
  rcases ad0_w hok x with h | h
  · rw [h]
    have := (put_Ok hok o i w)
    exact ⟨by rw [this.w0, hok.w0], by rw [this.w1, hok.w1]⟩
  · exact put_head hok o i w h
theorem put_cls (hok : C.Ok) (o i w x : Int) : (C.put o i w).cls x = C.cls x := by unfold Cont.cls; rw [put_ad]; exact (put_lo hok o i w x).2
theorem put_fmt (hok : C.Ok) (o i w x : Int) : (C.put o i w).fmt x = C.fmt x := by unfold Cont.fmt; rw [put_ad, (put_lo hok o i w x).1]
theorem put_nf (hok : C.Ok) (o i w x : Int) : (C.put o i w).nf x = C.nf x := by unfold Cont.nf; rw [put_ad, (put_lo hok o i w x).1]
theorem put_getE (hok : C.Ok) (o i w x j : Int) : (C.put o i w).getE x j = C.getE x j := by unfold Cont.getE; rw [put_ad, put_nf hok]
/-- what is read behind a write -/
theorem put_get (hok : C.Ok) (o i w x j : Int) : (C.put o i w).get x j = if C.putE o i w = 0 ∧ x = o ∧ j = i then w else C.get x j := by
  unfold Cont.get
  rw [put_getE hok, put_ad]
  by_cases hg : C.getE x j = 0
  · rw [if_pos hg, if_pos hg]
    obtain ⟨b, y, hx, hb, hbd, hy, hyn, hye⟩ := hok.field hg
    have := hok.eN; have := hok.hi
    rw [put_w hok o i w (by rw [hbd, hy]; simp; omega)]
    by_cases h : C.putE o i w = 0
    · obtain ⟨a, z, ho, hp, h4, h5, h6, _⟩ := hok.field (putE_getE h).1
      simp only [h, true_and]
      rw [hbd, hy, h4, h5, Int.toNat_natCast, Int.toNat_natCast]
      by_cases e : b + 3 + y = a + 3 + z
      · obtain ⟨e1, e2⟩ := field_apart hok hb hyn hp h6 e
        rw [if_pos e, if_pos ⟨by rw [hx, ho, e1], by rw [e2]⟩]
      · rw [if_neg e, if_neg]
        rintro ⟨e1, e2⟩
        rw [hx, ho] at e1
        exact e (by omega)
    · rw [if_neg (fun z => h z.1), if_neg (fun z => h z.1)]
  · rw [if_neg hg, if_neg hg, if_neg]
    rintro ⟨h, rfl, rfl⟩
    exact hg (putE_getE h).1

/-! ### one object more -/
section
variable (c : Int) (f n : Nat)
theorem add_w (hok : C.Ok) (hn : C.e + n + 3 ≤ C.N) {j : Nat} (hj : j < 131072) : (C.add c f n).w j = if j = C.e + 2 then ((C.made + 1 : Nat) : Int) else if j = C.e + 1 then c else if j = C.e then ((n : Int) * 4 + f) else C.w j := by
  have := hok.hi
  show nget 0 17 (nset _ 17 (nset c 17 (nset _ 17 C.W C.e) (C.e + 1)) (C.e + 2)) j = _
  rw [nget_nset _ _ _ _ _ _ (by omega) hj, nget_nset _ _ _ _ _ _ (by omega) hj, nget_nset _ _ _ _ _ _ (by omega) hj]
  rfl
theorem add_pl (hok : C.Ok) (hn : C.e + n + 3 ≤ C.N) (a : Nat) : (C.add c f n).pl a ↔ a = C.e ∨ C.pl a := by
  have := hok.hi
  unfold Cont.pl
  show a < 131072 ∧ nget false 17 (nset true 17 C.t C.e) a = true ↔ _
  constructor
  · rintro ⟨h1, h2⟩
    rw [nget_nset _ _ _ _ _ _ (by omega) h1] at h2
    by_cases e : a = C.e
    · exact .inl e
    · rw [if_neg e] at h2; exact .inr ⟨h1, h2⟩
  · rintro (rfl | ⟨h1, h2⟩)
    · exact ⟨by omega, by rw [nget_nset _ _ _ _ _ _ (by omega) (by omega), if_pos rfl]⟩
    · refine ⟨h1, ?_⟩
      rw [nget_nset _ _ _ _ _ _ (by omega) h1]
      split
      · rfl
      · exact h2
theorem add_Ok (hok : C.Ok) (hn : C.e + n + 3 ≤ C.N) (hf : f ≤ 2) (hm : n ≤ 256) : (C.add c f n).Ok := by
  have hN := hok.hi; have hE := hok.eN; have h3 := hok.e3; have hmk := hok.mk3; have hN0 := hok.N0
  have lo : ∀ j, j < C.e → (C.add c f n).w j = C.w j := fun j hj => by
    rw [add_w c f n hok hn (by omega), if_neg (by omega), if_neg (by omega), if_neg (by omega)]
  have he : (C.add c f n).w C.e = (n : Int) * 4 + f := by
    rw [add_w c f n hok hn (by omega), if_neg (by omega), if_neg (by omega), if_pos rfl]
  have ee : (C.add c f n).e = C.e + n + 3 := rfl
  have eN : (C.add c f n).N = C.N := rfl
  have em : (C.add c f n).made = C.made + 1 := rfl
  refine ⟨by rw [ee]; omega, by rw [ee, eN]; omega, by rw [eN]; exact hN0, by rw [eN]; exact hN, by rw [ee, em]; omega, by rw [lo 0 (by omega)]; exact hok.w0, by rw [lo 1 (by omega)]; exact hok.w1, fun a ha => ?_, fun a b ha hb hab => ?_, fun j h1 h2 => ?_⟩
  · rw [add_pl c f n hok hn] at ha
    rcases ha with rfl | ha
    · refine ⟨h3, n, f, by rw [he]; omega, hf, hm, by rw [ee]; omega⟩
    · obtain ⟨h4, x, y, h5, h6, h7, h8⟩ := hok.obj a ha
      exact ⟨h4, x, y, by rw [lo a (by omega)]; exact h5, h6, h7, by rw [ee]; omega⟩
  · rw [add_pl c f n hok hn] at ha hb
    rcases ha with rfl | ha
    · rcases hb with rfl | hb
      · omega
      · obtain ⟨h4, x, y, h5, h6, h7, h8⟩ := hok.obj b hb; omega
    · rcases hb with rfl | hb
      · obtain ⟨h4, x, y, h5, h6, h7, h8⟩ := hok.obj a ha
        rw [lo a (by omega), h5]; omega
      · obtain ⟨h4, x, y, h5, h6, h7, h8⟩ := hok.obj a ha
        rw [lo a (by omega)]; exact hok.sep a b ha hb hab
  · rw [ee] at h1
    rw [add_w c f n hok hn h2, if_neg (by omega), if_neg (by omega), if_neg (by omega)]
    exact hok.rest j (by omega) h2
end
/-- a memory with more in it: what was there is as it was -/
structure Ext (C C' : Cont) : Prop where
  e : C.e ≤ C'.e
  N : C'.N = C.N
  made : C.made ≤ C'.made
  pl : ∀ a, C.pl a → C'.pl a
  new : ∀ a, C'.pl a → C.pl a ∨ C.e ≤ a
  w : ∀ j, j < C.e → C'.w j = C.w j
theorem Ext.refl (C : Cont) : Ext C C := ⟨Nat.le_refl _, rfl, Nat.le_refl _, fun _ h => h, fun _ h => .inl h, fun _ _ => rfl⟩
theorem Ext.trans {C C1 C2 : Cont} (h : Ext C C1) (h' : Ext C1 C2) : Ext C C2 :=
  ⟨Nat.le_trans h.e h'.e, by rw [h'.N, h.N], Nat.le_trans h.made h'.made, fun a ha => h'.pl a (h.pl a ha), fun a ha => (h'.new a ha).elim (fun x => h.new a x) (fun x => .inr (Nat.le_trans h.e x)),
    fun j hj => by rw [h'.w j (Nat.lt_of_lt_of_le hj h.e), h.w j hj]⟩
theorem Ext.add (hok : C.Ok) (c : Int) {f n : Nat} (hn : C.e + n + 3 ≤ C.N) : Ext C (C.add c f n) := by
  have := hok.hi
  refine ⟨by show C.e ≤ C.e + n + 3; omega, rfl, by show C.made ≤ C.made + 1; omega, fun a ha => (add_pl c f n hok hn a).2 (.inr ha), fun a ha => ?_, fun j hj => ?_⟩
  · rcases (add_pl c f n hok hn a).1 ha with rfl | h
    · exact .inr (Nat.le_refl _)
    · exact .inl h
  · rw [add_w c f n hok hn (by omega), if_neg (by omega), if_neg (by omega), if_neg (by omega)]
/-- a write into a new object -/
theorem Ext.put {C' : Cont} (h : Ext C C') (hok : C'.Ok) {a : Nat} (i w : Int) (ha : C.e ≤ a) : Ext C (C'.put ((2 * a : Nat) : Int) i w) := by
  refine ⟨by rw [put_e]; exact h.e, by rw [put_N]; exact h.N, by rw [put_made]; exact h.made, fun b hb => (put_pl _ _ _ _).2 (h.pl b hb), fun b hb => h.new b ((put_pl _ _ _ _).1 hb), fun j hj => ?_⟩
  have := h.e; have := hok.eN; have := hok.hi
  rw [put_w hok _ _ _ (by omega), if_neg]
  · exact h.w j hj
  · rintro ⟨h1, h2⟩
    obtain ⟨b, x, hb, hp, h4, h5, _⟩ := hok.field (putE_getE h1).1
    rw [h4] at h2; omega
/-- roots and maps beside -/
theorem Ext.rest {C' : Cont} (h : Ext C C') (rt : List Int) (sy : List Ent) (cs : Nat) (cl : List Ent) (cc : Nat) : Ext C { C' with rt := rt, sy := sy, cs := cs, cl := cl, cc := cc } :=
  ⟨h.e, h.N, h.made, h.pl, h.new, h.w⟩
theorem Ok.rest (hok : C.Ok) (rt : List Int) (sy : List Ent) (cs : Nat) (cl : List Ent) (cc : Nat) : ({ C with rt := rt, sy := sy, cs := cs, cl := cl, cc := cc } : Cont).Ok :=
  ⟨hok.e3, hok.eN, hok.N0, hok.hi, hok.mk3, hok.w0, hok.w1, hok.obj, hok.sep, hok.rest⟩
/-- of an object that was there all is as it was -/
theorem Ext.ad {C' : Cont} (h : Ext C C') (hok : C.Ok) (hok' : C'.Ok) {o : Int} (ho : C.ad o ≠ 0) : C'.ad o = C.ad o ∧ C'.cls o = C.cls o ∧ C'.fmt o = C.fmt o ∧ C'.nf o = C.nf o ∧ (∀ i, C'.getE o i = C.getE o i) ∧ ∀ i, C'.get o i = C.get o i := by
  rcases hok.ad_cases o with ⟨_, h0⟩ | ⟨a, rfl, hp, _, hd⟩
  · exact absurd h0 ho
  · have h3 := Cont.pl_hi hok hp
    obtain ⟨_, hd'⟩ := hok'.ad_of (h.pl a hp)
    have e1 : C'.w a = C.w a := h.w a (by omega)
    have e2 : C'.w (a + 1) = C.w (a + 1) := h.w (a + 1) (by omega)
    have e3 : C'.nf ((2 * a : Nat) : Int) = C.nf ((2 * a : Nat) : Int) := by unfold Cont.nf; rw [hd, hd', e1]
    have e4 : ∀ i, C'.getE ((2 * a : Nat) : Int) i = C.getE ((2 * a : Nat) : Int) i := fun i => by unfold Cont.getE; rw [hd, hd', e3]
    refine ⟨by rw [hd, hd'], by unfold Cont.cls; rw [hd, hd', e2], by unfold Cont.fmt; rw [hd, hd', e1], e3, e4, fun i => ?_⟩
    unfold Cont.get
    rw [e4]
    by_cases hg : C.getE ((2 * a : Nat) : Int) i = 0
    · rw [if_pos hg, if_pos hg]
      obtain ⟨b, y, _, _, hb, hy, _, hye⟩ := hok.field hg
      have hab : a = b := hd.symm.trans hb
      subst hab
      rw [hd', hd, hy, Int.toNat_natCast]
      exact h.w _ hye
    · rw [if_neg hg, if_neg hg]
end
end Viv
