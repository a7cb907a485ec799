/-
  PACKAGE kernel, over a world in a state: the symbols.
-/
import Derived.Test.YtfppefhcmmfgcaaGreatGk2
set_option maxRecDepth 100000
namespace Viv
open Go (Value World IntKind Addr Program Act Exit Oper Operand Ending undef)
open Go.Proofs

/-! ### maps of texts -/
def isKey (l x : Nat) (p : Ent) : Bool := match p.key with
  | .str a b => decide (a = l) && decide (b = x)
  | _ => false
def StrKeys (es : List Ent) : Prop := ∀ p ∈ es, ∃ a b, p.key = .str a b
theorem keyS_ss (a b l x : Nat) (f g : RC) : keyS (.str a b) (.str l x) f g = if a = l ∧ b = x then f else g := by
  show (Bool.rec g (Bool.rec g f (Nat.beq b x)) (Nat.beq a l) : RC) = _
  rw [beqRec, beqRec]
  by_cases h1 : a = l
  · by_cases h2 : b = x
    · rw [if_pos h1, if_pos h2, if_pos ⟨h1, h2⟩]
    · rw [if_pos h1, if_neg h2, if_neg (fun h => h2 h.2)]
  · rw [if_neg h1, if_neg (fun h => h1 h.1)]
theorem mfind_str (l x : Nat) (d : RC) (f : Ent → RC) : ∀ {es : List Ent}, StrKeys es → mfind keyS d f (.str l x) es = match es.find? (isKey l x) with | none => d | some p => f p
  | [], _ => rfl
  | p :: es, h => by
    obtain ⟨a, b, hk⟩ := h p (by simp)
    show keyS p.key (.str l x) (f p) (mfind keyS d f (.str l x) es) = _
    rw [mfind_str l x d f (fun q hq => h q (by simp [hq])), hk, keyS_ss]
    have hi : isKey l x p = (decide (a = l) && decide (b = x)) := by unfold isKey; rw [hk]
    rw [List.find?_cons, hi]
    by_cases h1 : a = l
    · by_cases h2 : b = x
      · simp -implicitDefEqProofs [h1, h2]
      · simp -implicitDefEqProofs [h1, h2]
    · simp -implicitDefEqProofs [h1]
theorem look_str {s : St} {id : Pth} {es : List Ent} {c : Nat} (hg : s.get id = .map es c) (h : StrKeys es) (l x : Nat) (z : V) (kv : KV) :
    lookK (.map id) keyS z false (.str l x) s kv = match es.find? (isKey l x) with | none => kv z | some p => kv p.val := by
  rw [lookK_map, hg]
  show mfind keyS (kv z) (fun p => kv p.val) (.str l x) es = _
  rw [mfind_str l x _ _ h]
theorem mpush_app (e : Ent) : ∀ l : List Ent, mpush e l = l ++ [e]
  | [] => rfl
  | a :: l => by show a :: mpush e l = _; rw [mpush_app e l]; rfl
theorem mstamp_new {b : Nat} (v z : V) (k : V) : ∀ {l : List Ent}, (∀ p ∈ l, p.born < b) → mstamp b v (l ++ [⟨k, z, b⟩]) = l ++ [⟨k, v, b⟩]
  | [], _ => by
    show (Bool.rec ((⟨k, z, b⟩ : Ent) :: []) (⟨k, v, b⟩ :: []) (Nat.beq b b) : List Ent) = _
    rw [beqRec, if_pos rfl]; rfl
  | p :: l, h => by
    show (Bool.rec (p :: mstamp b v (l ++ [⟨k, z, b⟩])) (⟨p.key, v, p.born⟩ :: (l ++ [⟨k, z, b⟩])) (Nat.beq p.born b) : List Ent) = _
    have := h p (by simp)
    rw [beqRec, if_neg (by omega), mstamp_new v z k fun q hq => h q (by simp [hq])]; rfl
theorem mhasb_new {b : Nat} (z : V) (k : V) : ∀ {l : List Ent}, mhasb b (l ++ [⟨k, z, b⟩]) = true
  | [] => by
    show (Bool.rec false true (Nat.beq b b) : Bool) = true
    rw [beqRec, if_pos rfl]
  | p :: l => by
    show (Bool.rec (mhasb b (l ++ [⟨k, z, b⟩])) true (Nat.beq p.born b) : Bool) = true
    rw [beqRec, mhasb_new z k]; split <;> rfl
theorem ment_new {s : St} {id : Pth} {es : List Ent} {c l x : Nat} (hg : s.get id = .map es c) (h : StrKeys es) (hc : c ≤ 1048576) (hf : es.find? (isKey l x) = none) (z : V) (k : K) :
    mentK (.map id) keyS z (.str l x) s k = k (.tup [z, .p c]) (s.set id (.map (es ++ [⟨.str l x, z, c⟩]) (c + 1))) := by
  show mapK fl (s.get id) (fun l' c' => Bool.rec fl (mfind keyS (k (.tup [z, .p c']) (s.set id (.map (mpush ⟨.str l x, z, c'⟩ l') (c' + 1)))) (fun p => k (.tup [p.val, .p p.born]) s) (.str l x) l') (Nat.ble c' 1048576)) = _
  rw [hg]
  show (Bool.rec fl (mfind keyS (k (.tup [z, .p c]) (s.set id (.map (mpush ⟨.str l x, z, c⟩ es) (c + 1)))) (fun p => k (.tup [p.val, .p p.born]) s) (.str l x) es) (Nat.ble c 1048576) : RC) = _
  rw [bleRec, if_pos hc, mfind_str l x _ _ h, hf, mpush_app]
theorem mst_new {s : St} {id : Pth} {es : List Ent} {c : Nat} {key z : V} (hg : s.get id = .map (es ++ [⟨key, z, c⟩]) (c + 1)) (hb : ∀ p ∈ es, p.born < c) (v : V) (k : K) :
    mstK (.map id) (.p c) v s k = k (.tup []) (s.set id (.map (es ++ [⟨key, v, c⟩]) (c + 1))) := by
  show mapK fl (s.get id) (fun l c' => Bool.rec fl (k (.tup []) (s.set id (.map (mstamp c v l) c'))) (mhasb c l)) = _
  rw [hg]
  show (Bool.rec fl (k (.tup []) (s.set id (.map (mstamp c v (es ++ [⟨key, z, c⟩])) (c + 1)))) (mhasb c (es ++ [⟨key, z, c⟩])) : RC) = _
  rw [mhasb_new, mstamp_new v z key hb]
@[congr] theorem cg_mstK {m m1 b b1 v v1 : V} {s s1 : St} {k : K} (h1 : m = m1) (h2 : b = b1) (h3 : v = v1) (h4 : s = s1) : mstK m b v s k = mstK m1 b1 v1 s1 k := by subst h1 h2 h3 h4; rfl
@[simp ↓] theorem ps_mst (c : CF) (t : List V) (e : Env) (s : St) (k : K) (m b v : Opd) : mst m b v c t e s k = mstK (m t e) (b t e) (v t e) s k := rfl
@[simp ↓] theorem ps_ment (c : CF) (t : List V) (e : Env) (s : St) (k : K) (kf : KF) (z : V) (m key : Opd) : ment kf z m key c t e s k = mentK (m t e) kf z (key t e) s k := rfl

/-! ### a sound world -/
/-- an object is the text of some bytes -/
structure TextAt (C : Cont) (o : Int) (c : Int) (l x : Nat) : Prop where
  a : C.ad o ≠ 0
  cls : C.cls o = c
  fmt : C.fmt o = 2
  nf : C.nf o = l
  get : ∀ i : Nat, i < l → C.get o i = byteAt x i
structure SyEnt (C : Cont) (p : Ent) : Prop where
  ex : ∃ l x o : Nat, p.key = .str l x ∧ p.val = .p o ∧ 1 ≤ l ∧ (l ≤ 60 ∧ x < 256 ^ l) ∧ TextAt C (o : Int) (C.kn 11) l x
structure Wo (C : Cont) : Prop where
  ok : C.Ok
  rl : C.rt.length = 18
  kn : ∀ i, i < 16 → isW C.t (C.kn i) = true
  sk : ∀ p ∈ C.sy, SyEnt C p
  sb : ∀ p ∈ C.sy, p.born < C.cs
  sc : C.cs ≤ C.e
  ck : ∀ p ∈ C.cl, ∃ a b v, p.key = .str a b ∧ p.val = .p v
  co : ∀ a, C.pl a → isW C.t (C.w (a + 1)) = true
theorem Wo.strKeys {C : Cont} (h : Wo C) : StrKeys C.sy := fun p hp => by obtain ⟨l, x, o, h1, _⟩ := (h.sk p hp).ex; exact ⟨l, x, h1⟩
theorem Ext.isW {C C' : Cont} (h : Ext C C') (hok : C.Ok) (hok' : C'.Ok) {o : Int} (ho : Viv.isW C.t o = true) : Viv.isW C'.t o = true := by
  obtain ⟨a, h1, h2⟩ := (hok.isW_iff o).1 ho
  exact (hok'.isW_iff o).2 ⟨a, h1, h.pl a h2⟩
theorem TextAt.ext {C C' : Cont} (h : Ext C C') (hok : C.Ok) (hok' : C'.Ok) {o c : Int} {l x : Nat} (ht : TextAt C o c l x) : TextAt C' o c l x := by
  obtain ⟨h1, h2, h3, h4, h5, h6⟩ := h.ad hok hok' ht.a
  exact ⟨by rw [h1]; exact ht.a, by rw [h2]; exact ht.cls, by rw [h3]; exact ht.fmt, by rw [h4]; exact ht.nf, fun i hi => by rw [h6]; exact ht.get i hi⟩
/-- a sound world stays so where its memory grows -/
theorem Wo.ext {C C' : Cont} (h : Wo C) (he : Ext C C') (hok' : C'.Ok) (hrt : ∀ i, i < 16 → C'.kn i = C.kn i) (hrl : C'.rt.length = 18) (hsy : C'.sy = C.sy) (hcs : C'.cs = C.cs) (hcl : C'.cl = C.cl)
    (hco : ∀ a, C'.pl a → C.e ≤ a → Viv.isW C'.t (C'.w (a + 1)) = true) : Wo C' := by
  refine ⟨hok', hrl, fun i hi => by rw [hrt i hi]; exact he.isW h.ok hok' (h.kn i hi), fun p hp => ?_, fun p hp => by rw [hcs]; rw [hsy] at hp; exact h.sb p hp, by rw [hcs]; exact Nat.le_trans h.sc he.e, by rw [hcl]; exact h.ck, fun a ha => ?_⟩
  · rw [hsy] at hp
    obtain ⟨l, x, o, h1, h2, h3, h4, h5⟩ := (h.sk p hp).ex
    exact ⟨l, x, o, h1, h2, h3, h4, by rw [hrt 11 (by omega)]; exact h5.ext he h.ok hok'⟩
  · rcases Nat.lt_or_ge a C.e with hl | hl
    · rcases he.new a ha with hp | hp
      · have := Cont.pl_hi h.ok hp
        rw [he.w (a + 1) (by omega)]
        exact he.isW h.ok hok' (h.co a hp)
      · omega
    · exact hco a ha hl
/-! ### Symbol -/
theorem g60 : pget .no q60 FW = .sp sp_room := by kernel_rfl
theorem g23 : pget .no q23 FW = .fn A23 := by kernel_rfl
section
variable {L : Lay} {C : Cont} {s : St}
/-- an object of class c and format f with fields is grown, in a sound world -/
theorem Wo.obj1 (h : Wo C) {c : Int} {f : Nat} {xs : List Int} (hc : isW C.t c = true) (hn : C.e + xs.length + 3 ≤ C.N) (hf : f ≤ 2) (hx : xs.length ≤ 256) : Wo (C.obj1 c f xs) := by
  obtain ⟨h1, h2, h3, h4, h5, _⟩ := obj1_base h.ok c hn hf hx
  have hN := h.ok.hi
  have hpl := fun a => (add_pl c f xs.length h.ok hn a)
  refine h.ext h1 h2 (fun i hi => ?_) ?_ ?_ ?_ ?_ fun a ha hle => ?_
  · unfold Cont.kn Cont.obj1; rw [fills_rt]; rfl
  · unfold Cont.obj1; rw [fills_rt]; exact h.rl
  · unfold Cont.obj1; rw [fills_sy]; rfl
  · unfold Cont.obj1; rw [fills_cs]; rfl
  · unfold Cont.obj1; rw [fills_cl]; rfl
  · have ha' : a = C.e := by
      have : (C.add c f xs.length).pl a := by unfold Cont.pl at ha ⊢; unfold Cont.obj1 at ha; rw [fills_t] at ha; exact ha
      rcases (hpl a).1 this with e | e
      · exact e
      · have := Cont.pl_hi h.ok e; omega
    subst ha'
    have : (C.obj1 c f xs).w (C.e + 1) = c := by
      unfold Cont.cls at h5; rw [h4] at h5; exact h5
    rw [this]; exact h1.isW h.ok h2 hc
theorem obj1_rest (c : Int) (f : Nat) (xs : List Int) : (C.obj1 c f xs).rt = C.rt ∧ (C.obj1 c f xs).sy = C.sy ∧ (C.obj1 c f xs).cs = C.cs ∧ (C.obj1 c f xs).cl = C.cl ∧ (C.obj1 c f xs).cc = C.cc ∧ (C.obj1 c f xs).e = C.e + xs.length + 3 ∧ (C.obj1 c f xs).N = C.N ∧ (∀ i, (C.obj1 c f xs).kn i = C.kn i) ∧ (C.obj1 c f xs).t = nset true 17 C.t C.e := by
  unfold Cont.obj1
  refine ⟨by rw [fills_rt]; rfl, by rw [fills_sy]; rfl, by rw [fills_cs]; rfl, by rw [fills_cl]; rfl, by rw [fills_cc]; rfl, by rw [fills_e]; rfl, by rw [fills_N]; rfl, fun i => by unfold Cont.kn; rw [fills_rt]; rfl, by rw [fills_t]; rfl⟩
/-- the world with a symbol more -/
noncomputable def Cont.symAdd (C : Cont) (l x : Nat) : Cont :=
  { ((C.obj1 (C.kn 11) 2 (bytesL l x)).obj1 (C.kn 9) 0 [((2 * C.e : Nat) : Int), C.rt.getD 0 0]) with
    rt := C.rt.set 0 ((2 * (C.e + l + 3) : Nat) : Int)
    sy := C.sy ++ [⟨.str l x, .p (2 * C.e), C.cs⟩]
    cs := C.cs + 1 }
theorem wo_symAdd (h : Wo C) {l x : Nat} (h1 : 1 ≤ l) (h2 : l ≤ 60) (hx256 : x < 256 ^ l) (hr : C.e + l + 8 ≤ C.N) :
    Wo (C.symAdd l x) ∧ Ext C (C.symAdd l x) ∧ TextAt (C.symAdd l x) ((2 * C.e : Nat) : Int) (C.kn 11) l x := by
  have hlen := bytesL_len l x
  have hn1 : C.e + (bytesL l x).length + 3 ≤ C.N := by omega
  obtain ⟨a1, a2, a3, a4, a5, a6, a7⟩ := obj1_base h.ok (C.kn 11) (f := 2) hn1 (by omega) (by omega)
  have ag := obj1_get h.ok (C.kn 11) (f := 2) hn1 (by omega) (by omega) (bytesL_fit l x _)
  have hw1 := h.obj1 (h.kn 11 (by omega)) (f := 2) hn1 (by omega) (by omega)
  obtain ⟨r1, r2, r3, r4, r5, r6, r7, r8, r9⟩ := obj1_rest (C := C) (C.kn 11) 2 (bytesL l x)
  have ht : TextAt (C.obj1 (C.kn 11) 2 (bytesL l x)) ((2 * C.e : Nat) : Int) (C.kn 11) l x :=
    ⟨by rw [a4]; have := h.ok.e3; omega, a5, a6, by rw [a7, hlen], fun i hi => by rw [ag i (by omega), bytesL_get l x hi]⟩
  generalize hC1 : C.obj1 (C.kn 11) 2 (bytesL l x) = C1 at *
  have hk9 : isW C1.t (C.kn 9) = true := a1.isW h.ok a2 (h.kn 9 (by omega))
  have hn2 : C1.e + ([((2 * C.e : Nat) : Int), C.rt.getD 0 0] : List Int).length + 3 ≤ C1.N := by rw [r6, r7]; simp; omega
  obtain ⟨b1, b2, b3, b4, b5, b6, b7⟩ := obj1_base a2 (C.kn 9) (f := 0) hn2 (by omega) (by simp)
  have hw2 := hw1.obj1 hk9 (f := 0) hn2 (by omega) (by simp)
  obtain ⟨t1, t2, t3, t4, t5, t6, t7, t8, t9⟩ := obj1_rest (C := C1) (C.kn 9) 0 [((2 * C.e : Nat) : Int), C.rt.getD 0 0]
  have ht2 := ht.ext b1 a2 b2
  generalize hC2 : C1.obj1 (C.kn 9) 0 [((2 * C.e : Nat) : Int), C.rt.getD 0 0] = C2 at *
  have hdef : C.symAdd l x = { C2 with rt := C.rt.set 0 ((2 * (C.e + l + 3) : Nat) : Int), sy := C.sy ++ [⟨.str l x, .p (2 * C.e), C.cs⟩], cs := C.cs + 1 } := by
    unfold Cont.symAdd; rw [hC1, hC2]
  have hx := a1.trans b1
  have hkn : ∀ i, (C.symAdd l x).kn i = C.kn i := fun i => by
    rw [hdef]
    show (C.rt.set 0 _).getD (2 + i) 0 = C.rt.getD (2 + i) 0
    rw [List.getD_eq_getElem?_getD, List.getElem?_set_ne (by omega), ← List.getD_eq_getElem?_getD]
  have hE : Ext C (C.symAdd l x) := by rw [hdef]; exact hx.rest _ _ _ _ _
  have hokE : (C.symAdd l x).Ok := by rw [hdef]; exact Ok.rest b2 _ _ _ _ _
  have htE : TextAt (C.symAdd l x) ((2 * C.e : Nat) : Int) (C.kn 11) l x := by rw [hdef]; exact ⟨ht2.a, ht2.cls, ht2.fmt, ht2.nf, ht2.get⟩
  refine ⟨⟨hokE, ?_, fun i hi => ?_, fun p hp => ?_, fun p hp => ?_, ?_, ?_, ?_⟩, hE, htE⟩
  · rw [hdef]; simp [h.rl]
  · rw [hkn]; exact hE.isW h.ok hokE (h.kn i hi)
  · have hp' : p ∈ C.sy ∨ p = ⟨.str l x, .p (2 * C.e), C.cs⟩ := by rw [hdef] at hp; simpa using hp
    rcases hp' with hp' | rfl
    · obtain ⟨l', x', o', k1, k2, k3, k4, k5⟩ := (h.sk p hp').ex
      exact ⟨l', x', o', k1, k2, k3, k4, by rw [hkn]; exact k5.ext hE h.ok hokE⟩
    · exact ⟨l, x, 2 * C.e, rfl, rfl, h1, ⟨h2, hx256⟩, by rw [hkn]; exact htE⟩
  · have hp' : p ∈ C.sy ∨ p = ⟨.str l x, .p (2 * C.e), C.cs⟩ := by rw [hdef] at hp; simpa using hp
    rw [hdef]
    show p.born < C.cs + 1
    rcases hp' with hp' | rfl
    · have := h.sb p hp'; omega
    · exact Nat.lt_succ_self _
  · rw [hdef]
    show C.cs + 1 ≤ C2.e
    have := h.sc; rw [t6, r6]; omega
  · rw [hdef]
    show ∀ p ∈ C2.cl, _
    rw [t4, r4]; exact h.ck
  · rw [hdef]; exact hw2.co
/-- the symbol of a text -/
theorem symbol_k (n : Nat) (hA : At L C s) (h : Wo C) (l x : Nat) :
    ((l < 1 ∨ 60 < l) ∧ ∀ k, callK FW (n + 4) q23 [.ptr L.q 0, .str l x] s k = k (.tup [.p 0, .p 1]) s) ∨
    (1 ≤ l ∧ l ≤ 60 ∧ ((∃ o : Nat, (∃ p ∈ C.sy, p.key = .str l x ∧ p.val = .p o ∧ C.sy.find? (isKey l x) = some p) ∧ o ≠ 0 ∧ ∀ k, callK FW (n + 4) q23 [.ptr L.q 0, .str l x] s k = k (.tup [.p o, .p 0]) s) ∨
      (C.sy.find? (isKey l x) = none ∧ C.N < C.e + l + 8 ∧ ∀ k, callK FW (n + 4) q23 [.ptr L.q 0, .str l x] s k = k (.tup [.p 0, .p 4]) s) ∨
      (C.sy.find? (isKey l x) = none ∧ C.e + l + 8 ≤ C.N ∧ ∃ s', (∀ k, callK FW (n + 4) q23 [.ptr L.q 0, .str l x] s k = k (.tup [.p (2 * C.e), .p 0]) s') ∧ At L (C.symAdd l x) s' ∧ Keep L.of s s'))) := by
  by_cases hl : l < 1 ∨ 60 < l
  · refine .inl ⟨hl, fun k => ?_⟩
    rw [callK_fn g23]
    rcases hl with hl | hl
    · simp -implicitDefEqProofs [A23, hl]
    · simp -implicitDefEqProofs [A23, hl, show ¬ l < 1 by omega]
  have h1 : 1 ≤ l := by omega
  have h2 : l ≤ 60 := by omega
  have hl1 : ¬ l < 1 := by omega
  have hl2 : ¬ 60 < l := by omega
  refine .inr ⟨h1, h2, ?_⟩
  have hlk := look_str hA.sy h.strKeys l x (.p 0)
  cases hf : C.sy.find? (isKey l x) with
  | some p =>
    rw [hf] at hlk
    have hp := List.mem_of_find?_eq_some hf
    obtain ⟨l', x', o, k1, k2, k3, k4, k5⟩ := (h.sk p hp).ex
    have hkey := List.find?_some hf
    have hkk : p.key = .str l x := by
      unfold isKey at hkey; rw [k1] at hkey
      simp only [Bool.and_eq_true, decide_eq_true_eq] at hkey
      rw [k1, hkey.1, hkey.2]
    have ho : o ≠ 0 := by
      rintro rfl
      exact k5.a (by rcases h.ok.ad_cases ((0 : Nat) : Int) with ⟨_, h0⟩ | ⟨a, ha, hpa, _, hd⟩
                     · exact h0
                     · obtain ⟨h3, _⟩ := h.ok.obj a hpa; omega)
    refine .inl ⟨o, ⟨p, hp, hkk, k2, rfl⟩, ho, fun k => ?_⟩
    rw [callK_fn g23]
    simp only [k2] at hlk
    simp -implicitDefEqProofs [A23, hl1, hl2, hA.q, hlk, ho]
  | none =>
    rw [hf] at hlk
    simp only at hlk
    have hroom : ∀ k, callK FW (n + 3) q60 [.ptr L.mem 0] s k = k (.p (C.N - C.e)) s := fun k => by rw [callK_sp g60]; exact room_at hA h.ok k
    have had : ∀ kv, addK (.p l) (.p 8) kv = kv (.p (l + 8)) := fun kv => by rw [addK_pp, chkP_ok (by omega)]
    have hE := h.ok.eN
    by_cases hr : C.N - C.e < l + 8
    · refine .inr (.inl ⟨rfl, by omega, fun k => ?_⟩)
      rw [callK_fn g23]
      simp -implicitDefEqProofs [A23, hl1, hl2, hA.q, hlk, hroom, had, hr]
    · have hlen := bytesL_len l x
      have hk11 := fun k => known_k (n + 2) hA h.rl (i := 11) (by omega) k
      have hc11 : clsW C.t (C.kn 11) = true := by unfold clsW; rw [h.kn 11 (by omega)]; cases iEq (C.kn 11) 0 <;> rfl
      rcases bytes_k n hA h.ok hc11 (l := l) (x := x) (by omega) with ⟨h3, _⟩ | ⟨h3, s1, hb, hA1, hok1, hkp1⟩
      · omega
      obtain ⟨r1, r2, r3, r4, r5, r6, r7, r8, r9⟩ := obj1_rest (C := C) (C.kn 11) 2 (bytesL l x)
      have hw1 := h.obj1 (h.kn 11 (by omega)) (f := 2) (xs := bytesL l x) (by omega) (by omega) (by omega)
      rcases push_k n hA1 hok1 (by rw [r1]; exact h.rl) (hw1.kn 9 (by omega)) ((2 * C.e : Nat) : Int) (C.rt.getD 0 0) with ⟨h4, _⟩ | ⟨h4, s2, hp, hA2, hok2, hkp2⟩
      · rw [r6, r7] at h4; omega
      have hrd := nth_rt (l := C.rt) (j := 0) (by rw [h.rl]; omega)
      have hia : ∀ kv, iadK (.slc L.rt 0 18 true 18 1) (.p 0) 1 kv = kv (.ptr L.rt 0) := fun kv => by rw [iadK_slc kv (by omega)]
      have hcs : C.cs ≤ 1048576 := by have := h.sc; have := h.ok.eN; have := h.ok.hi; omega
      rw [r6, hlen] at hp
      rw [r8] at hA2
      have hA3 := hA2.setRt (C.rt.set 0 ((2 * (C.e + l + 3) : Nat) : Int))
      obtain ⟨t1, t2, t3, t4, t5, t6, t7, t8, t9⟩ := obj1_rest (C := C.obj1 (C.kn 11) 2 (bytesL l x)) (C.kn 9) 0 [((2 * C.e : Nat) : Int), C.rt.getD 0 0]
      have hst : ∀ k, stK (.ptr L.rt 0) 1 (.p (2 * (C.e + l + 3))) s2 k = k (.tup []) (s2.set L.rt (.row ((C.rt.set 0 ((2 * (C.e + l + 3) : Nat) : Int)).map vI))) := fun k => by
        show (Bool.rec fl (wrObj (s2.get L.rt) 0 [V.p (2 * (C.e + l + 3))] (fun o => k (.tup []) (s2.set L.rt o))) (Nat.beq 1 1) : RC) = _
        rw [hA2.rt, t1, r1]
        show (Bool.rec fl (k (.tup []) (s2.set L.rt (.row (lset (V.p (2 * (C.e + l + 3))) 0 (C.rt.map vI))))) (Nat.ble (0 + 1) (len (C.rt.map vI))) : RC) = _
        rw [bleRec, len_eq, if_pos (by rw [List.length_map, h.rl]; omega), lset_eq, List.map_set]; rfl
      generalize hs3 : s2.set L.rt (.row ((C.rt.set 0 ((2 * (C.e + l + 3) : Nat) : Int)).map vI)) = s3 at hA3 hst
      have hsy3 : s3.get L.sy = .map C.sy C.cs := by rw [hA3.sy]; show AObj.map (Cont.sy _) (Cont.cs _) = _; rw [t2, t3, r2, r3]
      have hme := ment_new hsy3 h.strKeys hcs hf (.p 0)
      have hA4 := hA3.setSy (C.sy ++ [⟨.str l x, .p 0, C.cs⟩]) (C.cs + 1)
      generalize hs4 : s3.set L.sy (.map (C.sy ++ [⟨.str l x, .p 0, C.cs⟩]) (C.cs + 1)) = s4 at hA4 hme
      have hms := mst_new hA4.sy h.sb (.p (2 * C.e))
      have hA5 := hA4.setSy (C.sy ++ [⟨.str l x, .p (2 * C.e), C.cs⟩]) (C.cs + 1)
      generalize hs5 : s4.set L.sy (.map (C.sy ++ [⟨.str l x, .p (2 * C.e), C.cs⟩]) (C.cs + 1)) = s5 at hA5 hms
      have hA6 : At L (C.symAdd l x) s5 := hA5
      have hp' : ∀ k, callK FW (n + 3) q88 [.ptr L.q 0, .p (2 * C.e), vI (C.rt.getD 0 0)] s1 k = k (.tup [.p (2 * (C.e + l + 3)), .p 0]) s2 := hp
      obtain ⟨r0, hr0⟩ : ∃ r0, C.rt.getD 0 0 = r0 := ⟨_, rfl⟩
      rw [hr0] at hrd hp'
      refine .inr (.inr ⟨rfl, by omega, s5, fun k => ?_, hA6, ?_⟩)
      · rw [callK_fn g23]
        simp -implicitDefEqProofs [A23, hl1, hl2, hA.q, hlk, hroom, had, hr, hk11, hb, hia, hA1.q, hA1.rt, r1, hrd, hp', hA2.q, hst, hme, hms]
      · have hk5 : Keep L.of s4 s5 := by rw [← hs5]; exact Keep.set _ _ (.inl L.of_sy)
        have hk4 : Keep L.of s3 s4 := by rw [← hs4]; exact Keep.set _ _ (.inl L.of_sy)
        have hk3 : Keep L.of s2 s3 := by rw [← hs3]; exact Keep.set _ _ (.inl L.of_rt)
        exact hkp1.trans (hkp2.trans (hk3.trans (hk4.trans hk5)))
end
end Viv
