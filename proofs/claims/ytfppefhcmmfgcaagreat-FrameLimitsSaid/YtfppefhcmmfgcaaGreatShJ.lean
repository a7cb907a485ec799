/-
  THE CONTRACTS OF PACKAGE heap: what looks at a memory.
-/
import Derived.Test.YtfppefhcmmfgcaaGreatSw
set_option maxRecDepth 100000
namespace Viv
open Go (Value World IntKind Addr Program Act Exit Oper Operand Ending undef)
open Go.Proofs

/-! ### from a view to any state -/
def keepI : V → V
  | .p n => .p n
  | .m n => .m n
  | _ => .bad
@[simp] theorem keepI_vI (n : Int) : keepI (vI n) = vI n := by cases n <;> rfl
theorem keep_rels {β β' : Beta} : ∀ {r : L} {xs : List Value}, VRels β r xs → VRels β' (r.map keepI) xs
  | [], _, h => by cases h; exact .nil
  | v :: r, _, h => by
    cases h with
    | cons _ x _ xs a b =>
      refine .cons _ _ _ _ ?_ (keep_rels b)
      cases a <;> first | exact .bad _ | skip
      case p n hn => exact .p n hn
      case m n hn => exact .m n hn
section
variable {β : Beta} {s : St} {w : World}
theorem mem_arg (h : Sim β s w) {id : Pth} {m : Mem} (hm : s.get id = .mem m) {x : Value} (hx : VRel β (.ptr id 0) x) : ∃ y : ML, β id = some (.mem y) ∧ x = .pointer (some ⟨y.b, y.o, none⟩) := by
  cases hx with
  | ptr _ _ b o sz hb => have := h.obj id _ hb; rw [hm] at this; exact this.elim
  | ptrm _ _ y hb => exact ⟨y, hb, rfl⟩
  | ptri _ _ b hb => have := h.obj id _ hb; rw [hm] at this; exact this.elim
/-- the numbers among some values are such -/
def InR (r : L) : Prop := ∀ n : Int, vI n ∈ r → -9223372036854775808 ≤ n ∧ n < 9223372036854775808
theorem inR {r : L} {xs : List Value} (h : VRels β r xs) : InR r := by
  intro n hn
  induction r generalizing xs with
  | nil => cases hn
  | cons v r ih =>
    cases h with
    | cons _ x _ xs a b =>
      rcases List.mem_cons.1 hn with rfl | hn
      · exact (vI_of_rel a).2
      · exact ih b hn
/-- what a special on a memory does, and that its code does so on the view -/
structure MemStep (A : AFunc) (c : CF) (x : L → St → K → RC) (id : Pth) (m : Mem) (t : NT Bool) (r : L) (s : St) (v : V) (s'' : St) (m' : Mem) (t' : NT Bool) : Prop where
  eq : ∀ k, x (.ptr id 0 :: r) s k = k v s''
  scal : Scal v
  next : s''.next = s.next
  mem : s''.get id = .mem m'
  set : s''.get m.pl = .set t'
  rest : ∀ i, i ≠ id → i ≠ m.pl → s''.get i = s.get i
  pl : m'.pl = m.pl
  run : ∀ sz l cc, MemWf m sz → SetRel t l → Born l cc → InR r → MemWf m' sz ∧ ∃ s3 T' l' cc', (∀ k, callF (.fn A) c (.ptr .h 0 :: r.map keepI) (vw (ntmap vI m.words) m.endd m.made sz l cc) k = k v s3) ∧
    s3.get .h = .row (memRow m' sz) ∧ s3.get (.o .h) = .vec 17 T' sz (.p 0) ∧ s3.get (.i .h) = .map l' cc' ∧ (∀ i, i < sz → nget (.p 0) 17 T' i = vI (m'.word i)) ∧ SetRel t' l'
theorem SpOk.of_mem {i : Nat} {fn : Go.Func} {np : Nat} {sl : List Nat} {pls : List PlanD} {A : AFunc} {c : CF} {x : L → St → K → RC} (T : trFunc Tryz.prog fn np sl pls = some A) (hf : Tryz.prog.funcs[i]? = some fn)
    (hc : ∀ args w, (Go.callFunc i args).run Tryz.prog w = .ok (.enter i args) w) (hs : CFSound Tryz.prog c)
    (h : ∀ ls s, (∀ k, x ls s k = fl) ∨ ∃ id m t r, ls = .ptr id 0 :: r ∧ s.get id = .mem m ∧ s.get m.pl = .set t ∧ ∃ v s'' m' t', MemStep A c x id m t r s v s'' m' t') : SpOk Tryz.prog i x := by
  intro β s w ls args hsim hr
  rcases h ls s with h | ⟨id, m, t, r, rfl, hm, ht, v, s'', m', t', hst⟩
  · exact .fail h
  · cases hr with
    | cons _ a0 _ xs hx hxs =>
      obtain ⟨y, hid, rfl⟩ := mem_arg hsim hm hx
      obtain ⟨y2, bp, sz, l, cc, hloc, hv⟩ := view hsim hid hm ht
      cases hloc
      obtain ⟨hwf', s3, T', l', cc', hev, g0, g1, g2, hT, hset⟩ := hst.run sz l cc hv.wf hv.set hv.born (inR hxs)
      have hrel : VRels (vb y bp) (.ptr .h 0 :: r.map keepI) (.pointer (some ⟨y.b, y.o, none⟩) :: xs) := .cons _ _ _ _ (.ptr .h 0 y.b y.o y.sb rfl) (keep_rels hxs)
      rcases func_out hs mixed T hf hc hv.sim hrel with ⟨why, hbad⟩ | ⟨v2, s2, hk, hg⟩
      · exact (not_fail hev hbad).elim
      · obtain ⟨rfl, rfl⟩ := uniq hev hk
        exact .inr ⟨v, s'', hst.eq, unview hsim hid hm ht hv hg hst.scal g0 g1 g2 hT hwf' hst.pl hset hst.next hst.mem hst.set hst.rest⟩
end

/-! ### looking at the view -/
section
variable (T : NT V) (e kk sz : Nat) (l : List Ent) (cc : Nat)
@[simp] theorem vw_h : (vw T e kk sz l cc).get .h = .row [.slc (.o .h) 0 sz true sz 1, .p e, .p kk, .map (.i .h)] := rfl
@[simp] theorem vw_o : (vw T e kk sz l cc).get (.o .h) = .vec 17 T sz (.p 0) := rfl
@[simp] theorem vw_i : (vw T e kk sz l cc).get (.i .h) = .map l cc := rfl
theorem keyI_pp (n m : Nat) (a b : RC) : keyI (.p n) (.p m) a b = if n = m then a else b := by
  show (Bool.rec b a (Nat.beq n m) : RC) = _
  rw [beqRec]
theorem mfind_set {d y : RC} {f : Ent → RC} {a : Nat} : ∀ {l : List Ent}, (∀ x ∈ l, (∃ a', x.key = .p a') ∧ f x = y) → ((∃ x ∈ l, x.key = .p a) → mfind keyI d f (.p a) l = y) ∧ ((¬ ∃ x ∈ l, x.key = .p a) → mfind keyI d f (.p a) l = d)
  | [], _ => ⟨fun h => (by obtain ⟨x, hx, _⟩ := h; cases hx), fun _ => rfl⟩
  | p :: l, h => by
    obtain ⟨⟨a', hk⟩, hy⟩ := h p (by simp)
    have ih := mfind_set (d := d) (a := a) (fun x hx => h x (List.mem_cons_of_mem _ hx))
    rw [mfind_cons, hk, keyI_pp, hy]
    by_cases e : a' = a
    · rw [if_pos e]
      exact ⟨fun _ => rfl, fun hn => absurd ⟨p, by simp, by rw [hk, e]⟩ hn⟩
    · rw [if_neg e]
      refine ⟨fun ⟨x, hx, hxa⟩ => ih.1 ?_, fun hn => ih.2 fun ⟨x, hx, hxa⟩ => hn ⟨x, List.mem_cons_of_mem _ hx, hxa⟩⟩
      rcases List.mem_cons.1 hx with rfl | hx
      · rw [hk] at hxa; cases hxa; exact absurd rfl e
      · exact ⟨x, hx, hxa⟩
theorem lookK_map (id : Pth) (kf : KF) (z : V) (ok : Bool) (key : V) (s : St) (kv : KV) : lookK (.map id) kf z ok key s kv = mapK fl (s.get id) (fun l _ => mfind kf (lkres ok kv z .ff) (fun p => lkres ok kv p.val .tt) key l) := rfl
variable {T e kk sz l cc}
theorem nget_pow {α : Type} (d : α) : ∀ (k : Nat) (t : NT α), nget d k t (2 ^ k) = nget d k t (2 ^ k - 1)
  | 0, t => rfl
  | k + 1, t => by
    have hp : 0 < 2 ^ k := Nat.pos_of_ne_zero (by simp)
    have h2 : 2 ^ (k + 1) = 2 ^ k + 2 ^ k := by rw [Nat.pow_succ]; omega
    rw [nget_succ, nget_succ, h2, if_pos (by omega), if_pos (by omega), show 2 ^ k + 2 ^ k - 2 ^ k = 2 ^ k by omega, show 2 ^ k + 2 ^ k - 1 - 2 ^ k = 2 ^ k - 1 by omega]
    exact nget_pow d k (nR t)
theorem nget_top (t : NT Bool) : nget false 17 t 131072 = nget false 17 t 131071 := nget_pow false 17 t
theorem look_vw {t : NT Bool} (ht : SetRel t l) {a : Nat} (ha : a ≤ 131072) (kv : KV) : lookK (.map (.i .h)) keyI .ff false (.p a) (vw T e kk sz l cc) kv = kv (B (nget false 17 t a)) := by
  rw [lookK_map, vw_i, mapK_map]
  have h := mfind_set (d := lkres false kv .ff .ff) (f := fun p => lkres false kv p.val .tt) (y := kv .tt) (a := a) (l := l) fun x hx => by
    obtain ⟨a', _, h1, h2, _⟩ := ht.all x hx
    exact ⟨⟨a', h1⟩, by rw [h2]; rfl⟩
  cases hb : nget false 17 t a with
  | true =>
    by_cases hlt : a < 131072
    · exact h.1 (ht.has a hlt hb)
    · have : a = 131072 := by omega
      subst this
      rw [nget_top, ht.top] at hb; cases hb
  | false =>
    refine h.2 fun ⟨x, hx, hxa⟩ => ?_
    obtain ⟨a', _, h1, _, h3⟩ := ht.all x hx
    rw [h1] at hxa; cases hxa
    rw [h3] at hb; cases hb
end

/-! ### Is, May, class, at -/
noncomputable def THW : Tr FE := pset .no q108 (.sp sp_addr) (pset .no q106 (.sp sp_value) (pset .no q104 (.sp sp_small) (pset .no q116 (.sp sp_ptr) TW1)))
noncomputable def THF : Tr FE := pset .no q44 (.fn A44) (pset .no q31 (.fn A31) (pset .no q115 (.fn A115) (pset .no q169 (.fn A169) (pset .no q97 (.fn A97) (pset .no q98 (.fn A98) (pset .no q99 (.fn A99) (pset .no q171 (.fn A171) (pset .no q60 (.fn A60) THW))))))))
theorem THW_ok : ∀ f, FEok Tryz.prog (num f) (pget .no f THW) :=
  FEok_pset (FEok_pset (FEok_pset (FEok_pset TW1_ok (num_q (i := 116) rfl (.sp _ sp116))) (num_q (i := 104) rfl (.sp _ sp104))) (num_q (i := 106) rfl (.sp _ sp106))) (num_q (i := 108) rfl (.sp _ sp108))
theorem THF_ok : ∀ f, FEok Tryz.prog (num f) (pget .no f THF) :=
  FEok_pset (FEok_pset (FEok_pset (FEok_pset (FEok_pset (FEok_pset (FEok_pset (FEok_pset (FEok_pset THW_ok (num_q (i := 60) rfl (feok_fn T60 Tryz.func60 Tryz.call60)))
    (num_q (i := 171) rfl (feok_fn T171 Tryz.func171 Tryz.call171))) (num_q (i := 99) rfl (feok_fn T99 Tryz.func99 Tryz.call99))) (num_q (i := 98) rfl (feok_fn T98 Tryz.func98 Tryz.call98)))
    (num_q (i := 97) rfl (feok_fn T97 Tryz.func97 Tryz.call97))) (num_q (i := 169) rfl (feok_fn T169 Tryz.func169 Tryz.call169))) (num_q (i := 115) rfl (feok_fn T115 Tryz.func115 Tryz.call115)))
    (num_q (i := 31) rfl (feok_fn T31 Tryz.func31 Tryz.call31))) (num_q (i := 44) rfl (feok_fn T44 Tryz.func44 Tryz.call44))
theorem THF_snd (n : Nat) : CFSound Tryz.prog (callK THF n) := callK_sound mixed THF_ok n

/-- what the tables of words answer -/
structure WordsAt (c : CF) : Prop where
  ptr : ∀ (a : Int) (s : St) (k : K), c q107 [vI a] s k = k (B (isPtrW a)) s
  small : ∀ (a : Int) (s : St) (k : K), c q91 [vI a] s k = k (B (isSmallW a)) s
  addr : ∀ (a : Int) (s : St) (k : K), c q108 [vI a] s k = k (.p (Bool.rec 0 (half a) (isPtrW a))) s
theorem half_lt {a : Int} (h : isPtrW a = true) : 3 ≤ half a ∧ half a ≤ 131072 := by
  have := half_eq h
  rw [isPtrW_eq] at h
  simp only [Bool.and_eq_true, decide_eq_true_eq] at h
  omega
theorem is_ev {c : CF} (hw : WordsAt c) {T : NT V} {e kk sz : Nat} {l : List Ent} {cc : Nat} {t : NT Bool} (ht : SetRel t l) (a : Int) (r : L) (k : K) :
    callF (.fn A44) c (.ptr .h 0 :: vI a :: r) (vw T e kk sz l cc) k = k (B (isW t a)) (vw T e kk sz l cc) := by
  simp [A44, hw.ptr, hw.addr]
  cases h : isPtrW a with
  | false => simp; rw [show isW t a = false by show (Bool.rec false _ (isPtrW a) : Bool) = _; rw [h]]; rfl
  | true =>
    simp [look_vw ht (half_lt h).2]
    rw [show isW t a = nget false 17 t (half a) by show (Bool.rec false _ (isPtrW a) : Bool) = _; rw [h]]
theorem words_thf (n : Nat) : WordsAt (callK THF (n + 1)) := by
  refine ⟨fun a s k => ?_, fun a s k => ?_, fun a s k => ?_⟩
  · show asInt (vI a) _ = _; rw [asInt_vI]
  · show asInt (vI a) _ = _; rw [asInt_vI]
  · show asInt (vI a) _ = _; rw [asInt_vI]
/-- a memory's view -/
noncomputable abbrev vm (m : Mem) (sz : Nat) (l : List Ent) (cc : Nat) : St := vw (ntmap vI m.words) m.endd m.made sz l cc

section
variable {m : Mem} {sz : Nat} {l : List Ent} {cc : Nat} {t : NT Bool} (ht : SetRel t l) (a : Int) (r : L) (k : K)
include ht
theorem is_thf (n : Nat) : callK THF (n + 2) q44 (.ptr .h 0 :: vI a :: r) (vm m sz l cc) k = k (B (isW t a)) (vm m sz l cc) := is_ev (words_thf n) ht a r k
theorem may_ev (n : Nat) : callF (.fn A31) (callK THF (n + 2)) (.ptr .h 0 :: vI a :: r) (vm m sz l cc) k = k (B (mayW t a)) (vm m sz l cc) := by
  have h1 := (words_thf (n + 1)).small a
  have h2 := fun k => is_thf (m := m) (sz := sz) (cc := cc) ht a [] k n
  simp [A31, h1, h2]
  unfold mayW
  simp only [iEq_eq]
  by_cases e0 : a = 0
  · subst e0; simp
  · by_cases e2 : a = 2
    · subst e2; simp
    · by_cases e4 : a = 4
      · subst e4; simp
      · cases hs : isSmallW a <;> simp [e0, e2, e4]
theorem cls_ev (n : Nat) : callF (.fn A115) (callK THF (n + 2)) (.ptr .h 0 :: vI a :: r) (vm m sz l cc) k = k (B (clsW t a)) (vm m sz l cc) := by
  have h2 := fun k => is_thf (m := m) (sz := sz) (cc := cc) ht a [] k n
  simp [A115, h2]
  unfold clsW
  simp only [iEq_eq]
  by_cases e0 : a = 0 <;> simp [e0]
theorem at_ev (n : Nat) : callF (.fn A169) (callK THF (n + 2)) (.ptr .h 0 :: vI a :: r) (vm m sz l cc) k = k (.p (atW t a)) (vm m sz l cc) := by
  have h1 : ∀ (s : St) (k : K), callK THF (n + 2) q108 [vI a] s k = k (.p (Bool.rec 0 (half a) (isPtrW a))) s := (words_thf (n + 1)).addr a
  have h2 := fun k => is_thf (m := m) (sz := sz) (cc := cc) ht a [] k n
  simp [A169, h2]
  unfold atW
  cases hi : isW t a with
  | false => simp
  | true =>
    have hp : isPtrW a = true := by
      cases hp : isPtrW a with
      | true => rfl
      | false => rw [show isW t a = false by show (Bool.rec false _ (isPtrW a) : Bool) = _; rw [hp]] at hi; cases hi
    simp [hp, h1]
end

/-! ### the contracts: what only looks -/
theorem m0_cases (ls : L) (s : St) : (∀ f, m0 ls s f = fl) ∨ ∃ id m r, ls = .ptr id 0 :: r ∧ s.get id = .mem m ∧ ∀ f, m0 ls s f = f id m := by
  cases ls with
  | nil => exact .inl fun f => rfl
  | cons v r =>
    cases v <;> first | exact .inl fun f => rfl | skip
    case ptr id o =>
      by_cases ho : o = 0
      · subst ho
        have e : ∀ f, m0 (.ptr id 0 :: r) s f = memK (s.get id) (f id) := fun f => rfl
        cases hm : s.get id <;> first | exact .inl fun f => by rw [e, hm]; rfl | skip
        case mem m => exact .inr ⟨id, m, r, rfl, hm, fun f => by rw [e, hm]; rfl⟩
      · refine .inl fun f => ?_
        show (Bool.rec fl (memK (s.get id) (f id)) (Nat.beq o 0) : RC) = fl
        rw [beqRec, if_neg ho]
theorem m2_cases (ls : L) (s : St) : (∀ f, m2 ls s f = fl) ∨ ∃ id m t r, ls = .ptr id 0 :: r ∧ s.get id = .mem m ∧ s.get m.pl = .set t ∧ ∀ f, m2 ls s f = f id m t := by
  rcases m0_cases ls s with h | ⟨id, m, r, rfl, hm, h⟩
  · exact .inl fun f => h _
  · have e : ∀ f, m2 (.ptr id 0 :: r) s f = setK (s.get m.pl) (f id m) := fun f => h _
    cases ht : s.get m.pl <;> first | exact .inl fun f => by rw [e, ht]; rfl | skip
    case set t => exact .inr ⟨id, m, t, r, rfl, hm, ht, fun f => by rw [e, ht]; rfl⟩
theorem vec_map (m : Mem) (i : Nat) : nget (.p 0) 17 (ntmap vI m.words) i = vI (m.word i) := nget_map vI 0 17 m.words i
/-- a special that only looks -/
theorem MemStep.look {A : AFunc} {c : CF} {x : L → St → K → RC} {id : Pth} {m : Mem} {t : NT Bool} {r : L} {s : St} {v : V} (hm : s.get id = .mem m) (ht : s.get m.pl = .set t) (eq : ∀ k, x (.ptr id 0 :: r) s k = k v s) (hs : Scal v)
    (h : ∀ sz l cc, MemWf m sz → SetRel t l → ∀ k, callF (.fn A) c (.ptr .h 0 :: r.map keepI) (vm m sz l cc) k = k v (vm m sz l cc)) : MemStep A c x id m t r s v s m t :=
  ⟨eq, hs, rfl, hm, ht, fun _ _ _ => rfl, rfl, fun sz l cc hw hset _ _ => ⟨hw, _, _, _, _, h sz l cc hw hset, rfl, rfl, rfl, fun i _ => vec_map m i, hset⟩⟩
theorem sp_of_m1 {i : Nat} {fn : Go.Func} {np : Nat} {sl : List Nat} {pls : List PlanD} {A : AFunc} {c : CF} {f : NT Bool → Int → V} (T : trFunc Tryz.prog fn np sl pls = some A) (hf : Tryz.prog.funcs[i]? = some fn)
    (hc : ∀ args w, (Go.callFunc i args).run Tryz.prog w = .ok (.enter i args) w) (hs : CFSound Tryz.prog c) (hsc : ∀ t n, Scal (f t n))
    (h : ∀ {m sz l cc t}, MemWf m sz → SetRel t l → ∀ n r k, callF (.fn A) c (.ptr .h 0 :: vI n :: r) (vm m sz l cc) k = k (f t n) (vm m sz l cc)) : SpOk Tryz.prog i (m1 f) := by
  refine .of_mem T hf hc hs fun ls s => ?_
  rcases m2_cases ls s with hm | ⟨id, m, t, r, rfl, hm, ht, he⟩
  · exact .inl fun k => hm _
  · cases r with
    | nil => exact .inl fun k => he _
    | cons v r =>
      rcases asInt_cases v with ⟨n, rfl⟩ | hv
      · refine .inr ⟨id, m, t, _, rfl, hm, ht, f t n, s, m, t, .look hm ht (fun k => ?_) (hsc t n) fun sz l cc hw hset k => ?_⟩
        · refine (he _).trans ?_; show asInt (vI n) _ = _; rw [asInt_vI]
        · rw [List.map_cons, keepI_vI]; exact h hw hset n _ k
      · exact .inl fun k => (he _).trans (hv _)
theorem sp44 : SpOk Tryz.prog 44 sp_is := sp_of_m1 T44 Tryz.func44 Tryz.call44 (THF_snd 9) (fun _t _n => scal_B _) fun _ ht n r k => is_ev (words_thf 8) ht n r k
theorem sp31 : SpOk Tryz.prog 31 sp_may := sp_of_m1 T31 Tryz.func31 Tryz.call31 (THF_snd 9) (fun _t _n => scal_B _) fun _ ht n r k => may_ev ht n r k 7
theorem sp115 : SpOk Tryz.prog 115 sp_cls := sp_of_m1 T115 Tryz.func115 Tryz.call115 (THF_snd 9) (fun _t _n => scal_B _) fun _ ht n r k => cls_ev ht n r k 7
theorem sp169 : SpOk Tryz.prog 169 sp_at := sp_of_m1 T169 Tryz.func169 Tryz.call169 (THF_snd 9) (fun _t _n => trivial) fun _ ht n r k => at_ev ht n r k 7
/-! ### the words of an object -/
section
variable {m : Mem} {sz : Nat} {l : List Ent} {cc : Nat} {t : NT Bool} (hw : MemWf m sz) (ht : SetRel t l) (a : Int) (r : L) (k : K)
theorem atW_lt (t : NT Bool) (a : Int) : atW t a ≤ 131072 := by
  unfold atW
  cases hi : isW t a with
  | false => simp
  | true =>
    have hp : isPtrW a = true := by
      cases hp : isPtrW a with
      | true => rfl
      | false => rw [show isW t a = false by show (Bool.rec false _ (isPtrW a) : Bool) = _; rw [hp]] at hi; cases hi
    exact (half_lt hp).2
include ht
theorem at_thf (n : Nat) : callK THF (n + 3) q169 (.ptr .h 0 :: vI a :: r) (vm m sz l cc) k = k (.p (atW t a)) (vm m sz l cc) := at_ev ht a r k n
omit ht in
include hw in
/-- a word is read -/
theorem rd_word {i : Nat} (h : i < m.endd) : rdObj (.vec 17 (ntmap vI m.words) sz (.p 0)) i = vI (m.word i) := by
  rw [rdObj_vec, if_pos (Nat.lt_of_lt_of_le h hw.end2), vec_map]
include hw
theorem klass_ev (n : Nat) (h : atW t a + 3 ≤ m.endd) : callF (.fn A97) (callK THF (n + 3)) (.ptr .h 0 :: vI a :: r) (vm m sz l cc) k = k (vI (m.word (atW t a + 1))) (vm m sz l cc) := by
  have h1 := fun k => at_thf (m := m) (sz := sz) (cc := cc) ht a [] k n
  have hb := atW_lt t a
  have he := hw.end2
  simp [A97, h1, addK_pp]
  rw [chkP_ok (by omega)]
  try simp
  rw [iadK_slc _ (by omega)]
  simp
  rw [rd_word hw (by omega)]
  simp
theorem format_ev (n : Nat) (h : atW t a + 3 ≤ m.endd) : callF (.fn A98) (callK THF (n + 3)) (.ptr .h 0 :: vI a :: r) (vm m sz l cc) k = k (vI (m.word (atW t a) % 4)) (vm m sz l cc) := by
  have h1 := fun k => at_thf (m := m) (sz := sz) (cc := cc) ht a [] k n
  have hb := atW_lt t a
  have he := hw.end2
  simp [A98, h1]
  rw [iadK_slc _ (by omega)]
  simp
  rw [rd_word hw (by omega)]
  simp
theorem fields_ev (n : Nat) (h : atW t a + 3 ≤ m.endd) : callF (.fn A99) (callK THF (n + 3)) (.ptr .h 0 :: vI a :: r) (vm m sz l cc) k = k (vI (m.word (atW t a) / 4)) (vm m sz l cc) := by
  have h1 := fun k => at_thf (m := m) (sz := sz) (cc := cc) ht a [] k n
  have hb := atW_lt t a
  have he := hw.end2
  simp [A99, h1]
  rw [iadK_slc _ (by omega)]
  simp
  rw [rd_word hw (by omega)]
  simp
end
theorem sp_of_m3 {i : Nat} {fn : Go.Func} {np : Nat} {sl : List Nat} {pls : List PlanD} {A : AFunc} {c : CF} {f : Mem → Nat → V} (T : trFunc Tryz.prog fn np sl pls = some A) (hf : Tryz.prog.funcs[i]? = some fn)
    (hc : ∀ args w, (Go.callFunc i args).run Tryz.prog w = .ok (.enter i args) w) (hs : CFSound Tryz.prog c) (hsc : ∀ m n, Scal (f m n))
    (h : ∀ {m sz l cc t}, MemWf m sz → SetRel t l → ∀ n r k, atW t n + 3 ≤ m.endd → callF (.fn A) c (.ptr .h 0 :: vI n :: r) (vm m sz l cc) k = k (f m (atW t n)) (vm m sz l cc)) : SpOk Tryz.prog i (m3 f) := by
  refine .of_mem T hf hc hs fun ls s => ?_
  rcases m2_cases ls s with hm | ⟨id, m, t, r, rfl, hm, ht, he⟩
  · exact .inl fun k => hm _
  · cases r with
    | nil => exact .inl fun k => he _
    | cons v r =>
      rcases asInt_cases v with ⟨n, rfl⟩ | hv
      · have e : ∀ k, m3 f (.ptr id 0 :: vI n :: r) s k = if atW t n + 3 ≤ m.endd then k (f m (atW t n)) s else fl := fun k => by
          refine (he _).trans ?_
          show asInt (vI n) _ = _
          rw [asInt_vI]
          exact bleRec _ _ _ _
        by_cases hle : atW t n + 3 ≤ m.endd
        · refine .inr ⟨id, m, t, _, rfl, hm, ht, f m (atW t n), s, m, t, .look hm ht (fun k => by rw [e, if_pos hle]) (hsc m _) fun sz l cc hw hset k => ?_⟩
          rw [List.map_cons, keepI_vI]; exact h hw hset n _ k hle
        · exact .inl fun k => by rw [e, if_neg hle]
      · exact .inl fun k => (he _).trans (hv _)
theorem sp97 : SpOk Tryz.prog 97 sp_klass := sp_of_m3 T97 Tryz.func97 Tryz.call97 (THF_snd 9) (fun _m _n => scal_vI _) fun hw ht n r k h => klass_ev hw ht n r k 6 h
theorem sp98 : SpOk Tryz.prog 98 sp_format := sp_of_m3 T98 Tryz.func98 Tryz.call98 (THF_snd 9) (fun _m _n => scal_vI _) fun hw ht n r k h => format_ev hw ht n r k 6 h
theorem sp99 : SpOk Tryz.prog 99 sp_fields := sp_of_m3 T99 Tryz.func99 Tryz.call99 (THF_snd 9) (fun _m _n => scal_vI _) fun hw ht n r k h => fields_ev hw ht n r k 6 h
end Viv

/-
  THE CONTRACTS OF PACKAGE heap: fields; what writes.
-/
set_option maxRecDepth 100000
namespace Viv
open Go (Value World IntKind Addr Program Act Exit Oper Operand Ending undef)
open Go.Proofs

section
variable {m : Mem} {sz : Nat} {l : List Ent} {cc : Nat} {t : NT Bool} (hw : MemWf m sz) (ht : SetRel t l) (a i : Int) (r : L) (k : K)
theorem field_form (x : Nat) (i : Int) (k : Nat → RC) (err : Nat → RC) : m.field x i k err = if x = 0 then err 1 else if x + 3 ≤ m.endd then (if i < 0 then err 5 else if i < m.fields x then (if x + 3 + i.toNat < m.endd then k (x + 3 + i.toNat) else fl) else err 5) else fl := by
  show (Bool.rec (Bool.rec fl (Bool.rec (Bool.rec (err 5) (Bool.rec fl (k (x + 3 + i.toNat)) (Nat.ble (x + 3 + i.toNat + 1) m.endd)) (iLt i (m.fields x))) (err 5) (iLt i 0)) (Nat.ble (x + 3) m.endd)) (err 1) (Nat.beq x 0) : RC) = _
  rw [beqRec, bleRec, bcase, bcase, bleRec, iLt_eq, iLt_eq]
  simp only [decide_eq_true_eq]
  rfl
include hw ht
theorem fields_thf (n : Nat) (h : atW t a + 3 ≤ m.endd) : callK THF (n + 4) q99 (.ptr .h 0 :: vI a :: r) (vm m sz l cc) k = k (vI (m.word (atW t a) / 4)) (vm m sz l cc) := fields_ev hw ht a r k n h
/-- where a field lies -/
theorem field_ev (n : Nat) (h : atW t a ≠ 0 → atW t a + 3 ≤ m.endd) (hj : atW t a ≠ 0 → 0 ≤ i → i < m.fields (atW t a) → atW t a + 3 + i.toNat < m.endd) : callF (.fn A171) (callK THF (n + 4)) (.ptr .h 0 :: vI a :: vI i :: r) (vm m sz l cc) k =
    k (if atW t a = 0 then .tup [.p 0, .p 1] else if i < 0 then .tup [.p 0, .p 5] else if i < m.fields (atW t a) then .tup [.p (atW t a + 3 + i.toNat), .p 0] else .tup [.p 0, .p 5]) (vm m sz l cc) := by
  have h1 : ∀ k, callK THF (n + 4) q169 [.ptr .h 0, vI a] (vm m sz l cc) k = k (.p (atW t a)) (vm m sz l cc) := fun k => at_thf ht a [] k (n + 1)
  have hb := atW_lt t a
  have he := hw.end2
  have hh := hw.hi
  simp only [Mem.fields] at hj ⊢
  by_cases h0 : atW t a = 0
  · simp [A171, h1, h0]
  · have h2 : ∀ k, callK THF (n + 4) q99 [.ptr .h 0, vI a] (vm m sz l cc) k = k (vI (m.word (atW t a) / 4)) (vm m sz l cc) := fun k => fields_thf hw ht a [] k n (h h0)
    have hbeq : Nat.beq (atW t a) 0 = false := by cases hx : Nat.beq (atW t a) 0 with
      | false => rfl
      | true => exact absurd ((beq_iff _ _).1 hx) h0
    by_cases hi : i < 0
    · simp [A171, h1, h0, h2, hi, hbeq]
    · by_cases hi2 : i < m.word (atW t a) / 4
      · obtain ⟨j, rfl⟩ : ∃ j : Nat, i = (j : Int) := ⟨i.toNat, by omega⟩
        have hjj := hj h0 (by omega) hi2
        simp [A171, h1, h0, h2, hi, hi2, hbeq, addK_pp]
        rw [chkP_ok (by omega)]
        simp [addK_pp]
        rw [chkP_ok (by simp at hjj; omega)]
        simp
      · have hi3 : m.word (atW t a) / 4 ≤ i := by omega
        simp [A171, h1, h0, h2, hi, hi2, hbeq]
theorem field_thf (n : Nat) (h : atW t a ≠ 0 → atW t a + 3 ≤ m.endd) (hj : atW t a ≠ 0 → 0 ≤ i → i < m.fields (atW t a) → atW t a + 3 + i.toNat < m.endd) : callK THF (n + 5) q171 (.ptr .h 0 :: vI a :: vI i :: r) (vm m sz l cc) k =
    k (if atW t a = 0 then .tup [.p 0, .p 1] else if i < 0 then .tup [.p 0, .p 5] else if i < m.fields (atW t a) then .tup [.p (atW t a + 3 + i.toNat), .p 0] else .tup [.p 0, .p 5]) (vm m sz l cc) := field_ev hw ht a i r k n h hj
/-- what a look-up of a field comes to -/
inductive FieldIs (m : Mem) (x : Nat) (i : Int) : Option (Nat × Nat) → Prop
  | none : x = 0 → FieldIs m x i (some (0, 1))
  | neg : x ≠ 0 → x + 3 ≤ m.endd → i < 0 → FieldIs m x i (some (0, 5))
  | big : x ≠ 0 → x + 3 ≤ m.endd → ¬ i < 0 → ¬ i < m.fields x → FieldIs m x i (some (0, 5))
  | ok : x ≠ 0 → x + 3 ≤ m.endd → ¬ i < 0 → i < m.fields x → x + 3 + i.toNat < m.endd → FieldIs m x i (some (x + 3 + i.toNat, 0))
omit hw ht in
theorem field_cases (x : Nat) (i : Int) : (∀ k err, m.field x i k err = fl) ∨ ∃ p q, FieldIs m x i (some (p, q)) ∧ ∀ k err, m.field x i k err = if q = 0 then k p else err q := by
  by_cases h0 : x = 0
  · exact .inr ⟨0, 1, .none h0, fun k err => by rw [field_form, if_pos h0]; rfl⟩
  · by_cases h1 : x + 3 ≤ m.endd
    · by_cases h2 : i < 0
      · exact .inr ⟨0, 5, .neg h0 h1 h2, fun k err => by rw [field_form, if_neg h0, if_pos h1, if_pos h2]; rfl⟩
      · by_cases h3 : i < m.fields x
        · by_cases h4 : x + 3 + i.toNat < m.endd
          · exact .inr ⟨x + 3 + i.toNat, 0, .ok h0 h1 h2 h3 h4, fun k err => by rw [field_form, if_neg h0, if_pos h1, if_neg h2, if_pos h3, if_pos h4]; rfl⟩
          · exact .inl fun k err => by rw [field_form, if_neg h0, if_pos h1, if_neg h2, if_pos h3, if_neg h4]
        · exact .inr ⟨0, 5, .big h0 h1 h2 h3, fun k err => by rw [field_form, if_neg h0, if_pos h1, if_neg h2, if_neg h3]; rfl⟩
    · exact .inl fun k err => by rw [field_form, if_neg h0, if_neg h1]
theorem field_is (n : Nat) {p q : Nat} (h : FieldIs m (atW t a) i (some (p, q))) : callK THF (n + 5) q171 (.ptr .h 0 :: vI a :: vI i :: r) (vm m sz l cc) k = k (.tup [.p p, .p q]) (vm m sz l cc) := by
  cases h with
  | none h0 => rw [field_thf hw ht a i r k n (fun e => absurd h0 e) (fun e => absurd h0 e), if_pos h0]
  | neg h0 h1 h2 => rw [field_thf hw ht a i r k n (fun _ => h1) (fun _ e => by omega), if_neg h0, if_pos h2]
  | big h0 h1 h2 h3 => rw [field_thf hw ht a i r k n (fun _ => h1) (fun _ _ e => absurd e h3), if_neg h0, if_neg h2, if_neg h3]
  | ok h0 h1 h2 h3 h4 => rw [field_thf hw ht a i r k n (fun _ => h1) (fun _ _ _ => h4), if_neg h0, if_neg h2, if_pos h3]
theorem get_ev (n : Nat) {p q : Nat} (h : FieldIs m (atW t a) i (some (p, q))) : callF (.fn A96) (callK THF (n + 5)) (.ptr .h 0 :: vI a :: vI i :: r) (vm m sz l cc) k = k (if q = 0 then .tup [vI (m.word p), .p 0] else .tup [.p 0, .p q]) (vm m sz l cc) := by
  have h1 := fun k => field_is (cc := cc) hw ht a i [] k n h
  have he := hw.end2
  have hq : q = 0 → p < m.endd := fun e => by cases h <;> first | (cases e; done) | assumption
  have hbeq : Nat.beq q 0 = decide (q = 0) := beq_dec q 0
  by_cases hz : q = 0
  · subst hz
    simp [A96, h1]
    rw [iadK_slc _ (by have := hq rfl; omega)]
    simp
    rw [rd_word hw (hq rfl)]
    simp
  · simp [A96, h1, hz, hbeq]
end
theorem sp96 : SpOk Tryz.prog 96 sp_get := by
  refine .of_mem T96 Tryz.func96 Tryz.call96 (THF_snd 9) fun ls s => ?_
  rcases m2_cases ls s with hm | ⟨id, m, t, r, rfl, hm, ht, he⟩
  · exact .inl fun k => hm _
  · rcases r with _ | ⟨v, _ | ⟨u, r⟩⟩
    · exact .inl fun k => he _
    · rcases asInt_cases v with ⟨n, rfl⟩ | hv
      · refine .inl fun k => (he _).trans ?_
        show asInt (vI n) _ = _
        rw [asInt_vI]; rfl
      · exact .inl fun k => (he _).trans (hv _)
    · rcases asInt_cases v with ⟨n, rfl⟩ | hv
      · rcases asInt_cases u with ⟨i, rfl⟩ | hu
        · have e : ∀ k, sp_get (.ptr id 0 :: vI n :: vI i :: r) s k = m.field (atW t n) i (fun a => k (.tup [vI (m.word a), .p 0]) s) (fun e => k (.tup [.p 0, .p e]) s) := fun k => by
            refine (he _).trans ?_
            show asInt (vI n) (fun o => asInt (vI i) _) = _
            rw [asInt_vI, asInt_vI]
          rcases field_cases (m := m) (atW t n) i with hf | ⟨p, q, hf, hk⟩
          · exact .inl fun k => by rw [e, hf]
          · refine .inr ⟨id, m, t, _, rfl, hm, ht, if q = 0 then .tup [vI (m.word p), .p 0] else .tup [.p 0, .p q], s, m, t, .look hm ht (fun k => ?_) ?_ fun sz l cc hw hset k => ?_⟩
            · rw [e, hk]; split <;> rfl
            · split
              · intro v hv; simp at hv; rcases hv with rfl | rfl
                · cases m.word p <;> trivial
                · trivial
              · intro v hv; simp at hv; rcases hv with rfl | rfl <;> trivial
            · rw [List.map_cons, List.map_cons, keepI_vI, keepI_vI]; exact get_ev hw hset n i _ k 4 hf
        · refine .inl fun k => (he _).trans ?_
          show asInt (vI n) (fun o => asInt u _) = _
          rw [asInt_vI, hu]
      · exact .inl fun k => (he _).trans (hv _)
end Viv

/-
  THE CONTRACTS OF PACKAGE heap: Put, SetClass, Room, Size.
-/
set_option maxRecDepth 100000
namespace Viv
open Go (Value World IntKind Addr Program Act Exit Oper Operand Ending undef)
open Go.Proofs

/-! ### a word written -/
@[simp] theorem cellsK_vI (n : Int) (f : L → RC) : cellsK (vI n) f = f [vI n] := by cases n <;> rfl
theorem setMany_one (v : V) (d i : Nat) (t : NT V) : setMany d [v] i t = nset v d t i := rfl
section
variable (T : NT V) (e kk sz : Nat) (l : List Ent) (cc : Nat)
theorem sto_vw {a : Nat} (h : a < sz) (v : Int) (k : K) : stK (.ptr (.o .h) a) 1 (vI v) (vw T e kk sz l cc) k = k (.tup []) (vw (nset (vI v) 17 T a) e kk sz l cc) := by
  have h1 : stK (.ptr (.o .h) a) 1 (vI v) (vw T e kk sz l cc) k = cellsK (vI v) (fun l' => Bool.rec fl (wrObj ((vw T e kk sz l cc).get (.o .h)) a l' (fun o => k (.tup []) ((vw T e kk sz l cc).set (.o .h) o))) (Nat.beq (len l') 1)) := rfl
  rw [h1, cellsK_vI, vw_o]
  show (Bool.rec fl (k (.tup []) ((vw T e kk sz l cc).set (.o .h) (.vec 17 (nset (vI v) 17 T a) sz (.p 0)))) (Nat.ble (a + 1) sz) : RC) = _
  rw [bleRec, if_pos (show a + 1 ≤ sz from h)]
  rfl
theorem nset_map {α γ : Type} (f : α → γ) (v : α) : ∀ (k : Nat) (t : NT α) (i : Nat), nset (f v) k (ntmap f t) i = ntmap f (nset v k t i)
  | 0, t, i => rfl
  | k + 1, t, i => by
    rw [nset_succ, nset_succ]
    have hl : nL (ntmap f t) = ntmap f (nL t) := by cases t <;> rfl
    have hr : nR (ntmap f t) = ntmap f (nR t) := by cases t <;> rfl
    rw [hl, hr, nset_map f v k, nset_map f v k]
    split <;> rfl
end
theorem word_set (m : Mem) {a : Nat} (ha : a < 131072) (w : Int) {i : Nat} (hi : i < 131072) : (m.set a w).word i = if i = a then w else m.word i := nget_nset 0 17 w m.words a i ha hi
theorem wf_set {m : Mem} {sz a : Nat} {w : Int} (h : MemWf m sz) (ha : a < m.endd) (hr : -9223372036854775808 ≤ w ∧ w < 9223372036854775808) : MemWf (m.set a w) sz := by
  have h1 := h.end2; have h2 := h.hi
  refine ⟨h.lo, h.hi, h.size, h.end1, h.end2, h.made, fun i hi hlt => ?_, fun i hi => ?_⟩
  · have hi' : m.endd ≤ i := hi
    rw [word_set m (by omega) w hlt, if_neg (by omega)]; exact h.rest i hi hlt
  · rw [word_set m (by omega) w hi]; split
    · exact hr
    · exact h.range i hi
/-- a special that writes one word -/
theorem MemStep.write {A : AFunc} {c : CF} {x : L → St → K → RC} {id : Pth} {m : Mem} {t : NT Bool} {r : L} {s : St} {v : V} {a : Nat} {w : Int} (hm : s.get id = .mem m) (ht : s.get m.pl = .set t) (ha : a < m.endd) (hin : vI w ∈ r)
    (eq : ∀ k, x (.ptr id 0 :: r) s k = k v (s.set id (.mem (m.set a w)))) (hs : Scal v)
    (h : ∀ sz l cc, MemWf m sz → SetRel t l → ∀ k, callF (.fn A) c (.ptr .h 0 :: r.map keepI) (vm m sz l cc) k = k v (vw (nset (vI w) 17 (ntmap vI m.words) a) m.endd m.made sz l cc)) : MemStep A c x id m t r s v (s.set id (.mem (m.set a w))) (m.set a w) t := by
  have hne : m.pl ≠ id := fun e => by rw [e, hm] at ht; cases ht
  refine ⟨eq, hs, rfl, St.get_set_same _ _ _, by rw [St.get_set_ne _ _ hne]; exact ht, fun i hi _ => St.get_set_ne _ _ hi, rfl, fun sz l cc hw hset _ hr => ⟨wf_set hw ha (hr w hin), _, _, _, _, h sz l cc hw hset, rfl, rfl, rfl, fun i hi => ?_, hset⟩⟩
  rw [nset_map]; exact nget_map vI 0 17 _ i

/-! ### Put -/
section
variable {m : Mem} {sz : Nat} {l : List Ent} {cc : Nat} {t : NT Bool} (hw : MemWf m sz) (ht : SetRel t l) (a i w : Int) (r : L) (k : K)
include hw ht
theorem format_thf (n : Nat) (h : atW t a + 3 ≤ m.endd) : callK THF (n + 4) q98 (.ptr .h 0 :: vI a :: r) (vm m sz l cc) k = k (vI (m.word (atW t a) % 4)) (vm m sz l cc) := format_ev hw ht a r k n h
omit hw in
theorem may_thf (n : Nat) : callK THF (n + 3) q31 (.ptr .h 0 :: vI a :: r) (vm m sz l cc) k = k (B (mayW t a)) (vm m sz l cc) := may_ev ht a r k n
/-- whether a word may be put -/
noncomputable def mayPut (m : Mem) (t : NT Bool) (x : Nat) (w : Int) : Bool := if m.word x % 4 = 0 then mayW t w else if m.word x % 4 = 2 then decide (0 ≤ w) && decide (w ≤ 255) else true
theorem put_bad (n : Nat) {p q : Nat} (h : FieldIs m (atW t a) i (some (p, q))) (hq : q ≠ 0) : callF (.fn A87) (callK THF (n + 5)) (.ptr .h 0 :: vI a :: vI i :: vI w :: r) (vm m sz l cc) k = k (.p q) (vm m sz l cc) := by
  have h1 := fun k => field_is (cc := cc) hw ht a i [] k n h
  have hbeq : Nat.beq q 0 = false := by rw [beq_dec]; simp [hq]
  simp [A87, h1, hbeq]
theorem put_ok (n : Nat) {p : Nat} (h : FieldIs m (atW t a) i (some (p, 0))) : callF (.fn A87) (callK THF (n + 5)) (.ptr .h 0 :: vI a :: vI i :: vI w :: r) (vm m sz l cc) k =
    if mayPut m t (atW t a) w = true then k (.p 0) (vw (nset (vI w) 17 (ntmap vI m.words) p) m.endd m.made sz l cc) else k (.p 6) (vm m sz l cc) := by
  have h1 := fun k => field_is (cc := cc) hw ht a i [] k n h
  have he := hw.end2
  have hp : p < m.endd ∧ atW t a + 3 ≤ m.endd := by cases h; exact ⟨by assumption, by assumption⟩
  have h2 := fun k => format_thf (cc := cc) hw ht a [] k (n + 1) hp.2
  have h3 := fun k => may_thf (m := m) (sz := sz) (cc := cc) ht w [] k (n + 2)
  have hst := fun k => sto_vw (ntmap vI m.words) m.endd m.made sz l cc (a := p) (by omega) w k
  have hix := fun kv => iadK_slc (id := .o .h) (a := 0) (b := sz) (d := sz) (f := 1) (j := p) (sz := 1) (x := true) kv (by omega)
  unfold mayPut
  by_cases hf0 : m.word (atW t a) % 4 = 0
  · simp [A87, h1, h2, h3, hf0]
    cases hm : mayW t w
    · simp
    · simp [hix, hst]
  · by_cases hf2 : m.word (atW t a) % 4 = 2
    · by_cases hw0 : 0 ≤ w
      · by_cases hw1 : w ≤ 255
        · have e1 : ¬ w < 0 := by omega
          have e2 : ¬ 255 < w := by omega
          simp [A87, h1, h2, hf2, e1, e2, hw0, hw1, hix, hst]
        · have e1 : ¬ w < 0 := by omega
          have e2 : 255 < w := by omega
          simp [A87, h1, h2, hf2, e1, e2, hw1]
      · have e1 : w < 0 := by omega
        simp [A87, h1, h2, hf2, e1, hw0]
    · simp [A87, h1, h2, hf0, hf2, hix, hst]
end
theorem sp87 : SpOk Tryz.prog 87 sp_put := by
  refine .of_mem T87 Tryz.func87 Tryz.call87 (THF_snd 9) fun ls s => ?_
  rcases m2_cases ls s with hm | ⟨id, m, t, r, rfl, hm, ht, he⟩
  · exact .inl fun k => hm _
  · rcases r with _ | ⟨v, r⟩
    · exact .inl fun k => he _
    · rcases asInt_cases v with ⟨n, rfl⟩ | hv
      · rcases r with _ | ⟨u, r⟩
        · refine .inl fun k => (he _).trans ?_
          show asInt (vI n) _ = _
          rw [asInt_vI]; rfl
        · rcases asInt_cases u with ⟨i, rfl⟩ | hu
          · rcases r with _ | ⟨x, r⟩
            · refine .inl fun k => (he _).trans ?_
              show asInt (vI n) (fun o => asInt (vI i) _) = _
              rw [asInt_vI, asInt_vI]; rfl
            · rcases asInt_cases x with ⟨w, rfl⟩ | hx
              · have e : ∀ k, sp_put (.ptr id 0 :: vI n :: vI i :: vI w :: r) s k = m.field (atW t n) i (fun a => if mayPut m t (atW t n) w = true then k (.p 0) (s.set id (.mem (m.set a w))) else k (.p 6) s) (fun e => k (.p e) s) := fun k => by
                  refine (he _).trans ?_
                  show asInt (vI n) (fun o => asInt (vI i) (fun i => asInt (vI w) _)) = _
                  rw [asInt_vI, asInt_vI, asInt_vI]
                  show m.field (atW t n) i (fun a => (Bool.rec (Bool.rec (k (.p 0) (s.set id (.mem (m.set a w)))) (Bool.rec (Bool.rec (k (.p 0) (s.set id (.mem (m.set a w)))) (k (.p 6) s) (iLt 255 w)) (k (.p 6) s) (iLt w 0)) (iEq (m.word (atW t n) % 4) 2)) (Bool.rec (k (.p 6) s) (k (.p 0) (s.set id (.mem (m.set a w)))) (mayW t w)) (iEq (m.word (atW t n) % 4) 0) : RC)) _ = _
                  congr 1
                  funext a
                  simp only [bcase, iEq_eq, iLt_eq, decide_eq_true_eq, mayPut]
                  by_cases h0 : m.word (atW t n) % 4 = 0
                  · simp [h0]
                  · by_cases h2 : m.word (atW t n) % 4 = 2
                    · by_cases h3 : w < 0
                      · have : ¬ 0 ≤ w := by omega
                        simp [h2, h3, this]
                      · have h3' : 0 ≤ w := by omega
                        by_cases h4 : 255 < w
                        · have : ¬ w ≤ 255 := by omega
                          simp [h2, h3, h3', h4, this]
                        · have : w ≤ 255 := by omega
                          simp [h2, h3, h3', h4, this]
                    · simp [h0, h2]
                rcases field_cases (m := m) (atW t n) i with hf | ⟨p, q, hf, hk⟩
                · exact .inl fun k => by rw [e, hf]
                · by_cases hq : q = 0
                  · subst hq
                    have hp : p < m.endd := by cases hf; assumption
                    by_cases hmay : mayPut m t (atW t n) w = true
                    · refine .inr ⟨id, m, t, _, rfl, hm, ht, .p 0, _, _, t, .write (w := w) hm ht hp (by simp) (fun k => by rw [e, hk, if_pos rfl, if_pos hmay]) trivial fun sz l cc hw hset k => ?_⟩
                      rw [List.map_cons, List.map_cons, List.map_cons, keepI_vI, keepI_vI, keepI_vI, put_ok hw hset n i w _ k 4 hf, if_pos hmay]
                    · refine .inr ⟨id, m, t, _, rfl, hm, ht, .p 6, s, m, t, .look hm ht (fun k => by rw [e, hk, if_pos rfl, if_neg hmay]) trivial fun sz l cc hw hset k => ?_⟩
                      rw [List.map_cons, List.map_cons, List.map_cons, keepI_vI, keepI_vI, keepI_vI, put_ok hw hset n i w _ k 4 hf, if_neg hmay]
                  · refine .inr ⟨id, m, t, _, rfl, hm, ht, .p q, s, m, t, .look hm ht (fun k => by rw [e, hk, if_neg hq]) trivial fun sz l cc hw hset k => ?_⟩
                    rw [List.map_cons, List.map_cons, List.map_cons, keepI_vI, keepI_vI, keepI_vI, put_bad hw hset n i w _ k 4 hf hq]
              · refine .inl fun k => (he _).trans ?_
                show asInt (vI n) (fun o => asInt (vI i) (fun i => asInt x _)) = _
                rw [asInt_vI, asInt_vI, hx]
          · refine .inl fun k => (he _).trans ?_
            show asInt (vI n) (fun o => asInt u _) = _
            rw [asInt_vI, hu]
      · exact .inl fun k => (he _).trans (hv _)

/-! ### SetClass -/
section
variable {m : Mem} {sz : Nat} {l : List Ent} {cc : Nat} {t : NT Bool} (hw : MemWf m sz) (ht : SetRel t l) (a w : Int) (r : L) (k : K)
include hw ht
omit hw in
theorem cls_thf (n : Nat) : callK THF (n + 3) q115 (.ptr .h 0 :: vI a :: r) (vm m sz l cc) k = k (B (clsW t a)) (vm m sz l cc) := cls_ev ht a r k n
theorem setClass_ev (n : Nat) (h : atW t a ≠ 0 → clsW t w = true → atW t a + 3 ≤ m.endd) : callF (.fn A84) (callK THF (n + 5)) (.ptr .h 0 :: vI a :: vI w :: r) (vm m sz l cc) k =
    if atW t a = 0 then k (.p 1) (vm m sz l cc) else if clsW t w = true then k (.p 0) (vw (nset (vI w) 17 (ntmap vI m.words) (atW t a + 1)) m.endd m.made sz l cc) else k (.p 1) (vm m sz l cc) := by
  have h1 := fun k => at_thf (m := m) (sz := sz) (cc := cc) ht a [] k (n + 2)
  have h2 := fun k => cls_thf (m := m) (sz := sz) (cc := cc) ht w [] k (n + 2)
  have hb := atW_lt t a
  have he := hw.end2
  by_cases h0 : atW t a = 0
  · simp [A84, h1, h0]
  · have hbeq : Nat.beq (atW t a) 0 = false := by rw [beq_dec]; simp [h0]
    cases hc : clsW t w with
    | false => simp [A84, h1, h2, h0, hc, hbeq]
    | true =>
      have hh := h h0 hc
      have hst := fun k => sto_vw (ntmap vI m.words) m.endd m.made sz l cc (a := atW t a + 1) (by omega) w k
      have hix := fun kv => iadK_slc (id := .o .h) (a := 0) (b := sz) (d := sz) (f := 1) (j := atW t a + 1) (sz := 1) (x := true) kv (by omega)
      have hch : ∀ kv, chkP (atW t a + 1) kv = kv (.p (atW t a + 1)) := fun kv => chkP_ok (by omega) kv
      simp [A84, h1, h2, h0, hc, hbeq, addK_pp, hch, hix, hst]
end
theorem sp84 : SpOk Tryz.prog 84 sp_setClass := by
  refine .of_mem T84 Tryz.func84 Tryz.call84 (THF_snd 9) fun ls s => ?_
  rcases m2_cases ls s with hm | ⟨id, m, t, r, rfl, hm, ht, he⟩
  · exact .inl fun k => hm _
  · rcases r with _ | ⟨v, r⟩
    · exact .inl fun k => he _
    · rcases asInt_cases v with ⟨n, rfl⟩ | hv
      · rcases r with _ | ⟨u, r⟩
        · refine .inl fun k => (he _).trans ?_
          show asInt (vI n) _ = _
          rw [asInt_vI]; rfl
        · rcases asInt_cases u with ⟨w, rfl⟩ | hu
          · have e : ∀ k, sp_setClass (.ptr id 0 :: vI n :: vI w :: r) s k = if atW t n = 0 then k (.p 1) s else if clsW t w = true then (if atW t n + 3 ≤ m.endd then k (.p 0) (s.set id (.mem (m.set (atW t n + 1) w))) else fl) else k (.p 1) s := fun k => by
              refine (he _).trans ?_
              show asInt (vI n) (fun o => asInt (vI w) _) = _
              rw [asInt_vI, asInt_vI]
              show (Bool.rec (Bool.rec (k (.p 1) s) (Bool.rec fl (k (.p 0) (s.set id (.mem (m.set (atW t n + 1) w)))) (Nat.ble (atW t n + 3) m.endd)) (clsW t w)) (k (.p 1) s) (Nat.beq (atW t n) 0) : RC) = _
              rw [beqRec, bcase, bleRec]
            by_cases h0 : atW t n = 0
            · refine .inr ⟨id, m, t, _, rfl, hm, ht, .p 1, s, m, t, .look hm ht (fun k => by rw [e, if_pos h0]) trivial fun sz l cc hw hset k => ?_⟩
              rw [List.map_cons, List.map_cons, keepI_vI, keepI_vI, setClass_ev hw hset n w _ k 4 (fun x => absurd h0 x), if_pos h0]
            · by_cases hc : clsW t w = true
              · by_cases h3 : atW t n + 3 ≤ m.endd
                · refine .inr ⟨id, m, t, _, rfl, hm, ht, .p 0, _, _, t, .write (w := w) (a := atW t n + 1) hm ht (by omega) (by simp) (fun k => by rw [e, if_neg h0, if_pos hc, if_pos h3]) trivial fun sz l cc hw hset k => ?_⟩
                  rw [List.map_cons, List.map_cons, keepI_vI, keepI_vI, setClass_ev hw hset n w _ k 4 (fun _ _ => h3), if_neg h0, if_pos hc]
                · exact .inl fun k => by rw [e, if_neg h0, if_pos hc, if_neg h3]
              · refine .inr ⟨id, m, t, _, rfl, hm, ht, .p 1, s, m, t, .look hm ht (fun k => by rw [e, if_neg h0, if_neg hc]) trivial fun sz l cc hw hset k => ?_⟩
                rw [List.map_cons, List.map_cons, keepI_vI, keepI_vI, setClass_ev hw hset n w _ k 4 (fun _ x => absurd x hc), if_neg h0, if_neg hc]
          · refine .inl fun k => (he _).trans ?_
            show asInt (vI n) (fun o => asInt u _) = _
            rw [asInt_vI, hu]
      · exact .inl fun k => (he _).trans (hv _)

/-! ### Size, Room -/
theorem After.weak {β : Beta} {s s' : St} {w w' : World} {v v0 : V} {x : Value} (h : ∀ β x, VRel β v0 x → VRel β v x) (ha : After β s w v0 s' x w') : After β s w v s' x w' := by
  obtain ⟨β', a, b, c⟩ := ha
  exact ⟨β', h _ _ a, b, c⟩
/-- a special on a memory's size -/
theorem SpOk.of_size {i : Nat} {fn : Go.Func} {np : Nat} {sl : List Nat} {pls : List PlanD} {A : AFunc} {c : CF} {_f : Mem → Nat → RC} {x : L → St → K → RC} (T : trFunc Tryz.prog fn np sl pls = some A) (hf : Tryz.prog.funcs[i]? = some fn)
    (hc : ∀ args w, (Go.callFunc i args).run Tryz.prog w = .ok (.enter i args) w) (hs : CFSound Tryz.prog c) {g : Mem → KV → RC} (hx : ∀ ls s k, x ls s k = m2 ls s (fun _ m _ => g m (fun v => k v s)))
    (h : ∀ m, (∀ kv, g m kv = fl) ∨ ∃ v, (∀ kv, g m kv = kv v) ∧ ∀ sz, MemWf m sz → ∃ n : Nat, (∀ (β : Beta) y, VRel β (.p n) y → VRel β v y) ∧ ∀ l cc r k, callF (.fn A) c (.ptr .h 0 :: r) (vm m sz l cc) k = k (.p n) (vm m sz l cc)) : SpOk Tryz.prog i x := by
  intro β s w ls args hsim hr
  rcases m2_cases ls s with hm | ⟨id, m, t, r, rfl, hm, ht, he⟩
  · exact .fail fun k => (hx _ _ _).trans (hm _)
  · rcases h m with hf' | ⟨v, hk, hrun⟩
    · exact .fail fun k => ((hx _ _ _).trans (he _)).trans (hf' _)
    · cases hr with
      | cons _ a0 _ xs hx0 hxs =>
        obtain ⟨y, hid, rfl⟩ := mem_arg hsim hm hx0
        obtain ⟨y2, bp, sz, l, cc, hloc, hv⟩ := view hsim hid hm ht
        cases hloc
        obtain ⟨n, hweak, hev⟩ := hrun sz hv.wf
        have hrel : VRels (vb y bp) (.ptr .h 0 :: r.map keepI) (.pointer (some ⟨y.b, y.o, none⟩) :: xs) := .cons _ _ _ _ (.ptr .h 0 y.b y.o y.sb rfl) (keep_rels hxs)
        rcases func_out hs mixed T hf hc hv.sim hrel with ⟨why, hbad⟩ | ⟨v2, s2, hk2, hg⟩
        · exact (not_fail (hev l cc _) hbad).elim
        · obtain ⟨rfl, rfl⟩ := uniq (hev l cc _) hk2
          refine .inr ⟨v, s, fun k => ((hx _ _ _).trans (he _)).trans (hk _), ?_⟩
          exact (unview hsim hid hm ht hv hg trivial rfl rfl rfl (fun i _ => vec_map m i) hv.wf rfl hv.set rfl hm ht (fun _ _ _ => rfl)).mono fun y w' ha => ha.weak hweak
theorem size_of_wf {m : Mem} {sz : Nat} (h : MemWf m sz) : (∀ (β : Beta) y, VRel β (.p sz) y → VRel β m.size y) := by
  intro β y hy
  have hsz := h.size
  have hy' : y = .int .i64 sz := by cases hy; rfl
  subst hy'
  generalize m.size = v at hsz
  cases hsz with
  | bad => exact .bad _
  | p n hn => exact .p _ hn
  | sym lo n a b => exact .sym lo _ a b
theorem sp51 : SpOk Tryz.prog 51 sp_size := by
  refine .of_size (_f := fun _ _ => fl) T51 Tryz.func51 Tryz.call51 (THF_snd 9) (g := fun m kv => kv m.size) (fun ls s k => rfl) fun m => .inr ⟨m.size, fun kv => rfl, fun sz hw => ⟨sz, size_of_wf hw, fun l cc r k => ?_⟩⟩
  simp [A51]
theorem sp60 : SpOk Tryz.prog 60 sp_room := by
  refine .of_size (_f := fun _ _ => fl) T60 Tryz.func60 Tryz.call60 (THF_snd 9) (g := fun m kv => roomV m.size m.endd kv) (fun ls s k => rfl) fun m => ?_
  have run : ∀ sz, MemWf m sz → ∀ l cc r k, callF (.fn A60) (callK THF 9) (.ptr .h 0 :: r) (vm m sz l cc) k = k (.p (sz - m.endd)) (vm m sz l cc) := fun sz hw l cc r k => by
    have he := hw.end2
    simp [A60, subK_pp]
    rw [sb_ge (by omega)]
    simp
  cases hm : m.size <;> first | exact .inl fun kv => rfl | skip
  case p n =>
    by_cases h : m.endd ≤ n
    · refine .inr ⟨.p (n - m.endd), fun kv => ?_, fun sz hw => ⟨sz - m.endd, fun β y hy => ?_, run sz hw⟩⟩
      · show (Bool.rec fl (kv (.p (n - m.endd))) (Nat.ble m.endd n) : RC) = _
        rw [bleRec, if_pos h]
      · have hs := hw.size; rw [hm] at hs; cases hs; exact hy
    · refine .inl fun kv => ?_
      show (Bool.rec fl (kv (.p (n - m.endd))) (Nat.ble m.endd n) : RC) = _
      rw [bleRec, if_neg h]
  case sym lo n =>
    by_cases h : m.endd ≤ lo
    · refine .inr ⟨.sym (lo - m.endd) (n - m.endd), fun kv => ?_, fun sz hw => ⟨sz - m.endd, fun β y hy => ?_, run sz hw⟩⟩
      · show (Bool.rec fl (kv (.sym (lo - m.endd) (n - m.endd))) (Nat.ble m.endd lo) : RC) = _
        rw [bleRec, if_pos h]
      · have hs := hw.size; rw [hm] at hs
        cases hs with
        | sym _ _ h1 h2 =>
          have hy' : y = .int .i64 ((n - m.endd : Nat) : Int) := by cases hy; rfl
          subst hy'
          exact .sym _ _ (by omega) (by omega)
    · refine .inl fun kv => ?_
      show (Bool.rec fl (kv (.sym (lo - m.endd) (n - m.endd))) (Nat.ble m.endd lo) : RC) = _
      rw [bleRec, if_neg h]
end Viv

/-
  THE CONTRACT OF heap.Make.
-/
set_option maxRecDepth 100000
namespace Viv
open Go (Value World IntKind Addr Program Act Exit Oper Operand Ending undef)
open Go.Proofs

section
variable (T : NT V) (e kk sz : Nat) (l : List Ent) (cc : Nat) (k : K)
theorem sto_made (v : Nat) : stK (.ptr .h 2) 1 (.p v) (vw T e kk sz l cc) k = k (.tup []) (vw T e v sz l cc) := rfl
theorem sto_end (v : Nat) : stK (.ptr .h 1) 1 (.p v) (vw T e kk sz l cc) k = k (.tup []) (vw T v kk sz l cc) := rfl
theorem slice_vw {o h : Nat} (h1 : o ≤ h) (h2 : h ≤ sz) (kv : KV) : slL (.slc (.o .h) 0 sz true sz 1) 1 (.p o) (.p h) kv = kv (.slc (.o .h) (if sz = o then 0 else o) (h - o) true (sz - o) 1) := by
  show (Bool.rec fl (Bool.rec fl (kv (.slc (.o .h) (Bool.rec (0 + o * 1) 0 (Nat.beq sz o)) (h - o) true (sz - o) 1)) (Nat.ble h sz)) (Nat.ble o h) : RC) = _
  rw [bleRec, bleRec, if_pos h1, if_pos h2, beqRec]; simp
theorem clr_vw {o n c : Nat} (h : n ≠ 0 → o + n ≤ sz) : clrK (.slc (.o .h) o n true c 1) 1 [.p 0] (vw T e kk sz l cc) k = k (.tup []) (vw (if n = 0 then T else setMany 17 (repL n [.p 0]) o T) e kk sz l cc) := by
  show (Bool.rec (Bool.rec fl (wrObj ((vw T e kk sz l cc).get (.o .h)) o (repL n [.p 0]) (fun x => k (.tup []) ((vw T e kk sz l cc).set (.o .h) x))) true) (k (.tup []) (vw T e kk sz l cc)) (Nat.beq n 0) : RC) = _
  rw [beqRec]
  by_cases hn : n = 0
  · rw [if_pos hn, if_pos hn]
  · rw [if_neg hn, if_neg hn]
    show (Bool.rec fl (k (.tup []) (vw (setMany 17 (repL n [.p 0]) o T) e kk sz l cc)) (Nat.ble (o + len (repL n [.p 0])) sz) : RC) = _
    rw [len_eq, repL_length, bleRec, if_pos (by simpa using h hn)]
theorem mstamp_same (b : Nat) : ∀ {l : List Ent}, (∀ x ∈ l, x.val = .tt) → mstamp b .tt l = l
  | [], _ => rfl
  | p :: l, h => by
    have ih := mstamp_same b (l := l) fun x hx => h x (List.mem_cons_of_mem _ hx)
    have hp := h p (by simp)
    show (Bool.rec (p :: mstamp b .tt l) (⟨p.key, .tt, p.born⟩ :: l) (Nat.beq p.born b) : List Ent) = p :: l
    rw [ih]
    have : (⟨p.key, .tt, p.born⟩ : Ent) = p := by cases p; simp at hp; rw [hp]
    rw [this]
    cases Nat.beq p.born b <;> rfl
theorem mfind_some {d : RC} {f : Ent → RC} {a : Nat} : ∀ {l : List Ent}, (∀ x ∈ l, ∃ a', x.key = .p a') → (mfind keyI d f (.p a) l = d ∧ ∀ x ∈ l, x.key ≠ .p a) ∨ ∃ x ∈ l, x.key = .p a ∧ mfind keyI d f (.p a) l = f x
  | [], _ => .inl ⟨rfl, fun x hx => by cases hx⟩
  | p :: l, h => by
    obtain ⟨a', hk⟩ := h p (by simp)
    rw [mfind_cons, hk, keyI_pp]
    by_cases e : a' = a
    · rw [if_pos e]; exact .inr ⟨p, by simp, by rw [hk, e], rfl⟩
    · rw [if_neg e]
      rcases mfind_some (d := d) (f := f) (a := a) fun x hx => h x (List.mem_cons_of_mem _ hx) with ⟨h1, h2⟩ | ⟨x, hx, hxa, h1⟩
      · exact .inl ⟨h1, fun x hx => by rcases List.mem_cons.1 hx with rfl | hx
                                       · rw [hk]; intro e'; cases e'; exact e rfl
                                       · exact h2 x hx⟩
      · exact .inr ⟨x, List.mem_cons_of_mem _ hx, hxa, h1⟩
theorem set_put {t : NT Bool} {l : List Ent} (ht : SetRel t l) {a : Nat} (ha : a < 131071) (cc : Nat) : ∃ l' cc', (∀ T e kk k, mupdK (.map (.i .h)) keyI (.p a) .tt (vw T e kk sz l cc) k = k (.tup []) (vw T e kk sz l' cc')) ∧ SetRel (nset true 17 t a) l' := by
  have hset : ∀ i, i < 131072 → nget false 17 (nset true 17 t a) i = if i = a then true else nget false 17 t i := fun i hi => nget_nset false 17 true t a i (by omega) hi
  have htop : nget false 17 (nset true 17 t a) 131071 = false := by rw [hset _ (by omega), if_neg (by omega)]; exact ht.top
  have he : ∀ T e kk k, mupdK (.map (.i .h)) keyI (.p a) .tt (vw T e kk sz l cc) k = mfind keyI (k (.tup []) (vw T e kk sz (mpush ⟨.p a, .tt, cc⟩ l) (cc + 1))) (fun p => k (.tup []) (vw T e kk sz (mstamp p.born .tt l) cc)) (.p a) l := fun T e kk k => rfl
  by_cases hx : ∃ x ∈ l, x.key = .p a
  · refine ⟨l, cc, fun T e kk k => ?_, ⟨fun x hx => ?_, fun i hi hti => ?_, htop⟩⟩
    · rw [he]
      have := mfind_set (d := k (.tup []) (vw T e kk sz (mpush ⟨.p a, .tt, cc⟩ l) (cc + 1))) (f := fun p => k (.tup []) (vw T e kk sz (mstamp p.born .tt l) cc)) (y := k (.tup []) (vw T e kk sz l cc)) (a := a) (l := l) fun x hx => by
        obtain ⟨a', _, h1, h2, _⟩ := ht.all x hx
        refine ⟨⟨a', h1⟩, ?_⟩
        rw [mstamp_same _ fun y hy => by obtain ⟨_, _, _, h, _⟩ := ht.all y hy; exact h]
      exact this.1 hx
    · obtain ⟨a', h0, h1, h2, h3⟩ := ht.all x hx
      exact ⟨a', h0, h1, h2, by rw [hset _ h0, h3]; simp⟩
    · rw [hset _ hi] at hti
      by_cases e : i = a
      · subst e; exact hx
      · rw [if_neg e] at hti; exact ht.has i hi hti
  · refine ⟨l ++ [⟨.p a, .tt, cc⟩], cc + 1, fun T e kk k => ?_, ⟨fun x hx => ?_, fun i hi hti => ?_, htop⟩⟩
    · rw [he]
      rcases mfind_some (d := k (.tup []) (vw T e kk sz (mpush ⟨.p a, .tt, cc⟩ l) (cc + 1))) (f := fun p => k (.tup []) (vw T e kk sz (mstamp p.born .tt l) cc)) (a := a) (l := l) fun x hx => by obtain ⟨a', _, h, _⟩ := ht.all x hx; exact ⟨a', h⟩ with ⟨h1, _⟩ | ⟨x, hx', hxa, _⟩
      · rw [h1, mpush_eq]
      · exact absurd ⟨x, hx', hxa⟩ hx
    · rcases List.mem_append.1 hx with hx | hx
      · obtain ⟨a', h0, h1, h2, h3⟩ := ht.all x hx
        exact ⟨a', h0, h1, h2, by rw [hset _ h0, h3]; simp⟩
      · simp at hx; subst hx; exact ⟨a, by omega, rfl, rfl, by rw [hset _ (by omega), if_pos rfl]⟩
    · rw [hset _ hi] at hti
      by_cases e : i = a
      · subst e; exact ⟨⟨.p i, .tt, cc⟩, by simp, rfl⟩
      · rw [if_neg e] at hti
        obtain ⟨x, h1, h2⟩ := ht.has i hi hti
        exact ⟨x, by simp [h1], h2⟩
end
theorem or_small {n f : Nat} (hf : f ≤ 2) : (n <<< 2) ||| f = 4 * n + f := by
  have h : f < 2 ^ 2 := by omega
  rw [Nat.shiftLeft_eq, Nat.mul_comm, ← Nat.two_pow_add_eq_or_of_lt h]
section
variable {m : Mem} {sz : Nat} {l : List Ent} {cc : Nat} {t : NT Bool} (hw : MemWf m sz) (ht : SetRel t l) (c f n : Int) (r : L) (k : K)
include hw ht
omit ht in
theorem room_thf (q : Nat) : callK THF (q + 1) q60 (.ptr .h 0 :: r) (vm m sz l cc) k = k (.p (sz - m.endd)) (vm m sz l cc) := by
  show callF (.fn A60) (callK THF q) (.ptr .h 0 :: r) (vm m sz l cc) k = _
  have he := hw.end2
  simp [A60, subK_pp]
  rw [sb_ge (by omega)]
  simp
omit hw ht in
theorem badMake_eq : badMake t c f n = (!clsW t c || decide (f < 0) || decide (2 < f) || decide (n < 0) || decide (256 < n)) := by
  show (Bool.rec true (Bool.rec (Bool.rec (Bool.rec (iLt 256 n) true (iLt n 0)) true (iLt 2 f)) true (iLt f 0)) (clsW t c) : Bool) = _
  rw [iLt_eq, iLt_eq, iLt_eq, iLt_eq]
  cases clsW t c <;> by_cases h1 : f < 0 <;> by_cases h2 : 2 < f <;> by_cases h3 : n < 0 <;> by_cases h4 : 256 < n <;> simp [h1, h2, h3, h4]
omit hw in
theorem make_bad (q : Nat) (h : badMake t c f n = true) : callF (.fn A53) (callK THF (q + 5)) (.ptr .h 0 :: vI c :: vI f :: vI n :: r) (vm m sz l cc) k = k (.tup [.p 0, .p 1]) (vm m sz l cc) := by
  have h1 := fun k => cls_thf (m := m) (sz := sz) (cc := cc) ht c [] k (q + 2)
  rw [badMake_eq] at h
  cases hc : clsW t c with
  | false => simp [A53, h1, hc]
  | true =>
    by_cases h2 : f < 0
    · simp [A53, h1, hc, h2]
    · by_cases h3 : 2 < f
      · simp [A53, h1, hc, h2, h3]
      · by_cases h4 : n < 0
        · simp [A53, h1, hc, h2, h3, h4]
        · have h5 : 256 < n := by simpa [hc, h2, h3, h4] using h
          simp [A53, h1, hc, h2, h3, h4, h5]
omit hw ht in
theorem sto_vwp (T : NT V) (e kk : Nat) {a : Nat} (h : a < sz) (v : Nat) (k : K) : stK (.ptr (.o .h) a) 1 (.p v) (vw T e kk sz l cc) k = k (.tup []) (vw (nset (.p v) 17 T a) e kk sz l cc) := sto_vw T e kk sz l cc h (v : Int) k
theorem make_full (q : Nat) (h : badMake t c f n = false) (hr : sz < m.endd + (n.toNat + 3) ∨ m.made = 1099511627776) : callF (.fn A53) (callK THF (q + 5)) (.ptr .h 0 :: vI c :: vI f :: vI n :: r) (vm m sz l cc) k = k (.tup [.p 0, .p 4]) (vm m sz l cc) := by
  have h1 := fun k => cls_thf (m := m) (sz := sz) (cc := cc) ht c [] k (q + 2)
  have h2 := fun k => room_thf (m := m) (sz := sz) (l := l) (cc := cc) hw [] k (q + 4)
  rw [badMake_eq] at h
  simp only [Bool.or_eq_false_iff, Bool.not_eq_false', decide_eq_false_iff_not] at h
  obtain ⟨⟨⟨⟨hc, hf0⟩, hf2⟩, hn0⟩, hn2⟩ := h
  obtain ⟨N, rfl⟩ : ∃ N : Nat, n = (N : Int) := ⟨n.toNat, by omega⟩
  have he := hw.end2; have hh := hw.hi
  have hn2' : ¬ 256 < N := by omega
  have hch : ∀ kv, chkP (N + 3) kv = kv (.p (N + 3)) := fun kv => chkP_ok (by omega) kv
  have b1 : Nat.blt 256 N = false := by cases hx : Nat.blt 256 N with
    | false => rfl
    | true => exact absurd ((blt_iff _ _).1 hx) hn2'
  have b0 : Nat.blt N 0 = false := by cases hx : Nat.blt N 0 with
    | false => rfl
    | true => exact absurd ((blt_iff _ _).1 hx) (Nat.not_lt_zero _)
  by_cases hs : sz - m.endd < N + 3
  · have b2 : Nat.blt (sz - m.endd) (N + 3) = true := (blt_iff _ _).2 hs
    simp [A53, h1, h2, hc, hf0, hf2, b0, b1, b2, addK_pp, hch]
  · have b2 : Nat.blt (sz - m.endd) (N + 3) = false := by cases hx : Nat.blt (sz - m.endd) (N + 3) with
      | false => rfl
      | true => exact absurd ((blt_iff _ _).1 hx) hs
    have hm : m.made = 1099511627776 := by
      rcases hr with hr | hr
      · simp at hr; omega
      · exact hr
    have b6 : Nat.blt 1099511627776 1099511627776 = false := by decide
    simp [A53, h1, h2, hc, hf0, hf2, b0, b1, b2, addK_pp, hch, hm, b6]
/-- the words behind Make -/
noncomputable def madeT (T : NT V) (a k N F : Nat) (c : Int) : NT V :=
  (fun T3 => if N = 0 then T3 else setMany 17 (repL N [.p 0]) (a + 3) T3) (nset (.p (k + 1)) 17 (nset (vI c) 17 (nset (.p (4 * N + F)) 17 T a) (a + 1)) (a + 2))
theorem make_ok (q : Nat) {N F : Nat} (hc : clsW t c = true) (hF : F ≤ 2) (hN : N ≤ 256) (hr : m.endd + (N + 3) ≤ sz) (hm : m.made < 1099511627776) {l' : List Ent} {cc' : Nat}
    (hput : ∀ T e kk k, mupdK (.map (.i .h)) keyI (.p m.endd) .tt (vw T e kk sz l cc) k = k (.tup []) (vw T e kk sz l' cc')) :
    callF (.fn A53) (callK THF (q + 5)) (.ptr .h 0 :: vI c :: .p F :: .p N :: r) (vm m sz l cc) k = k (.tup [.p (2 * m.endd), .p 0]) (vw (madeT (ntmap vI m.words) m.endd m.made N F c) (m.endd + (N + 3)) (m.made + 1) sz l' cc') := by
  have h1 := fun k => cls_thf (m := m) (sz := sz) (cc := cc) ht c [] k (q + 2)
  have h2 := fun k => room_thf (m := m) (sz := sz) (l := l) (cc := cc) hw [] k (q + 4)
  have he := hw.end2; have hh := hw.hi; have hlo := hw.end1
  have bl : ∀ x y : Nat, ¬ x < y → Nat.blt x y = false := fun x y h => by
    cases hx : Nat.blt x y with
    | false => rfl
    | true => exact absurd ((blt_iff _ _).1 hx) h
  have b1 := bl 256 N (by omega)
  have b0 := bl N 0 (by omega)
  have b3 := bl F 0 (by omega)
  have b4 := bl 2 F (by omega)
  have b2 := bl (sz - m.endd) (N + 3) (by omega)
  have b5 : Nat.blt m.made 1099511627776 = true := (blt_iff _ _).2 hm
  have hptr : ∀ (s : St) (k : K), callK THF (q + 5) q116 [.p m.endd] s k = k (.tup [.p (2 * m.endd), .tt]) s := fun s k => by
    have h0 : callK THF (q + 5) q116 [vI (m.endd : Int)] s k = asInt (vI (m.endd : Int)) (fun n => k (Bool.rec (Bool.rec (.tup [vI (2 * n), .tt]) (.tup [.p 0, .ff]) (iLt 131072 n)) (.tup [.p 0, .ff]) (iLt n 3)) s) := rfl
    have e1 : ¬ ((m.endd : Int) < 3) := by omega
    have e2 : ¬ (131072 < (m.endd : Int)) := by omega
    rw [asInt_vI, iLt_eq, iLt_eq, decide_eq_false e1, decide_eq_false e2, show 2 * (m.endd : Int) = ((2 * m.endd : Nat) : Int) by simp, vI_cast, vI_cast] at h0
    exact h0
  simp (maxSteps := 2000000) (disch := omega) [A53, h1, h2, hc, b0, b1, b2, b3, b4, b5, addK_pp, chkP_ok, sto_made, shlK_pk, Nat.shiftLeft_eq, iadK_slc, sto_vw, sto_vwp]
  rw [slice_vw _ (by omega) (by omega)]
  have hN' : m.endd + 3 + N - (m.endd + 3) = N := by omega
  rw [hN', clr_vw _ _ _ _ _ _ _ (fun hn => by split <;> omega)]
  have hor : N * 4 ||| F = 4 * N + F := by
    have := or_small (n := N) hF
    rwa [Nat.shiftLeft_eq] at this
  have hT : (if N = 0 then nset (.p (m.made + 1)) 17 (nset (vI c) 17 (nset (.p (N * 4 ||| F)) 17 (ntmap vI m.words) m.endd) (m.endd + 1)) (m.endd + 2) else
      setMany 17 (repL N [.p 0]) (if sz = m.endd + 3 then 0 else m.endd + 3) (nset (.p (m.made + 1)) 17 (nset (vI c) 17 (nset (.p (N * 4 ||| F)) 17 (ntmap vI m.words) m.endd) (m.endd + 1)) (m.endd + 2))) = madeT (ntmap vI m.words) m.endd m.made N F c := by
    unfold madeT
    simp only [hor]
    by_cases hn : N = 0
    · rw [if_pos hn, if_pos hn]
    · rw [if_neg hn, if_neg hn, if_neg (by omega)]
  rw [hT]
  simp (disch := omega) [addK_pp, chkP_ok, sto_end, hput, hptr]
end
end Viv

/-
  heap.Make and heap.New: the contracts.
-/
set_option maxRecDepth 100000
namespace Viv
open Go (Value World IntKind Addr Program Act Exit Oper Operand Ending undef)
open Go.Proofs

theorem roomLt_cases (v : V) (x : Nat) : (∀ a b, roomLt v x a b = fl) ∨ (∀ a b, roomLt v x a b = a) ∧ (∀ sz, VRel (fun _ => none) v (.int .i64 (sz : Nat)) → sz < x) ∨ (∀ a b, roomLt v x a b = b) ∧ (∀ sz, VRel (fun _ => none) v (.int .i64 (sz : Nat)) → x ≤ sz) := by
  cases v <;> first | exact .inl fun a b => rfl | skip
  case p n =>
    have e : ∀ a b, roomLt (.p n) x a b = if n + 1 ≤ x then a else b := fun a b => by
      show (Bool.rec b a (Nat.ble (n + 1) x) : RC) = _
      rw [bleRec]
    by_cases h : n + 1 ≤ x
    · exact .inr (.inl ⟨fun a b => by rw [e, if_pos h], fun sz hr => by cases hr; omega⟩)
    · exact .inr (.inr ⟨fun a b => by rw [e, if_neg h], fun sz hr => by cases hr; omega⟩)
  case sym lo n =>
    have e : ∀ a b, roomLt (.sym lo n) x a b = if x ≤ lo then b else fl := fun a b => by
      show (Bool.rec fl b (Nat.ble x lo) : RC) = _
      rw [bleRec]
    by_cases h : x ≤ lo
    · exact .inr (.inr ⟨fun a b => by rw [e, if_pos h], fun sz hr => by cases hr; omega⟩)
    · exact .inl fun a b => by rw [e, if_neg h]
/-- a memory behind Make -/
noncomputable def madeM (m : Mem) (c : Int) (F N : Nat) : Mem := ⟨m.size, m.endd + N + 3, m.made + 1, nset (.ofNat (m.made + 1)) 17 (nset c 17 (nset ((N : Int) * 4 + (F : Int)) 17 m.words m.endd) (m.endd + 1)) (m.endd + 2), m.pl⟩
theorem madeM_word (m : Mem) (c : Int) (F N : Nat) (h : m.endd + 3 ≤ 131072) {i : Nat} (hi : i < 131072) :
    (madeM m c F N).word i = if i = m.endd + 2 then ((m.made + 1 : Nat) : Int) else if i = m.endd + 1 then c else if i = m.endd then (N : Int) * 4 + (F : Int) else m.word i := by
  show nget 0 17 (nset _ 17 (nset _ 17 (nset _ 17 m.words m.endd) (m.endd + 1)) (m.endd + 2)) i = _
  rw [nget_nset 0 17 _ _ _ _ (by omega) hi, nget_nset 0 17 _ _ _ _ (by omega) hi, nget_nset 0 17 _ _ _ _ (by omega) hi]
  rfl
theorem madeM_wf {m : Mem} {sz : Nat} {c : Int} {F N : Nat} (hw : MemWf m sz) (hr : m.endd + (N + 3) ≤ sz) (hm : m.made < 1099511627776) (hF : F ≤ 2) (hN : N ≤ 256) (hc : -9223372036854775808 ≤ c ∧ c < 9223372036854775808) : MemWf (madeM m c F N) sz := by
  have h1 := hw.hi; have h2 := hw.end1
  refine ⟨hw.lo, hw.hi, hw.size, ?_, ?_, ?_, fun i hi hlt => ?_, fun i hi => ?_⟩
  · show 3 ≤ m.endd + N + 3; omega
  · show m.endd + N + 3 ≤ sz; omega
  · show m.made + 1 ≤ _; omega
  · have hi' : m.endd + N + 3 ≤ i := hi
    rw [madeM_word m c F N (by omega) hlt, if_neg (by omega), if_neg (by omega), if_neg (by omega)]
    exact hw.rest i (by omega) hlt
  · rw [madeM_word m c F N (by omega) hi]
    split
    · omega
    · split
      · exact hc
      · split
        · omega
        · exact hw.range i hi
theorem madeT_get {m : Mem} {sz : Nat} {c : Int} {F N : Nat} (hw : MemWf m sz) (hr : m.endd + (N + 3) ≤ sz) {i : Nat} (hi : i < sz) : nget (.p 0) 17 (madeT (ntmap vI m.words) m.endd m.made N F c) i = vI ((madeM m c F N).word i) := by
  have h1 := hw.hi
  rw [madeM_word m c F N (by omega) (by omega)]
  have hT3 : nget (.p 0) 17 (nset (.p (m.made + 1)) 17 (nset (vI c) 17 (nset (.p (4 * N + F)) 17 (ntmap vI m.words) m.endd) (m.endd + 1)) (m.endd + 2)) i =
      vI (if i = m.endd + 2 then ((m.made + 1 : Nat) : Int) else if i = m.endd + 1 then c else if i = m.endd then (N : Int) * 4 + (F : Int) else m.word i) := by
    rw [nget_nset _ 17 _ _ _ _ (by omega) (by omega), nget_nset _ 17 _ _ _ _ (by omega) (by omega), nget_nset _ 17 _ _ _ _ (by omega) (by omega), vec_map]
    split
    · rfl
    · split
      · rfl
      · split
        · rw [show (N : Int) * 4 + (F : Int) = ((4 * N + F : Nat) : Int) by push_cast; omega]; rfl
        · rfl
  unfold madeT
  simp only
  by_cases hn : N = 0
  · rw [if_pos hn]; exact hT3
  · rw [if_neg hn]
    have hlen : (repL N [V.p 0]).length = N := by rw [repL_length]; simp
    rw [setMany_get _ _ _ _ _ _ (by rw [hlen]; omega) (by omega), hlen]
    by_cases hin : m.endd + 3 ≤ i ∧ i < m.endd + 3 + N
    · rw [if_pos hin, if_neg (by omega), if_neg (by omega), if_neg (by omega), hw.rest i (by omega) (by omega), repL_get N [.p 0] _ (by simp; omega)]
      simp [Nat.mod_one]
      rfl
    · rw [if_neg hin]; exact hT3
theorem badMake_false {t : NT Bool} {c f n : Int} (h : badMake t c f n = false) : clsW t c = true ∧ ∃ F N : Nat, f = F ∧ n = N ∧ F ≤ 2 ∧ N ≤ 256 := by
  rw [badMake_eq] at h
  simp only [Bool.or_eq_false_iff, Bool.not_eq_false', decide_eq_false_iff_not] at h
  obtain ⟨⟨⟨⟨hc, hf0⟩, hf2⟩, hn0⟩, hn2⟩ := h
  exact ⟨hc, f.toNat, n.toNat, by omega, by omega, by omega, by omega⟩
theorem sp53 : SpOk Tryz.prog 53 sp_make := by
  refine .of_mem T53 Tryz.func53 Tryz.call53 (THF_snd 9) fun ls s => ?_
  rcases m2_cases ls s with hm | ⟨id, m, t, r, rfl, hm, ht, he⟩
  · exact .inl fun k => hm _
  · rcases r with _ | ⟨v, r⟩
    · exact .inl fun k => he _
    · rcases asInt_cases v with ⟨c, rfl⟩ | hv
      · rcases r with _ | ⟨u, r⟩
        · refine .inl fun k => (he _).trans ?_
          show asInt (vI c) _ = _
          rw [asInt_vI]; rfl
        · rcases asInt_cases u with ⟨f, rfl⟩ | hu
          · rcases r with _ | ⟨x, r⟩
            · refine .inl fun k => (he _).trans ?_
              show asInt (vI c) (fun c => asInt (vI f) _) = _
              rw [asInt_vI, asInt_vI]; rfl
            · rcases asInt_cases x with ⟨n, rfl⟩ | hx
              · have e : ∀ k, sp_make (.ptr id 0 :: vI c :: vI f :: vI n :: r) s k = if badMake t c f n = true then k (.tup [.p 0, .p 1]) s else roomLt m.size (m.endd + (n.toNat + 3)) (k (.tup [.p 0, .p 4]) s)
                    (if 1099511627776 ≤ m.made then k (.tup [.p 0, .p 4]) s else k (.tup [.p (2 * m.endd), .p 0]) ((s.set id (.mem ⟨m.size, m.endd + n.toNat + 3, m.made + 1, nset (.ofNat (m.made + 1)) 17 (nset c 17 (nset (n * 4 + f) 17 m.words m.endd) (m.endd + 1)) (m.endd + 2), m.pl⟩)).set m.pl (.set (nset true 17 t m.endd)))) := fun k => by
                  refine (he _).trans ?_
                  show asInt (vI c) (fun c => asInt (vI f) (fun f => asInt (vI n) _)) = _
                  rw [asInt_vI, asInt_vI, asInt_vI]
                  show (Bool.rec (roomLt m.size (m.endd + (n.toNat + 3)) (k (.tup [.p 0, .p 4]) s) (Bool.rec (k (.tup [.p (2 * m.endd), .p 0]) ((s.set id (.mem ⟨m.size, m.endd + n.toNat + 3, m.made + 1, nset (.ofNat (m.made + 1)) 17 (nset c 17 (nset (n * 4 + f) 17 m.words m.endd) (m.endd + 1)) (m.endd + 2), m.pl⟩)).set m.pl (.set (nset true 17 t m.endd)))) (k (.tup [.p 0, .p 4]) s) (Nat.ble 1099511627776 m.made))) (k (.tup [.p 0, .p 1]) s) (badMake t c f n) : RC) = _
                  rw [bcase, bleRec]
                have args : ((.ptr .h 0 :: (vI c :: vI f :: vI n :: r).map keepI : L)) = .ptr .h 0 :: vI c :: vI f :: vI n :: r.map keepI := by simp
                have tup2 : ∀ a b, Scal (.tup [.p a, .p b]) := fun a b v hv => by simp at hv; rcases hv with rfl | rfl <;> trivial
                cases hb : badMake t c f n with
                | true =>
                  refine .inr ⟨id, m, t, _, rfl, hm, ht, .tup [.p 0, .p 1], s, m, t, .look hm ht (fun k => by rw [e, hb, if_pos rfl]) (tup2 _ _) fun sz l cc hw hset k => ?_⟩
                  rw [args]; exact make_bad hset c f n _ k 4 hb
                | false =>
                  have e' : ∀ k, sp_make (.ptr id 0 :: vI c :: vI f :: vI n :: r) s k = _ := fun k => by rw [e, hb, if_neg Bool.false_ne_true]
                  rcases roomLt_cases m.size (m.endd + (n.toNat + 3)) with hf | ⟨hA, hlt⟩ | ⟨hB, hle⟩
                  · exact .inl fun k => by rw [e', hf]
                  · refine .inr ⟨id, m, t, _, rfl, hm, ht, .tup [.p 0, .p 4], s, m, t, .look hm ht (fun k => by rw [e', hA]) (tup2 _ _) fun sz l cc hw hset k => ?_⟩
                    rw [args]; exact make_full hw hset c f n _ k 4 hb (.inl (hlt sz hw.size))
                  · by_cases hmd : 1099511627776 ≤ m.made
                    · refine .inr ⟨id, m, t, _, rfl, hm, ht, .tup [.p 0, .p 4], s, m, t, .look hm ht (fun k => by rw [e', hB, if_pos hmd]) (tup2 _ _) fun sz l cc hw hset k => ?_⟩
                      rw [args]; exact make_full hw hset c f n _ k 4 hb (.inr (by have := hw.made; omega))
                    · obtain ⟨hc, F, N, rfl, rfl, hF, hN⟩ := badMake_false hb
                      have hne : m.pl ≠ id := fun e => by rw [e, hm] at ht; cases ht
                      refine .inr ⟨id, m, t, _, rfl, hm, ht, .tup [.p (2 * m.endd), .p 0], (s.set id (.mem (madeM m c F N))).set m.pl (.set (nset true 17 t m.endd)), madeM m c F N, nset true 17 t m.endd, ⟨fun k => by rw [e', hB, if_neg hmd]; rfl, tup2 _ _, rfl, ?_, St.get_set_same _ _ _, fun i h1 h2 => by rw [St.get_set_ne _ _ h2, St.get_set_ne _ _ h1], rfl, fun sz l cc hw hset _ hr => ?_⟩⟩
                      · rw [St.get_set_ne _ _ (fun e => hne e.symm), St.get_set_same]
                      · have hsz := hle sz hw.size
                        simp only [Int.toNat_natCast] at hsz
                        have h1 := hw.hi
                        obtain ⟨l', cc', hput, hset'⟩ := set_put sz hset (a := m.endd) (by omega) cc
                        refine ⟨madeM_wf hw hsz (by omega) hF hN (hr c (by simp)), vw (madeT (ntmap vI m.words) m.endd m.made N F c) (m.endd + (N + 3)) (m.made + 1) sz l' cc', _, l', cc', fun k => ?_, rfl, rfl, rfl, fun i hi => madeT_get hw hsz hi, hset'⟩
                        rw [args]
                        exact make_ok hw hset c _ k 4 hc hF hN hsz (by omega) hput
              · refine .inl fun k => (he _).trans ?_
                show asInt (vI c) (fun c => asInt (vI f) (fun f => asInt x _)) = _
                rw [asInt_vI, asInt_vI, hx]
          · refine .inl fun k => (he _).trans ?_
            show asInt (vI c) (fun c => asInt u _) = _
            rw [asInt_vI, hu]
      · exact .inl fun k => (he _).trans (hv _)
end Viv

/-
  heap.New; new objects grafted onto a state.
-/
set_option maxRecDepth 100000
namespace Viv
open Go (Value World IntKind Addr Program Act Exit Oper Operand Ending undef)
open Go.Proofs

/-- new objects in new blocks -/
theorem Sim.graft {β β' : Beta} {s s' : St} {w w' : World} (h : Sim β s w) (hnext : num s.next ≤ num s'.next) (hold : ∀ id, num id < num s.next → β' id = β id ∧ s'.get id = s.get id)
    (hnew : ∀ id loc, num s.next ≤ num id → β' id = some loc → num id < num s'.next ∧ ObjRel β' w' (s'.get id) loc ∧ ∀ b ∈ loc.blocks, w.heap.size ≤ b)
    (hdis : ∀ id id' loc loc', num s.next ≤ num id → num s.next ≤ num id' → β' id = some loc → β' id' = some loc' → id ≠ id' → ∀ b ∈ loc.blocks, b ∉ loc'.blocks)
    (hs : w.heap.size ≤ w'.heap.size) (hkeep : ∀ b, b < w.heap.size → w'.heap[b]? = w.heap[b]?) (ht : w'.tape = w.tape) (hos : w'.os = w.os) (hout : w'.output = w.output) :
    Sim β' s' w' ∧ Post β s w β' s' w' := by
  have hle : β.le β' := fun id loc hb => by rw [(hold id (h.fresh id loc hb)).1]; exact hb
  have hlt : ∀ id loc, β' id = some loc → num id < num s.next → β id = some loc ∧ s'.get id = s.get id := fun id loc hb hl => by
    obtain ⟨a, b⟩ := hold id hl
    exact ⟨by rw [← a]; exact hb, b⟩
  have hblk : ∀ id loc, β id = some loc → s.get id ≠ .none → ∀ b ∈ loc.blocks, b < w.heap.size := fun id loc hb hne => (h.obj id loc hb).lt hne
  refine ⟨⟨?_, ?_, ?_⟩, ⟨hle, hs, hnext, fun b hb _ => hkeep b hb, ?_, ?_, ?_, ht, hos, hout⟩⟩
  · intro id loc hb
    rcases Nat.lt_or_ge (num id) (num s.next) with hl | hl
    · exact Nat.lt_of_lt_of_le hl hnext
    · exact (hnew id loc hl hb).1
  · intro id loc hb
    rcases Nat.lt_or_ge (num id) (num s.next) with hl | hl
    · obtain ⟨a, b⟩ := hlt id loc hb hl
      rw [b]
      by_cases hn : s.get id = .none
      · rw [hn]; cases loc <;> trivial
      · exact ((h.obj id loc a).world fun x hx => hkeep x (hblk id loc a hn x hx)).mono hle
    · exact (hnew id loc hl hb).2.1
  · intro id id' loc loc' h1 h2 g1 g2 hne b hb hb'
    rcases Nat.lt_or_ge (num id) (num s.next) with hl | hl <;> rcases Nat.lt_or_ge (num id') (num s.next) with hl' | hl'
    · obtain ⟨a, c⟩ := hlt id loc h1 hl
      obtain ⟨a', c'⟩ := hlt id' loc' h2 hl'
      rw [c] at g1; rw [c'] at g2
      exact h.disj id id' loc loc' a a' g1 g2 hne b hb hb'
    · obtain ⟨a, c⟩ := hlt id loc h1 hl
      rw [c] at g1
      have := hblk id loc a g1 b hb
      have := (hnew id' loc' hl' h2).2.2 b hb'
      omega
    · obtain ⟨a', c'⟩ := hlt id' loc' h2 hl'
      rw [c'] at g2
      have := hblk id' loc' a' g2 b hb'
      have := (hnew id loc hl h1).2.2 b hb
      omega
    · exact hdis id id' loc loc' hl hl' h1 h2 hne b hb hb'
  · intro id loc h1 h2
    rcases Nat.lt_or_ge (num id) (num s.next) with hl | hl
    · rw [(hlt id loc h1 hl).1] at h2; cases h2
    · exact ⟨hl, fun b hb => .inl ((hnew id loc hl h1).2.2 b hb)⟩
  · intro id hne hnone
    cases hb : β id with
    | none => exact absurd hb hne
    | some loc => rw [(hold id (h.fresh id loc hb)).2]; exact hnone
  · intro id hl _; exact (hold id hl).2

noncomputable def newS (n : Nat) : St := ⟨.n (.n .mt .mt (.map [] 0)) (.n .mt .mt (.row [.slc .h 0 n true n 1, .p 3, .p 0, .map (.o .h)])) (.vec (depthOf n) .mt n (.p 0)), .o (.o .h)⟩
theorem mksl_one {n : Nat} (h : n ≤ 1048576) (s : St) (k : K) : mkslK 1 [.p 0] (.p n) (.p n) s k = k (.slc s.next 0 n true n 1) (s.push (.vec (depthOf n) .mt n (.p 0))) := by
  show (Bool.rec fl (Bool.rec fl (k (.slc s.next 0 n true n 1) (s.push (.vec (depthOf n) .mt n (hd [.p 0])))) (Nat.ble n 1048576)) (Nat.ble n n) : RC) = _
  rw [bleRec, bleRec, if_pos (Nat.le_refl n), if_pos h]; rfl
theorem new_ev (c : CF) {n : Nat} (h1 : 16 ≤ n) (h2 : n ≤ 131072) (r : L) (k : K) : callF (.fn A52) c (.p n :: r) ⟨.mt, .h⟩ k = k (.ptr (.i .h) 0) (newS n) := by
  have b1 : Nat.blt n 16 = false := by cases hx : Nat.blt n 16 with
    | false => rfl
    | true => exact absurd ((blt_iff _ _).1 hx) (by omega)
  have b2 : Nat.blt 131072 n = false := by cases hx : Nat.blt 131072 n with
    | false => rfl
    | true => exact absurd ((blt_iff _ _).1 hx) (by omega)
  simp [A52, b1, b2]
  rw [mksl_one (by omega)]
  rfl
theorem new_nil (c : CF) {n : Nat} (h : n < 16 ∨ 131072 < n) (r : L) (s : St) (k : K) : callF (.fn A52) c (.p n :: r) s k = k .nilp s := by
  by_cases h1 : n < 16
  · have b1 : Nat.blt n 16 = true := (blt_iff _ _).2 h1
    simp [A52, b1]
  · have b1 : Nat.blt n 16 = false := by cases hx : Nat.blt n 16 with
      | false => rfl
      | true => exact absurd ((blt_iff _ _).1 hx) h1
    have b2 : Nat.blt 131072 n = true := (blt_iff _ _).2 (by omega)
    simp [A52, b1, b2]
theorem new_neg (c : CF) (n : Nat) (r : L) (s : St) (k : K) : callF (.fn A52) c (.m n :: r) s k = k .nilp s := by
  simp [A52]
theorem sim_none (w : World) : Sim (fun _ => none) ⟨.mt, .h⟩ w := ⟨(fun _ _ h => by cases h), (fun _ _ h => by cases h), (fun _ _ _ _ h => by cases h)⟩
theorem new_goes {β : Beta} {s : St} {w : World} (hs : Sim β s w) {n : Nat} (h1 : 16 ≤ n) (h2 : n ≤ 131072) {size : V} (hsize : VRel (fun _ => none) size (.int .i64 n)) (xs : List Value) :
    Goes Tryz.prog (Go.callFunc 52 (.int .i64 n :: xs).toArray) w (After β s w (.ptr s.next 0) ((s.push (.mem ⟨size, 3, 0, .mt, inc s.next⟩)).push (.set .mt))) := by
  have hrel : VRels (fun _ => none) (.p n :: xs.map fun _ => .bad) (.int .i64 n :: xs) := by
    refine .cons _ _ _ _ (.p n (by omega)) ?_
    induction xs with
    | nil => exact .nil
    | cons x xs ih => exact .cons _ _ _ _ (.bad x) ih
  rcases func_out (THF_snd 9) mixed T52 Tryz.func52 Tryz.call52 (sim_none w) hrel with ⟨why, hbad⟩ | ⟨v2, s2, hk2, hg⟩
  · exact (not_fail (new_ev _ h1 h2 _) hbad).elim
  · obtain ⟨rfl, rfl⟩ := uniq (new_ev _ h1 h2 _) hk2
    refine hg.mono fun x w' hA => ?_
    obtain ⟨β3, hx, hs3, hp3⟩ := hA
    -- where the three objects lie
    have g0 : (newS n).get (.i .h) = .row [.slc .h 0 n true n 1, .p 3, .p 0, .map (.o .h)] := rfl
    have g1 : (newS n).get .h = .vec (depthOf n) .mt n (.p 0) := rfl
    have g2 : (newS n).get (.o .h) = .map [] 0 := rfl
    have hx' : ∃ b o sz, β3 (.i .h) = some (.row b o sz) ∧ x = .pointer (some ⟨b, o, none⟩) := by
      cases hx with
      | ptr _ _ b o sz hb => exact ⟨b, o, sz, hb, rfl⟩
      | ptrm _ _ y hb => have := hs3.obj _ _ hb; rw [g0] at this; exact this.elim
      | ptri _ _ b hb => have := hs3.obj _ _ hb; rw [g0] at this; exact this.elim
    obtain ⟨b, o, sb, hb0, rfl⟩ := hx'
    have o0 := hs3.obj _ _ hb0
    rw [g0] at o0
    obtain ⟨cur0, e0, k0, z0, z0', r0⟩ := o0
    have hb1 : ∃ bw ow sw, β3 .h = some (.row bw ow sw) := by
      obtain ⟨y, _, _, hr⟩ := r0 0 (by simp)
      cases hr with
      | slc _ _ _ _ _ _ bw ow sw c' hb _ _ _ _ _ => exact ⟨bw, ow, sw, hb⟩
    have hb2 : ∃ bp, β3 (.o .h) = some (.map bp) := by
      obtain ⟨y, _, _, hr⟩ := r0 3 (by simp)
      cases hr with
      | map _ bp hb => exact ⟨bp, hb⟩
    obtain ⟨bw, ow, sw, hb1⟩ := hb1
    obtain ⟨bp, hb2⟩ := hb2
    have o1 := hs3.obj _ _ hb1
    have o2 := hs3.obj _ _ hb2
    rw [g1] at o1; rw [g2] at o2
    obtain ⟨⟨cur1, e1, k1, z1, z1', r1⟩, -⟩ := o1
    obtain ⟨es, k2, hes, hborn⟩ := o2
    have n01 : b ≠ bw := fun e => hs3.disj _ _ _ _ hb0 hb1 (by rw [g0]; simp) (by rw [g1]; simp) (by simp) b (by simp [Loc.blocks]) (by simp [Loc.blocks, e])
    have n02 : b ≠ bp := fun e => hs3.disj _ _ _ _ hb0 hb2 (by rw [g0]; simp) (by rw [g2]; simp) (by simp) b (by simp [Loc.blocks]) (by simp [Loc.blocks, e])
    have n12 : bw ≠ bp := fun e => hs3.disj _ _ _ _ hb1 hb2 (by rw [g1]; simp) (by rw [g2]; simp) (by simp) bw (by simp [Loc.blocks]) (by simp [Loc.blocks, e])
    have fresh : ∀ id loc, β3 id = some loc → ∀ y ∈ loc.blocks, w.heap.size ≤ y := fun id loc hb y hy => by
      rcases (hp3.new id loc hb rfl).2 y hy with h | ⟨_, _, h, _⟩
      · exact h
      · cases h
    have f0 := fresh _ _ hb0 b (by simp [Loc.blocks])
    have f1 := fresh _ _ hb1 bw (by simp [Loc.blocks])
    have f2 := fresh _ _ hb2 bp (by simp [Loc.blocks])
    have hnum : num (inc s.next) = num s.next + 1 := num_inc _
    have hne : inc s.next ≠ s.next := fun e => by rw [e] at hnum; omega
    let β' : Beta := fun id => if id = s.next then some (.mem ⟨b, o, sb, bw, ow, sw⟩) else if id = inc s.next then some (.map bp) else β id
    have q0 : β' s.next = some (.mem ⟨b, o, sb, bw, ow, sw⟩) := if_pos rfl
    have q1 : β' (inc s.next) = some (.map bp) := by show (if inc s.next = s.next then _ else _) = _; rw [if_neg hne, if_pos rfl]
    have qo : ∀ id, id ≠ s.next → id ≠ inc s.next → β' id = β id := fun id a c => by show (if id = s.next then _ else _) = _; rw [if_neg a, if_neg c]
    have gs : ∀ id, (((s.push (.mem ⟨size, 3, 0, .mt, inc s.next⟩)).push (.set .mt)) : St).get id = if id = inc s.next then .set .mt else if id = s.next then .mem ⟨size, 3, 0, .mt, inc s.next⟩ else s.get id := fun id => by
      rw [St.get_push, St.get_push]; rfl
    have new2 : ∀ id loc, num s.next ≤ num id → β' id = some loc → (id = s.next ∧ loc = .mem ⟨b, o, sb, bw, ow, sw⟩) ∨ (id = inc s.next ∧ loc = .map bp) := by
      intro id loc hl hb
      by_cases e1 : id = s.next
      · subst e1; rw [q0] at hb; cases hb; exact .inl ⟨rfl, rfl⟩
      · by_cases e2 : id = inc s.next
        · subst e2; rw [q1] at hb; cases hb; exact .inr ⟨rfl, rfl⟩
        · rw [qo id e1 e2] at hb; exact absurd (hs.fresh id loc hb) (by omega)
    have hg := hs.graft (β' := β') (s' := (s.push (.mem ⟨size, 3, 0, .mt, inc s.next⟩)).push (.set .mt)) (w' := w') (by rw [St.num_push, St.num_push]; omega) (fun id hl => ?_) (fun id loc hl hb => ?_) (fun id id' loc loc' hl hl' hb hb' hne' y hy hy' => ?_) hp3.size (fun y hy => hp3.keep y hy fun ⟨_, _, h, _⟩ => by cases h) hp3.tape hp3.os hp3.output
    · refine ⟨β', ?_, hg.1, hg.2⟩
      have := VRel.ptrm (β := β') s.next 0 ⟨b, o, sb, bw, ow, sw⟩ q0
      simpa using this
    · have a1 : id ≠ s.next := fun e => by subst e; omega
      have a2 : id ≠ inc s.next := fun e => by subst e; omega
      exact ⟨qo id a1 a2, by rw [gs, if_neg a2, if_neg a1]⟩
    · rcases new2 id loc hl hb with ⟨rfl, rfl⟩ | ⟨rfl, rfl⟩
      · refine ⟨by rw [St.num_push, St.num_push]; omega, ?_, fun y hy => ?_⟩
        · rw [gs, if_neg hne.symm, if_pos rfl]
          show MemRel β' _ _ w'
          refine ⟨n01, n, bp, ⟨h1, h2, hsize, Nat.le_refl _, by show 3 ≤ n; omega, by show (0 : Nat) ≤ _; omega, fun i _ _ => nget_e 0 17 i, fun i _ => ?_⟩, q1, ⟨cur0, e0, k0, z0, z0', fun i hi => ?_⟩, ⟨cur1, e1, k1, z1, z1', fun i hi => ?_⟩⟩
          · rw [show Mem.word ⟨size, 3, 0, .mt, inc s.next⟩ i = 0 from nget_e 0 17 i]; omega
          · obtain ⟨y, hy, hone, hr⟩ := r0 i hi
            refine ⟨y, hy, hone, ?_⟩
            clear hy r0
            match i, hi with
            | 0, _ =>
              cases hr with
              | slc _ _ _ _ _ _ b' o' sz' c2 hb' g1 g2 g3 g4 g5 =>
                rw [hb1] at hb'; cases hb'
                exact .slc _ _ _ _ _ _ bw ow sw c2 rfl g1 g2 g3 g4 g5
            | 1, _ => cases hr with | p _ h => exact .p _ h
            | 2, _ => cases hr with | p _ h => exact .p _ h
            | 3, _ => cases hr with | map _ b' hb' => rw [hb2] at hb'; cases hb'; exact .map _ bp rfl
          · obtain ⟨y, hy, hone, hr⟩ := r1 i hi
            refine ⟨y, hy, hone, ?_⟩
            have hr' : VRel β3 (.p 0) y := by rw [← nget_e (V.p 0) (depthOf n) i]; exact hr
            show VRel _ (vI (nget 0 17 .mt i)) y
            rw [nget_e]
            exact scal0 (v := .p 0) trivial hr'
        · simp [Loc.blocks] at hy; rcases hy with rfl | rfl <;> assumption
      · refine ⟨by rw [St.num_push, St.num_push]; omega, ?_, fun y hy => ?_⟩
        · rw [gs, if_pos rfl]
          refine ⟨es, 0, [], k2, ?_, hborn, ⟨(fun x hx => by cases hx), (fun a _ h => by rw [nget_e] at h; cases h), nget_e false 17 _⟩⟩
          generalize es.toList = el at hes
          cases hes; exact .nil
        · simp [Loc.blocks] at hy; subst hy; exact f2
    · rcases new2 id loc hl hb with ⟨rfl, rfl⟩ | ⟨rfl, rfl⟩ <;> rcases new2 id' loc' hl' hb' with ⟨rfl, rfl⟩ | ⟨rfl, rfl⟩ <;> simp [Loc.blocks] at hy hy' hne' <;> omega
theorem sp52 : SpOk Tryz.prog 52 sp_new := by
  intro β s w ls args hsim hr
  cases hr with
  | nil => exact .fail fun k => rfl
  | cons v x r xs hx hxs =>
    cases hx <;> first | exact .fail fun k => rfl | skip
    case p n hn =>
      have e : ∀ k, sp_new (.p n :: r) s k = if 16 ≤ n then (if n ≤ 131072 then k (.ptr s.next 0) ((s.push (.mem ⟨.p n, 3, 0, .mt, inc s.next⟩)).push (.set .mt)) else k .nilp s) else k .nilp s := fun k => by
        show (Bool.rec (k .nilp s) (Bool.rec (k .nilp s) (k (.ptr s.next 0) ((s.push (.mem ⟨.p n, 3, 0, .mt, inc s.next⟩)).push (.set .mt))) (Nat.ble n 131072)) (Nat.ble 16 n) : RC) = _
        rw [bleRec, bleRec]
      by_cases h1 : 16 ≤ n
      · by_cases h2 : n ≤ 131072
        · exact .inr ⟨_, _, fun k => by rw [e, if_pos h1, if_pos h2], new_goes hsim h1 h2 (.p n hn) xs⟩
        · refine (func_out (THF_snd 9) mixed T52 Tryz.func52 Tryz.call52 hsim (.cons _ _ _ _ (.p n hn) hxs)).congr fun k => ?_
          rw [e, if_pos h1, if_neg h2, new_nil _ (.inr (by omega))]
      · refine (func_out (THF_snd 9) mixed T52 Tryz.func52 Tryz.call52 hsim (.cons _ _ _ _ (.p n hn) hxs)).congr fun k => ?_
        rw [e, if_neg h1, new_nil _ (.inl (by omega))]
    case m n hn =>
      refine (func_out (THF_snd 9) mixed T52 Tryz.func52 Tryz.call52 hsim (.cons _ _ _ _ (.m n hn) hxs)).congr fun k => ?_
      rw [new_neg]; rfl
    case sym lo n a b =>
      have e : ∀ k, sp_new (.sym lo n :: r) s k = if 16 ≤ lo then k (.ptr s.next 0) ((s.push (.mem ⟨.sym lo n, 3, 0, .mt, inc s.next⟩)).push (.set .mt)) else fl := fun k => by
        show (Bool.rec fl (k (.ptr s.next 0) ((s.push (.mem ⟨.sym lo n, 3, 0, .mt, inc s.next⟩)).push (.set .mt))) (Nat.ble 16 lo) : RC) = _
        rw [bleRec]
      by_cases h1 : 16 ≤ lo
      · exact .inr ⟨_, _, fun k => by rw [e, if_pos h1], new_goes hsim (by omega) b (.sym lo n a b) xs⟩
      · exact .fail fun k => by rw [e, if_neg h1]
end Viv
