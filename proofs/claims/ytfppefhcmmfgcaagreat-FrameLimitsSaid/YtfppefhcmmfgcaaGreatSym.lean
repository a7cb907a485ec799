/-
  THE EVALUATOR ON OPEN VALUES: its equations, for simp.
-/
import Derived.Test.YtfppefhcmmfgcaaGreatCodeJ
namespace Viv
open Go (Value World IntKind Addr Program Act Exit Oper Operand Ending undef)

section
variable (c : CF) (t : L) (e : Env) (s : St) (k : K) (kv : KV)
/-! code -/
@[simp] theorem callF_fn (A : AFunc) (as : L) : callF (.fn A) c as s k = finK (execK c A.code (bindP A.params as) s) A.results k := rfl
@[simp] theorem execK_skip : execK c .skip e s = .norm e s := rfl
@[simp] theorem execK_reg (o : AOps) : execK c (.reg o) e s = evalK c o [] e s := rfl
@[simp] theorem execK_seq (a b : ACode) : execK c (.seq a b) e s = seqK (execK c a e s) (execK c b) := rfl
@[simp] theorem execK_cond (x : Opd) (a b : ACode) : execK c (.cond x a b) e s = condK (x [] e) (execK c a e s) (execK c b e s) := rfl
@[simp] theorem execK_block (i : Nat) (a : ACode) : execK c (.block i a) e s = blockK i (execK c a e s) := rfl
theorem execK_loop (a : ACode) : execK c (.loop a) e s = loopK (execK c a) 100000 e s := rfl
@[simp] theorem execK_exit (i : Nat) : execK c (.exit i) e s = .exit i e s := rfl
@[simp] theorem execK_ret : execK c .ret e s = .ret e s := rfl
attribute [simp] evalK_nil evalK_p evalK_d evalK_g evalK_gd
attribute [simp] seqK_norm blockK_exit
@[simp] theorem seqK_ret (f : Env → St → RC) : seqK (.ret e s) f = .ret e s := rfl
@[simp] theorem seqK_exit (i : Nat) (f : Env → St → RC) : seqK (.exit i e s) f = .exit i e s := rfl
@[simp] theorem seqK_f (i : Nat) (f : Env → St → RC) : seqK (.f i) f = .f i := rfl
@[simp] theorem blockK_norm (i : Nat) : blockK i (.norm e s) = .norm e s := rfl
@[simp] theorem blockK_ret (i : Nat) : blockK i (.ret e s) = .ret e s := rfl
@[simp] theorem blockK_f (i j : Nat) : blockK i (.f j) = .f j := rfl
attribute [simp] finK_norm finK_ret resL_nil resL_cons
@[simp] theorem finK_f (i : Nat) (rs : List (Opd × Option Nat)) : finK (.f i) rs k = .f i := rfl
@[simp] theorem resL_cellOne (x : Opd) (rs : List (Opd × Option Nat)) (kl : L → RC) : resL ((x, some 0) :: rs) e s kl = ldK (x [] e) s (fun v => resL rs e s (fun l => kl (v :: l))) := rfl
@[simp] theorem resL_cellMany (x : Opd) (n : Nat) (rs : List (Opd × Option Nat)) (kl : L → RC) : resL ((x, some (n + 1)) :: rs) e s kl = ldAK (x [] e) (n + 1) s (fun v => resL rs e s (fun l => kl (v :: l))) := rfl
@[simp] theorem res2_nil : res2 [] kv = kv (.tup []) := rfl
@[simp] theorem res2_one (v : V) : res2 [v] kv = kv v := rfl
@[simp] theorem res2_more (v u : V) (l : L) : res2 (v :: u :: l) kv = kv (.tup (v :: u :: l)) := rfl
@[simp] theorem bindP_none (ps : List (Option Pth)) (v : V) (l : L) : bindP (none :: ps) (v :: l) = bindP ps l := rfl
@[simp] theorem bindP_some (p : Pth) (ps : List (Option Pth)) (v : V) (l : L) : bindP (some p :: ps) (v :: l) = pset .bad p v (bindP ps l) := rfl
attribute [simp] bindP_nil
/-! branches -/
@[simp] theorem condK_tt (x y : RC) : condK .tt x y = x := rfl
@[simp] theorem condK_ff (x y : RC) : condK .ff x y = y := rfl
@[simp] theorem condK_B (b : Bool) (x y : RC) : condK (B b) x y = if b = true then x else y := by cases b <;> rfl
@[simp] theorem guardK_tt (x y : RC) : guardK .tt true x y = x := rfl
@[simp] theorem guardK_ff (x y : RC) : guardK .ff true x y = y := rfl
@[simp] theorem guardK_tt' (x y : RC) : guardK .tt false x y = y := rfl
@[simp] theorem guardK_ff' (x y : RC) : guardK .ff false x y = x := rfl
@[simp] theorem guardK_tup (l : L) (b : Bool) (x y : RC) : guardK (.tup l) b x y = y := rfl
@[simp] theorem guardK_B (b : Bool) (x y : RC) : guardK (B b) true x y = if b = true then x else y := by cases b <;> rfl
@[simp] theorem guardK_B' (b : Bool) (x y : RC) : guardK (B b) false x y = if b = true then y else x := by cases b <;> rfl
@[simp] theorem pickK_tt (x y : V) : pickK .tt x y kv = kv x := rfl
@[simp] theorem pickK_ff (x y : V) : pickK .ff x y kv = kv y := rfl
@[simp] theorem pickK_B (b : Bool) (x y : V) : pickK (B b) x y kv = if b = true then kv x else kv y := by cases b <;> rfl
@[simp] theorem notK_tt : notK .tt kv = kv .ff := rfl
@[simp] theorem notK_ff : notK .ff kv = kv .tt := rfl
attribute [simp] not_B
@[simp] theorem B_true : B true = .tt := rfl
@[simp] theorem B_false : B false = .ff := rfl
/-! operands -/
@[simp] theorem l0_cons (v : V) : l0 (v :: t) e = v := rfl
@[simp] theorem l1_cons (v u : V) : l1 (v :: u :: t) e = u := rfl
@[simp] theorem l2_cons (v u x : V) : l2 (v :: u :: x :: t) e = x := rfl
@[simp] theorem l3_cons (v u x y : V) : l3 (v :: u :: x :: y :: t) e = y := rfl
@[simp] theorem l4_cons (v u x y z : V) : l4 (v :: u :: x :: y :: z :: t) e = z := rfl
@[simp] theorem lo_eq (j : Nat) : lo j t e = nth j t := rfl
@[simp] theorem nth_zero (v : V) : nth 0 (v :: t) = v := rfl
@[simp] theorem nth_succ (v : V) (n : Nat) : nth (n + 1) (v :: t) = nth n t := by rw [nth_cons_succ]
@[simp] theorem cn_eq (v : V) : cn v t e = v := rfl
@[simp] theorem ev_eq (p : Pth) : ev p t e = pget .bad p e := rfl
@[simp] theorem opds_nil : opds [] t e = [] := rfl
@[simp] theorem opds_cons (x : Opd) (l : List Opd) : opds (x :: l) t e = x t e :: opds l t e := rfl
@[simp] theorem hd_eq (v : V) (l : L) : hd (v :: l) = v := rfl
@[simp] theorem tl_eq (v : V) (l : L) : tl (v :: l) = l := rfl
attribute [simp] e0 e1 e2 e3 e4 e5 e6 e7 e8 e9 e10 e11 e12 e13 e14 e15 e16 e17 e18 e19 e20
end
/-! environments -/
section
variable {α : Type} (d v : α) (a b : Tr α) (p : Pth)
@[simp] theorem env_geth (x : α) : pget d .h (.n a b x) = x := rfl
@[simp] theorem env_gete : pget d p .mt = d := pget_e d p
@[simp] theorem env_geto (x : α) : pget d (.o p) (.n a b x) = pget d p a := rfl
@[simp] theorem env_geti (x : α) : pget d (.i p) (.n a b x) = pget d p b := rfl
@[simp] theorem env_seth : pset d .h v .mt = .n .mt .mt v := rfl
@[simp] theorem env_seth' (x : α) : pset d .h v (.n a b x) = .n a b v := rfl
@[simp] theorem env_seto : pset d (.o p) v .mt = .n (pset d p v .mt) .mt d := rfl
@[simp] theorem env_seto' (x : α) : pset d (.o p) v (.n a b x) = .n (pset d p v a) b x := rfl
@[simp] theorem env_seti : pset d (.i p) v .mt = .n .mt (pset d p v .mt) d := rfl
@[simp] theorem env_seti' (x : α) : pset d (.i p) v (.n a b x) = .n a (pset d p v b) x := rfl
end
attribute [simp] q0 q1 q2 q3 q4 q5 q6 q7 q8 q9 q10 q11 q12 q13 q14 q15 q16 q17 q18 q19 q20
section
variable (c : CF) (t : L) (e : Env) (s : St) (k : K) (kv : KV) (x y : Opd)
/-! steps -/
@[simp] theorem s_mv : mv x c t e s k = k (x t e) s := rfl
@[simp] theorem s_w1 (f : V → KV → RC) : w1 f x c t e s k = f (x t e) (fun v => k v s) := rfl
@[simp] theorem s_w2 (f : V → V → KV → RC) : w2 f x y c t e s k = f (x t e) (y t e) (fun v => k v s) := rfl
@[simp] theorem s_le : le x y c t e s k = ltK (y t e) (x t e) (fun v => notK v (fun v => k v s)) := rfl
@[simp] theorem s_ge : ge x y c t e s k = ltK (x t e) (y t e) (fun v => notK v (fun v => k v s)) := rfl
@[simp] theorem s_gt : gt x y c t e s k = ltK (y t e) (x t e) (fun v => k v s) := rfl
@[simp] theorem s_ne (f : V → V → KV → RC) : ne f x y c t e s k = f (x t e) (y t e) (fun v => notK v (fun v => k v s)) := rfl
@[simp] theorem s_pick (z : Opd) : pick z x y c t e s k = pickK (z t e) (x t e) (y t e) (fun v => k v s) := rfl
@[simp] theorem s_alloc (l : L) : alloc l c t e s k = k (.ptr s.next 0) (s.push (.row l)) := rfl
@[simp] theorem s_box : box x c t e s k = cellsK (x t e) (fun l => k (.ptr s.next 0) (s.push (.row l))) := rfl
@[simp] theorem s_build (z : L) (ps : List (Nat × Nat × Opd)) : build z ps c t e s k = partsV ps t e z (fun l => k (.agg l) s) := rfl
@[simp] theorem s_bslice (n : Nat) (z : L) (ps : List (Nat × Nat × Opd)) : bslice n z ps c t e s k = partsV ps t e (repL n z) (fun l => k (.slc s.next 0 n true n (len z)) (s.push (mkVec l))) := rfl
@[simp] theorem s_ld : ld x c t e s k = ldK (x t e) s (fun v => k v s) := rfl
@[simp] theorem s_ldA (n : Nat) : ldA n x c t e s k = ldAK (x t e) n s (fun v => k v s) := rfl
@[simp] theorem s_sto (n : Nat) : sto n x y c t e s k = stK (x t e) n (y t e) s k := rfl
@[simp] theorem s_fad (o : Nat) : fad o x c t e s k = fadK (x t e) o (fun v => k v s) := rfl
@[simp] theorem s_fld (o : Nat) : fld o x c t e s k = fldK (x t e) o (fun v => k v s) := rfl
@[simp] theorem s_fldA (o n : Nat) : fldA o n x c t e s k = fldAK (x t e) o n (fun v => k v s) := rfl
@[simp] theorem s_iad (sz : Nat) : iad sz x y c t e s k = iadK (x t e) (y t e) sz (fun v => k v s) := rfl
@[simp] theorem s_iadA (n sz : Nat) : iadA n sz x y c t e s k = iadAK (x t e) (y t e) sz n (fun v => k v s) := rfl
@[simp] theorem s_look (kf : KF) (z : V) (ok : Bool) : look kf z ok x y c t e s k = lookK (x t e) kf z ok (y t e) s (fun v => k v s) := rfl
@[simp] theorem s_mupd (kf : KF) (v : Opd) : mupd kf x y v c t e s k = mupdK (x t e) kf (y t e) (v t e) s k := rfl
@[simp] theorem s_ext (j : Nat) : ext x j c t e s k = extK (x t e) j (fun v => k v s) := rfl
@[simp] theorem s_call (f : Pth) (as : List Opd) : call f as c t e s k = c f (opds as t e) s k := rfl
@[simp] theorem s_callv (as : List Opd) : callv x as c t e s k = callvK (x t e) c (opds as t e) s k := rfl
@[simp] theorem s_app (sz : Nat) : app sz x y c t e s k = appK sz (x t e) (y t e) s k := rfl
@[simp] theorem s_lenM : lenM x c t e s k = lenMK (x t e) s (fun v => k v s) := rfl
@[simp] theorem s_conv10 : conv10 x c t e s k = conv10K (x t e) s (fun v => k v s) := rfl
@[simp] theorem s_mkfn (f : Pth) (a b : List Opd) : mkfn f a b c t e s k = k (.fn f (opds a t e) (opds b t e)) s := rfl
@[simp] theorem s_mkmap : mkmap c t e s k = k (.map s.next) (s.push (.map [] 0)) := rfl
@[simp] theorem s_mksl (sz : Nat) (z : L) : mksl sz z x y c t e s k = mkslK sz z (x t e) (y t e) s k := rfl
@[simp] theorem s_slS1 : slS1 x y c t e s k = slS (x t e) (y t e) (lenV (x t e)) (fun v => k v s) := rfl
@[simp] theorem s_slS2 : slS2 x y c t e s k = slS (x t e) (.p 0) (y t e) (fun v => k v s) := rfl
@[simp] theorem s_slS3 (z : Opd) : slS3 x y z c t e s k = slS (x t e) (y t e) (z t e) (fun v => k v s) := rfl
@[simp] theorem s_slL1 (sz : Nat) : slL1 sz x y c t e s k = slL (x t e) sz (y t e) (lenV (x t e)) (fun v => k v s) := rfl
@[simp] theorem s_slL2 (sz : Nat) : slL2 sz x y c t e s k = slL (x t e) sz (.p 0) (y t e) (fun v => k v s) := rfl
@[simp] theorem s_slL3 (sz : Nat) (z : Opd) : slL3 sz x y z c t e s k = slL (x t e) sz (y t e) (z t e) (fun v => k v s) := rfl
@[simp] theorem s_clr (sz : Nat) (z : L) : clr sz z x c t e s k = clrK (x t e) sz z s k := rfl
@[simp] theorem s_reS (f : SF) (j : Nat) : reS f j c t e s k = f c t e s (fun v _ => sameK (nth j t) v (k (.tup []) s)) := rfl
@[simp] theorem s_rng : rng x c t e s k = rangeK (x t e) s k := rfl
@[simp] theorem s_nxt : nxt x c t e s k = nextK (x t e) s k := rfl
end
section
variable (kv : KV) (n m : Nat) (s : St)
/-! numbers -/
@[simp] theorem ltK_pp : ltK (.p n) (.p m) kv = kv (B (Nat.blt n m)) := rfl
@[simp] theorem ltK_pm : ltK (.p n) (.m m) kv = kv .ff := rfl
@[simp] theorem ltK_mp : ltK (.m n) (.p m) kv = kv .tt := rfl
@[simp] theorem ltK_mm : ltK (.m n) (.m m) kv = kv (B (Nat.blt m n)) := rfl
@[simp] theorem eq0_pp : eq0 (.p n) (.p m) kv = kv (B (Nat.beq n m)) := rfl
@[simp] theorem eq0_pm : eq0 (.p n) (.m m) kv = kv .ff := rfl
@[simp] theorem eq0_mp : eq0 (.m n) (.p m) kv = kv .ff := rfl
@[simp] theorem eq0_mm : eq0 (.m n) (.m m) kv = kv (B (Nat.beq n m)) := rfl
@[simp] theorem andK_pp : andK (.p n) (.p m) kv = kv (.p (n &&& m)) := rfl
@[simp] theorem andK_mp : andK (.m n) (.p m) kv = kv (.p (m ^^^ (n &&& m))) := rfl
@[simp] theorem orK_pp : orK (.p n) (.p m) kv = kv (.p (n ||| m)) := rfl
@[simp] theorem shrK_pk (d : Nat) : shrK (.p n) (.k d m) kv = kv (.p (n >>> m)) := rfl
@[simp] theorem shrK_mk (d : Nat) : shrK (.m n) (.k d m) kv = kv (.m (n >>> m)) := rfl
theorem shlK_pk (d : Nat) : shlK (.p n) (.k d m) kv = chkP (n <<< m) kv := rfl
theorem shlK_mk (d : Nat) : shlK (.m n) (.k d m) kv = chkM ((n + 1) <<< m - 1) kv := rfl
theorem addK_pp : addK (.p n) (.p m) kv = chkP (n + m) kv := rfl
theorem addK_mp : addK (.m n) (.p m) kv = sb m (n + 1) kv := rfl
theorem subK_pp : subK (.p n) (.p m) kv = sb n m kv := rfl
theorem chkP_ok {n : Nat} (h : n ≤ 9223372036854775807) (kv : KV) : chkP n kv = kv (.p n) := by
  show (Bool.rec fl (kv (.p n)) (Nat.ble n 9223372036854775807) : RC) = _
  rw [bleRec, if_pos h]
theorem chkM_ok {n : Nat} (h : n ≤ 9223372036854775807) (kv : KV) : chkM n kv = kv (.m n) := by
  show (Bool.rec fl (kv (.m n)) (Nat.ble n 9223372036854775807) : RC) = _
  rw [bleRec, if_pos h]
theorem sb_ge {n m : Nat} (h : m ≤ n) (kv : KV) : sb n m kv = kv (.p (n - m)) := by
  show (Bool.rec _ _ (Nat.ble m n) : RC) = _
  rw [bleRec, if_pos h]; rfl
theorem sb_lt {n m : Nat} (h : n < m) (kv : KV) : sb n m kv = kv (.m (m - n - 1)) := by
  show (Bool.rec _ _ (Nat.ble m n) : RC) = _
  rw [bleRec, if_neg (by omega)]; rfl
@[simp] theorem nilcK_ptr (id : Pth) (o : Nat) : nilcK (.ptr id o) kv = kv (.ptr id o) := rfl
@[simp] theorem fadK_ptr (id : Pth) (o j : Nat) : fadK (.ptr id o) j kv = kv (.ptr id (o + j)) := rfl
@[simp] theorem eqNp_pn (id : Pth) (o : Nat) : eqNp (.ptr id o) .nilp kv = kv .ff := rfl
@[simp] theorem eqNp_nn : eqNp .nilp .nilp kv = kv .tt := rfl
@[simp] theorem extK_tup (l : L) (j : Nat) : extK (.tup l) j kv = okK (nth j l) kv := rfl
@[simp] theorem okK_p : okK (.p n) kv = kv (.p n) := rfl
@[simp] theorem okK_m : okK (.m n) kv = kv (.m n) := rfl
@[simp] theorem okK_tt : okK .tt kv = kv .tt := rfl
@[simp] theorem okK_ff : okK .ff kv = kv .ff := rfl
@[simp] theorem okK_ptr (id : Pth) (o : Nat) : okK (.ptr id o) kv = kv (.ptr id o) := rfl
@[simp] theorem okK_slc (id : Pth) (a b d f : Nat) (x : Bool) : okK (.slc id a b x d f) kv = kv (.slc id a b x d f) := rfl
@[simp] theorem okK_map (id : Pth) : okK (.map id) kv = kv (.map id) := rfl
@[simp] theorem okK_str : okK (.str n m) kv = kv (.str n m) := rfl
@[simp] theorem okK_B (b : Bool) : okK (B b) kv = kv (B b) := by cases b <;> rfl
@[simp] theorem okK_vI (n : Int) : okK (vI n) kv = kv (vI n) := by cases n <;> rfl
@[simp] theorem lenLK_slc (id : Pth) (a b d f : Nat) (x : Bool) : lenLK (.slc id a b x d f) kv = kv (.p b) := rfl
@[simp] theorem lenLK_nils : lenLK .nils kv = kv (.p 0) := rfl
@[simp] theorem lenSK_str : lenSK (.str n m) kv = kv (.p n) := rfl
@[simp] theorem ldK_ptr (id : Pth) (o : Nat) : ldK (.ptr id o) s kv = okK (rdObj (s.get id) o) kv := rfl
attribute [simp] rdObj_row
theorem sameB_refl0 : ∀ v : V, (match v with | .p _ | .m _ | .tt | .ff | .ptr .. | .slc .. | .map _ => True | _ => False) → sameB v v = true := by
  intro v h
  cases v <;> first | exact h.elim | rfl | skip
  case p n => exact Nat.beq_refl n
  case m n => exact Nat.beq_refl n
  case ptr id o => show (Bool.rec false (Nat.beq o o) (beqP id id) : Bool) = true; rw [(beqP_eq _ _).2 rfl]; exact Nat.beq_refl o
  case slc id a b x d f =>
    show (Bool.rec false (Bool.rec false (Bool.rec false (Bool.rec false (Bool.rec false (Nat.beq f f) (Nat.beq d d)) (beqB x x)) (Nat.beq b b)) (Nat.beq a a)) (beqP id id) : Bool) = true
    have hx : beqB x x = true := by cases x <;> rfl
    rw [(beqP_eq _ _).2 rfl, hx]; simp
  case map id => exact (beqP_eq _ _).2 rfl
theorem sameK_ok {v : V} (h : sameB v v = true) (r : RC) : sameK v v r = r := by
  show (Bool.rec fl r (sameB v v) : RC) = _
  rw [h]
@[simp] theorem sameK_slc (id : Pth) (a b d f : Nat) (x : Bool) (r : RC) : sameK (.slc id a b x d f) (.slc id a b x d f) r = r := sameK_ok (sameB_refl0 _ trivial) r
@[simp] theorem sameK_map (id : Pth) (r : RC) : sameK (.map id) (.map id) r = r := sameK_ok (sameB_refl0 _ trivial) r
@[simp] theorem sameK_p (n : Nat) (r : RC) : sameK (.p n) (.p n) r = r := sameK_ok (sameB_refl0 _ trivial) r
@[simp] theorem sameK_ptr (id : Pth) (o : Nat) (r : RC) : sameK (.ptr id o) (.ptr id o) r = r := sameK_ok (sameB_refl0 _ trivial) r
theorem iadK_slc {id : Pth} {a b d f j sz : Nat} {x : Bool} (h : j < b) : iadK (.slc id a b x d f) (.p j) sz kv = kv (.ptr id (a + j * sz)) := by
  show (Bool.rec fl (kv (.ptr id (a + j * sz))) (Nat.ble (j + 1) b) : RC) = _
  rw [bleRec, if_pos (show j + 1 ≤ b from h)]
end
/-! a table, step by step -/
section
variable {P : Program}
theorem FEok_mt (f : Pth) : FEok P (num f) (pget .no f .mt) := by rw [pget_e]; exact .no
theorem FEok_pset {T : Tr FE} {p : Pth} {x : FE} (h : ∀ f, FEok P (num f) (pget .no f T)) (hx : FEok P (num p) x) (f : Pth) : FEok P (num f) (pget .no f (pset .no p x T)) := by
  rw [pget_pset]
  by_cases e : f = p
  · rw [if_pos e, e]; exact hx
  · rw [if_neg e]; exact h f
end
end Viv
