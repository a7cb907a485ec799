/-
  STEPS: addresses, parts, tuples, strings, slices.
-/
import Derived.Test.YtfppefhcmmfgcaaGreatPureJ
import Derived.Laws.Append
import Derived.Laws.StructEq
import Derived.Laws.RangeString
import Derived.Laws.BytesString
import Derived.Laws.MakeOwn
namespace Viv
open Go (Value World IntKind Addr Program Act Exit Oper Operand Ending undef)

section
variable {β : Beta} {P : Program} {s : St} {w : World}

theorem pickK_out {c a b : V} {c' a' b' : Value} (hc : VRel β c c') (ha : VRel β a a') (hb : VRel β b b') :
    PureOut β (pickK c a b) P (do pure (if ← Go.asBool c' then a' else b')) w := by
  cases hc <;> first | exact .fail (fun k => rfl) | skip
  case tt => exact .ok a a' (fun k => rfl) ha (by simp [Go.asBool])
  case ff => exact .ok b b' (fun k => rfl) hb (by simp [Go.asBool])

theorem fadK_out {x : V} {x' : Value} {t n off sz : Nat} {fields : Array Go.Field} {f : Go.Field} (hu : P.underlying t = some (.struct fields)) (hf : fields[n]? = some f) (ho : f.offset = off)
    (hs : (P.info? f.type).map (·.size) = some sz) (hz : sz ≠ 0) (hx : VRel β x x') : PureOut β (fadK x off) P (Go.Instr.fieldAt t x' n) w := by
  have run : ∀ b o, (Go.Instr.fieldAt t (.pointer (some ⟨b, o, none⟩)) n).run P w = .ok (.pointer (some ⟨b, o + off, none⟩)) w := by
    intro b o
    simp [Go.Instr.fieldAt, run_und hu, hf, Go.Instr.sureAddr, Go.fieldPlace, run_sizeOf hs, hz, addr_add, ho]
  cases hx <;> first | exact .fail (fun k => rfl) | skip
  case ptr id o b o' sz' hb => exact .ok _ _ (fun k => rfl) (.ptr id (o + off) b o' sz' hb) (by rw [run]; simp [Nat.add_assoc])
  case ptrm id o y hb => exact .ok _ _ (fun k => rfl) (.ptrm id (o + off) y hb) (by rw [← Nat.add_assoc]; exact run _ _)
  case ptri id o b hb => exact .ok _ _ (fun k => rfl) (.ptri id (o + off) b hb) (run _ _)

theorem fldK_out {x : V} {x' : Value} {t n off : Nat} {fields : Array Go.Field} {f : Go.Field} {d : Go.TypeDesc} (hu : P.underlying t = some (.struct fields)) (hf : fields[n]? = some f) (ho : f.offset = off)
    (hd : P.underlying f.type = some d) (ha : aggB d = false) (hx : VRel β x x') : PureOut β (fldK x off) P (Go.Instr.field t x' n) w := by
  cases hx <;> first | exact .fail (fun k => rfl) | skip
  case agg l l' hl h1 =>
    by_cases hb : nth off l = .bad
    · exact .fail (fun k => by show okK (nth off l) k = _; rw [hb]; rfl)
    · obtain ⟨_, hv⟩ := nth_ne_bad hb
      obtain ⟨y, hy, hr⟩ := hl.get off _ hv
      refine .ok _ y (fun k => by show okK (nth off l) k = _; rw [okK_eq hb]) hr ?_
      have hy' : l'.toArray[off]? = some y := by simpa using hy
      simp [Go.Instr.field, run_und hu, hf, Go.part, run_isAgg hd, ha, Go.asAgg, ho, hy]

theorem fldAK_out {x : V} {x' : Value} {t n off sz : Nat} {fields : Array Go.Field} {f : Go.Field} {d : Go.TypeDesc} (hu : P.underlying t = some (.struct fields)) (hf : fields[n]? = some f) (ho : f.offset = off)
    (hd : P.underlying f.type = some d) (ha : aggB d = true) (hs : (P.info? f.type).map (·.size) = some sz) (hx : VRel β x x') : PureOut β (fldAK x off sz) P (Go.Instr.field t x' n) w := by
  cases hx <;> first | exact .fail (fun k => rfl) | skip
  case agg l l' hl h1 =>
    have e : ∀ k, fldAK (.agg l) off sz k = if off + sz ≤ l.length then k (.agg ((l.drop off).take sz)) else fl := fun k => by
      show (Bool.rec fl (k (.agg (takeL sz (dropL off l)))) (Nat.ble (off + sz) (len l)) : RC) = _
      rw [bleRec, len_eq, takeL_eq, dropL_eq]
    by_cases hb : off + sz ≤ l.length
    · have hlen := hl.length
      have hsub : VRels β ((l.drop off).take sz) ((l'.drop off).take sz) := by
        refine .of_get (by simp; omega) (fun i v x hv hx => ?_)
        rw [List.getElem?_take] at hv hx
        split at hv
        · rename_i hi
          rw [if_pos hi, List.getElem?_drop] at hx
          rw [List.getElem?_drop] at hv
          exact hl.get2 hv hx
        · cases hv
      refine .ok (.agg ((l.drop off).take sz)) (.agg ((l'.drop off).take sz).toArray) (fun k => by rw [e, if_pos hb]) (.agg _ _ hsub (fun y hy => h1 y (List.mem_of_mem_drop (List.mem_of_mem_take hy)))) ?_
      have hex : l'.toArray.extract off (off + sz) = ((l'.drop off).take sz).toArray := by
        apply Array.ext'; simp [List.extract_eq_take_drop]
      simp [Go.Instr.field, run_und hu, hf, Go.part, run_isAgg hd, ha, Go.asAgg, ho, run_sizeOf hs]
    · exact .fail (fun k => by rw [e, if_neg hb])

theorem iadK_out {x i : V} {x' i' : Value} {t el sz : Nat} (hu : P.underlying t = some (.slice el)) (hs : (P.info? el).map (·.size) = some sz) (hx : VRel β x x') (hi : VRel β i i') :
    PureOut β (iadK x i sz) P (Go.Instr.indexAt t x' i') w := by
  cases hx <;> first | exact .fail (fun k => rfl) | skip
  case slc id off n ex c es b o szb c' hb h1 h2 h3 h4 h5 =>
    cases hi <;> first | exact .fail (fun k => rfl) | skip
    case p j hj =>
      have e : ∀ k, iadK (.slc id off n ex c es) (.p j) sz k = if j < n then k (.ptr id (off + j * sz)) else fl := fun k => by
        show (Bool.rec fl (k (.ptr id (off + j * sz))) (Nat.ble (j + 1) n) : RC) = _; rw [bleRec]; rfl
      by_cases hlt : j < n
      · refine .ok _ _ (fun k => by rw [e, if_pos hlt]) (.ptr id (off + j * sz) b o szb hb) ?_
        have c1 : ((0 : Int) ≤ (j : Int) ∧ (j : Int) < (n : Int)) := by omega
        simp [Go.Instr.indexAt, Go.asIntOf, run_und hu, c1, run_sizeOf hs, addr_add, hlt, Nat.add_assoc]
      · exact .fail (fun k => by rw [e, if_neg hlt])
theorem iadAK_out {x i : V} {x' i' : Value} {t el sz n : Nat} (hu : P.underlying t = some (.array n el)) (hs : (P.info? el).map (·.size) = some sz) (hx : VRel β x x') (hi : VRel β i i') :
    PureOut β (iadAK x i sz n) P (Go.Instr.indexAt t x' i') w := by
  cases hx <;> first | exact .fail (fun k => rfl) | skip
  all_goals
    cases hi <;> first | exact .fail (fun k => rfl) | skip
  case ptr.p id off b o szb hb j hj =>
      have e : ∀ k, iadAK (.ptr id off) (.p j) sz n k = if j < n then k (.ptr id (off + j * sz)) else fl := fun k => by
        show (Bool.rec fl (k (.ptr id (off + j * sz))) (Nat.ble (j + 1) n) : RC) = _; rw [bleRec]; rfl
      by_cases hlt : j < n
      · refine .ok _ _ (fun k => by rw [e, if_pos hlt]) (.ptr id (off + j * sz) b o szb hb) ?_
        simp [Go.Instr.indexAt, Go.asIntOf, run_und hu, run_sizeOf hs, addr_add, hlt, Nat.add_assoc, Go.Instr.sureAddr]
      · exact .fail (fun k => by rw [e, if_neg hlt])
  case ptrm.p id off y hb j hj =>
      have e : ∀ k, iadAK (.ptr id off) (.p j) sz n k = if j < n then k (.ptr id (off + j * sz)) else fl := fun k => by
        show (Bool.rec fl (k (.ptr id (off + j * sz))) (Nat.ble (j + 1) n) : RC) = _; rw [bleRec]; rfl
      by_cases hlt : j < n
      · refine .ok _ _ (fun k => by rw [e, if_pos hlt]) (.ptrm id (off + j * sz) y hb) ?_
        simp [Go.Instr.indexAt, Go.asIntOf, run_und hu, run_sizeOf hs, addr_add, hlt, Nat.add_assoc, Go.Instr.sureAddr]
      · exact .fail (fun k => by rw [e, if_neg hlt])
  case ptri.p id off b hb j hj =>
      have e : ∀ k, iadAK (.ptr id off) (.p j) sz n k = if j < n then k (.ptr id (off + j * sz)) else fl := fun k => by
        show (Bool.rec fl (k (.ptr id (off + j * sz))) (Nat.ble (j + 1) n) : RC) = _; rw [bleRec]; rfl
      by_cases hlt : j < n
      · refine .ok _ _ (fun k => by rw [e, if_pos hlt]) (.ptri id (off + j * sz) b hb) ?_
        simp [Go.Instr.indexAt, Go.asIntOf, run_und hu, run_sizeOf hs, addr_add, hlt, Go.Instr.sureAddr]
      · exact .fail (fun k => by rw [e, if_neg hlt])
  case ptr.k2 id off b o szb hb j hj =>
      have e : ∀ k, iadAK (.ptr id off) (.k 2 j) sz n k = if j < n then k (.ptr id (off + j * sz)) else fl := fun k => by
        show (Bool.rec fl (k (.ptr id (off + j * sz))) (Nat.ble (j + 1) n) : RC) = _; rw [bleRec]; rfl
      by_cases hlt : j < n
      · refine .ok _ _ (fun k => by rw [e, if_pos hlt]) (.ptr id (off + j * sz) b o szb hb) ?_
        simp [Go.Instr.indexAt, Go.asIntOf, run_und hu, run_sizeOf hs, addr_add, hlt, Nat.add_assoc, Go.Instr.sureAddr]
      · exact .fail (fun k => by rw [e, if_neg hlt])
  case ptrm.k2 id off y hb j hj =>
      have e : ∀ k, iadAK (.ptr id off) (.k 2 j) sz n k = if j < n then k (.ptr id (off + j * sz)) else fl := fun k => by
        show (Bool.rec fl (k (.ptr id (off + j * sz))) (Nat.ble (j + 1) n) : RC) = _; rw [bleRec]; rfl
      by_cases hlt : j < n
      · refine .ok _ _ (fun k => by rw [e, if_pos hlt]) (.ptrm id (off + j * sz) y hb) ?_
        simp [Go.Instr.indexAt, Go.asIntOf, run_und hu, run_sizeOf hs, addr_add, hlt, Nat.add_assoc, Go.Instr.sureAddr]
      · exact .fail (fun k => by rw [e, if_neg hlt])
  case ptri.k2 id off b hb j hj =>
      have e : ∀ k, iadAK (.ptr id off) (.k 2 j) sz n k = if j < n then k (.ptr id (off + j * sz)) else fl := fun k => by
        show (Bool.rec fl (k (.ptr id (off + j * sz))) (Nat.ble (j + 1) n) : RC) = _; rw [bleRec]; rfl
      by_cases hlt : j < n
      · refine .ok _ _ (fun k => by rw [e, if_pos hlt]) (.ptri id (off + j * sz) b hb) ?_
        simp [Go.Instr.indexAt, Go.asIntOf, run_und hu, run_sizeOf hs, addr_add, hlt, Go.Instr.sureAddr]
      · exact .fail (fun k => by rw [e, if_neg hlt])
  case ptr.k3 id off b o szb hb j hj =>
      have e : ∀ k, iadAK (.ptr id off) (.k 3 j) sz n k = if j < n then k (.ptr id (off + j * sz)) else fl := fun k => by
        show (Bool.rec fl (k (.ptr id (off + j * sz))) (Nat.ble (j + 1) n) : RC) = _; rw [bleRec]; rfl
      by_cases hlt : j < n
      · refine .ok _ _ (fun k => by rw [e, if_pos hlt]) (.ptr id (off + j * sz) b o szb hb) ?_
        simp [Go.Instr.indexAt, Go.asIntOf, run_und hu, run_sizeOf hs, addr_add, hlt, Nat.add_assoc, Go.Instr.sureAddr]
      · exact .fail (fun k => by rw [e, if_neg hlt])
  case ptrm.k3 id off y hb j hj =>
      have e : ∀ k, iadAK (.ptr id off) (.k 3 j) sz n k = if j < n then k (.ptr id (off + j * sz)) else fl := fun k => by
        show (Bool.rec fl (k (.ptr id (off + j * sz))) (Nat.ble (j + 1) n) : RC) = _; rw [bleRec]; rfl
      by_cases hlt : j < n
      · refine .ok _ _ (fun k => by rw [e, if_pos hlt]) (.ptrm id (off + j * sz) y hb) ?_
        simp [Go.Instr.indexAt, Go.asIntOf, run_und hu, run_sizeOf hs, addr_add, hlt, Nat.add_assoc, Go.Instr.sureAddr]
      · exact .fail (fun k => by rw [e, if_neg hlt])
  case ptri.k3 id off b hb j hj =>
      have e : ∀ k, iadAK (.ptr id off) (.k 3 j) sz n k = if j < n then k (.ptr id (off + j * sz)) else fl := fun k => by
        show (Bool.rec fl (k (.ptr id (off + j * sz))) (Nat.ble (j + 1) n) : RC) = _; rw [bleRec]; rfl
      by_cases hlt : j < n
      · refine .ok _ _ (fun k => by rw [e, if_pos hlt]) (.ptri id (off + j * sz) b hb) ?_
        simp [Go.Instr.indexAt, Go.asIntOf, run_und hu, run_sizeOf hs, addr_add, hlt, Go.Instr.sureAddr]
      · exact .fail (fun k => by rw [e, if_neg hlt])

theorem extK_out {x : V} {x' : Value} (j : Nat) (hx : VRel β x x') : PureOut β (extK x j) P (Go.Instr.extract x' j) w := by
  cases hx <;> first | exact .fail (fun k => rfl) | skip
  case tup l l' hl =>
    by_cases hb : nth j l = .bad
    · exact .fail (fun k => by show okK (nth j l) k = _; rw [hb]; rfl)
    · obtain ⟨_, hv⟩ := nth_ne_bad hb
      obtain ⟨y, hy, hr⟩ := hl.get j _ hv
      refine .ok _ y (fun k => by show okK (nth j l) k = _; rw [okK_eq hb]) hr ?_
      have hy' : l'.toArray[j]? = some y := by simpa using hy
      simp [Go.Instr.extract, hy]

/-! strings -/
theorem bnum_lt : ∀ l : List UInt8, bnum l < 256 ^ l.length
  | [] => by simp [bnum]
  | b :: l => by
    have := bnum_lt l; have := b.toNat_lt
    simp only [bnum, List.length_cons, Nat.pow_succ]
    omega
theorem bnum_drop : ∀ (l : List UInt8) (n : Nat), bnum (l.drop n) = bnum l / 256 ^ n
  | l, 0 => by simp
  | [], n + 1 => by simp [bnum]
  | b :: l, n + 1 => by
    have := b.toNat_lt
    rw [List.drop_succ_cons, bnum_drop l n, Nat.pow_succ, Nat.mul_comm, ← Nat.div_div_eq_div_mul]
    congr 1
    simp only [bnum]; omega
theorem bnum_take : ∀ (l : List UInt8) (n : Nat), bnum (l.take n) = bnum l % 256 ^ n
  | l, 0 => by simp [bnum, Nat.mod_one]
  | [], n + 1 => by simp [bnum]
  | b :: l, n + 1 => by
    have := b.toNat_lt
    simp only [List.take_succ_cons, bnum, bnum_take l n]
    rw [Nat.pow_succ, Nat.mul_comm (256 ^ n) 256, Nat.mod_mul]
    have e1 : (b.toNat + 256 * bnum l) / 256 = bnum l := by omega
    have e2 : (b.toNat + 256 * bnum l) % 256 = b.toNat := by omega
    rw [e1, e2]
theorem pow256 (n : Nat) : 2 ^ (8 * n) = 256 ^ n := by rw [Nat.pow_mul]
theorem bnum_get (l : List UInt8) (i : Nat) (h : i < l.length) : (bnum l >>> (8 * i)) % 256 = (l[i]).toNat := by
  rw [Nat.shiftRight_eq_div_pow, pow256, ← bnum_drop, List.drop_eq_getElem_cons h]
  have := (l[i]).toNat_lt
  simp only [bnum]; omega

theorem idxK_out {x i : V} {x' i' : Value} {t : Nat} (hu : P.underlying t = some .string) (hx : VRel β x x') (hi : VRel β i i') : PureOut β (idxK x i) P (Go.Instr.index t x' i') w := by
  cases hx <;> first | exact .fail (fun k => rfl) | skip
  case str l n b h1 h2 h3 =>
    cases hi <;> first | exact .fail (fun k => rfl) | skip
    case p j hj =>
      have e : ∀ k, idxK (.str l n) (.p j) k = if j < l then k (.by ((n >>> (8 * j)) % 256)) else fl := fun k => by
        show (Bool.rec fl (k (.by ((n >>> (8 * j)) % 256))) (Nat.ble (j + 1) l) : RC) = _; rw [bleRec]; rfl
      by_cases hlt : j < l
      · have hj' : j < b.size := by omega
        have hjl : j < b.data.toList.length := by simpa using hj'
        have hval : (n >>> (8 * j)) % 256 = (b.data.toList[j]).toNat := by rw [← h2]; exact bnum_get _ _ hjl
        refine .ok _ (.int .u8 ((b.data.toList[j]).toNat : Nat)) (fun k => by rw [e, if_pos hlt, hval]) (.by _ (UInt8.toNat_lt _)) ?_
        have hg : b[j]? = some (b.data.toList[j]) := by
          rw [getElem?_pos b j hj']; congr 1
        simp [Go.Instr.index, Go.asIntOf, run_und hu, hg]
      · exact .fail (fun k => by rw [e, if_neg hlt])

/-! slices of strings and of slices -/
theorem asNat_out {x : V} {x' : Value} (hx : VRel β x x') : (∀ k, asNat x k = fl) ∨ ∃ n : Nat, (∀ k, asNat x k = k n) ∧ x' = .int .i64 n ∧ n < 9223372036854775808 := by
  cases hx <;> first | exact .inl fun _ => rfl | skip
  case p n hn => exact .inr ⟨n, fun _ => rfl, rfl, hn⟩

theorem strSl_eq (l s o h : Nat) (k : KV) : strSl l s o h k = if o ≤ h ∧ h ≤ l then k (.str (h - o) ((s >>> (8 * o)) % (1 <<< (8 * (h - o))))) else fl := by
  show (Bool.rec fl (Bool.rec fl (k (.str (h - o) ((s >>> (8 * o)) % (1 <<< (8 * (h - o)))))) (Nat.ble h l)) (Nat.ble o h) : RC) = _
  rw [bleRec, bleRec]
  by_cases h1 : o ≤ h
  · by_cases h2 : h ≤ l
    · rw [if_pos h1, if_pos h2, if_pos ⟨h1, h2⟩]
    · rw [if_pos h1, if_neg h2, if_neg (fun e => h2 e.2)]
  · rw [if_neg h1, if_neg (fun e => h1 e.1)]
theorem extract_rel {b : ByteArray} {l n o h : Nat} (h1 : b.size = l) (h2 : bnum b.data.toList = n) (h3 : l < 9223372036854775808) (ho : o ≤ h) (hh : h ≤ l) :
    VRel β (.str (h - o) ((n >>> (8 * o)) % (1 <<< (8 * (h - o))))) (.string (b.extract o h)) := by
  have hl : b.data.toList.length = l := by simpa using h1
  have hd : (b.extract o h).data.toList = (b.data.toList.drop o).take (h - o) := by simp [ByteArray.data_extract, List.extract_eq_take_drop]
  refine .str _ _ _ (by simp [ByteArray.size_extract]; omega) ?_ (by omega)
  rw [hd, bnum_take, bnum_drop, h2, Nat.shiftRight_eq_div_pow, pow256, Nat.shiftLeft_eq, Nat.one_mul, pow256]

theorem slSl_eq (id : Pth) (off n : Nat) (ex : Bool) (c es sz o h : Nat) (k : KV) : slSl id off n ex c es sz o h k =
    if o ≤ h ∧ h ≤ c then (if ex = true then k (.slc id (if c = o then off else off + o * sz) (h - o) ex (c - o) es) else if o + 1 ≤ c then k (.slc id (off + o * sz) (h - o) ex (c - o) es) else if o = 0 then k (.slc id off (h - o) ex (c - o) es) else k .esl) else fl := by
  unfold slSl
  rw [bleRec, bleRec]
  by_cases h1 : o ≤ h
  · by_cases h2 : h ≤ c
    · rw [if_pos h1, if_pos h2, if_pos ⟨h1, h2⟩]
      cases ex
      · show (Bool.rec (Bool.rec (k .esl) (k (.slc id off (h - o) false (c - o) es)) (Nat.beq o 0)) (k (.slc id (off + o * sz) (h - o) false (c - o) es)) (Nat.ble (o + 1) c) : RC) = _
        rw [bleRec, beqRec]; rfl
      · show k (.slc id (Bool.rec (off + o * sz) off (Nat.beq c o)) (h - o) true (c - o) es) = _
        rw [beqRec]; rfl
    · rw [if_pos h1, if_neg h2, if_neg (fun e => h2 e.2)]
  · rw [if_neg h1, if_neg (fun e => h1 e.1)]

theorem run_slice_slice {t el sz : Nat} (hu : P.underlying t = some (.slice el)) (hs : (P.info? el).map (·.size) = some sz) (a : Option Addr) (len cap : Nat) (lo hi mx : Option Value) (l h m : Nat)
    (hb : (Go.Instr.sliceBounds true len cap lo hi mx).run P w = .ok (l, h, m) w) :
    (Go.Instr.sliceAt t (.slice a len cap) lo hi mx).run P w = .ok (.slice (if m = l then a else a.map (·.add (l * sz))) (h - l) (m - l)) w := by
  have e : (Go.Instr.sliceAt t (.slice a len cap) lo hi mx).run P w = (Go.Instr.slice t (.slice a len cap) lo hi mx).run P w := by
    simp [Go.Instr.sliceAt, run_und hu]
  rw [e]
  simp only [Go.Instr.slice, Go.Sem.run_bind, run_und hu, Go.Result.andThen_ok, hb, run_sizeOf hs, Go.Sem.run_pure]
theorem run_slice_str {t : Nat} (hu : P.underlying t = some .string) (b : ByteArray) (lo hi : Option Value) (l h m : Nat)
    (hb : (Go.Instr.sliceBounds false b.size b.size lo hi none).run P w = .ok (l, h, m) w) :
    (Go.Instr.sliceAt t (.string b) lo hi none).run P w = .ok (.string (b.extract l h)) w := by
  have e : (Go.Instr.sliceAt t (.string b) lo hi none).run P w = (Go.Instr.slice t (.string b) lo hi none).run P w := by
    simp [Go.Instr.sliceAt, run_und hu]
  rw [e]
  simp only [Go.Instr.slice, Go.Sem.run_bind, run_und hu, Go.Result.andThen_ok, Option.isSome_none, Bool.false_eq_true, if_false, hb, Go.Sem.run_pure]

theorem bound_zero {code : Go.BoundsCode} : (Go.Instr.sliceBound (.int .i64 0) 0 code).run P w = .ok 0 w := by
  simp [Go.Instr.sliceBound, Go.asIntOf]
theorem bound_ok {n y : Nat} {code : Go.BoundsCode} (h : n ≤ y) : (Go.Instr.sliceBound (.int .i64 n) y code).run P w = .ok n w := by
  have c : (0 : Int) ≤ (n : Int) ∧ (n : Int) ≤ (y : Int) := by omega
  simp [Go.Instr.sliceBound, Go.asIntOf, c]

/-- the result of a slice expression without a third bound, and its relation -/
theorem sl_rel {id : Pth} {off n : Nat} {ex : Bool} {c es b o szb c' : Nat} (hb : β id = some (.row b o szb)) (h1 : n ≤ c) (h2 : c ≤ c') (h3 : ex = true → c' = c) (h4 : o + off + c' * es ≤ szb) (h5 : c < 281474976710656)
    {l h : Nat} (hl : l ≤ h) (hh : h ≤ c) :
    ∃ v, (∀ k, slSl id off n ex c es es l h k = k v) ∧ VRel β v (.slice (if c' = l then some ⟨b, o + off, none⟩ else (some ⟨b, o + off, none⟩ : Option Addr).map (·.add (l * es))) (h - l) (c' - l)) := by
  have hmul : (c' - l) * es + l * es = c' * es := by rw [← Nat.add_mul]; congr 1; omega
  by_cases hex : ex = true
  · have hc := h3 hex; subst hc
    refine ⟨_, fun k => by rw [slSl_eq, if_pos ⟨hl, hh⟩, if_pos hex], ?_⟩
    by_cases e : c' = l
    · rw [if_pos e, if_pos e]
      exact .slc _ _ _ _ _ _ b o szb _ hb (by omega) (Nat.le_refl _) (fun _ => rfl) (by omega) (by omega)
    · rw [if_neg e, if_neg e]
      simp only [Option.map_some, addr_add]
      rw [show o + off + l * es = o + (off + l * es) by omega]
      exact .slc _ _ _ _ _ _ b o szb _ hb (by omega) (Nat.le_refl _) (fun _ => rfl) (by omega) (by omega)
  · by_cases e : l + 1 ≤ c
    · refine ⟨_, fun k => by rw [slSl_eq, if_pos ⟨hl, hh⟩, if_neg hex, if_pos e], ?_⟩
      rw [if_neg (by omega)]
      simp only [Option.map_some, addr_add]
      rw [show o + off + l * es = o + (off + l * es) by omega]
      exact .slc _ _ _ _ _ _ b o szb _ hb (by omega) (by omega) (fun x => absurd x hex) (by omega) (by omega)
    · by_cases e0 : l = 0
      · subst e0
        refine ⟨_, fun k => by rw [slSl_eq, if_pos ⟨hl, hh⟩, if_neg hex, if_neg e, if_pos rfl], ?_⟩
        have hz : (if c' = 0 then some ⟨b, o + off, none⟩ else (some ⟨b, o + off, none⟩ : Option Addr).map (·.add (0 * es))) = some ⟨b, o + off, none⟩ := by
          simp [Addr.add]
        rw [hz]
        exact .slc _ _ _ _ _ _ b o szb _ hb (by omega) (by omega) (fun x => absurd x hex) (by simpa using h4) (by omega)
      · refine ⟨_, fun k => by rw [slSl_eq, if_pos ⟨hl, hh⟩, if_neg hex, if_neg e, if_neg e0], ?_⟩
        have : h - l = 0 := by omega
        rw [this]
        split <;> exact .esl _ _

/-- the two bounds of a slice expression as numbers -/
theorem bounds_out {o h : V} {lo hi : Option Value} {lv : V} (len : Nat) (hlv : lv = .p len) (ho : (lo = none ∧ o = .p 0) ∨ ∃ y, lo = some y ∧ VRel β o y) (hh : (hi = none ∧ h = lv) ∨ ∃ y, hi = some y ∧ VRel β h y) :
    (∀ k : Nat → Nat → RC, asNat o (fun o => asNat h (fun h => k o h)) = fl) ∨ ∃ l m : Nat, (∀ k : Nat → Nat → RC, asNat o (fun o => asNat h (fun h => k o h)) = k l m) ∧
      ((lo = none ∧ l = 0) ∨ lo = some (.int .i64 l)) ∧ ((hi = none ∧ m = len) ∨ hi = some (.int .i64 m)) := by
  have h1 : (∀ k : Nat → RC, asNat o k = fl) ∨ ∃ l : Nat, (∀ k : Nat → RC, asNat o k = k l) ∧ ((lo = none ∧ l = 0) ∨ lo = some (.int .i64 l)) := by
    rcases ho with ⟨rfl, rfl⟩ | ⟨y, rfl, hy⟩
    · exact .inr ⟨0, fun k => rfl, .inl ⟨rfl, rfl⟩⟩
    · rcases asNat_out hy with hf | ⟨n, hk, rfl, _⟩
      · exact .inl hf
      · exact .inr ⟨n, hk, .inr rfl⟩
  have h2 : (∀ k : Nat → RC, asNat h k = fl) ∨ ∃ l : Nat, (∀ k : Nat → RC, asNat h k = k l) ∧ ((hi = none ∧ l = len) ∨ hi = some (.int .i64 l)) := by
    rcases hh with ⟨rfl, rfl⟩ | ⟨y, rfl, hy⟩
    · exact .inr ⟨len, fun k => by rw [hlv]; rfl, .inl ⟨rfl, rfl⟩⟩
    · rcases asNat_out hy with hf | ⟨n, hk, rfl, _⟩
      · exact .inl hf
      · exact .inr ⟨n, hk, .inr rfl⟩
  rcases h1 with h1 | ⟨l, hl, hl'⟩
  · exact .inl fun k => by rw [h1]
  · rcases h2 with h2 | ⟨m, hm, hm'⟩
    · exact .inl fun k => by rw [hl, h2]
    · exact .inr ⟨l, m, fun k => by rw [hl, hm], hl', hm'⟩

theorem slS_out {x o h : V} {x' : Value} {t : Nat} (hu : P.underlying t = some .string) (hx : VRel β x x')
    {lo hi : Option Value} (ho : (lo = none ∧ o = .p 0) ∨ ∃ y, lo = some y ∧ VRel β o y) (hh : (hi = none ∧ h = lenV x) ∨ ∃ y, hi = some y ∧ VRel β h y) :
    PureOut β (slS x o h) P (Go.Instr.sliceAt t x' lo hi none) w := by
  cases hx <;> first | exact .fail (fun k => rfl) | skip
  case str l n b h1 h2 h3 =>
    rcases bounds_out l rfl ho hh with hf | ⟨lo', hi', hk, hlo, hhi⟩
    · exact .fail (fun k => hf _)
    · have e : ∀ k, slS (.str l n) o h k = strSl l n lo' hi' k := fun k => hk _
      by_cases hb : lo' ≤ hi' ∧ hi' ≤ l
      · refine .ok _ _ (fun k => by rw [e, strSl_eq, if_pos hb]) (extract_rel h1 h2 h3 hb.1 hb.2) ?_
        refine run_slice_str hu b lo hi lo' hi' b.size ?_
        rcases hlo with ⟨rfl, rfl⟩ | rfl <;> rcases hhi with ⟨rfl, rfl⟩ | rfl <;> simp [Go.Instr.sliceBounds, bound_ok, hb, h1]
      · exact .fail (fun k => by rw [e, strSl_eq, if_neg hb])

theorem slL_out {x o h : V} {x' : Value} {t el sz : Nat} (hu : P.underlying t = some (.slice el)) (hs : (P.info? el).map (·.size) = some sz) (hx : VRel β x x')
    {lo hi : Option Value} (ho : (lo = none ∧ o = .p 0) ∨ ∃ y, lo = some y ∧ VRel β o y) (hh : (hi = none ∧ h = lenV x) ∨ ∃ y, hi = some y ∧ VRel β h y) :
    PureOut β (slL x sz o h) P (Go.Instr.sliceAt t x' lo hi none) w := by
  cases hx <;> first | exact .fail (fun k => rfl) | skip
  case slc id off n ex c es b o' szb c' hb g1 g2 g3 g4 g5 =>
    rcases bounds_out n rfl ho hh with hf | ⟨lo', hi', hk, hlo, hhi⟩
    · exact .fail (fun k => hf _)
    · have e : ∀ k, slL (.slc id off n ex c es) sz o h k = if es = sz then slSl id off n ex c es sz lo' hi' k else fl := fun k => by
        show asNat o (fun o => asNat h (fun h => Bool.rec fl (slSl id off n ex c es sz o h k) (Nat.beq es sz))) = _
        rw [hk, beqRec]
      by_cases he : es = sz
      · subst he
        by_cases hb' : lo' ≤ hi' ∧ hi' ≤ c
        · obtain ⟨v, hv, hr⟩ := sl_rel hb g1 g2 g3 g4 g5 hb'.1 hb'.2
          refine .ok v _ (fun k => by rw [e, if_pos rfl, hv]) hr ?_
          refine run_slice_slice hu hs _ n c' lo hi none lo' hi' c' ?_
          have q1 : hi' ≤ c' := by omega
          rcases hlo with ⟨rfl, rfl⟩ | rfl <;> rcases hhi with ⟨rfl, rfl⟩ | rfl <;> simp [Go.Instr.sliceBounds, bound_ok, hb', q1]
        · exact .fail (fun k => by rw [e, if_pos rfl, slSl_eq, if_neg hb'])
      · exact .fail (fun k => by rw [e, if_neg he])
  case nils =>
    rcases bounds_out 0 rfl ho hh with hf | ⟨lo', hi', hk, hlo, hhi⟩
    · exact .fail (fun k => hf _)
    · have e : ∀ k, slL .nils sz o h k = if lo' + hi' = 0 then k .nils else fl := fun k => by
        show asNat o (fun o => asNat h (fun h => Bool.rec fl (k .nils) (Nat.beq (o + h) 0))) = _
        rw [hk, beqRec]
      by_cases hb' : lo' + hi' = 0
      · have z1 : lo' = 0 := by omega
        have z2 : hi' = 0 := by omega
        subst z1; subst z2
        refine .ok .nils _ (fun k => by rw [e, if_pos hb']) .nils ?_
        have := run_slice_slice (w := w) hu hs none 0 0 lo hi none 0 0 0 (by
          rcases hlo with ⟨rfl, _⟩ | rfl <;> rcases hhi with ⟨rfl, _⟩ | rfl <;> simp [Go.Instr.sliceBounds, bound_zero])
        simpa using this
      · exact .fail (fun k => by rw [e, if_neg hb'])

theorem slSl3_eq (id : Pth) (off n : Nat) (ex : Bool) (c es sz o h m : Nat) (k : KV) : slSl3 id off n ex c es sz o h m k =
    if o ≤ h ∧ h ≤ m ∧ m ≤ c then k (.slc id (if m = o then off else off + o * sz) (h - o) true (m - o) es) else fl := by
  unfold slSl3
  rw [bleRec, bleRec, bleRec]
  by_cases h1 : o ≤ h
  · by_cases h2 : h ≤ m
    · by_cases h3 : m ≤ c
      · rw [if_pos h1, if_pos h2, if_pos h3, if_pos ⟨h1, h2, h3⟩, beqRec]; rfl
      · rw [if_pos h1, if_pos h2, if_neg h3, if_neg (fun e => h3 e.2.2)]
    · rw [if_pos h1, if_neg h2, if_neg (fun e => h2 e.2.1)]
  · rw [if_neg h1, if_neg (fun e => h1 e.1)]
theorem sl3K_out {x h m : V} {x' h' m' : Value} {t el sz : Nat} (hu : P.underlying t = some (.slice el)) (hs : (P.info? el).map (·.size) = some sz) (hx : VRel β x x') (hh : VRel β h h') (hm : VRel β m m') :
    PureOut β (sl3K x sz (.p 0) h m) P (Go.Instr.sliceAt t x' none (some h') (some m')) w := by
  rcases asNat_out hh with hf | ⟨hi, hk, rfl, _⟩
  · refine .fail (fun k => ?_)
    cases hx <;> first | rfl | (show asNat h _ = fl; exact hf _)
  · rcases asNat_out hm with hf | ⟨mi, hk', rfl, _⟩
    · refine .fail (fun k => ?_)
      cases hx <;> first | rfl | (show asNat h (fun h => asNat m _) = fl; rw [hk, hf])
    · cases hx <;> first | exact .fail (fun k => rfl) | skip
      case slc id off n ex c es b o' szb c' hb g1 g2 g3 g4 g5 =>
        have e : ∀ k, sl3K (.slc id off n ex c es) sz (.p 0) h m k = if es = sz then slSl3 id off n ex c es sz 0 hi mi k else fl := fun k => by
          show asNat h (fun h => asNat m (fun m0 => Bool.rec fl (slSl3 id off n ex c es sz 0 h m0 k) (Nat.beq es sz))) = _
          rw [hk, hk', beqRec]
        by_cases he : es = sz
        · subst he
          by_cases hb' : 0 ≤ hi ∧ hi ≤ mi ∧ mi ≤ c
          · refine .ok _ _ (fun k => by rw [e, if_pos rfl, slSl3_eq, if_pos hb']) ?_ (run_slice_slice hu hs (some ⟨b, o' + off, none⟩) n c' none (some (.int .i64 hi)) (some (.int .i64 mi)) 0 hi mi ?_)
            · have e1 : (if mi = 0 then (some ⟨b, o' + off, none⟩ : Option Addr) else (some ⟨b, o' + off, none⟩ : Option Addr).map (·.add (0 * es))) = some ⟨b, o' + off, none⟩ := by simp [Addr.add]
              have e2 : (if mi = 0 then off else off + 0 * es) = off := by simp
              rw [e1, e2]
              have hm' : mi * es ≤ c' * es := Nat.mul_le_mul_right _ (by omega)
              exact .slc _ _ _ _ _ _ b o' szb _ hb (by omega) (Nat.le_refl _) (fun _ => rfl) (by simp; omega) (by omega)
            · have q : mi ≤ c' := by omega
              simp [Go.Instr.sliceBounds, bound_ok, hb', q]
          · exact .fail (fun k => by rw [e, if_pos rfl, slSl3_eq, if_neg hb'])
        · exact .fail (fun k => by rw [e, if_neg he])
      case nils =>
        have e : ∀ k, sl3K .nils sz (.p 0) h m k = if 0 + hi + mi = 0 then k .nils else fl := fun k => by
          show asNat h (fun h => asNat m (fun m0 => Bool.rec fl (k .nils) (Nat.beq (0 + h + m0) 0))) = _
          rw [hk, hk', beqRec]
        by_cases hb' : 0 + hi + mi = 0
        · have z1 : hi = 0 := by omega
          have z2 : mi = 0 := by omega
          subst z1; subst z2
          refine .ok .nils _ (fun k => by rw [e, if_pos hb']) .nils ?_
          have := run_slice_slice (w := w) hu hs none 0 0 none (some (.int .i64 (0 : Nat))) (some (.int .i64 (0 : Nat))) 0 0 0 (by
            simp [Go.Instr.sliceBounds, bound_zero])
          simpa using this
        · exact .fail (fun k => by rw [e, if_neg hb'])
end
end Viv

/-
  STEPS: append, make, clear, lengths.
-/
namespace Viv
open Go (Value World IntKind Addr Program Act Exit Oper Operand Ending undef)

section
variable {β : Beta} {P : Program} {s : St} {w : World}

theorem lenSK_out {x : V} {x' : Value} {t ty : Nat} (hu : P.underlying t = some .string) (hx : VRel β x x') : PureOut β (lenSK x) P (Go.Builtin.len_ #[t] ty #[x']) w := by
  cases hx <;> first | exact .fail (fun k => rfl) | skip
  case str l n b h1 h2 h3 =>
    refine .ok (.p l) (.int .i64 l) (fun k => rfl) (.p l (by omega)) ?_
    simp [Go.Builtin.len_, run_und hu, Go.goInt, h1]
theorem lenLK_out {x : V} {x' : Value} {t el ty : Nat} (hu : P.underlying t = some (.slice el)) (hx : VRel β x x') : PureOut β (lenLK x) P (Go.Builtin.len_ #[t] ty #[x']) w := by
  cases hx <;> first | exact .fail (fun k => rfl) | skip
  case slc id off n ex c es b o sz c' hb h1 h2 h3 h4 h5 =>
    refine .ok (.p n) (.int .i64 n) (fun k => rfl) (.p n (by omega)) ?_
    simp [Go.Builtin.len_, run_und hu, Go.goInt]
  case esl a c' =>
    refine .ok (.p 0) (.int .i64 (0 : Nat)) (fun k => rfl) (.p 0 (by omega)) ?_
    simp [Go.Builtin.len_, run_und hu, Go.goInt]
  case nils =>
    refine .ok (.p 0) (.int .i64 (0 : Nat)) (fun k => rfl) (.p 0 (by omega)) ?_
    simp [Go.Builtin.len_, run_und hu, Go.goInt]

/-! what is appended -/
theorem strBytes_rel : ∀ (l : List UInt8), VRels β (strBytes l.length (bnum l)) (l.map fun b => (.int .u8 b.toNat : Value))
  | [] => .nil
  | b :: l => by
    have hb := b.toNat_lt
    have e1 : bnum (b :: l) % 256 = b.toNat := by simp only [bnum]; omega
    have e2 : bnum (b :: l) / 256 = bnum l := by simp only [bnum]; omega
    have : strBytes (b :: l).length (bnum (b :: l)) = .by (bnum (b :: l) % 256) :: strBytes l.length (bnum (b :: l) / 256) := rfl
    rw [this, e1, e2]
    exact .cons _ _ _ _ (.by _ hb) (strBytes_rel l)

theorem cell_heap {w w2 : World} (h : w2.heap = w.heap) (a : Addr) : w2.cell? a = w.cell? a := by unfold World.cell?; rw [h]
/-- a slice's elements in the world, as append reads them -/
theorem run_first (h : Sim β s w) {id : Pth} {b o szb : Nat} (hb : β id = some (.row b o szb)) {off n c' sz : Nat} {l : L} (hl : rdMany (s.get id) off (n * sz) = l) (hlen : l.length = n * sz) :
    ∃ xs : List Value, xs.length = n * sz ∧ VRels β l xs ∧ (∀ x ∈ xs, x.oneCell' = true) ∧ ∀ w2 : World, w2.heap = w.heap → (Go.Builtin.firstCells sz n (.slice (some ⟨b, o + off, none⟩) n c')).run P w2 = .ok xs.toArray w2 := by
  by_cases h0 : n * sz = 0
  · rw [h0] at hlen
    cases l with
    | nil => exact ⟨[], by simp [h0], .nil, by simp, fun w2 _ => by simp [Go.Builtin.firstCells, h0, Go.loadCells, Go.loadCellsFrom]⟩
    | cons v l => simp at hlen
  · subst hl
    obtain ⟨xs, a1, a2, a3, a4⟩ := h.readMany hb hlen h0
    refine ⟨xs, a1, a2, a3, fun w2 hw2 => ?_⟩
    have := Go.run_loadCells_list (P := P) w2 ⟨b, o + off, none⟩ xs (fun j v hv => by rw [addr_add, cell_heap hw2]; exact a4 j v hv)
    rw [a1] at this
    simpa [Go.Builtin.firstCells] using this

/-- the second operand: how many elements, and their cells -/
theorem newCells_out (h : Sim β s w) {y : V} {y' : Value} {sz : Nat} (hy : VRel β y y') :
    (∀ k, newCells y sz s k = fl) ∨ ∃ m l xs, (∀ k, newCells y sz s k = k m l) ∧ l.length = m * sz ∧ VRels β l xs ∧ (∀ x ∈ xs, x.oneCell' = true) ∧
      (Go.Builtin.lenOf y').run P w = .ok m w ∧ ∀ w2 : World, w2.heap = w.heap → (Go.Builtin.firstCells sz m y').run P w2 = .ok xs.toArray w2 := by
  cases hy <;> first | exact .inl fun _ => rfl | skip
  case str l n b h1 h2 h3 =>
    have e : ∀ k, newCells (.str l n) sz s k = if sz = 1 then k l (strBytes l n) else fl := fun k => by
      show (Bool.rec fl (k l (strBytes l n)) (Nat.beq sz 1) : RC) = _; rw [beqRec]
    by_cases hk : sz = 1
    · subst hk
      refine .inr ⟨l, strBytes l n, b.data.toList.map fun b => .int .u8 b.toNat, fun k => by rw [e, if_pos rfl], ?_, ?_, ?_, ?_, ?_⟩
      · have : ∀ (l n : Nat), (strBytes l n).length = l := by
          intro l
          induction l with
          | zero => intro n; rfl
          | succ l ih => intro n; show (V.by _ :: strBytes l (n / 256)).length = _; simp [ih]
        rw [this, Nat.mul_one]
      · have := strBytes_rel (β := β) b.data.toList
        rw [h2, show b.data.toList.length = l from by simpa using h1] at this
        exact this
      · intro x hx
        simp only [List.mem_map] at hx
        obtain ⟨c, _, rfl⟩ := hx; rfl
      · simp [Go.Builtin.lenOf, h1]
      · intro w2 _
        have : b.extract 0 l = b := by rw [← h1]; simp
        simp [Go.Builtin.firstCells, this]
        apply Array.ext'; simp
    · exact .inl fun k => by rw [e, if_neg hk]
  case slc id off n ex c es b o szb c' hb h1 h2 h3 h4 h5 =>
    have e : ∀ k, newCells (.slc id off n ex c es) sz s k = if (rdMany (s.get id) off (n * sz)).length = n * sz then (if es = sz then k n (rdMany (s.get id) off (n * sz)) else fl) else fl := fun k => by
      show (Bool.rec fl (Bool.rec fl (k n (rdMany (s.get id) off (n * sz))) (Nat.beq es sz)) (Nat.beq (len (rdMany (s.get id) off (n * sz))) (n * sz)) : RC) = _
      rw [beqRec, beqRec, len_eq]
    by_cases hl : (rdMany (s.get id) off (n * sz)).length = n * sz
    · by_cases he : es = sz
      · obtain ⟨xs, a1, a2, a3, a4⟩ := run_first (P := P) (c' := c') h hb rfl hl
        exact .inr ⟨n, _, xs, fun k => by rw [e, if_pos hl, if_pos he], hl, a2, a3, by simp [Go.Builtin.lenOf], a4⟩
      · exact .inl fun k => by rw [e, if_pos hl, if_neg he]
    · exact .inl fun k => by rw [e, if_neg hl]
  case esl a c' =>
    exact .inr ⟨0, [], [], fun k => rfl, by simp, .nil, by simp, by simp [Go.Builtin.lenOf], fun w2 _ => by simp [Go.Builtin.firstCells, Go.loadCells, Go.loadCellsFrom]⟩
  case nils =>
    exact .inr ⟨0, [], [], fun k => rfl, by simp, .nil, by simp, by simp [Go.Builtin.lenOf], fun w2 _ => by simp [Go.Builtin.firstCells]⟩

/-! what append does in the world -/
/-- the parts of the element's type that append looks at -/
structure ElemOk (P : Program) (t el sz : Nat) : Prop where
  und : P.underlying t = some (.slice el)
  info : ∃ i z, P.info? el = some i ∧ i.size = sz ∧ i.bytes ≤ 4096 ∧ i.zero = some z ∧ z.cells.size = sz
  pos : sz ≠ 0

theorem notInt_zeros {d : Go.TypeDesc} (h : ∀ k, d ≠ .int k) : (match d with | .int _ => true | _ => false) = false := by
  cases d <;> first | rfl | exact absurd rfl (h _)

theorem run_append_in {t el sz t2 : Nat} {d2 : Go.TypeDesc} (he : ElemOk P t el sz) (hy : P.underlying t2 = some d2) (hd : d2 = .string ∨ ∃ e, d2 = .slice e) {ty n c' m : Nat} {a : Addr} {y' : Value} {xs : List Value} {w' : World}
    (hlen : (Go.Builtin.lenOf y').run P w = .ok m w) (hnew : (Go.Builtin.firstCells sz m y').run P w = .ok xs.toArray w) (hfit : n + m ≤ c')
    (hst : (Go.storeCells (a.add (n * sz)) xs 0).run P w = .ok () w') :
    (Go.Builtin.append_ #[t, t2] ty #[.slice (some a) n c', y']).run P w = .ok (.slice (some a) (n + m) c') w' := by
  obtain ⟨i, z, hi, hs, hbt, hz, hzs⟩ := he.info
  rcases hd with rfl | ⟨e2, rfl⟩ <;> simp [Go.Builtin.append_, run_und he.und, run_und hy, Go.sizeOf, Go.typeInfo, hi, hs, hlen, hfit, hnew, hst]

/-- the new capacity that the tape gives -/
def newCap (w : World) (need old el : Nat) : Nat := Go.Question.cut (.appendCap need old el) (w.tape w.drawn (.appendCap need old el))
theorem newCap_ge (w : World) (need old el : Nat) : need ≤ newCap w need old el := by simp [newCap, Go.Question.cut]

theorem run_append_grow {t el sz t2 : Nat} {d2 : Go.TypeDesc} (he : ElemOk P t el sz) (hy : P.underlying t2 = some d2) (hd : d2 = .string ∨ ∃ e, d2 = .slice e) {ty n c' m : Nat} {a : Option Addr} {y' : Value} {old xs : List Value}
    (hlen : (Go.Builtin.lenOf y').run P w = .ok m w) (hold : (Go.Builtin.firstCells sz n (.slice a n c')).run P w.drew = .ok old.toArray w.drew) (hnew : (Go.Builtin.firstCells sz m y').run P w.drew = .ok xs.toArray w.drew) (hfit : ¬ n + m ≤ c')
    (hbig : n + m ≤ 17179869184) :
    ∃ more : List Value, (Go.Builtin.append_ #[t, t2] ty #[.slice a n c', y']).run P w = .ok (.slice (some ⟨w.heap.size, 0, none⟩) (n + m) (newCap w (n + m) c' el)) (w.drew.alloc (.cells (old.toArray ++ (xs.toArray ++ more.toArray)) el)) ∧
      more.length = (newCap w (n + m) c' el - (n + m)) * sz := by
  obtain ⟨i, z, hi, hs, hbt, hz, hzs⟩ := he.info
  have hgrow : ¬ (Go.Builtin.nextslicecap (n + m) c' * i.bytes > 2 ^ 48) := by
    have h1 : (n + m) * i.bytes ≤ 17179869184 * 4096 := Nat.mul_le_mul hbig hbt
    have := Go.growslice_fits (need := n + m) (old := c') (bytes := i.bytes) (by omega) (by omega)
    omega
  have hforced : (Go.Question.appendCap (n + m) c' el).forced = false := rfl
  refine ⟨(Go.Builtin.zeroCells z.cells (newCap w (n + m) c' el - (n + m))).toList, ?_, by simp [Go.Builtin.zeroCells, hzs]⟩
  have hn1' : ¬ (9223372036854775807 < (n : Int) + (m : Int) ∧ i.bytes = 0) := by
    intro h; have := h.1; omega
  rcases hd with rfl | ⟨e2, rfl⟩ <;> simp [Go.Builtin.append_, run_und he.und, run_und hy, Go.sizeOf, Go.typeInfo, Go.zeroValue, hi, hs, hlen, hfit, hn1', hgrow, hforced, hold, hnew, hz, Go.newRow, newCap]

theorem deepen_zero (t : NT V) : deepen 0 t = t := rfl
theorem deepen_succ (k : Nat) (t : NT V) : deepen (k + 1) t = deepen k (.n t .mt) := rfl
theorem deepen_get (z : V) : ∀ (k d : Nat) (t : NT V) (i : Nat), i < 2 ^ d → nget z (d + k) (deepen k t) i = nget z d t i
  | 0, d, t, i, h => rfl
  | k + 1, d, t, i, h => by
    rw [deepen_succ, show d + (k + 1) = (d + 1) + k by omega, deepen_get z k (d + 1) (.n t .mt) i (by rw [Nat.pow_succ]; omega), nget_succ, if_neg (by omega)]; rfl

/-- a slice that was made anew by an append -/
theorem grown_rel (h : Sim β s w) {l : L} {all more : List Value} {m c' sz el : Nat} (hr : VRels β l all) (h1 : ∀ x ∈ all, x.oneCell' = true) (hlen : all.length = m * sz) (hmore : more.length = (c' - m) * sz) (hc : m ≤ c') (hm : m < 281474976710656) (w' : World) (hw : w' = w.drew.alloc (.cells (all ++ more).toArray el)) :
    After β s w (.slc s.next 0 m false m sz) (s.push (mkVec l)) (.slice (some ⟨w.heap.size, 0, none⟩) m c') w' := by
  subst hw
  obtain ⟨a, b⟩ := (h.world (w' := w.drew) rfl).newVec l all more el hr h1
  have hb : Post β s w (β.ext s.next (.row w.heap.size 0 (all ++ more).length)) (s.push (mkVec l)) (w.drew.alloc (.cells (all ++ more).toArray el)) :=
    ⟨b.le, b.size, b.next, b.keep, b.new, b.dead, b.ghost, b.tape, b.os, b.output⟩
  refine ⟨_, ?_, a, hb⟩
  refine .slc _ _ _ _ _ _ w.heap.size 0 (all ++ more).length c' (Beta.ext_same _ _ _) (Nat.le_refl _) hc (fun x => by cases x) ?_ hm
  have : m * sz + (c' - m) * sz = c' * sz := by rw [← Nat.add_mul]; congr 1; omega
  simp [hlen, hmore]; omega

theorem splice_get (cur : List Value) (xs : List Value) (a : Nat) (h : a + xs.length ≤ cur.length) (j : Nat) :
    (cur.take a ++ xs ++ cur.drop (a + xs.length))[j]? = if a ≤ j ∧ j < a + xs.length then xs[j - a]? else cur[j]? := by
  have ht : (cur.take a).length = a := by simp; omega
  by_cases c1 : j < a
  · rw [if_neg (by omega), List.append_assoc, List.getElem?_append_left (by omega), List.getElem?_take, if_pos c1]
  · by_cases c2 : j < a + xs.length
    · rw [if_pos (by omega), List.append_assoc, List.getElem?_append_right (by omega), ht, List.getElem?_append_left (by omega)]
    · rw [if_neg (by omega), List.append_assoc, List.getElem?_append_right (by omega), ht, List.getElem?_append_right (by omega), List.getElem?_drop]
      rw [show a + xs.length + (j - a - xs.length) = j by omega]

theorem appK_out (h : Sim β s w) {t el sz t2 ty : Nat} {d2 : Go.TypeDesc} (he : ElemOk P t el sz) (hyu : P.underlying t2 = some d2) (hd : d2 = .string ∨ ∃ e, d2 = .slice e) {x y : V} {x' y' : Value} (hx : VRel β x x') (hy : VRel β y y') :
    Out β s w P (fun k => appK sz x y s k) (valueOf (Go.Builtin.append_ #[t, t2] ty #[x', y'])) := by
  rcases newCells_out (P := P) (sz := sz) h hy with hf | ⟨m, l, xs, hk, hll, hr, h1, hlen, hnew⟩
  · exact .inl ⟨0, fun k => hf _⟩
  · have e0 : ∀ k, appK sz x y s k = if m ≤ 1048576 then appX x sz m l s k else fl := fun k => by
      show newCells y sz s (fun m l => Bool.rec fl (appX x sz m l s k) (Nat.ble m 1048576)) = _
      rw [hk, bleRec]
    by_cases hm : m ≤ 1048576
    case neg => exact .inl ⟨0, fun k => (e0 k).trans (if_neg hm)⟩
    have e1 : ∀ k, appK sz x y s k = appX x sz m l s k := fun k => (e0 k).trans (if_pos hm)
    cases hx <;> first | exact .inl ⟨0, fun k => (e1 k).trans rfl⟩ | skip
    case nils =>
      have e2 : ∀ k, appX .nils sz m l s k = if m = 0 then k .nils s else k (.slc s.next 0 m false m sz) (s.push (mkVec l)) := fun k => by
        show (Bool.rec (k (.slc s.next 0 m false m sz) (s.push (mkVec l))) (k .nils s) (Nat.beq m 0) : RC) = _
        rw [beqRec]
      by_cases h0 : m = 0
      · subst h0
        refine .inr ⟨.nils, s, fun k => (e1 k).trans ((e2 k).trans (if_pos rfl)), goes_value (x := .slice none 0 0) (w' := w) ?_ ⟨β, .nils, h, .refl β s w⟩⟩
        obtain ⟨i, z, hi, hs, hbt, hz, hzs⟩ := he.info
        have := hnew w rfl
        rcases hd with rfl | ⟨e2, rfl⟩ <;> simp [Go.Builtin.append_, run_und he.und, run_und hyu, Go.sizeOf, Go.typeInfo, hi, hs, hlen, this]
      · obtain ⟨more, hrun, hml⟩ := run_append_grow (n := 0) (c' := 0) (a := none) (old := []) (ty := ty) he hyu hd hlen (by simp [Go.Builtin.firstCells]) (hnew w.drew rfl) (by omega) (by omega)
        simp only [Nat.zero_add] at hrun hml
        refine .inr ⟨_, _, fun k => (e1 k).trans ((e2 k).trans (if_neg h0)), goes_value hrun ?_⟩
        have hxl : xs.length = m * sz := by rw [← hr.length]; exact hll
        exact grown_rel (el := el) h hr h1 hxl hml (by have := newCap_ge w m 0 el; omega) (by omega) _ (by simp)
    case slc id off n ex c es b o szb c' hb g1 g2 g3 g4 g5 =>
      have e2 : ∀ k, appX (.slc id off n ex c es) sz m l s k = if es = sz then (if n + m ≤ 16777216 then (if m = 0 then k (.slc id off n ex c es) s else appS sz id off n ex c m l s k) else fl) else fl := fun k => by
        show (Bool.rec fl (Bool.rec fl (Bool.rec (appS sz id off n ex c m l s k) (k (.slc id off n ex c es) s) (Nat.beq m 0)) (Nat.ble (n + m) 16777216)) (Nat.beq es sz) : RC) = _
        rw [beqRec, bleRec, beqRec]
      by_cases hes : es = sz
      case neg => exact .inl ⟨0, fun k => (e1 k).trans ((e2 k).trans (if_neg hes))⟩
      subst hes
      by_cases hbig : n + m ≤ 16777216
      case neg => exact .inl ⟨0, fun k => (e1 k).trans ((e2 k).trans (by rw [if_pos rfl, if_neg hbig]; rfl))⟩
      have hxl : xs.length = m * es := by rw [← hr.length]; exact hll
      by_cases h0 : m = 0
      · subst h0
        have hx0 : xs = [] := by cases xs with
          | nil => rfl
          | cons a b => simp at hxl
        subst hx0
        refine .inr ⟨_, s, fun k => (e1 k).trans ((e2 k).trans (by rw [if_pos rfl, if_pos hbig, if_pos rfl])), goes_value (x := .slice (some ⟨b, o + off, none⟩) n c') (w' := w) ?_ ⟨β, .slc _ _ _ _ _ _ b o szb c' hb g1 g2 g3 g4 g5, h, .refl β s w⟩⟩
        have := run_append_in (ty := ty) (n := n) (c' := c') (m := 0) (a := ⟨b, o + off, none⟩) (xs := []) (w' := w) he hyu hd hlen (hnew w rfl) (by omega) (by simp [Go.storeCells])
        simpa using this
      · have e3 : ∀ k, appK es (.slc id off n ex c es) y s k = appS es id off n ex c m l s k := fun k => (e1 k).trans ((e2 k).trans (by rw [if_pos rfl, if_pos hbig, if_neg h0]))
        have e4 : ∀ k, appS es id off n ex c m l s k = if n + m ≤ c then wrObj (s.get id) (off + n * es) l (fun o => k (.slc id off (n + m) ex c es) (s.set id o)) else if ex = true then appFresh es id off n m l s k else if off = 0 then appE (s.get id) es id n m l s k else fl := fun k => by
          show (Bool.rec (Bool.rec (Bool.rec fl (appE (s.get id) es id n m l s k) (Nat.beq off 0)) (appFresh es id off n m l s k) ex) (wrObj (s.get id) (off + n * es) l (fun o => k (.slc id off (n + m) ex c es) (s.set id o))) (Nat.ble (n + m) c) : RC) = _
          rw [bleRec, bcase, beqRec]
        by_cases hin : n + m ≤ c
        · -- in place
          rcases h.write (P := P) hb (off + n * es) hr h1 with hf | ⟨o', hk', w', hrun, hsim, hpost⟩
          · exact .inl ⟨0, fun k => (e3 k).trans ((e4 k).trans (by rw [if_pos hin, hf]; rfl))⟩
          · refine .inr ⟨_, _, fun k => (e3 k).trans ((e4 k).trans (by rw [if_pos hin, hk'])), goes_value (x := .slice (some ⟨b, o + off, none⟩) (n + m) c') (w' := w') ?_ ⟨β, .slc _ _ _ _ _ _ b o szb c' hb hin g2 g3 g4 g5, hsim, hpost⟩⟩
            exact run_append_in (ty := ty) (n := n) (c' := c') (m := m) (a := ⟨b, o + off, none⟩) (xs := xs) (w' := w') he hyu hd hlen (hnew w rfl) (by omega) (by rw [addr_add, Nat.add_assoc]; exact hrun)
        · by_cases hex : ex = true
          · -- copied
            have hc := g3 hex
            subst hc
            have e5 : ∀ k, appFresh es id off n m l s k = if (rdMany (s.get id) off (n * es)).length = n * es then k (.slc s.next 0 (n + m) false (n + m) es) (s.push (mkVec (rdMany (s.get id) off (n * es) ++ l))) else fl := fun k => by
              show (Bool.rec fl (k (.slc s.next 0 (n + m) false (n + m) es) (s.push (mkVec (appL (rdMany (s.get id) off (n * es)) l)))) (Nat.beq (len (rdMany (s.get id) off (n * es))) (n * es)) : RC) = _
              rw [beqRec, len_eq, appL_eq]
            by_cases hl : (rdMany (s.get id) off (n * es)).length = n * es
            · obtain ⟨old, o1, o2, o3, o4⟩ := run_first (P := P) (c' := c') h hb rfl hl
              obtain ⟨more, hrun, hml⟩ := run_append_grow (ty := ty) (n := n) (c' := c') (a := some ⟨b, o + off, none⟩) (old := old) he hyu hd hlen (o4 w.drew rfl) (hnew w.drew rfl) hin (by omega)
              refine .inr ⟨_, _, fun k => (e3 k).trans ((e4 k).trans (by rw [if_neg hin, if_pos hex, e5, if_pos hl])), goes_value hrun ?_⟩
              refine grown_rel (el := el) h (o2.append hr) ?_ ?_ hml (newCap_ge w _ _ _) (by omega) _ (by simp)
              · intro x hx
                rcases List.mem_append.1 hx with hx | hx
                · exact o3 x hx
                · exact h1 x hx
              · simp [o1, hxl, Nat.add_mul]
            · exact .inl ⟨0, fun k => (e3 k).trans ((e4 k).trans (by rw [if_neg hin, if_pos hex, e5, if_neg hl]; rfl))⟩
          · by_cases ho : off = 0
            case neg => exact .inl ⟨0, fun k => (e3 k).trans ((e4 k).trans (by rw [if_neg hin, if_neg hex, if_neg ho]; rfl))⟩
            subst ho
            have e6 : ∀ k, appK es (.slc id 0 n ex c es) y s k = appE (s.get id) es id n m l s k := fun k => (e3 k).trans ((e4 k).trans (by rw [if_neg hin, if_neg hex, if_pos rfl]))
            cases hob : s.get id <;> first | exact .inl ⟨0, fun k => (e6 k).trans (by rw [hob]; rfl)⟩ | skip
            case vec d t k0 z =>
              obtain ⟨dd, hdd⟩ : ∃ dd, dd = (if depthOf ((n + m) * es) ≤ d then d else depthOf ((n + m) * es)) := ⟨_, rfl⟩
              have e7 : ∀ k, appE (.vec d t k0 z) es id n m l s k = if n * es ≤ k0 then k (.slc s.next 0 (n + m) false (n + m) es) ((s.set id .none).push (.vec dd (setMany dd l (n * es) (deepen (dd - d) t)) ((n + m) * es) z)) else fl := fun k => by
                show (Bool.rec fl ((fun dd => k (.slc s.next 0 (n + m) false (n + m) es) ((s.set id .none).push (.vec dd (setMany dd l (n * es) (deepen (dd - d) t)) ((n + m) * es) z))) (Bool.rec (depthOf ((n + m) * es)) d (Nat.ble (depthOf ((n + m) * es)) d))) (Nat.ble (n * es) k0) : RC) = _
                rw [bleRec, bleRec, ← hdd]
              by_cases hk0 : n * es ≤ k0
              case neg => exact .inl ⟨0, fun k => (e6 k).trans (by rw [hob, e7, if_neg hk0]; rfl)⟩
              have hobj := h.obj id _ hb
              rw [hob] at hobj
              obtain ⟨⟨cur, ce, r1, r2, r3, r4⟩, hk2⟩ := hobj
              have hN : (n + m) * es = n * es + m * es := Nat.add_mul _ _ _
              have hdle : d ≤ dd := by rw [hdd]; split <;> omega
              have hNd : (n + m) * es ≤ 2 ^ dd := by
                have := depthOf_le ((n + m) * es)
                rw [hdd]; split
                · rename_i hc
                  exact Nat.le_trans this (Nat.pow_le_pow_right (by omega) hc)
                · exact this
              -- what the new row reads as
              have hrd : ∀ j, j < (n + m) * es → nget z dd (setMany dd l (n * es) (deepen (dd - d) t)) j = if n * es ≤ j ∧ j < n * es + l.length then (l[j - n * es]?).getD z else nget z d t j := by
                intro j hj
                rw [setMany_get z l dd (n * es) _ j (by omega) (by omega)]
                by_cases hc : n * es ≤ j ∧ j < n * es + l.length
                · rw [if_pos hc, if_pos hc]
                · rw [if_neg hc, if_neg hc]
                  have := deepen_get z (dd - d) d t j (by omega)
                  rw [show d + (dd - d) = dd by omega] at this; exact this
              have hlive : s.get id ≠ .none := by rw [hob]; intro e; cases e
              by_cases hfit : n + m ≤ c'
              · -- there was room
                have hmul : (n + m) * es ≤ c' * es := Nat.mul_le_mul_right _ hfit
                have hst := Go.run_storeCells_at P b (o + n * es) ce xs 0 cur w r1 (by omega) h1
                simp only [Nat.add_zero] at hst
                obtain ⟨sm, sp⟩ := h.rebind (w' := w.setRow b (cur.toList.take (o + n * es) ++ xs ++ cur.toList.drop (o + n * es + xs.length)).toArray) id (.vec dd (setMany dd l (n * es) (deepen (dd - d) t)) ((n + m) * es) z) (.row b o szb) hb hlive (Go.size_setRow _ _ _) (fun c hc => Go.setRow_other _ _ _ _ (by simpa [Loc.blocks] using hc))
                  ⟨⟨_, ce, Go.setRow_heap w b cur _ ce (0, 0) r1, by simp; omega, by omega, fun i hi => by
                    have hg : ∀ x, (cur.toList.take (o + n * es) ++ xs ++ cur.toList.drop (o + n * es + xs.length)).toArray[o + i]? = some x ↔ (if o + n * es ≤ o + i ∧ o + i < o + n * es + xs.length then xs[o + i - (o + n * es)]? else cur[o + i]?) = some x := by
                      intro x
                      rw [List.getElem?_toArray, splice_get cur.toList xs (o + n * es) (by simp; omega)]; simp
                    show ∃ x, _ ∧ _ ∧ VRel _ (nget z dd _ i) x
                    rw [hrd i hi]
                    by_cases hc : n * es ≤ i ∧ i < n * es + l.length
                    · rw [if_pos hc]
                      have hlt : i - n * es < l.length := by omega
                      obtain ⟨x, hx1, hx2⟩ := hr.get (i - n * es) _ (List.getElem?_eq_getElem hlt)
                      refine ⟨x, (hg x).2 ?_, h1 x (List.mem_of_getElem? hx1), ?_⟩
                      · rw [if_pos (by omega), show o + i - (o + n * es) = i - n * es by omega]; exact hx1
                      · rw [List.getElem?_eq_getElem hlt]; exact hx2.mono (Beta.le_ext h.next_none)
                    · rw [if_neg hc]
                      obtain ⟨x, a1, a2, a3⟩ := r4 i (by omega)
                      exact ⟨x, (hg x).2 (by rw [if_neg (by omega)]; exact a1), a2, a3.mono (Beta.le_ext h.next_none)⟩⟩, hNd⟩ rfl rfl rfl
                refine .inr ⟨_, _, fun k => (e6 k).trans (by rw [hob, e7, if_pos hk0]), goes_value (x := .slice (some ⟨b, o + 0, none⟩) (n + m) c') ?_ ⟨_, ?_, sm, sp⟩⟩
                · exact run_append_in (ty := ty) (n := n) (c' := c') (m := m) (a := ⟨b, o + 0, none⟩) (xs := xs) he hyu hd hlen (hnew w rfl) hfit (by rw [addr_add]; simpa using hst)
                · exact .slc _ _ _ _ _ _ b o szb c' (Beta.ext_same _ _ _) (Nat.le_refl _) hfit (fun x => by cases x) g4 (by omega)
              · -- there was none: a new block
                have hl : (rdMany (s.get id) 0 (n * es)).length = n * es := by
                  rw [hob]
                  show (Bool.rec [] (getMany z d t (n * es) 0) (Nat.ble (0 + n * es) k0) : L).length = _
                  rw [bleRec, if_pos (by omega), getMany_length]
                obtain ⟨old, o1, o2, o3, o4⟩ := run_first (P := P) (c' := c') h hb rfl hl
                obtain ⟨more, hrun, hml⟩ := run_append_grow (ty := ty) (n := n) (c' := c') (a := some ⟨b, o + 0, none⟩) (old := old) he hyu hd hlen (o4 w.drew rfl) (hnew w.drew rfl) hfit (by omega)
                obtain ⟨sf, pf⟩ := h.forget id (by rw [hb]; intro e; cases e)
                have sf' := sf.world (w' := w.drew) rfl
                have hold : ∀ i, i < n * es → ∃ x : Value, old[i]? = some x ∧ VRel β (nget z d t i) x := by
                  intro i hi
                  have hv : (rdMany (s.get id) 0 (n * es))[i]? = some (nget z d t i) := by
                    rw [hob]
                    show (Bool.rec [] (getMany z d t (n * es) 0) (Nat.ble (0 + n * es) k0) : L)[i]? = _
                    rw [bleRec, if_pos (by omega), getMany_get _ _ _ _ _ _ hi, Nat.zero_add]
                  exact o2.get i _ hv
                obtain ⟨sm, sp⟩ := sf'.newRow (.vec dd (setMany dd l (n * es) (deepen (dd - d) t)) ((n + m) * es) z) ((n + m) * es) (old ++ xs ++ more) el rfl (fun _ _ _ _ e => by cases e; exact hNd) (by simp; omega) (fun i hi => by
                  rw [rdObj_vec, if_pos hi, hrd i hi]
                  by_cases hc : n * es ≤ i ∧ i < n * es + l.length
                  · rw [if_pos hc]
                    have hlt : i - n * es < l.length := by omega
                    obtain ⟨x, hx1, hx2⟩ := hr.get (i - n * es) _ (List.getElem?_eq_getElem hlt)
                    refine ⟨x, ?_, h1 x (List.mem_of_getElem? hx1), by rw [List.getElem?_eq_getElem hlt]; exact hx2⟩
                    rw [List.append_assoc, List.getElem?_append_right (by omega), o1, List.getElem?_append_left (by omega)]; exact hx1
                  · rw [if_neg hc]
                    obtain ⟨x, a1, a2⟩ := hold i (by omega)
                    refine ⟨x, ?_, o3 x (List.mem_of_getElem? a1), a2⟩
                    rw [List.append_assoc, List.getElem?_append_left (by omega)]; exact a1)
                have sp' : Post β s w (β.ext s.next (.row w.drew.heap.size 0 (old ++ xs ++ more).length)) ((s.set id .none).push (.vec dd (setMany dd l (n * es) (deepen (dd - d) t)) ((n + m) * es) z)) (w.drew.alloc (.cells (old ++ xs ++ more).toArray el)) := by
                  refine (pf.world (w'' := w.drew) rfl rfl rfl rfl).trans ?_
                  exact sp
                have happ : (old.toArray ++ (xs.toArray ++ more.toArray)) = (old ++ xs ++ more).toArray := by simp
                rw [happ] at hrun
                have hrel : VRel (β.ext s.next (.row w.drew.heap.size 0 (old ++ xs ++ more).length)) (.slc s.next 0 (n + m) false (n + m) es) (.slice (some ⟨w.heap.size, 0, none⟩) (n + m) (newCap w (n + m) c' el)) := by
                  refine .slc _ _ _ _ _ _ w.heap.size 0 (old ++ xs ++ more).length _ (Beta.ext_same _ _ _) (Nat.le_refl _) (newCap_ge w _ _ _) (fun x => by cases x) ?_ (by omega)
                  have hge := newCap_ge w (n + m) c' el
                  have : (n + m) * es + (newCap w (n + m) c' el - (n + m)) * es = newCap w (n + m) c' el * es := by rw [← Nat.add_mul]; congr 1; omega
                  simp only [List.length_append, o1, hxl, hml]; omega
                exact .inr ⟨_, _, fun k => (e6 k).trans (by rw [hob, e7, if_pos hk0]), goes_value hrun ⟨_, hrel, sm, sp'⟩⟩
end
end Viv

/-
  STEPS: maps.
-/
namespace Viv
open Go (Value World IntKind Addr Program Act Exit Oper Operand Ending undef)

section
variable {β : Beta} {P : Program} {s : St} {w : World}

/-! equality of strings -/
theorem bytes_beq (a b : ByteArray) : (a == b) = (a.toList == b.toList) := Go.beq_toListBytes a b
theorem bytes_self (a : ByteArray) : (a == a) = true := by rw [bytes_beq]; simp
theorem str_eq (a b : ByteArray) : (a == b) = (Nat.beq a.size b.size && Nat.beq (bnum a.data.toList) (bnum b.data.toList)) := by
  rw [bytes_beq, str_beq]
  cases Nat.beq a.size b.size <;> rfl
theorem nat_beq {n m : Nat} : Nat.beq n m = ((n : Int) == (m : Int)) := by rw [beq_dec, Bool.eq_iff_iff]; simp; omega

/-! keys -/
/-- the search that fits a kind of key -/
inductive KeyFor : KF → Go.TypeDesc → Prop
  | int (k : IntKind) : KeyFor keyI (.int k)
  | str : KeyFor keyS .string

theorem key_out {kf : KF} {d : Go.TypeDesc} (hk : KeyFor kf d) {a b : V} {a' b' : Value} (ha : VRel β a a') (hb : VRel β b b') :
    (∀ t f, kf a b t f = fl) ∨ ∃ c : Bool, (∀ t f, kf a b t f = if c then t else f) ∧ Go.Instr.sameNow d b' a' = some c ∧ (c = true → a' = b') := by
  cases hk with
  | int k =>
    cases ha <;> first | exact .inl fun t f => rfl | skip
    case p n hn =>
      cases hb <;> first | exact .inl fun t f => rfl | skip
      case p m hm =>
        refine .inr ⟨Nat.beq n m, fun t f => ?_, ?_, ?_⟩
        · show (Bool.rec f t (Nat.beq n m) : RC) = _
          cases Nat.beq n m <;> rfl
        · simp only [Go.Instr.sameNow, if_true, Option.some.injEq]
          rw [Bool.eq_iff_iff]; simp; omega
        · intro h; rw [Nat.eq_of_beq_eq_true h]
      case m m hm => exact .inr ⟨false, fun t f => rfl, by simp only [Go.Instr.sameNow, if_true, Option.some.injEq]; rw [Int.negSucc_eq]; simp; omega, fun h => by cases h⟩
    case m n hn =>
      cases hb <;> first | exact .inl fun t f => rfl | skip
      case p m hm => exact .inr ⟨false, fun t f => rfl, by simp only [Go.Instr.sameNow, if_true, Option.some.injEq]; rw [Int.negSucc_eq]; simp; omega, fun h => by cases h⟩
      case m m hm =>
        refine .inr ⟨Nat.beq n m, fun t f => ?_, ?_, ?_⟩
        · show (Bool.rec f t (Nat.beq n m) : RC) = _
          cases Nat.beq n m <;> rfl
        · simp only [Go.Instr.sameNow, if_true, Option.some.injEq]
          rw [Bool.eq_iff_iff]; simp; omega
        · intro h; rw [Nat.eq_of_beq_eq_true h]
  | str =>
    cases ha <;> first | exact .inl fun t f => rfl | skip
    case str l n x h1 h2 h3 =>
      cases hb <;> first | exact .inl fun t f => rfl | skip
      case str m k y g1 g2 g3 =>
        have he := str_eq y x
        rw [h1, h2, g1, g2] at he
        refine .inr ⟨Nat.beq m l && Nat.beq k n, fun t f => ?_, ?_, ?_⟩
        · have e1 : Nat.beq l m = Nat.beq m l := by rw [nat_beq, nat_beq, Bool.beq_comm]
          have e2 : Nat.beq n k = Nat.beq k n := by rw [nat_beq, nat_beq, Bool.beq_comm]
          show (Bool.rec f (Bool.rec f t (Nat.beq n k)) (Nat.beq l m) : RC) = _
          rw [e1, e2]
          cases Nat.beq m l <;> cases Nat.beq k n <;> rfl
        · show some (y == x) = _
          rw [he]
        · intro h
          rw [← he, bytes_beq] at h
          have := eq_of_beq h
          rw [toList_data, toList_data] at this
          have : y = x := by cases y; cases x; simp only [ByteArray.mk.injEq]; exact Array.ext' this
          rw [this]

theorem mfind_nil (kf : KF) (d : RC) (f : Ent → RC) (k : V) : mfind kf d f k [] = d := rfl
theorem mfind_cons (kf : KF) (d : RC) (f : Ent → RC) (k : V) (e : Ent) (l : List Ent) : mfind kf d f k (e :: l) = kf e.key k (f e) (mfind kf d f k l) := rfl

theorem mfind_out {kf : KF} {d : Go.TypeDesc} (hk : KeyFor kf d) {key : V} {key' : Value} (hkey : VRel β key key') {l : List Ent} {es : List Go.MapEntry} (hr : EntsRel β l es) (j : Nat) :
    (∀ r f, mfind kf r f key l = fl) ∨ ((∀ r f, mfind kf r f key l = r) ∧ Go.Instr.findNow d key' es j = some none) ∨
      ∃ i e m, l[i]? = some e ∧ es[i]? = some m ∧ EntRel β e m ∧ (∀ r f, mfind kf r f key l = f e) ∧ Go.Instr.findNow d key' es j = some (some (j + i, m.val)) ∧ m.key = key' := by
  induction hr generalizing j with
  | nil => exact .inr (.inl ⟨fun r f => rfl, rfl⟩)
  | cons e m l es he _ ih =>
    rcases key_out hk he.key hkey with hf | ⟨c, hc, hs, ht⟩
    · exact .inl fun r f => by rw [mfind_cons, hf]
    · cases c with
      | true =>
        refine .inr (.inr ⟨0, e, m, rfl, rfl, he, fun r f => by rw [mfind_cons, hc, if_pos rfl], ?_, ht rfl⟩)
        simp [Go.Instr.findNow, hs]
      | false =>
        have e1 : ∀ r f, mfind kf r f key (e :: l) = mfind kf r f key l := fun r f => by rw [mfind_cons, hc]; rfl
        have e2 : Go.Instr.findNow d key' (m :: es) j = Go.Instr.findNow d key' es (j + 1) := by simp [Go.Instr.findNow, hs]
        rcases ih (j + 1) with hf | ⟨hn, hg⟩ | ⟨i, e', m', a1, a2, a3, a4, a5, a6⟩
        · exact .inl fun r f => by rw [e1, hf]
        · exact .inr (.inl ⟨fun r f => by rw [e1, hn], by rw [e2, hg]⟩)
        · exact .inr (.inr ⟨i + 1, e', m', by simpa using a1, by simpa using a2, a3, fun r f => by rw [e1, a4], by rw [e2, a5]; congr 2; simp; omega, a6⟩)

/-- what the model does with a key before it looks -/
theorem run_checkKey {kf : KF} {d : Go.TypeDesc} (hk : KeyFor kf d) {t : Nat} (hu : P.underlying t = some d) (b : Bool) (v : Value) (w : World) : (Go.Instr.checkKey b 10000 t v).run P w = .ok () w := by
  show (Go.Instr.checkKey b (9999 + 1) t v).run P w = _
  unfold Go.Instr.checkKey
  rw [Go.Sem.run_bind, run_und hu]
  cases hk <;> rfl
theorem run_findKey {d : Go.TypeDesc} {t : Nat} (hu : P.underlying t = some d) {k : Value} {es : List Go.MapEntry} {r : Option (Nat × Value)} (h : Go.Instr.findNow d k es 0 = some r) (w : World) : (Go.Instr.findKey t k es).run P w = .ok r w := by
  simp [Go.Instr.findKey, run_und hu, h]
theorem key_bits {key' : Value} {d : Go.TypeDesc} {a : Value} {c : Bool} (h : Go.Instr.sameNow d key' a = some c) (n : Nat) : Go.Instr.sameBits n key' key' = true := by
  cases key' <;> first
    | (cases n <;> simp [Go.Instr.sameBits, bytes_self]; done)
    | (cases d <;> cases a <;> simp [Go.Instr.sameNow] at h; done)

/-! lists of entries -/
theorem mpush_eq (e : Ent) : ∀ l, mpush e l = l ++ [e]
  | [] => rfl
  | p :: l => by show p :: mpush e l = _; rw [mpush_eq e l]; rfl
theorem mlen_eq : ∀ l : List Ent, mlen l = l.length
  | [] => rfl
  | p :: l => by show Nat.succ (mlen l) = _; rw [mlen_eq l]; rfl
theorem mstamp_nil (b : Nat) (v : V) : mstamp b v [] = [] := rfl
theorem mstamp_cons (b : Nat) (v : V) (p : Ent) (l : List Ent) : mstamp b v (p :: l) = if p.born = b then ⟨p.key, v, p.born⟩ :: l else p :: mstamp b v l := by
  show (Bool.rec (p :: mstamp b v l) (⟨p.key, v, p.born⟩ :: l) (Nat.beq p.born b) : List Ent) = _
  by_cases h : p.born = b
  · rw [if_pos h, h]; simp [Nat.beq_refl]
  · rw [if_neg h]
    have : Nat.beq p.born b = false := by
      cases hb : Nat.beq p.born b
      · rfl
      · exact absurd (Nat.eq_of_beq_eq_true hb) h
    rw [this]
theorem mhasb_nil (b : Nat) : mhasb b [] = false := rfl
theorem mhasb_cons (b : Nat) (p : Ent) (l : List Ent) : mhasb b (p :: l) = (Nat.beq p.born b || mhasb b l) := by
  show (Bool.rec (mhasb b l) true (Nat.beq p.born b) : Bool) = _
  cases Nat.beq p.born b <;> rfl

theorem EntsRel.length {l : List Ent} {es : List Go.MapEntry} (h : EntsRel β l es) : l.length = es.length := by
  induction h with
  | nil => rfl
  | cons e m l l' _ _ ih => simp [ih]
theorem EntsRel.push {l : List Ent} {es : List Go.MapEntry} (h : EntsRel β l es) {e : Ent} {m : Go.MapEntry} (he : EntRel β e m) : EntsRel β (l ++ [e]) (es ++ [m]) := by
  induction h with
  | nil => exact .cons _ _ _ _ he .nil
  | cons e' m' l l' a _ ih => exact .cons _ _ _ _ a ih
theorem Born.push {l : List Ent} {c : Nat} (h : Born l c) (e : Ent) (he : e.born = c) : Born (l ++ [e]) (c + 1) := by
  induction h with
  | nil c => exact .cons _ _ _ (by omega) (by simp) (.nil _)
  | cons p l c h1 h2 _ ih =>
    refine .cons _ _ _ (by omega) (fun x hx => ?_) (ih he)
    rcases List.mem_append.1 hx with hx | hx
    · exact h2 x hx
    · simp at hx; subst hx; omega
theorem Born.lt {l : List Ent} {c : Nat} (h : Born l c) : ∀ x ∈ l, x.born < c := by
  induction h with
  | nil c => simp
  | cons p l c h1 h2 _ ih =>
    intro x hx
    cases hx with
    | head => exact h1
    | tail _ hx => exact ih x hx
/-- only the stamps count -/
theorem Born.stamp {l : List Ent} {c : Nat} (h : Born l c) (b : Nat) (v : V) : Born (mstamp b v l) c := by
  have mem : ∀ (l : List Ent) (x : Ent), x ∈ mstamp b v l → ∃ y ∈ l, y.born = x.born := by
    intro l
    induction l with
    | nil => intro x hx; rw [mstamp_nil] at hx; cases hx
    | cons p l ih =>
      intro x hx
      rw [mstamp_cons] at hx
      split at hx
      · cases hx with
        | head => exact ⟨p, by simp, rfl⟩
        | tail _ hx => exact ⟨x, List.mem_cons_of_mem _ hx, rfl⟩
      · cases hx with
        | head => exact ⟨p, by simp, rfl⟩
        | tail _ hx =>
          obtain ⟨y, hy, e⟩ := ih x hx
          exact ⟨y, by simp [hy], e⟩
  induction h with
  | nil c => exact .nil c
  | cons p l c h1 h2 hb ih =>
    rw [mstamp_cons]
    split
    · exact .cons _ _ _ h1 h2 hb
    · refine .cons _ _ _ h1 (fun x hx => ?_) ih
      obtain ⟨y, hy, e⟩ := mem l x hx
      rw [← e]; exact h2 y hy

/-- an entry's value is changed -/
theorem EntsRel.stamp {l : List Ent} {es : List Go.MapEntry} (h : EntsRel β l es) {v : V} {v' : Value} (hv : VRel β v v') : ∀ {c : Nat}, Born l c → ∀ {i : Nat} {e : Ent}, l[i]? = some e →
    EntsRel β (mstamp e.born v l) (es.modify i fun m => { m with val := v' }) := by
  induction h with
  | nil => intro c _ i e hi; simp at hi
  | cons p m l es hp hr ih =>
    intro c hb i e hi
    cases hb with
    | cons _ _ _ h1 h2 h3 =>
      rw [mstamp_cons]
      cases i with
      | zero =>
        simp only [List.getElem?_cons_zero, Option.some.injEq] at hi; subst hi
        rw [if_pos rfl]
        exact .cons _ _ _ _ ⟨hp.key, hv, hp.born⟩ hr
      | succ i =>
        simp only [List.getElem?_cons_succ] at hi
        have hm := h2 e (List.mem_of_getElem? hi)
        rw [if_neg (by omega)]
        exact .cons _ _ _ _ hp (ih h3 hi)

/-! a change of the world that writes one object -/
theorem mapK_map {α : Type} (d : α) (l : List Ent) (c : Nat) (k : List Ent → Nat → α) : mapK d (.map l c) k = k l c := rfl
theorem Sim.isMap (h : Sim β s w) {id : Pth} {b : Nat} (hb : β id = some (.map b)) :
    (∀ {α : Type} (d : α) k, mapK d (s.get id) k = d) ∨ ∃ l c es, s.get id = .map l c ∧ w.heap[b]? = some (.map es c) ∧ EntsRel β l es.toList ∧ Born l c := by
  have := h.obj id _ hb
  cases ho : s.get id with
  | map l c => rw [ho] at this; obtain ⟨es, a, b, c⟩ := this; exact .inr ⟨_, _, es, rfl, a, b, c⟩
  | none => exact .inl fun d k => rfl
  | row l => rw [ho] at this; exact this.elim
  | vec d t n z => rw [ho] at this; exact this.elim
  | iter a b c => rw [ho] at this; exact this.elim
  | mem m => rw [ho] at this; exact this.elim
  | set t' => exact .inl fun d k => rfl

def putObj (w : World) (r : Nat) (o : Go.Obj) : World := { w with heap := w.heap.setIfInBounds r o }
theorem run_getMap {r : Nat} {es : Array Go.MapEntry} {c : Nat} (h : w.heap[r]? = some (.map es c)) : (Go.getObj r).run P w = .ok (.map es c) w := by
  simp [Go.getObj, Go.Sem.run, h]
theorem run_getIter {r : Nat} {b : ByteArray} {c : Nat} (h : w.heap[r]? = some (.stringIter b c)) : (Go.getObj r).run P w = .ok (.stringIter b c) w := by
  simp [Go.getObj, Go.Sem.run, h]
theorem run_setMap {r : Nat} {es : Array Go.MapEntry} {c : Nat} {o' : Go.Obj} (h : w.heap[r]? = some (.map es c)) : (Go.setObj r o').run P w = .ok () (putObj w r o') := by
  simp only [Go.setObj, Go.Sem.run, putObj, h]
theorem run_setIter {r : Nat} {b : ByteArray} {c : Nat} {o' : Go.Obj} (h : w.heap[r]? = some (.stringIter b c)) : (Go.setObj r o').run P w = .ok () (putObj w r o') := by
  simp only [Go.setObj, Go.Sem.run, putObj, h]
theorem putObj_same {r : Nat} {o o' : Go.Obj} (h : w.heap[r]? = some o) : (putObj w r o').heap[r]? = some o' := by
  have hr : r < w.heap.size := (Array.getElem?_eq_some_iff.1 h).1
  simp [putObj, hr]
theorem putObj_other {r c : Nat} (o' : Go.Obj) (h : c ≠ r) : (putObj w r o').heap[c]? = w.heap[c]? := by
  simp only [putObj]
  rw [Array.getElem?_setIfInBounds_ne (fun e => h e.symm)]
theorem putObj_size (r : Nat) (o' : Go.Obj) : (putObj w r o').heap.size = w.heap.size := by simp [putObj]

theorem Sim.setMap (h : Sim β s w) {id : Pth} {b : Nat} (hb : β id = some (.map b)) {l l' : List Ent} {c c' : Nat} {es es' : Array Go.MapEntry} (hs : s.get id = .map l c) (hw : w.heap[b]? = some (.map es c))
    (hr : EntsRel β l' es'.toList) (hborn : Born l' c') : Sim β (s.set id (.map l' c')) (putObj w b (.map es' c')) ∧ Post β s w β (s.set id (.map l' c')) (putObj w b (.map es' c')) := by
  refine h.set id _ _ hb (by rw [hs]; intro e; cases e) (putObj_size _ _) (fun x hx => putObj_other _ (by simpa [Loc.blocks] using hx)) ?_ rfl rfl rfl
  exact ⟨es', putObj_same hw, hr, hborn⟩

/-! the steps -/
theorem mkmap_out (h : Sim β s w) (t : Nat) : Out β s w P (fun k => k (.map s.next) (s.push (.map [] 0))) (valueOf (Go.Instr.makeMap t none)) := by
  obtain ⟨a, b⟩ := h.push (w' := w.alloc (.map #[] 0)) (.map [] 0) (.map w.heap.size) (by simp) (fun b hb => Go.heap_alloc_old w _ b hb) (by simp [Loc.blocks])
    ⟨#[], Go.heap_alloc_new w _, .nil, .nil _⟩ rfl rfl rfl
  refine .inr ⟨_, _, fun k => rfl, goes_value (x := .map (some w.heap.size)) ?_ ⟨_, .map _ _ (Beta.ext_same _ _ _), a, b⟩⟩
  simp [Go.Instr.makeMap]

theorem lenMK_out (h : Sim β s w) {x : V} {x' : Value} {t k e ty : Nat} (hu : P.underlying t = some (.map k e)) (hx : VRel β x x') : PureOut β (lenMK x s) P (Go.Builtin.len_ #[t] ty #[x']) w := by
  cases hx <;> first | exact .fail (fun k => rfl) | skip
  case map id b hb =>
    rcases h.isMap hb with hf | ⟨l, c, es, h1, h2, h3, h4⟩
    · exact .fail (fun k => hf _ _)
    · have hl := h3.length
      simp at hl
      refine (chkP_out l.length (fun _ => ?_)).congr (fun k => by show mapK fl (s.get id) _ = _; rw [h1, mapK_map, mlen_eq])
      simp [Go.Builtin.len_, run_und hu, run_getMap h2, Go.goInt, hl]
  case nilm =>
    refine .ok (.p 0) (.int .i64 (0 : Nat)) (fun k => rfl) (.p 0 (by omega)) ?_
    simp [Go.Builtin.len_, run_und hu, Go.goInt]

/-- the parts of a map's type that the steps look at -/
structure MapOk (P : Program) (t : Nat) (kf : KF) (z : V) : Prop where
  und : ∃ k e d, P.underlying t = some (.map k e) ∧ P.underlying k = some d ∧ KeyFor kf d ∧ ∃ i z', P.info? e = some i ∧ i.zero = some z' ∧ VRel (fun _ => none) z z'

theorem run_zero {e : Nat} {i : Go.TypeInfo} {z' : Value} (hi : P.info? e = some i) (hz : i.zero = some z') (w : World) : (Go.zeroValue e).run P w = .ok z' w := by
  simp [Go.zeroValue, Go.typeInfo, hi, hz]
theorem nowhere_le (β : Beta) : Beta.le (fun _ => none) β := fun _ _ h => by cases h

theorem lkres_true (k : KV) (v b : V) : lkres true k v b = k (.tup [v, b]) := rfl
theorem lkres_false (k : KV) (v b : V) : lkres false k v b = k v := rfl
theorem lkres_out {sem : Go.Sem Value} {ok : Bool} {v b : V} {v' b' : Value} (hv : VRel β v v') (hb : VRel β b b') (hs : sem.run P w = .ok (if ok then .tuple #[v', b'] else v') w) :
    PureOut β (fun k => lkres ok k v b) P sem w := by
  cases ok with
  | true => exact .ok _ _ (fun k => lkres_true k v b) (.tup [v, b] [v', b'] (.cons _ _ _ _ hv (.cons _ _ _ _ hb .nil))) hs
  | false => exact .ok _ _ (fun k => lkres_false k v b) hv hs

theorem lookK_out (h : Sim β s w) {t : Nat} {kf : KF} {z : V} (hm : MapOk P t kf z) {m key : V} {m' key' : Value} (hx : VRel β m m') (hk : VRel β key key') (ok : Bool) :
    PureOut β (fun k => lookK m kf z ok key s k) P (Go.Instr.lookup t m' key' ok) w := by
  obtain ⟨kt, e, d, hu, hd, hkf, i, z', hi, hz, hzr⟩ := hm.und
  have hz0 := run_zero (P := P) hi hz w
  have hzb := hzr.mono (nowhere_le β)
  cases hx <;> first | exact .fail (fun k => rfl) | skip
  case nilm =>
    refine lkres_out hzb .ff ?_
    have hf : (Go.Instr.findKey kt key' []).run P w = .ok none w := run_findKey (hu := hd) rfl w
    simp [Go.Instr.lookup, run_und hu, run_checkKey hkf hd, hf, hz0]
  case map id b hb =>
    rcases h.isMap hb with hf | ⟨l, c, es, h1, h2, h3, h4⟩
    · exact .fail (fun k => hf _ _)
    · have e1 : ∀ k, lookK (.map id) kf z ok key s k = mfind kf (lkres ok k z .ff) (fun p => lkres ok k p.val .tt) key l := fun k => by
        show mapK fl (s.get id) _ = _; rw [h1, mapK_map]
      rcases mfind_out hkf hk h3 0 with hf | ⟨hn, hg⟩ | ⟨j, en, mn, a1, a2, a3, a4, a5, a6⟩
      · exact .fail (fun k => by show lookK (.map id) kf z ok key s k = _; rw [e1, hf])
      · refine (lkres_out (ok := ok) hzb .ff ?_).congr (fun k => by show lookK (.map id) kf z ok key s k = _; rw [e1, hn])
        simp [Go.Instr.lookup, run_und hu, run_getMap h2, run_checkKey hkf hd, run_findKey (hu := hd) hg, hz0]
      · refine (lkres_out (ok := ok) (v := en.val) a3.val .tt ?_).congr (fun k => by show lookK (.map id) kf z ok key s k = _; rw [e1, a4])
        simp [Go.Instr.lookup, run_und hu, run_getMap h2, run_checkKey hkf hd, run_findKey (hu := hd) a5]

theorem modify_eq_self {α : Type} (l : Array α) (i : Nat) (f : α → α) (h : ∀ x, l[i]? = some x → f x = x) : l.modify i f = l := by
  apply Array.ext_getElem?
  intro j
  rw [Array.getElem?_modify]
  by_cases e : i = j
  · subst e; rw [if_pos rfl]
    cases hx : l[i]? with
    | none => rfl
    | some x => simp [h x hx]
  · rw [if_neg e]
theorem modify_congr {α : Type} (l : Array α) (i : Nat) (f g : α → α) (h : ∀ x, l[i]? = some x → f x = g x) : l.modify i f = l.modify i g := by
  apply Array.ext_getElem?
  intro j
  rw [Array.getElem?_modify, Array.getElem?_modify]
  by_cases e : i = j
  · subst e; rw [if_pos rfl, if_pos rfl]
    cases hx : l[i]? with
    | none => rfl
    | some x => simp [h x hx]
  · rw [if_neg e, if_neg e]

theorem run_keyThatStays {key : V} {key' : Value} (_hk : VRel β key key') {d : Go.TypeDesc} {a : Value} {c : Bool} (h : Go.Instr.sameNow d key' a = some c) (w : World) : (Go.Instr.keyThatStays key' key').run P w = .ok key' w := by
  simp [Go.Instr.keyThatStays, key_bits h]
theorem findNow_same {d : Go.TypeDesc} {key' : Value} : ∀ {es : List Go.MapEntry} {j : Nat} {r : Option (Nat × Value)}, Go.Instr.findNow d key' es j = some r → es ≠ [] → ∃ a c, Go.Instr.sameNow d key' a = some c
  | [], _, _, _, h => absurd rfl h
  | m :: es, j, r, h, _ => by
    simp only [Go.Instr.findNow] at h
    cases hs : Go.Instr.sameNow d key' m.key with
    | none => rw [hs] at h; cases h
    | some c => exact ⟨_, _, hs⟩

theorem mupdK_out (h : Sim β s w) {t : Nat} {kf : KF} {z : V} (hm : MapOk P t kf z) {m key v : V} {m' key' v' : Value} (hx : VRel β m m') (hk : VRel β key key') (hv : VRel β v v') :
    Out β s w P (fun k => mupdK m kf key v s k) (skipOf (Go.Instr.mapUpdate t m' key' v')) := by
  obtain ⟨kt, e, d, hu, hd, hkf, i, z', hi, hz, hzr⟩ := hm.und
  cases hx <;> first | exact .inl ⟨0, fun k => rfl⟩ | skip
  case map id b hb =>
    rcases h.isMap hb with hf | ⟨l, c, es, h1, h2, h3, h4⟩
    · exact .inl ⟨0, fun k => hf _ _⟩
    · have e1 : ∀ k, mupdK (.map id) kf key v s k = mfind kf (k (.tup []) (s.set id (.map (mpush ⟨key, v, c⟩ l) (Nat.succ c)))) (fun p => k (.tup []) (s.set id (.map (mstamp p.born v l) c))) key l := fun k => by
        show mapK fl (s.get id) _ = _; rw [h1, mapK_map]
      rcases mfind_out hkf hk h3 0 with hf | ⟨hn, hg⟩ | ⟨j, en, mn, a1, a2, a3, a4, a5, a6⟩
      · exact .inl ⟨0, fun k => (e1 k).trans (hf _ _)⟩
      · refine .inr ⟨_, _, fun k => (e1 k).trans (hn _ _), goes_skip (w' := putObj w b (.map (es.push { key := key', val := v', born := c }) (c + 1))) ?_ ?_⟩
        · simp [Go.Instr.mapUpdate, run_und hu, run_getMap h2, run_checkKey hkf hd, run_findKey (hu := hd) hg, run_setMap h2]
        · obtain ⟨a, b'⟩ := h.setMap hb h1 h2 (l' := mpush ⟨key, v, c⟩ l) (c' := c + 1) (es' := es.push { key := key', val := v', born := c }) (by rw [mpush_eq, Array.toList_push]; exact h3.push ⟨hk, hv, rfl⟩) (by rw [mpush_eq]; exact h4.push _ rfl)
          exact ⟨β, undef_rel, a, b'⟩
      · have hes : es.toList ≠ [] := fun e => by rw [e] at a2; simp at a2
        obtain ⟨aa, cc, hsame⟩ := findNow_same a5 hes
        have a2' : es[j]? = some mn := by simpa using a2
        have hmod : (es.modify j fun e => { e with key := key', val := v' }) = es.modify j fun e => { e with val := v' } := modify_congr _ _ _ _ (fun x hx => by
          rw [a2'] at hx; cases hx; rw [← a6])
        refine .inr ⟨_, _, fun k => (e1 k).trans (a4 _ _), goes_skip (w' := putObj w b (.map (es.modify j fun e => { e with val := v' }) c)) ?_ ?_⟩
        · simp [Go.Instr.mapUpdate, run_und hu, run_getMap h2, run_checkKey hkf hd, run_findKey (hu := hd) a5, run_setMap h2, a2', a6, run_keyThatStays hk hsame, hmod]
        · obtain ⟨a, b'⟩ := h.setMap hb h1 h2 (l' := mstamp en.born v l) (c' := c) (es' := es.modify j fun e => { e with val := v' }) (by
            rw [Array.toList_modify]; exact h3.stamp hv h4 a1) (h4.stamp _ _)
          exact ⟨β, undef_rel, a, b'⟩

theorem putObj_self {r : Nat} {o : Go.Obj} (h : w.heap[r]? = some o) : (putObj w r o).heap = w.heap := by
  obtain ⟨hr, he⟩ := Array.getElem?_eq_some_iff.1 h
  apply Array.ext_getElem?
  intro j
  simp only [putObj]
  rw [Array.getElem?_setIfInBounds]
  by_cases e : r = j
  · subst e; rw [if_pos rfl, if_pos hr, h]
  · rw [if_neg e]

theorem mentK_out (h : Sim β s w) {t : Nat} {kf : KF} {z : V} (hm : MapOk P t kf z) {m key : V} {m' key' : Value} (hx : VRel β m m') (hk : VRel β key key') :
    Out β s w P (fun k => mentK m kf z key s k) (valueOf (Go.Instr.mapEntry t m' key')) := by
  obtain ⟨kt, e, d, hu, hd, hkf, i, z', hi, hz, hzr⟩ := hm.und
  have hz0 := fun w => run_zero (P := P) hi hz w
  have hzb := hzr.mono (nowhere_le β)
  cases hx <;> first | exact .inl ⟨0, fun k => rfl⟩ | skip
  case map id b hb =>
    rcases h.isMap hb with hf | ⟨l, c, es, h1, h2, h3, h4⟩
    · exact .inl ⟨0, fun k => hf _ _⟩
    · have e0 : ∀ k, mentK (.map id) kf z key s k = if c ≤ 1048576 then mfind kf (k (.tup [z, .p c]) (s.set id (.map (mpush ⟨key, z, c⟩ l) (Nat.succ c)))) (fun p => k (.tup [p.val, .p p.born]) s) key l else fl := fun k => by
        show mapK fl (s.get id) _ = _; rw [h1, mapK_map, bleRec]
      by_cases hc : c ≤ 1048576
      case neg => exact .inl ⟨0, fun k => (e0 k).trans (if_neg hc)⟩
      have e1 := fun k => (e0 k).trans (if_pos hc)
      rcases mfind_out hkf hk h3 0 with hf | ⟨hn, hg⟩ | ⟨j, en, mn, a1, a2, a3, a4, a5, a6⟩
      · exact .inl ⟨0, fun k => (e1 k).trans (hf _ _)⟩
      · refine .inr ⟨_, _, fun k => (e1 k).trans (hn _ _), goes_value (x := .tuple #[z', .int .i64 c]) (w' := putObj w b (.map (es.push { key := key', val := z', born := c }) (c + 1))) ?_ ?_⟩
        · simp [Go.Instr.mapEntry, run_und hu, run_getMap h2, run_checkKey hkf hd, run_findKey (hu := hd) hg, run_setMap h2, hz0, Go.goInt]
        · obtain ⟨a, b'⟩ := h.setMap hb h1 h2 (l' := mpush ⟨key, z, c⟩ l) (c' := c + 1) (es' := es.push { key := key', val := z', born := c }) (by rw [mpush_eq, Array.toList_push]; exact h3.push ⟨hk, hzb, rfl⟩) (by rw [mpush_eq]; exact h4.push _ rfl)
          exact ⟨β, .tup [z, .p c] [z', .int .i64 c] (.cons _ _ _ _ hzb (.cons _ _ _ _ (.p c (by omega)) .nil)), a, b'⟩
      · have hes : es.toList ≠ [] := fun e => by rw [e] at a2; simp at a2
        obtain ⟨aa, cc, hsame⟩ := findNow_same a5 hes
        have a2' : es[j]? = some mn := by simpa using a2
        have hmod : (es.modify j fun e => { e with key := key' }) = es := modify_eq_self _ _ _ (fun x hx => by
          rw [a2'] at hx; cases hx; rw [← a6])
        have hlt := h4.lt en (List.mem_of_getElem? a1)
        refine .inr ⟨_, s, fun k => (e1 k).trans (a4 _ _), goes_value (x := .tuple #[mn.val, .int .i64 en.born]) (w' := putObj w b (.map es c)) ?_ ?_⟩
        · simp [Go.Instr.mapEntry, run_und hu, run_getMap h2, run_checkKey hkf hd, run_findKey (hu := hd) a5, run_setMap h2, a2', a6, run_keyThatStays hk hsame, hmod, Go.goInt, a3.born]
        · exact ⟨β, .tup [en.val, .p en.born] [mn.val, .int .i64 en.born] (.cons _ _ _ _ a3.val (.cons _ _ _ _ (.p _ (by omega)) .nil)), h.world (putObj_self h2), (Post.refl β s w).world (putObj_self h2) rfl rfl rfl⟩

/-- the entry of a stamp -/
theorem mhasb_find {l : List Ent} {es : List Go.MapEntry} (h : EntsRel β l es) (b : Nat) (hb : mhasb b l = true) :
    ∃ j e, l[j]? = some e ∧ e.born = b ∧ es.findIdx? (fun m => (m.born : Int) == (b : Int)) = some j := by
  induction h with
  | nil => rw [mhasb_nil] at hb; cases hb
  | cons e m l es he _ ih =>
    rw [mhasb_cons] at hb
    by_cases hc : e.born = b
    · refine ⟨0, e, rfl, hc, ?_⟩
      have : ((m.born : Int) == (b : Int)) = true := by rw [he.born, hc]; simp
      rw [List.findIdx?_cons, this]; rfl
    · have : Nat.beq e.born b = false := by rw [beq_dec]; simp [hc]
      rw [this, Bool.false_or] at hb
      obtain ⟨j, e', a1, a2, a3⟩ := ih hb
      refine ⟨j + 1, e', by simpa using a1, a2, ?_⟩
      have : ((m.born : Int) == (b : Int)) = false := by rw [he.born, beq_eq_false_iff_ne]; omega
      rw [List.findIdx?_cons, this, a3]; rfl

theorem mstK_out (h : Sim β s w) {m b v : V} {m' b' v' : Value} (t : Nat) (hx : VRel β m m') (hb : VRel β b b') (hv : VRel β v v') :
    Out β s w P (fun k => mstK m b v s k) (skipOf (Go.Instr.entryStore t m' b' v')) := by
  cases hx <;> first | exact .inl ⟨0, fun k => rfl⟩ | skip
  case map id r hr =>
    cases hb <;> first | exact .inl ⟨0, fun k => rfl⟩ | skip
    case p n hn =>
      rcases h.isMap hr with hf | ⟨l, c, es, h1, h2, h3, h4⟩
      · exact .inl ⟨0, fun k => hf _ _⟩
      · have e1 : ∀ k, mstK (.map id) (.p n) v s k = if mhasb n l = true then k (.tup []) (s.set id (.map (mstamp n v l) c)) else fl := fun k => by
          show mapK fl (s.get id) _ = _; rw [h1, mapK_map]
          show (Bool.rec fl (k (.tup []) (s.set id (.map (mstamp n v l) c))) (mhasb n l) : RC) = _
          cases mhasb n l <;> rfl
        by_cases hc : mhasb n l = true
        case neg => exact .inl ⟨0, fun k => (e1 k).trans (if_neg hc)⟩
        obtain ⟨j, e, a1, a2, a3⟩ := mhasb_find h3 n hc
        refine .inr ⟨_, _, fun k => (e1 k).trans (if_pos hc), goes_skip (w' := putObj w r (.map (es.modify j fun e => { e with val := v' }) c)) ?_ ?_⟩
        · have a3' : es.findIdx? (fun m => (m.born : Int) == (n : Int)) = some j := by cases es; simpa using a3
          simp [Go.Instr.entryStore, run_getMap h2, Go.asInt, Go.asIntOf, a3', run_setMap h2]
        · subst a2
          obtain ⟨a, b'⟩ := h.setMap hr h1 h2 (l' := mstamp e.born v l) (c' := c) (es' := es.modify j fun e => { e with val := v' }) (by
            rw [Array.toList_modify]; exact h3.stamp hv h4 a1) (h4.stamp _ _)
          exact ⟨β, undef_rel, a, b'⟩
end
end Viv

/-
  STEPS: iterators over strings, bytes to string, make of slices, the rest.
-/
namespace Viv
open Go (Value World IntKind Addr Program Act Exit Oper Operand Ending undef)

section
variable {β : Beta} {P : Program} {s : St} {w : World}

theorem rangeK_out (h : Sim β s w) {x : V} {x' : Value} {t : Nat} (hu : P.underlying t = some .string) (hx : VRel β x x') :
    Out β s w P (fun k => rangeK x s k) (valueOf (Go.Instr.range t x')) := by
  cases hx <;> first | exact .inl ⟨0, fun k => rfl⟩ | skip
  case str l n b h1 h2 h3 =>
    obtain ⟨sm, sp⟩ := h.push (w' := w.alloc (.stringIter b 0)) (.iter l n 0) (.iter w.heap.size) (by simp) (fun b hb => Go.heap_alloc_old w _ b hb) (by simp [Loc.blocks])
      ⟨b, Go.heap_alloc_new w _, .str l n b h1 h2 h3⟩ rfl rfl rfl
    refine .inr ⟨.ptr s.next 0, s.push (.iter l n 0), fun k => rfl, goes_value (x := .pointer (some ⟨w.heap.size, 0, none⟩)) (w' := w.alloc (.stringIter b 0)) ?_ ⟨_, .ptri _ 0 _ (Beta.ext_same _ _ _), sm, sp⟩⟩
    simp [Go.Instr.range, run_und hu]

theorem Sim.isIter (h : Sim β s w) {id : Pth} {b : Nat} (hb : β id = some (.iter b)) :
    s.get id = .none ∨ ∃ l n p bs, s.get id = .iter l n p ∧ w.heap[b]? = some (.stringIter bs p) ∧ VRel β (.str l n) (.string bs) := by
  have := h.obj id _ hb
  cases ho : s.get id with
  | iter a b c => rw [ho] at this; obtain ⟨bs, x, y⟩ := this; exact .inr ⟨_, _, _, bs, rfl, x, y⟩
  | none => exact .inl rfl
  | row l => rw [ho] at this; exact this.elim
  | vec d t n z => rw [ho] at this; exact this.elim
  | map a b => rw [ho] at this; exact this.elim
  | mem m => rw [ho] at this; exact this.elim
  | set t' => rw [ho] at this; exact this.elim

theorem nextO_row {β : Beta} {loc : Loc} {o : AObj} (h : ObjRel β w o loc) (hn : ∀ b, loc ≠ .iter b) (id : Pth) (s : St) (k : K) : nextO o id s k = fl := by
  cases o <;> first | rfl | skip
  cases loc <;> first | exact h.elim | exact absurd rfl (hn _)

theorem nextK_out (h : Sim β s w) {x : V} {x' : Value} (ty : Nat) (hx : VRel β x x') :
    Out β s w P (fun k => nextK x s k) (valueOf (Go.Instr.next x' true ty)) := by
  cases hx <;> first | exact .inl ⟨0, fun k => rfl⟩ | skip
  case ptr id off b o sz hb =>
    refine .inl ⟨0, fun k => ?_⟩
    show (Bool.rec fl (nextO (s.get id) id s k) (Nat.beq off 0) : RC) = _
    rw [nextO_row (h.obj id _ hb) (fun b e => by cases e)]; cases Nat.beq off 0 <;> rfl
  case ptrm id off y hb =>
    refine .inl ⟨0, fun k => ?_⟩
    show (Bool.rec fl (nextO (s.get id) id s k) (Nat.beq off 0) : RC) = _
    rw [nextO_row (h.obj id _ hb) (fun b e => by cases e)]; cases Nat.beq off 0 <;> rfl
  case ptri id off r hr =>
    have e0 : ∀ k, nextK (.ptr id off) s k = if off = 0 then nextO (s.get id) id s k else fl := fun k => by
      show (Bool.rec fl (nextO (s.get id) id s k) (Nat.beq off 0) : RC) = _; rw [beqRec]
    by_cases h0 : off = 0
    case neg => exact .inl ⟨0, fun k => (e0 k).trans (if_neg h0)⟩
    subst h0
    have e1 := fun k => (e0 k).trans (if_pos rfl)
    rcases h.isIter hr with hn | ⟨l, n, p, bs, h1, h2, h3⟩
    · exact .inl ⟨0, fun k => (e1 k).trans (by rw [hn]; rfl)⟩
    · have e2 : ∀ k, nextK (.ptr id 0) s k = if p + 1 ≤ l then (if (n >>> (8 * p)) % 256 ≤ 127 then k (.tup [.tt, .p p, .k 2 ((n >>> (8 * p)) % 256)]) (s.set id (.iter l n (p + 1))) else fl) else k (.tup [.ff]) s := fun k => by
        rw [e1, h1]
        show (Bool.rec (k (.tup [.ff]) s) ((fun c => Bool.rec fl (k (.tup [.tt, .p p, .k 2 c]) (s.set id (.iter l n (Nat.succ p)))) (Nat.ble c 127)) (Nat.mod (Nat.shiftRight n (Nat.mul 8 p)) 256)) (Nat.ble (p + 1) l) : RC) = _
        rw [bleRec]
        show (if p + 1 ≤ l then (Bool.rec fl (k (.tup [.tt, .p p, .k 2 ((n >>> (8 * p)) % 256)]) (s.set id (.iter l n (p + 1)))) (Nat.ble ((n >>> (8 * p)) % 256) 127) : RC) else _) = _
        rw [bleRec]
      cases h3 with
      | str _ _ _ g1 g2 g3 =>
      by_cases hp : p + 1 ≤ l
      · by_cases hc : (n >>> (8 * p)) % 256 ≤ 127
        · have hlt : p < bs.size := by omega
          have hget : (n >>> (8 * p)) % 256 = (bs[p]'hlt).toNat := by
            have := bnum_get bs.data.toList p (by simpa using hlt)
            rw [g2] at this; rw [this]; simp; rfl
          have ha : (bs[p]'hlt).toNat < 128 := by omega
          obtain ⟨sm, sp⟩ := h.set (w' := putObj w r (.stringIter bs (p + 1))) id (.iter l n (p + 1)) _ hr (by rw [h1]; intro e; cases e) (putObj_size _ _) (fun x hx => putObj_other _ (by simpa [Loc.blocks] using hx))
            ⟨bs, putObj_same h2, .str l n bs g1 g2 g3⟩ rfl rfl rfl
          refine .inr ⟨_, _, fun k => (e2 k).trans (by rw [if_pos hp, if_pos hc]), goes_value (x := .tuple #[.bool true, .int .i64 p, .int .i32 (bs[p]'hlt).toNat]) (w' := putObj w r (.stringIter bs (p + 1))) ?_ ⟨β, .tup [.tt, .p p, .k 2 ((n >>> (8 * p)) % 256)] [.bool true, .int .i64 p, .int .i32 (bs[p]'hlt).toNat] ?_, sm, sp⟩⟩
          · simp [Go.Instr.next, run_getIter h2, hlt, Go.decode_ascii bs p hlt ha, run_setIter h2, Go.goInt]
          · refine .cons _ _ _ _ .tt (.cons _ _ _ _ (.p p (by omega)) (.cons _ _ _ _ ?_ .nil))
            rw [hget]; exact .k2 _ (by omega)
        · exact .inl ⟨0, fun k => (e2 k).trans (by rw [if_pos hp, if_neg hc]; rfl)⟩
      · refine .inr ⟨.tup [.ff], s, fun k => (e2 k).trans (if_neg hp), goes_value (x := .tuple #[.bool false]) (w' := w) ?_ ⟨β, .tup [.ff] [.bool false] (.cons _ _ _ _ .ff .nil), h, .refl β s w⟩⟩
        have : ¬ p < bs.size := by omega
        simp [Go.Instr.next, run_getIter h2, this]

/-! bytes to string -/
theorem bytesNum_nil (k : Nat → RC) : bytesNum [] k = k 0 := rfl
theorem bytesNum_cons (v : V) (l : L) (k : Nat → RC) : bytesNum (v :: l) k = asBy v (fun n => bytesNum l (fun m => k (n + 256 * m))) := rfl
theorem bytesNum_out : ∀ {l : L} {xs : List Value}, VRels β l xs → (∀ k, bytesNum l k = fl) ∨ ∃ bs : List UInt8, (∀ k, bytesNum l k = k (bnum bs)) ∧ xs = bs.map (fun b => (.int .u8 b.toNat : Value))
  | [], _, .nil => .inr ⟨[], fun k => rfl, rfl⟩
  | v :: l, _, .cons _ x _ xs hv hl => by
    cases hv <;> first | exact .inl fun k => rfl | skip
    case «by» n hn =>
      rcases bytesNum_out hl with hf | ⟨bs, hk, rfl⟩
      · exact .inl fun k => by rw [bytesNum_cons]; exact hf _
      · refine .inr ⟨UInt8.ofNat n :: bs, fun k => ?_, ?_⟩
        · rw [bytesNum_cons]
          show bytesNum l _ = _
          rw [hk, bnum]; congr 2; simp; omega
        · simp; omega
theorem fold_bytes : ∀ (bs : List UInt8) (r : ByteArray), ((bs.map (fun b => ((b.toNat : Nat) : Int))).foldl (fun r n => r.push (UInt8.ofNat n.toNat)) r).data.toList = r.data.toList ++ bs
  | [], r => by simp
  | b :: bs, r => by
    simp only [List.map_cons, List.foldl_cons]
    rw [fold_bytes bs]
    simp

theorem conv11K_out {x : V} {x' : Value} {src dst : Nat} (hd : P.underlying dst = some .string) (hs : P.underlying src = some .string) (hx : VRel β x x') : PureOut β (conv11K x) P (Go.convert src dst x') w := by
  cases hx <;> first | exact .fail (fun k => rfl) | skip
  case str l n b h1 h2 h3 => exact .ok (.str l n) (.string b) (fun k => rfl) (.str l n b h1 h2 h3) (by simp [Go.convert, run_und hs, run_und hd])

theorem conv10K_out (h : Sim β s w) {x : V} {x' : Value} {src dst e : Nat} (hd : P.underlying dst = some .string) (hs : P.underlying src = some (.slice e)) (he : P.underlying e = some (.int .u8)) (hx : VRel β x x') :
    PureOut β (conv10K x s) P (Go.convert src dst x') w := by
  have empty : VRel β (.str 0 0) (.string ByteArray.empty) := .str 0 0 _ rfl rfl (by omega)
  cases hx <;> first | exact .fail (fun k => rfl) | skip
  case nils =>
    refine .ok (.str 0 0) (.string .empty) (fun k => rfl) empty ?_
    rw [Go.run_convert_bytes_string w src dst e _ _ _ hs he hd]; simp [Go.Conv.bytesToString]
  case esl a c' =>
    refine .ok (.str 0 0) (.string .empty) (fun k => rfl) empty ?_
    rw [Go.run_convert_bytes_string w src dst e _ _ _ hs he hd]
    exact Go.run_bytesToString w a 0 c' [] (by simp [Go.loadCells, Go.loadCellsFrom])
  case slc id off n ex c es b o sz c' hb h1 h2 h3 h4 h5 =>
    have e1 : ∀ k, conv10K (.slc id off n ex c es) s k = if (rdMany (s.get id) off n).length = n then bytesNum (rdMany (s.get id) off n) (fun m => k (.str n m)) else fl := fun k => by
      show (Bool.rec fl (bytesNum (rdMany (s.get id) off n) (fun m => k (.str n m))) (Nat.beq (len (rdMany (s.get id) off n)) n) : RC) = _
      rw [beqRec, len_eq]
    by_cases hl : (rdMany (s.get id) off n).length = n
    case neg => exact .fail (fun k => (e1 k).trans (if_neg hl))
    obtain ⟨xs, a1, a2, a3, a4⟩ : ∃ xs : List Value, xs.length = n ∧ VRels β (rdMany (s.get id) off n) xs ∧ (∀ x ∈ xs, x.oneCell' = true) ∧ (Go.loadCells ⟨b, o + off, none⟩ n).run P w = .ok xs.toArray w := by
      have hl' : (rdMany (s.get id) off (n * 1)).length = n * 1 := by rw [Nat.mul_one]; exact hl
      obtain ⟨xs, a1, a2, a3, a4⟩ := run_first (P := P) (c' := c') (sz := 1) h hb rfl hl'
      rw [Nat.mul_one] at a1 a2
      have := a4 w rfl
      rw [Go.Builtin.firstCells, Nat.mul_one] at this
      exact ⟨xs, a1, a2, a3, this⟩
    rcases bytesNum_out a2 with hf | ⟨bs, hk, rfl⟩
    · exact .fail (fun k => (e1 k).trans (by rw [if_pos hl, hf]))
    · have hrun := Go.run_bytesToString (P := P) w ⟨b, o + off, none⟩ n c' (bs.map (fun b => ((b.toNat : Nat) : Int))) (by rw [List.map_map]; exact a4)
      have hd2 := fold_bytes bs ByteArray.empty
      have hnil : ByteArray.empty.data.toList = [] := rfl
      rw [hnil, List.nil_append] at hd2
      refine .ok (.str n (bnum bs)) _ (fun k => (e1 k).trans (by rw [if_pos hl, hk])) (.str _ _ _ ?_ (by rw [hd2]) (by omega)) (by rw [Go.run_convert_bytes_string w src dst e _ _ _ hs he hd]; exact hrun)
      have := congrArg List.length hd2
      simp at this a1
      rw [← a1, ← this]

/-! make of a slice -/
theorem nget_const {_β : Beta} {z : V} (d i : Nat) : nget z d .mt i = z := nget_e z d i

structure MakeOk (P : Program) (β : Beta) (t el sz : Nat) (z : L) : Prop where
  und : P.underlying t = some (.slice el)
  pos : sz ≠ 0
  info : ∃ i zv, P.info? el = some i ∧ i.size = sz ∧ i.bytes ≤ 4096 ∧ i.zero = some zv ∧ zv.cells.size = sz ∧ VRels β z zv.cells.toList ∧ ∀ x ∈ zv.cells.toList, x.oneCell' = true

theorem mkslK_out (h : Sim β s w) {t el sz : Nat} {z : L} (hm : MakeOk P β t el sz z) {n c : V} {n' c' : Value} (hn : VRel β n n') (hc : VRel β c c') :
    Out β s w P (fun k => mkslK sz z n c s k) (valueOf (Go.Instr.makeSlice t n' c')) := by
  obtain ⟨i, zv, hi, hs, hbt, hz, hzs, hzr, h1⟩ := hm.info
  rcases asNat_out hn with hf | ⟨n0, hk, rfl, hn0⟩
  · exact .inl ⟨0, fun k => hf _⟩
  rcases asNat_out hc with hf | ⟨c0, hk2, rfl, hc0⟩
  · exact .inl ⟨0, fun k => by show asNat n _ = _; rw [hk, hf]; rfl⟩
  have e1 : ∀ k, mkslK sz z n c s k = if n0 ≤ c0 then (if c0 ≤ 1048576 then (if sz = 1 then k (.slc s.next 0 n0 true c0 sz) (s.push (.vec (depthOf c0) .mt c0 (hd z))) else k (.slc s.next 0 n0 true c0 sz) (s.push (mkVec (repL c0 z)))) else fl) else fl := fun k => by
    show asNat n _ = _
    rw [hk, hk2, bleRec, bleRec, beqRec]
  by_cases hle : n0 ≤ c0
  case neg => exact .inl ⟨0, fun k => (e1 k).trans (if_neg hle)⟩
  by_cases hbig : c0 ≤ 1048576
  case neg => exact .inl ⟨0, fun k => (e1 k).trans (by rw [if_pos hle, if_neg hbig]; rfl)⟩
  have hrun := Go.run_make (P := P) w t el i zv hm.und hi hz .i64 .i64 n0 c0 (by omega) (by omega) (by
    have : i.bytes * c0 ≤ 4096 * 1048576 := Nat.mul_le_mul hbt hbig
    have h2 : (i.bytes : Int) * (c0 : Int) = ((i.bytes * c0 : Nat) : Int) := by simp
    rw [h2]; omega) (by omega)
  simp only [Int.toNat_natCast, hs] at hrun
  have hcells : Go.madeCells zv.cells (c0 * sz) = ((Array.range (c0 * zv.cells.size)).map (fun i => zv.cells[i % zv.cells.size]!)) := by unfold Go.madeCells; simp only [hzs]
  obtain ⟨xs, hxs⟩ : ∃ xs : List Value, xs = ((Array.range (c0 * zv.cells.size)).map (fun i => zv.cells[i % zv.cells.size]!)).toList := ⟨_, rfl⟩
  have hxl : xs.length = c0 * sz := by rw [hxs]; simp [hzs]
  have hmade : Go.madeCells zv.cells (c0 * sz) = xs.toArray := by rw [hcells, hxs]
  have hrel : VRels β (repL c0 z) xs := by rw [hxs]; exact repL_rel hzr c0
  have hone : ∀ x ∈ xs, x.oneCell' = true := by rw [hxs]; exact rep_one h1 c0 (.inr (by have := hm.pos; omega))
  have hzl : z.length = sz := by rw [hzr.length]; simpa using hzs
  rw [hmade] at hrun
  have fin : ∀ o, Viv.isRow o = some (c0 * sz) → (∀ d t m z, o = .vec d t m z → m ≤ 2 ^ d) → (∀ i, i < c0 * sz → rdObj o i = ((repL c0 z)[i]?).getD .bad) → (∀ k, mkslK sz z n c s k = k (.slc s.next 0 n0 true c0 sz) (s.push o)) →
      Out β s w P (fun k => mkslK sz z n c s k) (valueOf (Go.Instr.makeSlice t (.int .i64 n0) (.int .i64 c0))) := by
    intro o ho hv hrd hk
    obtain ⟨sm, sp⟩ := h.newRow o (c0 * sz) xs el ho hv (by omega) (fun i hi => by
      have hlt : i < (repL c0 z).length := by rw [repL_length, hzl]; exact hi
      obtain ⟨x, hx1, hx2⟩ := hrel.get i _ (List.getElem?_eq_getElem hlt)
      refine ⟨x, hx1, hone x (List.mem_of_getElem? hx1), ?_⟩
      rw [hrd i hi, List.getElem?_eq_getElem hlt]; exact hx2)
    refine .inr ⟨_, _, hk, goes_value hrun ⟨_, .slc _ _ _ _ _ _ w.heap.size 0 xs.length c0 (Beta.ext_same _ _ _) hle (Nat.le_refl _) (fun _ => rfl) (by omega) (by omega), sm, sp⟩⟩
  by_cases h1s : sz = 1
  · refine fin (.vec (depthOf c0) .mt c0 (hd z)) (by rw [h1s, Nat.mul_one]; rfl) (fun d t m z e => by cases e; exact depthOf_le c0) (fun i hi => ?_) (fun k => (e1 k).trans (by rw [if_pos hle, if_pos hbig, if_pos h1s]))
    rw [h1s] at hzl hi
    rw [Nat.mul_one] at hi
    rw [rdObj_vec, if_pos hi, nget_e]
    rw [repL_get c0 z i (by rw [hzl, Nat.mul_one]; exact hi), hzl, Nat.mod_one]
    cases z with
    | nil => simp at hzl
    | cons a b => rfl
  · refine fin (mkVec (repL c0 z)) (by rw [mkVec_row, repL_length, hzl]) (mkVec_ok _) (fun i hi => mkVec_rd _ i (by rw [repL_length, hzl]; exact hi)) (fun k => (e1 k).trans (by rw [if_pos hle, if_pos hbig, if_neg h1s]))

/-! the rest -/
theorem mkfn_out {f : Pth} {a b : L} {a' b' : List Value} (ha : VRels β a a') (hb : VRels β b b') (h : Sim β s w) :
    Out β s w P (fun k => k (.fn f a b) s) (valueOf (Go.Instr.makeFunc (.func (num f)) a'.toArray b'.toArray)) :=
  .inr ⟨_, s, fun _k => rfl, goes_value (x := .func (.func (num f)) a'.toArray b'.toArray) (w' := w) rfl ⟨β, .fn f a b a' b' ha hb, h, .refl β s w⟩⟩

theorem minK_out {x y : V} {x' y' : Value} (ts : Array Nat) (t : Nat) (hx : VRel β x x') (hy : VRel β y y') : PureOut β (minK x y) P (Go.Builtin.min_ ts t #[x', y']) w := by
  cases hx <;> first | exact .fail (fun k => rfl) | skip
  case p n hn =>
    cases hy <;> first | exact .fail (fun k => rfl) | skip
    case p m hm =>
      refine .ok (if m ≤ n then .p m else .p n) (.int .i64 (if (m : Int) < (n : Int) then (m : Int) else (n : Int))) (fun k => ?_) ?_ ?_
      · show (Bool.rec (k (.p n)) (k (.p m)) (Nat.ble m n) : RC) = _
        rw [bleRec]; split <;> rfl
      · by_cases h : m < n
        · rw [if_pos (by omega), if_pos (by omega)]; exact .p m hm
        · rw [if_neg (show ¬ (m : Int) < (n : Int) by omega)]
          split
          · rw [show m = n by omega]; exact .p n hn
          · exact .p n hn
      · simp [Go.Builtin.min_, Go.Builtin.min2]
end
end Viv
