/- Lemmas for the walks of this program: What the small functions compute, in plain words. No program is named here. More operations: bits, strings, interfaces, function values; texts as runes. No program is named here. Operations: their cells, and what they must be. Interfaces' calls. No program is named here. Sets of operations by their dots. No program is named here. Ranges over functions: the iterator's yield, the loop's rounds, the mark at the end. Consumers go on to the end. No program is named here. Words of bits. No program is named here. slices.Sort of numbers, by the library's contract. -/
import Derived.RangeFuncRecord
import Derived.Shelf.Sort.AssemblyIn
import Derived.Sort.EveryDepth
import Derived.Shelf.Lays
import Derived.Test.YtcjnbfpkigadeaaGreatDoorProg
import Derived.Test.YtcjnbfpkigadeaaGreatDoorJ3
set_option linter.unusedVariables false
set_option linter.unusedSimpArgs false
/- What the small functions compute, in plain words. No program is named here. -/
namespace Go.W
open Go

theorem eqsF {a b : Bool} (h : (a && b) = false) : ¬ (a = true ∧ b = true) := by cases a <;> cases b <;> simp_all
theorem eq_ID (x y : ID) : ((x.time == y.time) && ((x.site == y.site) && true)) = decide (x = y) := by
  obtain ⟨a, b⟩ := x; obtain ⟨c, d⟩ := y
  simp only [Bool.and_true, ID.mk.injEq]
  rw [Bool.eq_iff_iff]; simp
theorem eq_Dot (x y : Dot) : ((x.site == y.site) && ((x.seq == y.seq) && true)) = decide (x = y) := by
  obtain ⟨a, b⟩ := x; obtain ⟨c, d⟩ := y
  simp only [Bool.and_true, Dot.mk.injEq]
  rw [Bool.eq_iff_iff]; simp

/-! ### vector.Add -/
def addE (v : List Dot) (d : Dot) : Int :=
  if ¬ (1 ≤ d.site ∧ d.site ≤ 16) ∨ d.seq < 1 then 1 else if 2147483647 < d.seq then 17 else if d.seq ≠ getV v d.site + 1 then 9 else 0
def addV (v : List Dot) (d : Dot) : List Dot := vecOf fun s => if s = 0 + d.site.toNat * 1 then d.seq else says v s
theorem getV_nonneg (v : List Dot) (s : Int) : 0 ≤ getV v s := by unfold getV; split <;> simp [says_nonneg]
theorem getV_le (v : List Dot) (s : Int) : getV v s ≤ 2147483647 := by unfold getV; split <;> simp [says_le]

/-! ### Identifiers -/
def isID (x : ID) : Prop := 1 ≤ x.time ∧ x.time ≤ 2147483647 ∧ 1 ≤ x.site ∧ x.site ≤ 16
instance (x : ID) : Decidable (isID x) := by unfold isID; infer_instance
def cmpI (a b : Int) : Int := if a < b then -1 else if b < a then 1 else 0
def orI : List Int → Int
  | [] => 0
  | x :: r => if x ≠ 0 then x else orI r
def cmpID (a b : ID) : Int := if cmpI a.time b.time ≠ 0 then cmpI a.time b.time else cmpI a.site b.site
def afterID (x : ID) (n : Int) : ID := if (1 ≤ x.time ∧ x.time ≤ 2147483647 ∧ 1 ≤ x.site ∧ x.site ≤ 16) ∧ 0 ≤ n ∧ n ≤ 2147483647 - x.time then ⟨x.time + n, x.site⟩ else ⟨0, 0⟩
def lastR (r : Run) : ID := if r.count < 1 then ⟨0, 0⟩ else afterID r.id (r.count - 1)
theorem orI_at {l : List Int} {i : Nat} {y : Int} (e : l[i]? = some y) : orI (l.drop i) = if y ≠ 0 then y else orI (l.drop (i + 1)) := by
  obtain ⟨h, rfl⟩ := List.getElem?_eq_some_iff.1 e
  rw [List.drop_eq_getElem_cons h]; rfl
theorem orI_end {l : List Int} {i : Nat} (h : l.length ≤ i) : orI (l.drop i) = 0 := by rw [List.drop_eq_nil_of_le h]; rfl
def RInt (_ : Mem) (vs : List Value) (n : Int) : Prop := vs = [.int .i64 n]
theorem mInt : Mono RInt := fun _ _ _ _ _ h => h
theorem after_yes {x : ID} {n : Int} (h : (1 ≤ x.time ∧ x.time ≤ 2147483647 ∧ 1 ≤ x.site ∧ x.site ≤ 16) ∧ 0 ≤ n ∧ n ≤ 2147483647 - x.time) : afterID x n = ⟨x.time + n, x.site⟩ := by rw [afterID, if_pos h]
theorem after_no {x : ID} {n : Int} (h : ¬ ((1 ≤ x.time ∧ x.time ≤ 2147483647 ∧ 1 ≤ x.site ∧ x.site ≤ 16) ∧ 0 ≤ n ∧ n ≤ 2147483647 - x.time)) : afterID x n = ⟨0, 0⟩ := by rw [afterID, if_neg h]
theorem agg2 {a b c d : Int} (h1 : a = c) (h2 : b = d) : Value.agg #[.int .i64 a, .int .i64 b] = .agg #[.int .i64 c, .int .i64 d] := by rw [h1, h2]
theorem encID_eq {x y : ID} (h : x = y) : Value.agg #[.int .i64 x.time, .int .i64 x.site] = .agg #[.int .i64 y.time, .int .i64 y.site] := by rw [h]
theorem afterID_le (x : ID) (n : Int) : 0 ≤ (afterID x n).time ∧ (afterID x n).time ≤ 2147483647 := by
  unfold afterID; split
  · rename_i h; dsimp only; omega
  · simp

/-! ### Maps whose values are of one kind -/
def lookM {κ β : Type} [DecidableEq κ] (kvs : List (κ × β)) (x : κ) : Option β :=
  match kvs with
  | [] => none
  | p :: r => if p.1 = x then some p.2 else lookM r x
def setM {κ β : Type} [DecidableEq κ] (kvs : List (κ × β)) (x : κ) (v : β) : List (κ × β) :=
  match kvs with
  | [] => [(x, v)]
  | p :: r => if p.1 = x then (x, v) :: r else p :: setM r x v
def encM {κ β : Type} (f : β → Value) (kvs : List (κ × β)) : List (κ × Value) := kvs.map fun p => (p.1, f p.2)
theorem lookK_enc {κ β : Type} [DecidableEq κ] (f : β → Value) (kvs : List (κ × β)) (x : κ) : lookK (encM f kvs) x = (lookM kvs x).map f := by
  induction kvs with
  | nil => rfl
  | cons p r ih =>
    show lookK ((p.1, f p.2) :: encM f r) x = _
    simp only [lookK, lookM]
    split
    · rfl
    · exact ih
theorem setK_enc {κ β : Type} [DecidableEq κ] (f : β → Value) (kvs : List (κ × β)) (x : κ) (v : β) : setK (encM f kvs) x (f v) = encM f (setM kvs x v) := by
  induction kvs with
  | nil => rfl
  | cons p r ih =>
    show setK ((p.1, f p.2) :: encM f r) x (f v) = _
    simp only [setK, setM]
    split
    · rfl
    · show _ = (p.1, f p.2) :: encM f (setM r x v)
      rw [ih]
theorem delK_enc {κ β : Type} [DecidableEq κ] (f : β → Value) (kvs : List (κ × β)) (x : κ) : delK (encM f kvs) x = encM f (kvs.filter fun p => p.1 ≠ x) := by
  induction kvs with
  | nil => rfl
  | cons p r ih =>
    show delK ((p.1, f p.2) :: encM f r) x = _
    simp only [delK, List.filter_cons] at ih ⊢
    split
    · show _ = encM f (p :: _)
      rw [ih]; rfl
    · exact ih
theorem encM_length {κ β : Type} (f : β → Value) (kvs : List (κ × β)) : (encM f kvs).length = kvs.length := by simp [encM]
theorem lookM_set {κ β : Type} [DecidableEq κ] (kvs : List (κ × β)) (x y : κ) (v : β) : lookM (setM kvs x v) y = if x = y then some v else lookM kvs y := by
  induction kvs with
  | nil => simp [setM, lookM]
  | cons p r ih =>
    simp only [setM]
    by_cases e : p.1 = x
    · rw [if_pos e]
      simp only [lookM, e]
      split <;> rfl
    · rw [if_neg e]
      simp only [lookM, ih]
      by_cases e2 : p.1 = y
      · have : ¬ x = y := fun q => e (e2.trans q.symm)
        simp [e2, this]
      · simp [e2]
theorem mem_of_lookM {κ β : Type} [DecidableEq κ] {kvs : List (κ × β)} {x : κ} {v : β} (h : lookM kvs x = some v) : (x, v) ∈ kvs := by
  induction kvs with
  | nil => cases h
  | cons p r ih =>
    simp only [lookM] at h
    split at h
    · rename_i e; cases h; subst e; simp
    · exact List.mem_cons_of_mem _ (ih h)
theorem mem_setM {κ β : Type} [DecidableEq κ] {kvs : List (κ × β)} {x : κ} {v : β} {p : κ × β} (h : p ∈ setM kvs x v) : p = (x, v) ∨ p ∈ kvs := by
  induction kvs with
  | nil => simp [setM] at h; exact .inl h
  | cons q r ih =>
    simp only [setM] at h
    split at h
    · rcases List.mem_cons.1 h with h | h
      · exact .inl h
      · exact .inr (List.mem_cons_of_mem _ h)
    · rcases List.mem_cons.1 h with h | h
      · exact .inr (h ▸ List.mem_cons_self ..)
      · rcases ih h with h | h
        · exact .inl h
        · exact .inr (List.mem_cons_of_mem _ h)

/-! ### Runs -/
def le9 (p : Option Run) (x : ID) : Bool := match p with | some p => decide (cmpID x p.id ≤ 0) | none => false
def le6 (o : Option Int) (t : Int) : Bool := match o with | some was => decide (t ≤ was + 1) | none => false
theorem le9_yes {p : Option Run} {q : Run} {x : ID} (h : p = some q) (h2 : cmpID x q.id ≤ 0) : le9 p x = true := by subst h; simpa [le9] using h2
theorem le9_no {p : Option Run} {x : ID} (h : p = none) : ¬ le9 p x = true := by subst h; simp [le9]
theorem le9_no2 {p : Option Run} {q : Run} {x : ID} (h : p = some q) (h2 : ¬ cmpID x q.id ≤ 0) : ¬ le9 p x = true := by subst h; simpa [le9] using h2
theorem le6_yes {o : Option Int} {t : Int} (h : o.isSome = true) (h2 : t ≤ o.getD 0 + 1) : le6 o t = true := by cases o with | none => cases h | some v => simpa [le6] using h2
theorem le6_no {o : Option Int} {t : Int} (h : o.isSome = false) : ¬ le6 o t = true := by cases o with | none => simp [le6] | some v => cases h
theorem le6_no2 {o : Option Int} {t : Int} (h : o.isSome = true) (h2 : ¬ t ≤ o.getD 0 + 1) : ¬ le6 o t = true := by cases o with | none => cases h | some v => simpa [le6] using h2
/-- Why runs are none (0: they are some): prev is the run ahead, ends the greatest time of each site. -/
def chkR (prev : Option Run) (ends : List (Int × Int)) : List Run → Int
  | [] => 0
  | r :: rs =>
    if lastR r = ⟨0, 0⟩ then 1
    else if le9 prev r.id = true then 9
    else if le6 (lookM ends r.id.site) r.id.time = true then 6
    else chkR (some r) (setM ends r.id.site (lastR r).time) rs

theorem chkR_at {rs : List Run} {i : Nat} {r : Run} {p : Option Run} {ends : List (Int × Int)} (e : rs[i]? = some r) : chkR p ends (rs.drop i) =
    if lastR r = ⟨0, 0⟩ then 1
    else if le9 p r.id = true then 9
    else if le6 (lookM ends r.id.site) r.id.time = true then 6
    else chkR (some r) (setM ends r.id.site (lastR r).time) (rs.drop (i + 1)) := by
  obtain ⟨h, rfl⟩ := List.getElem?_eq_some_iff.1 e
  rw [List.drop_eq_getElem_cons h]; rfl
theorem chkR_end {rs : List Run} {i : Nat} {p : Option Run} {ends : List (Int × Int)} (h : rs.length ≤ i) : chkR p ends (rs.drop i) = 0 := by rw [List.drop_eq_nil_of_le h]; rfl

section
variable {c : Cx} {l : Env} {h : List Own} {ty : TypeId} {pos : String} {af : Array Edge} {g : Option (Nat × Bool)} {dst : Option Tmp}
/-- v, ok := m[k]; m[k] of a map whose values are of one kind. -/
theorem lkt2 {κ β : Type} [DecidableEq κ] {m x : Operand} {t kt et : TypeId} {enc : κ → Value} {f : β → Value} {z0 : β} {n b r : Nat} {gg : Bool} {z : List Value} {ob : Obj} {kvs : List (κ × β)} {y : κ} {kv : Value} (hu : c.P.underlying t = some (.map kt et)) (hk : KeyT c.P kt enc) (ht : Ty c.P et n gg z b)
    (hz : val gg z = f z0) (hm : Mp enc ob (encM f kvs)) (hr : Hm c.M h r ob) (hx : ev l m = some (.map (some r))) (hy : ev l x = some kv) (hkv : enc y = kv) :
    OpV c ⟨dst, .lookup t m x true, ty, pos, af, g⟩ l h (.tuple #[f ((lookM kvs y).getD z0), .bool (lookM kvs y).isSome]) := by
  have := lkr2 (dst := dst) (ty := ty) (pos := pos) (af := af) (g := g) hu hk ht hm hr hx hy hkv
  rw [lookK_enc, hz] at this
  cases hq : lookM kvs y with
  | none => simpa [hq] using this
  | some v => simpa [hq] using this
theorem lkt1 {κ β : Type} [DecidableEq κ] {m x : Operand} {t kt et : TypeId} {enc : κ → Value} {f : β → Value} {z0 : β} {n b r : Nat} {gg : Bool} {z : List Value} {ob : Obj} {kvs : List (κ × β)} {y : κ} {kv : Value} (hu : c.P.underlying t = some (.map kt et)) (hk : KeyT c.P kt enc) (ht : Ty c.P et n gg z b)
    (hz : val gg z = f z0) (hm : Mp enc ob (encM f kvs)) (hr : Hm c.M h r ob) (hx : ev l m = some (.map (some r))) (hy : ev l x = some kv) (hkv : enc y = kv) :
    OpV c ⟨dst, .lookup t m x false, ty, pos, af, g⟩ l h (f ((lookM kvs y).getD z0)) := by
  have := lkr1 (dst := dst) (ty := ty) (pos := pos) (af := af) (g := g) hu hk ht hm hr hx hy hkv
  rw [lookK_enc, hz] at this
  cases hq : lookM kvs y with
  | none => simpa [hq] using this
  | some v => simpa [hq] using this
end
theorem imS {k : Nat} {ob : Obj} : Im [(k, ob)] k ob := by simp [Im]
/-- Two numbers in a block of one's own. -/
theorem lastR_le (r : Run) : 0 ≤ (lastR r).time ∧ (lastR r).time ≤ 2147483647 := by
  unfold lastR; split
  · simp
  · exact afterID_le _ _
theorem look_le {l : List (Int × Int)} {x : Int} (h : ∀ q ∈ l, 0 ≤ q.2 ∧ q.2 ≤ 2147483647) : 0 ≤ (lookM l x).getD 0 ∧ (lookM l x).getD 0 ≤ 2147483647 := by
  cases hq : lookM l x with
  | none => simp
  | some v => exact h _ (mem_of_lookM hq)
theorem sl_int2 {b : Nat} {e : TypeId} {fz : Nat × Nat} {x y : Int} : Sl (Im [(b, .cells #[.int .i64 x, .int .i64 y] e fz)]) 1 RInt (.slice (some ⟨b, 0, none⟩) 2 2) [x, y] :=
  ⟨_, 2, rfl, ⟨Nat.le_refl _, by simp⟩, fun _ => ⟨b, 0, rfl, fun i z hz => ⟨[.int .i64 z], ⟨rfl, _, e, fz, imS, fun j v hv => by
    match i, hz with
    | 0, hz => match j, hv with
      | 0, hv => simp at hz hv; subst hz hv; rfl
    | 1, hz => match j, hv with
      | 0, hv => simp at hz hv; subst hz hv; rfl⟩, rfl, rfl⟩⟩⟩
end Go.W
/- More operations: bits, strings, interfaces, function values; texts as runes. No program is named here. -/
namespace Go.W
open Go

section
variable {c : Cx} {D : List Deferred} {ops : Array Oper} {K : Act → World → Prop} {rest : List Oper} {l : Env} {h : List Own}
  {ty : TypeId} {pos : String} {af : Array Edge} {g : Option (Nat × Bool)} {dst : Option Tmp} {d : Nat}

def bitI (op : BinOp) (k : IntKind) (m n : Int) : Int :=
  match op with
  | .and => k.wrap ((BitVec.ofInt k.bits m &&& BitVec.ofInt k.bits n).toNat)
  | .or => k.wrap ((BitVec.ofInt k.bits m ||| BitVec.ofInt k.bits n).toNat)
  | .xor => k.wrap ((BitVec.ofInt k.bits m ^^^ BitVec.ofInt k.bits n).toNat)
  | .andNot => k.wrap ((BitVec.ofInt k.bits m &&& ~~~(BitVec.ofInt k.bits n)).toNat)
  | _ => 0
theorem band {x y : Operand} {t t' : TypeId} {k : IntKind} {m n : Int} (hx : ev l x = some (.int k m)) (hy : ev l y = some (.int k n)) : OpV c ⟨dst, .binOp .and t x y t', ty, pos, af, g⟩ l h (.int k (bitI .and k m n)) := bi hx hy fun w => by simp [binOp, Op.intBits, bitI]
theorem bor {x y : Operand} {t t' : TypeId} {k : IntKind} {m n : Int} (hx : ev l x = some (.int k m)) (hy : ev l y = some (.int k n)) : OpV c ⟨dst, .binOp .or t x y t', ty, pos, af, g⟩ l h (.int k (bitI .or k m n)) := bi hx hy fun w => by simp [binOp, Op.intBits, bitI]
theorem banot {x y : Operand} {t t' : TypeId} {k : IntKind} {m n : Int} (hx : ev l x = some (.int k m)) (hy : ev l y = some (.int k n)) : OpV c ⟨dst, .binOp .andNot t x y t', ty, pos, af, g⟩ l h (.int k (bitI .andNot k m n)) := bi hx hy fun w => by simp [binOp, Op.intBits, bitI]
theorem eqGuard_ii {op : BinOp} {t : TypeId} {x y : Operand} {k k' : IntKind} {m n : Int} {P : Program} {w : World} : (eqGuard op t x y (.int k m) (.int k' n)).run P w = .ok () w := by
  unfold eqGuard; split <;> rfl
theorem shl {x y : Operand} {t t' : TypeId} {k k' : IntKind} {m n : Int} (hx : ev l x = some (.int k m)) (hy : ev l y = some (.int k' n)) (h0 : 0 ≤ n) : OpV c ⟨dst, .binOp .shl t x y t', ty, pos, af, g⟩ l h (.int k (k.wrap (m * 2 ^ (min n.toNat k.bits)))) :=
  .of0 (fun _ => by simp) fun a w e s => by
    have : ¬ n < 0 := by omega
    simp [execOp, ev_eq e (x := x) (by simp [Op.operands]) hx, ev_eq e (x := y) (by simp [Op.operands]) hy, eqGuard_ii, binOp, Op.shift, this]
theorem shr {x y : Operand} {t t' : TypeId} {k k' : IntKind} {m n : Int} (hx : ev l x = some (.int k m)) (hy : ev l y = some (.int k' n)) (h0 : 0 ≤ n) : OpV c ⟨dst, .binOp .shr t x y t', ty, pos, af, g⟩ l h (.int k (m.fdiv (2 ^ (min n.toNat k.bits)))) :=
  .of0 (fun _ => by simp) fun a w e s => by
    have : ¬ n < 0 := by omega
    simp [execOp, ev_eq e (x := x) (by simp [Op.operands]) hx, ev_eq e (x := y) (by simp [Op.operands]) hy, eqGuard_ii, binOp, Op.shift, this]
theorem seq_ {x y : Operand} {t t' : TypeId} {a b : ByteArray} (hx : ev l x = some (.string a)) (hy : ev l y = some (.string b)) : OpV c ⟨dst, .binOp .eql t x y t', ty, pos, af, g⟩ l h (.bool (a.toList == b.toList)) :=
  .of0 (fun _ => by simp) fun ac w e s => by
    simp [execOp, ev_eq e (x := x) (by simp [Op.operands]) hx, ev_eq e (x := y) (by simp [Op.operands]) hy, gd_str, binOp, Op.stringOp]
theorem sne {x y : Operand} {t t' : TypeId} {a b : ByteArray} (hx : ev l x = some (.string a)) (hy : ev l y = some (.string b)) : OpV c ⟨dst, .binOp .neq t x y t', ty, pos, af, g⟩ l h (.bool (a.toList != b.toList)) :=
  .of0 (fun _ => by simp) fun ac w e s => by
    simp [execOp, ev_eq e (x := x) (by simp [Op.operands]) hx, ev_eq e (x := y) (by simp [Op.operands]) hy, gd_str, binOp, Op.stringOp, bne]

/-! ### Bytes of a text -/
def bt (s : ByteArray) (i : Nat) : Int := if h : i < s.size then (s[i]'h).toNat else 0
theorem bt_range (s : ByteArray) (i : Nat) : 0 ≤ bt s i ∧ bt s i < 256 := by
  unfold bt; split
  · rename_i h; have := (s[i]'h).toNat_lt; omega
  · omega
theorem ixb {x i : Operand} {t : TypeId} {j : Int} {ik : IntKind} {s : ByteArray} (hu : c.P.underlying t = some .string)
    (hx : ev l x = some (.string s)) (hi : ev l i = some (.int ik j)) (h0 : 0 ≤ j) (h1 : j < s.size) :
    OpV c ⟨dst, .index t x i, ty, pos, af, g⟩ l h (.int .u8 (bt s j.toNat)) := by
  have hlt : j.toNat < s.size := by omega
  have : bt s j.toNat = ((s[j.toNat]'hlt).toNat : Int) := by rw [bt, dif_pos hlt]
  rw [this]
  exact ixs hu hx hi h0 (by simp [hlt])
theorem ixb0 {x : Operand} {t : TypeId} {ik : IntKind} {s : ByteArray} (hu : c.P.underlying t = some .string) (hx : ev l x = some (.string s)) (h1 : 0 < s.size) :
    OpV c ⟨dst, .index t x (.const (.int ik 0)), ty, pos, af, g⟩ l h (.int .u8 (bt s 0)) := by
  have := ixb (c := c) (l := l) (h := h) (dst := dst) (ty := ty) (pos := pos) (af := af) (g := g) (i := .const (.int ik 0)) (j := 0) (ik := ik) hu hx rfl (Int.le_refl 0) (by omega)
  exact this
theorem sls1 {x : Operand} {t : TypeId} {s : ByteArray} {ik : IntKind} (hu : c.P.underlying t = some .string) (hx : ev l x = some (.string s)) (h1 : 1 ≤ s.size) :
    OpV c ⟨dst, .slice t x (some (.const (.int ik 1))) none none, ty, pos, af, g⟩ l h (.string (s.extract 1 s.size)) := by
  have := sls (c := c) (l := l) (h := h) (dst := dst) (ty := ty) (pos := pos) (af := af) (g := g) (i := .const (.int ik 1)) (j := 1) (ik := ik) hu hx rfl (by omega) (by omega)
  exact this
theorem slsN {x i : Operand} {t : TypeId} {s : ByteArray} {p : Nat} {ik : IntKind} (hu : c.P.underlying t = some .string) (hx : ev l x = some (.string s)) (hi : ev l i = some (.int ik (p : Int))) (h1 : p ≤ s.size) :
    OpV c ⟨dst, .slice t x (some i) none none, ty, pos, af, g⟩ l h (.string (s.extract p s.size)) := by
  have := sls (c := c) (l := l) (h := h) (dst := dst) (ty := ty) (pos := pos) (af := af) (g := g) hu hx hi (by omega) (by omega)
  rw [Int.toNat_natCast] at this
  exact this
theorem and192 : ∀ v : Fin 256, (bitI .and .u8 (v.1 : Int) 192 = 128) ↔ v.1 / 64 = 2 := by decide +kernel
theorem and192_bt (s : ByteArray) (i : Nat) : (bitI .and .u8 (bt s i) 192 = 128) ↔ bt s i / 64 = 2 := by
  have h := bt_range s i
  have h1 := and192 ⟨(bt s i).toNat, by omega⟩
  simp only at h1
  rw [show (((bt s i).toNat : Nat) : Int) = bt s i by omega] at h1
  rw [h1]; omega

/-- string(r) -/
theorem cvs {x : Operand} {t1 t2 : TypeId} {k k' : IntKind} {n : Int} (h1 : c.P.underlying t1 = some (.int k)) (h2 : c.P.underlying t2 = some .string) (hx : ev l x = some (.int k' n)) : OpV c ⟨dst, .convert t1 t2 x, ty, pos, af, g⟩ l h (.string (Utf8.encode n)) :=
  .of0 (fun _ => by simp) fun a w e s => by
    simp [execOp, ev_eq e (x := x) (by simp [Op.operands]) hx, convert, run_und h1, run_und h2, Conv.intToString]
/-- A conversion of whole numbers. -/
theorem cvi {x : Operand} {t1 t2 : TypeId} {k k1 k' : IntKind} {n : Int} (h1 : c.P.underlying t1 = some (.int k1)) (h2 : c.P.underlying t2 = some (.int k)) (hx : ev l x = some (.int k' n)) : OpV c ⟨dst, .convert t1 t2 x, ty, pos, af, g⟩ l h (.int k (k.wrap n)) :=
  .of0 (fun _ => by simp) fun a w e s => by
    simp [execOp, ev_eq e (x := x) (by simp [Op.operands]) hx, convert, run_und h1, run_und h2, Conv.intToInt]

/-! ### Interfaces, function values -/
theorem mki {x : Operand} {t : TypeId} {v : Value} {dd : TypeDesc} (hu : c.P.underlying t = some dd) (hi : (match dd with | .interface _ => false | _ => true) = true) (hx : ev l x = some v) : OpV c ⟨dst, .makeInterface t x, ty, pos, af, g⟩ l h (.iface t v) :=
  .of0 (fun _ => by simp) fun a w e s => by
    simp only [execOp, ev_eq e (x := x) (by simp [Op.operands]) hx, Instr.makeInterface, Sem.run_bind, run_und hu, Result.andThen_ok]
    cases dd <;> first | (cases hi; done) | rfl
theorem mkf {fn : Fn} {first caps : Array Operand} {vs us : List Value} (h1 : evs l first.toList = some vs) (h2 : evs l caps.toList = some us) : OpV c ⟨dst, .makeFunc fn first caps, ty, pos, af, g⟩ l h (.func fn vs.toArray us.toArray) :=
  .of0 (fun _ => by simp) fun a w e s => by
    have e1 := evs_eq e first.toList (fun y hy => by simp [Op.operands]; exact .inl (Array.mem_def.2 hy)) vs h1
    have e2 := evs_eq e caps.toList (fun y hy => by simp [Op.operands]; exact .inr (Array.mem_def.2 hy)) us h2
    have f1 : first.map a.eval = vs.toArray := by rw [← e1]; apply Array.ext'; rw [Array.toList_map]
    have f2 : caps.map a.eval = us.toArray := by rw [← e2]; apply Array.ext'; rw [Array.toList_map]
    simp [execOp, f1, f2, Instr.makeFunc]
end

/-! ### Texts as runes -/
theorem decode_pos (s : ByteArray) (p : Nat) : 1 ≤ (Utf8.decode s p).2 := by
  unfold Utf8.decode
  simp only
  repeat' split
  all_goals simp
def decF (s : ByteArray) : Nat → Nat → List (Nat × Nat)
  | 0, _ => []
  | f + 1, p => if p < s.size then (p, (Utf8.decode s p).1) :: decF s f (p + (Utf8.decode s p).2) else []
/-- The runes of a text from a place on, each with its place. -/
def decS (s : ByteArray) (p : Nat) : List (Nat × Nat) := decF s (s.size - p) p
theorem decF_more (s : ByteArray) : ∀ (f p : Nat), s.size - p ≤ f → decF s f p = decF s (s.size - p) p := by
  intro f
  induction f using Nat.strongRecOn with
  | _ f ih =>
    intro p h
    by_cases hp : p < s.size
    · obtain ⟨f, rfl⟩ : ∃ k, f = k + 1 := ⟨f - 1, by omega⟩
      obtain ⟨n, hn⟩ : ∃ k, s.size - p = k + 1 := ⟨s.size - p - 1, by omega⟩
      have := decode_pos s p
      rw [hn, decF, decF, if_pos hp, if_pos hp, ih f (by omega) _ (by omega)]
      by_cases hnf : n = f
      · subst hnf; rw [← ih n (by omega) _ (by omega)]
      · rw [ih n (by omega) _ (by omega)]
    · have : s.size - p = 0 := by omega
      rw [this]
      cases f with
      | zero => rfl
      | succ f => show (if p < s.size then _ else []) = []; rw [if_neg hp]
theorem decS_at {s : ByteArray} {p : Nat} (h : p < s.size) : decS s p = (p, (Utf8.decode s p).1) :: decS s (p + (Utf8.decode s p).2) := by
  obtain ⟨n, hn⟩ : ∃ k, s.size - p = k + 1 := ⟨s.size - p - 1, by omega⟩
  have := decode_pos s p
  rw [decS, hn, decF, if_pos h, decF_more s n _ (by omega)]; rfl
theorem decS_end {s : ByteArray} {p : Nat} (h : s.size ≤ p) : decS s p = [] := by
  rw [decS, show s.size - p = 0 by omega]; rfl
theorem decF_len (s : ByteArray) : ∀ (f p : Nat), (decF s f p).length ≤ f := by
  intro f
  induction f with
  | zero => intro p; simp [decF]
  | succ f ih => intro p; rw [decF]; split
                 · have := ih (p + (Utf8.decode s p).2); simp only [List.length_cons]; omega
                 · simp
theorem decS_len (s : ByteArray) (p : Nat) : (decS s p).length ≤ s.size - p := decF_len s _ _

def fol (s : ByteArray) (n a b : Int) : Prop := n ≤ s.size ∧ a ≤ bt s 0 ∧ bt s 0 ≤ b ∧ ∀ k : Nat, k < n.toNat → 1 ≤ k → bt s k / 64 = 2
instance (s : ByteArray) (n a b : Int) : Decidable (fol s n a b) := by unfold fol; infer_instance
def fw (s : ByteArray) (n a b : Int) : Int := if fol (s.extract 1 s.size) n a b then n + 1 else 0
/-- How many bytes the rune has that begins a text; 0: none. -/
def widthB (s : ByteArray) : Int :=
  if bt s 0 < 128 then 1 else if bt s 0 < 194 ∨ 244 < bt s 0 then 0 else if bt s 0 < 224 then fw s 1 128 191 else if bt s 0 = 224 then fw s 2 160 191 else if bt s 0 = 237 then fw s 2 128 159
  else if bt s 0 < 240 then fw s 2 128 191 else if bt s 0 = 240 then fw s 3 144 191 else if bt s 0 = 244 then fw s 3 128 143 else fw s 3 128 191
def badB (s : ByteArray) (l : List (Nat × Nat)) : Int :=
  match l with
  | [] => -1
  | d :: r => if (d.2 : Int) = 65533 ∧ widthB (s.extract d.1 s.size) = 0 then d.1 else badB s r
theorem fol_go {s : ByteArray} {i : Int} (h : ∀ k : Nat, (k : Int) < i → 1 ≤ k → bt s k / 64 = 2) (h2 : bt s i.toNat / 64 = 2) : ∀ k : Nat, (k : Int) < i + 1 → 1 ≤ k → bt s k / 64 = 2 := fun k h3 h4 => by
  by_cases hk : (k : Int) < i
  · exact h k hk h4
  · rw [show k = i.toNat by omega]; exact h2
theorem badB_no {s : ByteArray} {p c : Nat} {r : List (Nat × Nat)} (h : ¬ ((c : Int) = 65533 ∧ widthB (s.extract p s.size) = 0)) : badB s ((p, c) :: r) = badB s r := by rw [badB, if_neg h]
theorem badB_yes {s : ByteArray} {p c : Nat} {r : List (Nat × Nat)} (h : (c : Int) = 65533 ∧ widthB (s.extract p s.size) = 0) : badB s ((p, c) :: r) = p := by rw [badB, if_pos h]
theorem bt_zero {s : ByteArray} {j : Int} (h : j = 0) : bt s j.toNat = bt s 0 := by subst h; rfl
theorem extract_size (s : ByteArray) (j : Nat) (h : j ≤ s.size) : (s.extract j s.size).size = s.size - j := by simp [ByteArray.size_extract]
end Go.W
/- Operations: their cells, and what they must be. Interfaces' calls. No program is named here. -/
namespace Go.W
open Go

theorem Sl.cells {α : Type} {M : Mem} {sz : Nat} {R : Mem → List Value → α → Prop} {V : Value} {xs : List α} (h : Sl M sz R V xs) : V.cells = [V].toArray := by
  obtain ⟨A, c, rfl, _⟩ := h; rfl
structure Op' where
  dot : Dot
  deps : List Dot
  kind : Int
  id : ID
  ref : ID
  text : ByteArray
  gone : List Run
  site : Int
@[reducible] def encOp (o : Op') (D G : Value) : List Value :=
  [.int .i64 o.dot.site, .int .i64 o.dot.seq, D, .int .i64 o.kind, .int .i64 o.id.time, .int .i64 o.id.site, .int .i64 o.ref.time, .int .i64 o.ref.site, .string o.text, G, .int .i64 o.site]
def okI (n : Int) : Prop := -9223372036854775808 ≤ n ∧ n ≤ 9223372036854775807
/-- The plain parts are what the language lets them be. -/
def wfOp (o : Op') : Prop :=
  ((-9223372036854775808 ≤ o.dot.site ∧ o.dot.site ≤ 9223372036854775807) ∧ (-9223372036854775808 ≤ o.dot.seq ∧ o.dot.seq ≤ 9223372036854775807) ∧ (-9223372036854775808 ≤ o.kind ∧ o.kind ≤ 9223372036854775807) ∧ (-9223372036854775808 ≤ o.site ∧ o.site ≤ 9223372036854775807)) ∧
  (((-9223372036854775808 ≤ o.id.time ∧ o.id.time ≤ 9223372036854775807) ∧ (-9223372036854775808 ≤ o.id.site ∧ o.id.site ≤ 9223372036854775807)) ∧ ((-9223372036854775808 ≤ o.ref.time ∧ o.ref.time ≤ 9223372036854775807) ∧ (-9223372036854775808 ≤ o.ref.site ∧ o.ref.site ≤ 9223372036854775807))) ∧ o.text.size ≤ 1152921504606846975
def ROp (M : Mem) (vs : List Value) (o : Op') : Prop := ∃ D G, vs = encOp o D G ∧ Sl M 2 RDot D o.deps ∧ Sl M 3 RRun G o.gone ∧ wfOp o
theorem mOp : Mono ROp := fun _ _ _ _ h ⟨D, G, h1, h2, h3, h4⟩ => ⟨D, G, h1, h2.mono mDot h, h3.mono mRun h, h4⟩

/-! ### What an operation must be -/
def restOK (o : Op') : Prop := o.id = ⟨0, 0⟩ ∧ o.ref = ⟨0, 0⟩ ∧ o.text.toList = []
instance (o : Op') : Decidable (restOK o) := by unfold restOK; infer_instance
def lenT (s : ByteArray) : Int := (decS s 0).length
def insOK (o : Op') : Prop :=
  (o.gone.length : Int) = 0 ∧ o.site = 0 ∧ 0 < lenT o.text ∧ lenT o.text ≤ 1024 ∧ badB o.text (decS o.text 0) < 0 ∧ o.id.site = o.dot.site ∧ afterID o.id (lenT o.text - 1) ≠ ⟨0, 0⟩ ∧ (o.ref = ⟨0, 0⟩ ∨ afterID o.ref 0 = o.ref) ∧ o.ref.time < o.id.time
instance (o : Op') : Decidable (insOK o) := by unfold insOK; infer_instance
def remOK (o : Op') : Prop := (restOK o ∧ o.site = 0) ∧ 0 < (o.gone.length : Int) ∧ (o.gone.length : Int) ≤ 1024 ∧ chkR none [] o.gone = 0
instance (o : Op') : Decidable (remOK o) := by unfold remOK; infer_instance
def joinOK (o : Op') : Prop := (o.gone.length : Int) = 0 ∧ restOK o ∧ 1 ≤ o.site ∧ o.site ≤ 16
instance (o : Op') : Decidable (joinOK o) := by unfold joinOK; infer_instance
def leaveOK (o : Op') : Prop := (o.gone.length : Int) = 0 ∧ (restOK o ∧ o.site = 0)
instance (o : Op') : Decidable (leaveOK o) := by unfold leaveOK; infer_instance
def rightOK (o : Op') : Prop := if o.kind = 1 then insOK o else if o.kind = 2 then remOK o else if o.kind = 3 then joinOK o else leaveOK o
instance (o : Op') : Decidable (rightOK o) := by unfold rightOK; infer_instance
def opOK (o : Op') : Prop :=
  (1 ≤ o.kind ∧ o.kind ≤ 4) ∧ 1 ≤ o.dot.site ∧ o.dot.site ≤ 16 ∧ 1 ≤ o.dot.seq ∧ o.dot.seq ≤ 2147483647 ∧ chkV 0 o.deps = 0 ∧ getV o.deps o.dot.site = o.dot.seq - 1 ∧ rightOK o
instance (o : Op') : Decidable (opOK o) := by unfold opOK; infer_instance
def chkOp (o : Op') : Int := if opOK o then 0 else 10

theorem empty_toList : ByteArray.empty.toList = [] := by rw [ByteArray.toList_eq]; rfl
theorem eq_rest {a b c d a' b' c' d' s s' : Int} {t t' : ByteArray} : (((a == a') && ((b == b') && true)) && (((c == c') && ((d == d') && true)) && ((t.toList == t'.toList) && ((s == s') && true)))) = decide ((a = a' ∧ b = b') ∧ (c = c' ∧ d = d') ∧ t.toList = t'.toList ∧ s = s') := by
  rw [Bool.eq_iff_iff]; simp
theorem id0 {x : ID} : x = ⟨0, 0⟩ ↔ x.time = 0 ∧ x.site = 0 := by cases x; simp

/-! ### Calls through an interface -/
structure Mt (P : Program) (t : TypeId) (name : String) (f : FuncId) : Prop where
  row : ((P.info? t).bind fun i => (i.methods.find? (·.name == name)).map fun m => (m.path.isEmpty, m.func)) = some (true, some (f, false))
  und : ((P.underlying t).map fun d => match d with | .pointer _ => true | _ => false) = some false
  sz : Nat.blt 0 (P.types.size + Made.depth) = true
theorem run_method {P : Program} {t : TypeId} {name : String} {f : FuncId} (h : Mt P t name f) (v : Value) (w : World) : (method (P.types.size + Made.depth) t v name).run P w = .ok (f, v) w := by
  obtain ⟨h1, h2, h3⟩ := h
  obtain ⟨n, hn⟩ : ∃ n, P.types.size + Made.depth = n + 1 := by
    have : 0 < P.types.size + Made.depth := by simpa using h3
    exact ⟨P.types.size + Made.depth - 1, by omega⟩
  rw [hn, method]
  cases hi : P.info? t with
  | none => rw [hi] at h1; cases h1
  | some i =>
    rw [hi, Option.bind_some] at h1
    cases hm : i.methods.find? (·.name == name) with
    | none => rw [hm] at h1; cases h1
    | some m =>
      rw [hm, Option.map_some] at h1
      simp only [Option.some.injEq, Prod.mk.injEq] at h1
      obtain ⟨hp, hf⟩ := h1
      have hpl : m.path.toList = [] := by
        have : m.path = #[] := by simpa using hp
        rw [this]
      cases hu : P.underlying t with
      | none => rw [hu] at h2; cases h2
      | some dd =>
        rw [hu, Option.map_some] at h2
        simp only [Sem.run_bind, run_typeInfo' hi, Result.andThen_ok, hm, hpl, follow, Sem.run_pure, hf, receiverAt, run_und hu]
        cases dd <;> first | (simp at h2; done) | rfl

section
variable {c : Cx} {l : Env} {h : List Own} {ty : TypeId} {pos : String} {af : Array Edge} {g : Option (Nat × Bool)} {dst : Option Tmp} {f : FuncId} {xs : Array Operand} {tys : Array TypeId}
/-- A call of a method of an interface value that only computes. -/
theorem cli0 {x : Operand} {t : TypeId} {name : String} {v u : Value} {vs : List Value} (hf : Cl c.P f) (hm : Mt c.P t name f) (hv : ev l x = some (.iface t v)) (hx : evs l xs.toList = some vs)
    (hc : ∀ w, RO (Hm c.M h) [] w → FnC c.P f (v :: vs) w [] fun r _ => r = u) : OpV c ⟨dst, .call { callee := .invoke x name, args := xs, argTypes := tys }, ty, pos, af, g⟩ l h u := by
  intro hx' a w e s next k
  have h1 := ev_eq e (x := x) (by simp [Op.operands, Call.operands]) hv
  have h2 : xs.map a.eval = vs.toArray := by
    have := evs_eq e xs.toList (fun y hy => by simp [Op.operands, Call.operands]; right; exact Array.mem_def.2 hy) vs hx
    rw [← this]; apply Array.ext'; rw [Array.toList_map]
  have hrun : (execOp a.eval ⟨dst, .call { callee := .invoke x name, args := xs, argTypes := tys }, ty, pos, af, g⟩).run c.P w = .ok (.enter f (v :: vs).toArray) w := by
    have e1 : (#[Value.iface t v] ++ vs.toArray)[0]? = some (.iface t v) := by simp
    have e2 : (#[Value.iface t v] ++ vs.toArray).extract 1 (#[Value.iface t v] ++ vs.toArray).size = vs.toArray := by
      apply Array.ext'; simp
    have e3 : #[v] ++ vs.toArray = (v :: vs).toArray := by simp
    have hpr : (program).run c.P w = .ok c.P w := rfl
    simp only [execOp, resolve, Sem.run_bind, Sem.run_pure, Result.andThen_ok, h1, h2, invoke, e1, e2, callMethod, hpr, run_method hm, e3, run_callFunc hf]
  refine opW.of (by simp) hrun (fun _ _ x => by cases x) ?_
  refine ⟨fun hh => by simp [wd] at hh, callsIn_wd ?_⟩
  have hro : RO (Hm c.M h) [] w := ⟨fun k ob x => s.le k ob x, fun _ _ _ b hb => by simp at hb⟩
  refine ((hc w hro) (by simp) (by simp)).mono fun e' w' ⟨v', o', e1, e2, e3⟩ => ?_
  subst e1 e2
  exact k w' ⟨by simpa using (Chg.step (o1 := []) (by simpa using s.chg) (e3.sublist (o' := []) (by simp))), s.mro⟩

theorem gd_if {op : BinOp} {t : TypeId} {x : Operand} {v : Value} {P : Program} (hv : (match v with | .iface _ _ | .nilIface => true | _ => false) = true) (w : World) : (eqGuard op t x (.const .nilIface) v .nilIface).run P w = .ok () w := by
  unfold eqGuard
  cases v <;> first | (cases hv; done) | (split <;> simp)
theorem eq_if {P : Program} {t : TypeId} {ms : Array (String × TypeId)} {d : Nat} {v : Value} {b : Bool} (hu : P.underlying t = some (.interface ms)) (hv : (match v with | .iface _ _ => some false | .nilIface => some true | _ => none) = some b) (w : World) : (Op.equalIn (d + 1) t v .nilIface).run P w = .ok b w := by
  rw [Op.equalIn]
  cases v <;> first | (cases hv; done) | (cases hv; simp [run_und hu])
/-- A type that is no interface. -/
structure NI (P : Program) (t : TypeId) : Prop where
  ok : ((P.underlying t).map fun d => match d with | .interface _ => true | _ => false) = some false
theorem mkn {x : Operand} {t : TypeId} {v : Value} (hu : NI c.P t) (hx : ev l x = some v) : OpV c ⟨dst, .makeInterface t x, ty, pos, af, g⟩ l h (.iface t v) :=
  .of0 (fun _ => by simp) fun a w e s => by
    have h1 := hu.ok
    cases hd : c.P.underlying t with
    | none => rw [hd] at h1; cases h1
    | some dd =>
      rw [hd] at h1
      simp only [execOp, ev_eq e (x := x) (by simp [Op.operands]) hx, Instr.makeInterface, Sem.run_bind, run_und hd, Result.andThen_ok]
      cases dd <;> first | (cases h1; done) | rfl
structure IF (P : Program) (t : TypeId) : Prop where
  ok : ((P.underlying t).map fun d => match d with | .interface _ => true | _ => false) = some true
theorem eq_if' {P : Program} {t : TypeId} {d : Nat} {v : Value} {b : Bool} (hu : IF P t) (hv : (match v with | .iface _ _ => some false | .nilIface => some true | _ => none) = some b) (w : World) : (Op.equalIn (d + 1) t v .nilIface).run P w = .ok b w := by
  have h1 := hu.ok
  cases hd : P.underlying t with
  | none => rw [hd] at h1; cases h1
  | some dd =>
    rw [hd] at h1
    cases dd <;> first | (cases h1; done) | exact eq_if hd hv w
end
section
variable {c : Cx} {D : List Deferred} {Q : Exit → Act → World → Prop} {l : Env} {h : List Own}
/-- A condition whose slot is looked at again. -/
theorem cdS {t : Nat} {p q : Code} {b : Bool} (hv : lk t l = some (.bool b)) (hp : b = true → G c D p Q ((t, .bool true) :: l) h) (hq : b = false → G c D q Q ((t, .bool false) :: l) h) : G c D (.cond (.tmp t) p q) Q l h := by
  have key : ∀ (u : Value) (a : Act), lk t l = some u → EOk c.N D a l → EOk c.N D a ((t, u) :: l) := fun u a hu e => ⟨e.size, e.dfr, fun t' v hv' => by
    simp only [lk] at hv'
    by_cases e' : t = t'
    · subst e'; simp at hv'; subst hv'; exact e.get _ _ hu
    · simp only [beq_ff e', cond_false] at hv'; exact e.get _ _ hv'⟩
  cases b
  · exact cdF hv (fun a w e s => hq rfl a w (key _ a hv e) s)
  · exact cdT hv (fun a w e s => hp rfl a w (key _ a hv e) s)
end
end Go.W
/- Sets of operations by their dots. No program is named here. -/
namespace Go.W
open Go

/-! ### Slices' cells in a row -/
theorem RO.fn {M : Mem} {o : Own} {w : World} (h : RO M o w) : ∀ k a b, M k a → M k b → a = b := fun k a b ha hb => by
  have := (h.get k a ha).symm.trans (h.get k b hb); exact Option.some.inj this
theorem flat_get : ∀ (vss : List (List Value)) (sz i : Nat) (vs : List Value), (∀ x ∈ vss, x.length = sz) → vss[i]? = some vs → ∀ j v, vs[j]? = some v → vss.flatten[i * sz + j]? = some v := by
  intro vss
  induction vss with
  | nil => intro sz i vs _ h; simp at h
  | cons y r ih =>
    intro sz i vs hl h j v hv
    have hy : y.length = sz := hl y (by simp)
    rw [List.flatten_cons]
    cases i with
    | zero =>
      simp only [List.getElem?_cons_zero, Option.some.injEq] at h
      subst h
      rw [Nat.zero_mul, Nat.zero_add, List.getElem?_append_left (List.getElem?_eq_some_iff.1 hv).1]
      exact hv
    | succ i =>
      have := ih sz i vs (fun x hx => hl x (by simp [hx])) (by simpa using h) j v hv
      rw [List.getElem?_append_right (by rw [hy, Nat.succ_mul]; omega), hy, show (i + 1) * sz + j - sz = i * sz + j by rw [Nat.succ_mul]; omega]
      exact this
theorem flat_len : ∀ (vss : List (List Value)) (sz : Nat), (∀ x ∈ vss, x.length = sz) → vss.flatten.length = vss.length * sz := by
  intro vss sz h
  induction vss with
  | nil => simp
  | cons y r ih => rw [List.flatten_cons, List.length_append, h y (by simp), ih fun x hx => h x (by simp [hx]), List.length_cons, Nat.succ_mul]; omega
theorem flat_get' {vss : List (List Value)} {sz : Nat} (h : ∀ x ∈ vss, x.length = sz) {n : Nat} {v : Value} (hv : vss.flatten[n]? = some v) (hsz : 0 < sz) : ∃ vs, vss[n / sz]? = some vs ∧ vs[n % sz]? = some v := by
  have hn : n < vss.length * sz := by rw [← flat_len vss sz h]; exact (List.getElem?_eq_some_iff.1 hv).1
  have h1 : n / sz < vss.length := Nat.div_lt_of_lt_mul (by rw [Nat.mul_comm]; exact hn)
  have h2 : (vss[n / sz]'h1).length = sz := h _ (by simp)
  have h3 : n % sz < (vss[n / sz]'h1).length := by rw [h2]; exact Nat.mod_lt _ hsz
  have h4 := flat_get vss sz (n / sz) _ h (List.getElem?_eq_getElem h1) (n % sz) _ (List.getElem?_eq_getElem h3)
  rw [Nat.mul_comm, Nat.div_add_mod] at h4
  rw [h4] at hv
  cases hv
  exact ⟨_, List.getElem?_eq_getElem h1, List.getElem?_eq_getElem h3⟩
theorem exists_list {α β : Type} {p : α → β → Prop} : ∀ (xs : List α), (∀ x ∈ xs, ∃ y, p x y) → ∃ ys : List β, ys.length = xs.length ∧ ∀ (i : Nat) (x : α) (y : β), xs[i]? = some x → ys[i]? = some y → p x y := by
  intro xs
  induction xs with
  | nil => intro _; exact ⟨[], rfl, by simp⟩
  | cons x xs ih =>
    intro h
    obtain ⟨y, hy⟩ := h x (by simp)
    obtain ⟨ys, h1, h2⟩ := ih fun z hz => h z (by simp [hz])
    refine ⟨y :: ys, by simp [h1], fun i a b ha hb => ?_⟩
    cases i with
    | zero => simp at ha hb; subst ha hb; exact hy
    | succ i => exact h2 i a b (by simpa using ha) (by simpa using hb)
/-- The cells of a slice that is read. -/
theorem Sl.rows {α : Type} {M : Mem} {sz : Nat} {R : Mem → List Value → α → Prop} {V : Value} {xs : List α} (h : Sl M sz R V xs) (hsz : 0 < sz) (hf : ∀ k a b, M k a → M k b → a = b) :
    ∃ vss : List (List Value), vss.length = xs.length ∧ (∀ vs ∈ vss, vs.length = sz) ∧ (∀ (i : Nat) (x : α) (vs : List Value), xs[i]? = some x → vss[i]? = some vs → R M vs x) ∧ Src M sz V xs.length vss.flatten := by
  obtain ⟨A, cp, rfl, h2, h3⟩ := h
  by_cases hn : 0 < xs.length
  · obtain ⟨b, o, rfl, h4⟩ := h3 hn
    have key : ∀ i : Nat, i < xs.length → ∃ vs, CellsAt M ⟨b, o + i * sz, none⟩ vs ∧ vs.length = sz ∧ ∀ x, xs[i]? = some x → R M vs x := fun i hi => by
      obtain ⟨vs, a1, a2, a3⟩ := h4 i _ (List.getElem?_eq_getElem hi)
      exact ⟨vs, a1, a2, fun x hx => by rw [List.getElem?_eq_getElem hi] at hx; cases hx; exact a3⟩
    obtain ⟨vss, e1, e2⟩ := exists_list (p := fun i vs => i < xs.length → (CellsAt M ⟨b, o + i * sz, none⟩ vs ∧ vs.length = sz ∧ ∀ x, xs[i]? = some x → R M vs x)) (List.range xs.length) (fun i hi => by
      obtain ⟨vs, hvs⟩ := key i (by simpa using hi); exact ⟨vs, fun _ => hvs⟩)
    rw [List.length_range] at e1
    have e3 : ∀ i vs, vss[i]? = some vs → (CellsAt M ⟨b, o + i * sz, none⟩ vs ∧ vs.length = sz ∧ ∀ x, xs[i]? = some x → R M vs x) := fun i vs hvs => by
      have hi : i < xs.length := by have := (List.getElem?_eq_some_iff.1 hvs).1; omega
      exact e2 i i vs (by rw [List.getElem?_range hi]) hvs hi
    have e4 : ∀ vs ∈ vss, vs.length = sz := fun vs hvs => by
      obtain ⟨i, hi⟩ := List.getElem?_of_mem hvs
      exact (e3 i vs hi).2.1
    refine ⟨vss, e1, e4, fun i x vs hx hvs => (e3 i vs hvs).2.2 x hx, _, cp, rfl, by rw [flat_len vss sz e4, e1], fun _ => ⟨_, rfl, ?_⟩⟩
    obtain ⟨vs0, hvs0⟩ : ∃ vs0, vss[0]? = some vs0 := ⟨vss[0]'(by omega), List.getElem?_eq_getElem (by omega)⟩
    obtain ⟨-, cs, e, fz, hM, -⟩ := (e3 0 vs0 hvs0).1
    refine ⟨rfl, cs, e, fz, hM, fun n v hv => ?_⟩
    obtain ⟨vs, a1, a2⟩ := flat_get' e4 hv hsz
    obtain ⟨-, cs', e', fz', hM', a3⟩ := (e3 _ vs a1).1
    have := hf b _ _ hM hM'
    cases this
    have := a3 _ _ a2
    simp only at this ⊢
    rw [Nat.add_assoc, Nat.mul_comm, Nat.div_add_mod] at this
    exact this
  · have : xs = [] := List.eq_nil_of_length_eq_zero (by omega)
    subst this
    exact ⟨[], rfl, by simp, by simp, _, cp, rfl, by simp, by simp⟩
theorem Sl.src {α : Type} {M : Mem} {sz : Nat} {R : Mem → List Value → α → Prop} {V : Value} {xs : List α} {enc : α → List Value} (h : Sl M sz R V xs) (hsz : 0 < sz) (hf : ∀ k a b, M k a → M k b → a = b) (hR : ∀ vs x, R M vs x → vs = enc x) :
    Src M sz V xs.length (xs.flatMap enc) := by
  obtain ⟨vss, h1, h2, h3, h4⟩ := h.rows hsz hf
  have : vss = xs.map enc := by
    apply List.ext_getElem?
    intro i
    rw [List.getElem?_map]
    by_cases hi : i < xs.length
    · have hi' : i < vss.length := by omega
      rw [List.getElem?_eq_getElem hi, List.getElem?_eq_getElem hi', Option.map_some]
      rw [hR _ _ (h3 i _ _ (List.getElem?_eq_getElem hi) (List.getElem?_eq_getElem hi'))]
    · rw [List.getElem?_eq_none (by omega), List.getElem?_eq_none (by omega)]; rfl
  rw [List.flatMap_def, ← this]
  exact h4
theorem eq_sl {P : Program} {t e : TypeId} {d : Nat} (hu : P.underlying t = some (.slice e)) (a : Option Addr) (n m : Nat) (w : World) : (Op.equalIn (d + 1) t (.slice a n m) (.slice none 0 0)).run P w = .ok a.isNone w := by
  rw [Op.equalIn]; cases a <;> simp [run_und hu]
theorem flat_flatMap {α : Type} {enc : α → List Value} (h : ∀ x, (enc x).all flat = true) (xs : List α) : (xs.flatMap enc).all flat = true := by
  rw [List.all_eq_true]
  intro v hv
  obtain ⟨x, -, hx⟩ := List.mem_flatMap.1 hv
  exact List.all_eq_true.1 (h x) v hx
theorem flat_rows {vss : List (List Value)} (h : ∀ vs ∈ vss, vs.all flat = true) : vss.flatten.all flat = true := by
  rw [List.all_eq_true]
  intro v hv
  obtain ⟨x, h1, hx⟩ := List.mem_flatten.1 hv
  exact List.all_eq_true.1 (h x h1) v hx
theorem allc {v : Value} {vs : List Value} (h : flat v = true) (t : vs.all flat = true) : (v :: vs).all flat = true := by rw [List.all_cons, h, t]; rfl
theorem OS.isSl {o : Own} {e sz : Nat} {v : Value} {cells : List Value} (h : OS o e sz v cells) : flat v = true := by
  rcases h with ⟨rfl, _, _⟩ | ⟨k, n, cap, cs, rfl, _⟩ <;> rfl
theorem OS.cells {o : Own} {e sz : Nat} {v : Value} {cells : List Value} (h : OS o e sz v cells) : v.cells = [v].toArray := by
  rcases h with ⟨rfl, _, _⟩ | ⟨k, n, cap, cs, rfl, _⟩ <;> rfl
theorem setL_all {cs vs : List Value} (h : cs.length = vs.length) : setL cs 0 vs = vs := by
  simpa using setL_whole vs cs [] [] h

/-! ### What a vector says is all there -/
def hasD (ks : List Dot) (d : Dot) : Prop := ∀ k : Nat, k < d.seq.toNat → (⟨d.site, (k : Int) + 1⟩ : Dot) ∈ ks
instance (ks : List Dot) (d : Dot) : Decidable (hasD ks d) := by unfold hasD; infer_instance
def hasP (ks v : List Dot) : Prop := ∀ d ∈ v, hasD ks d
instance (ks v : List Dot) : Decidable (hasP ks v) := by unfold hasP; infer_instance
abbrev encD (d : Dot) : Value := .agg #[.int .i64 d.site, .int .i64 d.seq]
/-- A map's values are structs of n cells. -/
def Vs (n : Nat) {κ : Type} (kvs : List (κ × Value)) : Prop := ∀ p ∈ kvs, ∃ vs : List Value, p.2 = .agg vs.toArray ∧ vs.length = n ∧ vs.all flat = true
theorem mem_of_lookK {κ : Type} [DecidableEq κ] {kvs : List (κ × Value)} {x : κ} {v : Value} (h : lookK kvs x = some v) : (x, v) ∈ kvs := by
  induction kvs with
  | nil => cases h
  | cons p r ih =>
    simp only [lookK] at h
    split at h
    · rename_i e; cases h; subst e; simp
    · exact List.mem_cons_of_mem _ (ih h)
theorem lookK_some {κ : Type} [DecidableEq κ] {kvs : List (κ × Value)} {x : κ} : (lookK kvs x).isSome = true ↔ x ∈ kvs.map (·.1) := by
  induction kvs with
  | nil => simp [lookK]
  | cons p r ih =>
    simp only [lookK, List.map_cons, List.mem_cons]
    split
    · rename_i e; simp [e]
    · rename_i e; rw [ih]; simp [Ne.symm e]
theorem notin_of {κ : Type} [DecidableEq κ] {kvs : List (κ × Value)} {x : κ} (h : (lookK kvs x).isSome = false) : x ∉ kvs.map (·.1) := fun q => by rw [lookK_some.2 q] at h; cases h
theorem look_cells {κ : Type} [DecidableEq κ] {n : Nat} {kvs : List (κ × Value)} (h : Vs n kvs) (x : κ) {z : List Value} (hz : z.length = n) (hf : z.all flat = true) : ∃ vs : List Value, (lookK kvs x).getD (val true z) = .agg vs.toArray ∧ vs.length = n ∧ vs.all flat = true := by
  cases hq : lookK kvs x with
  | none => exact ⟨z, rfl, hz, hf⟩
  | some v => exact h _ (mem_of_lookK hq)

/-- kvs: the operations l, each by its dot. -/
def HOps (M : Mem) (kvs : List (Dot × Value)) (l : List Op') : Prop :=
  kvs.map (·.1) = l.map (·.dot) ∧ ∀ (i : Nat) (p : Dot × Value) (o : Op'), kvs[i]? = some p → l[i]? = some o → ∃ vs : List Value, p.2 = .agg vs.toArray ∧ ROp M vs o
theorem encOp_len (o : Op') (D G : Value) : (encOp o D G).length = 11 := rfl
theorem Sl.isSl {α : Type} {M : Mem} {sz : Nat} {R : Mem → List Value → α → Prop} {V : Value} {xs : List α} (h : Sl M sz R V xs) : flat V = true := by obtain ⟨A, c, rfl, _⟩ := h; rfl
theorem ROp.flat {M : Mem} {vs : List Value} {o : Op'} (h : ROp M vs o) : vs.length = 11 ∧ vs.all flat = true := by
  obtain ⟨D, G, rfl, h1, h2, -⟩ := h
  refine ⟨rfl, ?_⟩
  simp only [encOp, List.all_cons, List.all_nil, h1.isSl, h2.isSl]
  rfl
theorem HOps.len {M : Mem} {kvs : List (Dot × Value)} {l : List Op'} (h : HOps M kvs l) : kvs.length = l.length := by simpa using congrArg List.length h.1
theorem HOps.vs {M : Mem} {kvs : List (Dot × Value)} {l : List Op'} (h : HOps M kvs l) : Vs 11 kvs := fun p hp => by
  obtain ⟨i, hi⟩ := List.getElem?_of_mem hp
  have hlt : i < l.length := by rw [← h.len]; exact (List.getElem?_eq_some_iff.1 hi).1
  obtain ⟨vs, h1, h2⟩ := h.2 i p _ hi (List.getElem?_eq_getElem hlt)
  exact ⟨vs, h1, h2.flat⟩
theorem HOps.nil {M : Mem} : HOps M [] [] := ⟨rfl, by simp⟩
theorem HOps.mono {M M' : Mem} {kvs : List (Dot × Value)} {l : List Op'} (h : HOps M kvs l) (hM : MLe M M') : HOps M' kvs l := ⟨h.1, fun i p o hp ho => by
  obtain ⟨vs, h1, h2⟩ := h.2 i p o hp ho; exact ⟨vs, h1, mOp _ _ _ _ hM h2⟩⟩
theorem HOps.snoc {M : Mem} {kvs : List (Dot × Value)} {l : List Op'} (h : HOps M kvs l) {o : Op'} {vs : List Value} (ho : ROp M vs o) : HOps M (kvs ++ [(o.dot, .agg vs.toArray)]) (l ++ [o]) := by
  refine ⟨by simp [h.1], fun i p q hp hq => ?_⟩
  have hl := h.len
  by_cases hi : i < kvs.length
  · rw [List.getElem?_append_left hi] at hp
    rw [List.getElem?_append_left (by omega)] at hq
    exact h.2 i p q hp hq
  · rw [List.getElem?_append_right (by omega)] at hp
    rw [List.getElem?_append_right (by omega)] at hq
    have : i - kvs.length = 0 := by
      have := (List.getElem?_eq_some_iff.1 hp).1; simp at this; omega
    rw [this] at hp; rw [← hl, this] at hq
    simp at hp hq
    subst hp hq
    exact ⟨vs, rfl, ho⟩

/-! ### Why operations are no closed set -/
def closedE (l : List Op') : Int :=
  if ¬ (∀ o ∈ l, chkOp o = 0) then 10 else if ¬ (l.map (·.dot)).Nodup then 12 else if ¬ (∀ o ∈ l, hasP (l.map (·.dot)) o.deps) then 20 else 0

theorem closed10 {l : List Op'} {o : Op'} (h : o ∈ l) (hc : ¬ chkOp o = 0) : closedE l = 10 := by rw [closedE, if_pos (fun q => hc (q o h))]
theorem closed12 {l : List Op'} (h : ∀ o ∈ l, chkOp o = 0) (hc : ¬ (l.map (·.dot)).Nodup) : closedE l = 12 := by rw [closedE, if_neg (fun q => q h), if_pos hc]
theorem closed20 {l : List Op'} {o : Op'} (h : ∀ o ∈ l, chkOp o = 0) (hn : (l.map (·.dot)).Nodup) (ho : o ∈ l) (hc : ¬ hasP (l.map (·.dot)) o.deps) : closedE l = 20 := by rw [closedE, if_neg (fun q => q h), if_neg (fun q => q hn), if_pos (fun q => hc (q o ho))]
theorem closed0 {l : List Op'} (h : ∀ o ∈ l, chkOp o = 0) (hn : (l.map (·.dot)).Nodup) (hc : ∀ o ∈ l, hasP (l.map (·.dot)) o.deps) : closedE l = 0 := by rw [closedE, if_neg (fun q => q h), if_neg (fun q => q hn), if_neg (fun q => q hc)]
theorem forall_take {α : Type} {p : α → Prop} {l : List α} {i : Int} {y : α} (h0 : 0 ≤ i) (e : l[i.toNat]? = some y) (h : ∀ x ∈ l.take i.toNat, p x) (hy : p y) : ∀ x ∈ l.take (i + 1).toNat, p x := by
  rw [take_snoc' h0 e]
  intro x hx
  rcases List.mem_append.1 hx with hx | hx
  · exact h x hx
  · simp at hx; subst hx; exact hy
theorem take_all {α : Type} {l : List α} {i : Int} (h : ¬ i < l.length) : l.take i.toNat = l := List.take_of_length_le (by omega)
/-- Rows of cells, and what they read as. -/
def Rows {α : Type} (R : Mem → List Value → α → Prop) (M : Mem) (vss : List (List Value)) (xs : List α) : Prop := vss.length = xs.length ∧ ∀ (i : Nat) (vs : List Value) (x : α), vss[i]? = some vs → xs[i]? = some x → R M vs x
theorem Rows.nil {α : Type} {R : Mem → List Value → α → Prop} {M : Mem} : Rows R M [] [] := ⟨rfl, by simp⟩
theorem Rows.mono {α : Type} {R : Mem → List Value → α → Prop} {M M' : Mem} {vss : List (List Value)} {xs : List α} (h : Rows R M vss xs) (hR : Mono R) (hM : MLe M M') : Rows R M' vss xs := ⟨h.1, fun i vs x a b => hR _ _ _ _ hM (h.2 i vs x a b)⟩
theorem Rows.snoc {α : Type} {R : Mem → List Value → α → Prop} {M : Mem} {vss : List (List Value)} {xs : List α} (h : Rows R M vss xs) {vs : List Value} {x : α} (hx : R M vs x) : Rows R M (vss ++ [vs]) (xs ++ [x]) := by
  refine ⟨by simp [h.1], fun i us y hp hq => ?_⟩
  have hl := h.1
  by_cases hi : i < vss.length
  · rw [List.getElem?_append_left hi] at hp
    rw [List.getElem?_append_left (by omega)] at hq
    exact h.2 i us y hp hq
  · rw [List.getElem?_append_right (by omega)] at hp
    rw [List.getElem?_append_right (by omega)] at hq
    have : i - vss.length = 0 := by
      have := (List.getElem?_eq_some_iff.1 hp).1; simp at this; omega
    rw [this] at hp; rw [← hl, this] at hq
    simp at hp hq
    subst hp hq
    exact hx
theorem Rows.mem {α : Type} {R : Mem → List Value → α → Prop} {M : Mem} {vss : List (List Value)} {xs : List α} (h : Rows R M vss xs) {vs : List Value} (hv : vs ∈ vss) : ∃ x ∈ xs, R M vs x := by
  obtain ⟨i, hi⟩ := List.getElem?_of_mem hv
  have hlt : i < xs.length := by rw [← h.1]; exact (List.getElem?_eq_some_iff.1 hi).1
  exact ⟨_, List.getElem_mem hlt, h.2 i vs _ hi (List.getElem?_eq_getElem hlt)⟩
/-- A slice of one's own, whose elements may point into more of one's own. -/
theorem OS.rows {α : Type} {R : Mem → List Value → α → Prop} {o cl : Own} {e sz : Nat} {V : Value} {vss : List (List Value)} {xs : List α} (h : OS o e sz V vss.flatten) (hsz : 0 < sz) (hl : ∀ vs ∈ vss, vs.length = sz) (hb : xs.length ≤ 1152921504606846975)
    (hR : Mono R) (hr : Rows R (Im cl) vss xs) : Sl (Im (o ++ cl)) sz R V xs := by
  have hlen := flat_len vss sz hl
  rcases h with ⟨rfl, h2, rfl⟩ | ⟨k, n, cap, cs, rfl, rfl, h3, h4, h5, _⟩
  · have : vss.length = 0 := by
      rw [h2, List.length_nil] at hlen
      rcases Nat.eq_zero_or_pos vss.length with h | h
      · exact h
      · have := Nat.mul_pos h hsz; omega
    have hx : xs = [] := List.eq_nil_of_length_eq_zero (by rw [← hr.1, this])
    subst hx; exact .nil
  · rw [h4, List.length_take] at hlen
    have hle : n * sz ≤ cap * sz := Nat.mul_le_mul_right sz h5
    have hn : xs.length = n := by
      have : vss.length * sz = n * sz := by omega
      rw [← hr.1]; exact Nat.eq_of_mul_eq_mul_right hsz this
    subst hn
    refine ⟨_, cap, rfl, ⟨h5, hb⟩, fun _ => ⟨k, 0, rfl, fun i x hx => ?_⟩⟩
    have hi : i < vss.length := by rw [hr.1]; exact (List.getElem?_eq_some_iff.1 hx).1
    refine ⟨vss[i], ⟨rfl, cs.toArray, e, (0, 0), by simp [Im], fun j v hv => ?_⟩, hl _ (by simp), hR _ _ _ _ (fun k ob hk => by simp only [Im, List.mem_append] at hk ⊢; exact .inr hk) (hr.2 i _ x (List.getElem?_eq_getElem hi) hx)⟩
    have := flat_get vss sz i _ hl (List.getElem?_eq_getElem hi) j v hv
    rw [h4, List.getElem?_take] at this
    split at this
    · simpa using this
    · cases this
theorem OS.rlen {o : Own} {e sz : Nat} {V : Value} {vss : List (List Value)} (h : OS o e sz V vss.flatten) (hsz : 0 < sz) (hl : ∀ vs ∈ vss, vs.length = sz) : ∃ A cp, V = .slice A vss.length cp ∧ vss.length ≤ cp := by
  have hlen := flat_len vss sz hl
  rcases h with ⟨rfl, h2, rfl⟩ | ⟨k, n, cap, cs, rfl, rfl, h3, h4, h5, _⟩
  · have : vss.length = 0 := by
      rw [h2, List.length_nil] at hlen
      rcases Nat.eq_zero_or_pos vss.length with h | h
      · exact h
      · have := Nat.mul_pos h hsz; omega
    exact ⟨none, 0, by rw [this], by omega⟩
  · rw [h4, List.length_take] at hlen
    have hle : n * sz ≤ cap * sz := Nat.mul_le_mul_right sz h5
    have hn : vss.length = n := by
      have : vss.length * sz = n * sz := by omega
      exact Nat.eq_of_mul_eq_mul_right hsz this
    exact ⟨_, cap, by rw [hn], by omega⟩
theorem Im.l {a b : Own} : MLe (Im a) (Im (a ++ b)) := fun k ob h => by simp only [Im, List.mem_append] at h ⊢; exact .inl h
theorem Im.r {a b : Own} : MLe (Im b) (Im (a ++ b)) := fun k ob h => by simp only [Im, List.mem_append] at h ⊢; exact .inr h
section
variable {c : Cx} {D : List Deferred} {Q : Exit → Act → World → Prop} {l : Env} {h : List Own} {ex : Exit}
theorem o01 {a b : Own} : ∀ w, HS c (a :: b :: h) w → Chg c.w0 c.o0 (a ++ b) w := fun w s => s.chg.sublist (by simp)
end
def uptoL (v : List Dot) (l : List Op') : List Op' := if chkV 0 v = 0 then l.filter fun o => decide (1 ≤ o.dot.seq ∧ o.dot.seq ≤ getV v o.dot.site) else []
theorem filter_snoc {α : Type} {p : α → Bool} {l : List α} {i : Int} {y : α} (h0 : 0 ≤ i) (e : l[i.toNat]? = some y) : (l.take (i + 1).toNat).filter p = (l.take i.toNat).filter p ++ (if p y then [y] else []) := by
  rw [take_snoc' h0 e, List.filter_append]; simp [List.filter_cons]

theorem nil_of_none {α : Type} {M : Mem} {sz n cp : Nat} {R : Mem → List Value → α → Prop} {A : Option Addr} {v : List α} (h : Sl M sz R (.slice A n cp) v) (hA : A.isNone = true) : v = [] := by
  obtain ⟨A', c', h1, h2, h3⟩ := h
  cases h1
  rcases Nat.eq_zero_or_pos v.length with h | h
  · exact List.eq_nil_of_length_eq_zero h
  · obtain ⟨b, o, rfl, _⟩ := h3 h; cases hA
theorem has_go {s q m : Int} {ks : List Dot} (h : ∀ k : Nat, q ≤ k → k < m.toNat → (⟨s, (k : Int) + 1⟩ : Dot) ∈ ks) (hq : (⟨s, q⟩ : Dot) ∈ ks) (h0 : 0 < q) : ∀ k : Nat, q - 1 ≤ k → k < m.toNat → (⟨s, (k : Int) + 1⟩ : Dot) ∈ ks := fun k h1 h2 => by
  by_cases h3 : q ≤ k
  · exact h k h3 h2
  · rw [show (k : Int) + 1 = q by omega]; exact hq
theorem has_bad {v : List Dot} {d : Dot} {q : Int} {kvs : List (Dot × Value)} (hd : d ∈ v) (h1 : q ≤ d.seq) (h2 : 0 < q) (h : (lookK kvs (⟨d.site, q⟩ : Dot)).isSome = false) : ¬ hasP (kvs.map (·.1)) v := fun hp => by
  have := hp d hd (q - 1).toNat (by omega)
  rw [show (((q - 1).toNat : Nat) : Int) + 1 = q by omega] at this
  rw [lookK_some.2 this] at h; cases h
theorem set_dup {M : Mem} {v : List Op'} {i : Int} {kvs : List (Dot × Value)} {y : Op'} (h1 : i ≤ v.length) (h : HOps M kvs (v.take i.toNat)) (hm : y.dot ∈ kvs.map (·.1)) (e : v[i.toNat]? = some y) : ¬ (v.map (·.dot)).Nodup := fun hn => by
  rw [h.1] at hm
  have hlt : i.toNat < v.length := (List.getElem?_eq_some_iff.1 e).1
  have hs : v = v.take i.toNat ++ y :: v.drop (i.toNat + 1) := by
    have := (List.take_append_drop i.toNat v).symm
    rw [List.drop_eq_getElem_cons hlt] at this
    rw [(List.getElem?_eq_some_iff.1 e).2] at this
    exact this
  rw [hs, List.map_append, List.nodup_append] at hn
  exact hn.2.2 _ hm _ (by simp) rfl
theorem set_nodup {M : Mem} {l : List Op'} {kvs : List (Dot × Value)} {y : Op'} (hn : (l.map (·.dot)).Nodup) (h : HOps M kvs l) (hm : y.dot ∉ kvs.map (·.1)) : ((l ++ [y]).map (·.dot)).Nodup := by
  rw [List.map_append, List.nodup_append]
  refine ⟨hn, by simp, fun a ha b hb e => ?_⟩
  simp at hb; subst hb; subst e
  rw [h.1] at hm
  exact hm ha
theorem flatten_snoc (vss : List (List Value)) (vs : List Value) : (vss ++ [vs]).flatten = vss.flatten ++ vs := by simp
theorem rows_len {M : Mem} {vss : List (List Value)} {xs : List Op'} (h : Rows ROp M vss xs) : ∀ vs ∈ vss, vs.length = 11 := fun vs hv => by
  obtain ⟨x, -, hx⟩ := h.mem hv; exact hx.flat.1
theorem Sl.relD {M M' : Mem} {V : Value} {xs : List Dot} (h : Sl M 2 RDot V xs) {x : Dot} (hx : x ∈ xs) : RDot M' (encDot x) x := by
  obtain ⟨i, hi⟩ := List.getElem?_of_mem hx
  obtain ⟨A, c, e1, e2, e3⟩ := h
  have hlt := (List.getElem?_eq_some_iff.1 hi).1
  obtain ⟨b, o, rfl, e4⟩ := e3 (by omega)
  obtain ⟨vs, -, -, hr⟩ := e4 i x hi
  exact ⟨rfl, hr.2⟩
theorem Sl.relR {M M' : Mem} {V : Value} {xs : List Run} (h : Sl M 3 RRun V xs) {x : Run} (hx : x ∈ xs) : RRun M' (encRun x) x := by
  obtain ⟨i, hi⟩ := List.getElem?_of_mem hx
  obtain ⟨A, c, e1, e2, e3⟩ := h
  have hlt := (List.getElem?_eq_some_iff.1 hi).1
  obtain ⟨b, o, rfl, e4⟩ := e3 (by omega)
  obtain ⟨vs, -, -, hr⟩ := e4 i x hi
  exact ⟨rfl, hr.2⟩
theorem upto_row {o : Op'} {cl a b : Own} {D G : Value} {DD GG : Value} {M : Mem} {e1 e2 : Nat} (hD : OS a e1 2 D (o.deps.flatMap encDot)) (hG : OS b e2 3 G (o.gone.flatMap encRun)) (h1 : Sl M 2 RDot DD o.deps) (h2 : Sl M 3 RRun GG o.gone) (h3 : wfOp o) : ROp (Im ((cl ++ a) ++ b)) (encOp o D G) o :=
  ⟨D, G, rfl, (hD.sl (R := RDot) (by decide) (fun _ => rfl) h1.bound (fun x hx => Sl.relD h1 hx)).mono mDot (fun k ob hk => Im.l _ _ (Im.r _ _ hk)), (hG.sl (R := RRun) (by decide) (fun _ => rfl) h2.bound (fun x hx => Sl.relR h2 hx)).mono mRun Im.r, h3⟩

theorem upto_bound {α : Type} {R : Mem → List Value → α → Prop} {M : Mem} {vss : List (List Value)} {v : List α} {i : Nat} {p : α → Bool} (h : Rows R M vss ((v.take i).filter p)) (hl : ∀ vs ∈ vss, vs.length = 11) (hv : v.length ≤ 100000) {a : List Value} (ha : a.length = 11) : vss.flatten.length + a.length ≤ 4294967296 := by
  rw [flat_len vss 11 hl, h.1, ha]
  have h1 := List.length_filter_le p (v.take i)
  have h2 : (v.take i).length ≤ v.length := by rw [List.length_take]; omega
  omega
end Go.W
/- Ranges over functions: the iterator's yield, the loop's rounds, the mark at the end. Consumers go on to the end. No program is named here. -/
namespace Go.W
open Go

/-- One yield: the round goes through, says 'go on', and leaves o' of what was o. -/
def Yld (P : Program) (lp : Nat) (vs : List Value) (w : World) (o : Own) (R : Own → Prop) : Prop :=
  (∀ b ∈ o, w.heap[b.1]? = some b.2) → (o.map Prod.fst).Nodup →
    ∃ f tmps assign body, (Instr.yield lp vs.toArray).run P w = .ok (.round lp f tmps assign body) w ∧ ∀ rr, RoundIn (wd rr) 0 P lp f tmps assign body w fun e w' => ∃ o', e = .returned (.bool true) ∧ R o' ∧ Chg w o o' w'
theorem Yld.mono {P : Program} {lp : Nat} {vs : List Value} {w : World} {o : Own} {R R' : Own → Prop} (h : Yld P lp vs w o R) (hr : ∀ o', R o' → R' o') : Yld P lp vs w o R' := fun a b => by
  obtain ⟨f, t, as_, bd, h1, h2⟩ := h a b
  exact ⟨f, t, as_, bd, h1, fun rr => (h2 rr).mono fun e w' ⟨o', e1, e2, e3⟩ => ⟨o', e1, hr _ e2, e3⟩⟩
theorem RO.le {M M' : Mem} {o : Own} {w : World} (h : RO M o w) (hM : MLe M' M) : RO M' o w := ⟨fun k ob m => h.get k ob (hM k ob m), fun k ob m => h.not k ob (hM k ob m)⟩
theorem RO.sub {M : Mem} {o o' : Own} {w : World} (h : RO M o w) (ho : ∀ b ∈ o', b ∈ o) : RO M o' w := ⟨h.get, fun k ob m b hb => h.not k ob m b (ho b hb)⟩

section
variable {c : Cx} {D : List Deferred} {ops : Array Oper} {K : Act → World → Prop} {rest : List Oper} {l : Env} {h : List Own}
  {ty : TypeId} {pos : String} {af : Array Edge} {d : Nat} {xs : Array Operand} {tys : Array TypeId}
theorem run_yieldCall {P : Program} {x : Operand} {vs : List Value} {lp : Nat} {a : Act} {dst : Option Tmp} {g : Option (Nat × Bool)} (hv : ev l x = some (.func (.yield lp) #[] #[])) (hx : evs l xs.toList = some vs)
    (e : EOn (Op.call { callee := .value x, args := xs, argTypes := tys }).operands a l) (w : World) :
    (execOp a.eval ⟨dst, .call { callee := .value x, args := xs, argTypes := tys }, ty, pos, af, g⟩).run P w = (Instr.yield lp vs.toArray).run P w := by
  have h1 := ev_eq e (x := x) (by simp [Op.operands, Call.operands]) hv
  have h2 := evs_call e hx
  simp only [execOp, resolve, h1, Deferred.ofValue, Sem.run_bind, Sem.run_pure, Result.andThen_ok, invoke, h2]
  rw [show (#[] : Array Value) ++ vs.toArray = vs.toArray by simp]
/-- yield(..): the consumer's item stands at the front. -/
theorem ylv {x : Operand} {vs : List Value} {lp : Nat} {oc : Own} {hr : List Own} {R : Own → Prop} (hv : ev l x = some (.func (.yield lp) #[] #[])) (hx : evs l xs.toList = some vs)
    (hY : ∀ w, RO (Hm c.M hr) oc w → Yld c.P lp vs w oc R) (hd : Nat.blt d c.N = true) (k : ∀ oc', R oc' → GL c D ops K rest ((d, .bool true) :: l) (oc' :: hr)) :
    GL c D ops K (⟨some d, .call { callee := .value x, args := xs, argTypes := tys }, ty, pos, af, none⟩ :: rest) l (oc :: hr) := by
  intro a w e s
  simp only [wpL, wanted_none, if_true]
  have s' : Chg c.w0 c.o0 (oc ++ hr.flatten) w := by simpa using s.chg
  obtain ⟨f, t, as_, bd, h1, h2⟩ := hY w (HS.hm s' s.mro) (fun b hb => s'.own b (by simp [hb])) (by have := s'.nd; rw [List.map_append, List.nodup_append] at this; exact this.1)
  refine opW.of (by simp) ((run_yieldCall hv hx (e.on _) w).trans h1) (fun _ _ x => by cases x) ?_
  refine ⟨fun hh => by simp [wd] at hh, (h2 c.r).mono ?_⟩
  rintro e' w' ⟨o', rfl, hR, hC⟩
  exact k o' hR _ _ (e.put hd _) ⟨by simpa using Chg.step s' hC, s.mro⟩
end

/-! ### The end of a function that holds such a loop -/
abbrev mark (r : Nat) : Deferred := { target := .collected r, args := #[] }
def PostM (c : Cx) (fn : Func) (R : Value → Own → Prop) : Exit → Act → World → Prop :=
  bodyPostM (wd none) 0 c.P fn fun e w' => ∃ v o', e = .returned v ∧ R v o' ∧ Chg c.w0 c.o0 o' w'
theorem enterM {P : Program} {f : FuncId} {fn : Func} {code : Code} {args : List Value} {w : World} {o : Own} {M : Mem} {R : Value → Own → Prop} (hf : P.funcs[f]? = some fn) (hb : fn.body = some code) (N : Nat) (hN : fn.ntmps = N)
    (hn : Nat.ble args.length N = true) (hM : RO M o w) (h : List Own) (hh : h.flatten = o) (l : Env) (hl : Sub (env0 0 args) l) (g : G ⟨P, none, N, M, w, o⟩ [] code (PostM ⟨P, none, N, M, w, o⟩ fn R) l h) : FnC P f args w o R := by
  intro h1 h2
  refine callsIn_wide.1 (callsIn_of_wp_marks (F := wd none) (n := 0) hf hb trivial ?_)
  have hn' : args.length ≤ N := by simpa using hn
  subst hN
  have hE : EOk fn.ntmps [] ({ tmps := args.toArray ++ Array.replicate (fn.ntmps - args.toArray.size) undef, defers := [] } : Act) (env0 0 args) :=
    ⟨by simp; omega, rfl, fun t v hv => by
      obtain ⟨-, h4⟩ := lk_env0 _ _ _ _ hv
      simp only [Nat.sub_zero] at h4
      have := (List.getElem?_eq_some_iff.1 h4).1
      rw [Array.getElem?_append_left (by simpa using this)]
      simpa using h4⟩
  subst hh
  exact g _ w (hE.sub hl) ⟨Chg.refl h1 h2, hM⟩
section
variable {c : Cx} {fn : Func} {R : Value → Own → Prop} {l : Env} {h : List Own}
theorem postM0 {ex : Exit} (hex : ex = .ret ∨ ex = .normal) (x : GE c [] ex (Post c fn R) l h) : GE c [] ex (PostM c fn R) l h := by
  intro a w e s
  have h1 := x a w e s
  rcases hex with rfl | rfl
  · obtain ⟨hd, v, h2, h3⟩ := h1
    show LeavesInM _ _ _ _ _ _ _ _ _
    rw [hd]; exact ⟨v, h2, h3⟩
  · obtain ⟨hd, v, h2, h3⟩ := h1
    show LeavesInM _ _ _ _ _ _ _ _ _
    rw [hd]; exact ⟨v, h2, h3⟩
theorem HS.last {k : Nat} {ob ob' : Obj} {w w' : World} (s : HS c (h ++ [[(k, ob)]]) w) (h1 : w'.os = w.os) (h2 : w'.tape = w.tape) (h3 : w'.output = w.output) (h4 : w'.heap.size = w.heap.size)
    (h5 : ∀ j, j ≠ k → w'.heap[j]? = w.heap[j]?) (h6 : w'.heap[k]? = some ob') : HS c (h ++ [[(k, ob')]]) w' := by
  have s1 : HS c ([(k, ob)] :: h) w := s.perm (by simp only [List.flatten_append, List.flatten_cons, List.flatten_nil, List.append_nil]; exact List.perm_append_comm)
  exact (s1.set h1 h2 h3 h4 h5 h6).perm (by simp only [List.flatten_append, List.flatten_cons, List.flatten_nil, List.append_nil]; exact List.perm_append_comm)
theorem put_other {w : World} {k j : Nat} {ob : Obj} (hj : j ≠ k) : (w.putObj k ob).heap[j]? = w.heap[j]? := World.putObj_heap_other hj
theorem HS.lastPut {k : Nat} {ob ob' : Obj} {w : World} (s : HS c (h ++ [[(k, ob)]]) w) : HS c (h ++ [[(k, ob')]]) (w.putObj k ob') :=
  s.last rfl rfl rfl (by simp) (fun j hj => put_other hj) (World.putObj_heap_same (s.chg.lt (b := (k, ob)) (by simp)))
theorem postM1 {ex : Exit} {rd : Nat} (hex : ex = .ret ∨ ex = .normal) (x : GE c [] ex (Post c fn R) l h) : GE c [mark rd] ex (PostM c fn R) l (h ++ [[(rd, .deferred (some []))]]) := by
  intro a w e s
  have hk : w.heap[rd]? = some (.deferred (some [])) := s.chg.own (rd, _) (by simp)
  have s' : HS c h (w.putObj rd (.deferred none)) := (s.lastPut (ob' := .deferred none)).dropIt (List.sublist_append_left _ _)
  have h1 := x { a with defers := [] } _ ⟨e.size, rfl, e.get⟩ s'
  have key : LeavesInM (wd none) 0 c.P fn a.tmps (fun e w' => ∃ v o', e = .returned v ∧ R v o' ∧ Chg c.w0 c.o0 o' w') a.defers .returning w := by
    rw [e.dfr]
    refine ⟨by simp, .inl ⟨rd, _, rfl, run_takeDeferred hk, ?_⟩⟩
    rcases hex with rfl | rfl
    · obtain ⟨-, v, h2, h3⟩ := h1; exact ⟨v, h2, h3⟩
    · obtain ⟨-, v, h2, h3⟩ := h1; exact ⟨v, h2, h3⟩
  rcases hex with rfl | rfl <;> exact key
end

/-! ### The loop -/
def envP : List Nat → List Value → Env → Env
  | p :: ps, v :: vs, l => envP ps vs ((p, v) :: l)
  | _, _, l => l
theorem envP_ok {N : Nat} : ∀ (ps : List Nat) (vs : List Value) (tmps : Array Value) (l : Env), ps.all (fun p => Nat.blt p N) = true → EOk N [] { tmps := tmps, defers := [] } l →
    EOk N [] { tmps := (ps.zip vs).foldl (fun tmps (p : Nat × Value) => tmps.setIfInBounds p.1 p.2) tmps, defers := [] } (envP ps vs l) := by
  intro ps
  induction ps with
  | nil => intro vs tmps l _ h; exact h
  | cons p ps ih =>
    intro vs tmps l hp h
    cases vs with
    | nil => exact h
    | cons v vs =>
      simp only [List.all_cons, Bool.and_eq_true] at hp
      exact ih vs _ _ hp.2 (h.put hp.1 v)

section
variable {c : Cx} {l : Env} {h : List Own}
/-- What a round must do, behind its assignments; at its end. -/
def RQ (P : Program) (lp : Nat) (body : Code) (RR : Ending → World → Prop) : Exit → Act → World → Prop :=
  Exit.then (fun a₁ w₁ => ∃ w₂, (Instr.beginRound lp).run P w₁ = .ok () w₂ ∧ body.wpIn (wd (some lp)) 0 P (roundPost P lp RR) a₁ w₂) (fun _ _ _ => False)
def RE {σ : Type} (c : Cx) (lp : Nat) (rec_ : Loop) (J : σ → Prop) (H : σ → List Own) : Ending → World → Prop :=
  fun e w' => ∃ s, J s ∧ e = .returned (.bool true) ∧ Chg c.w0 c.o0 ((H s ++ [[(lp, Obj.loop rec_)]]).flatten) w'
theorem nR {lp : Nat} {body : Code} {RR : Ending → World → Prop} {rec_ : Loop} (hc : c.r = some lp) (hs : rec_.state = .ready) (x : G c [] body (roundPost c.P lp RR) l (h ++ [[(lp, .loop { rec_ with state := .busy })]])) :
    GE c [] .normal (RQ c.P lp body RR) l (h ++ [[(lp, .loop rec_)]]) := by
  intro a w e s
  have hk : w.heap[lp]? = some (.loop rec_) := s.chg.own (lp, _) (by simp)
  have := x a _ e s.lastPut
  rw [hc] at this
  exact ⟨_, run_beginRound hk hs, this⟩
theorem eR {σ : Type} {lp : Nat} {rec_ : Loop} {J : σ → Prop} {H : σ → List Own} (hs : rec_.state = .ready) (hp : rec_.pending = none) (s' : σ) (hj : J s') (hh : ∀ w, HS c (h ++ [[(lp, .loop rec_)]]) w → HS c (H s' ++ [[(lp, .loop rec_)]]) w) :
    GE c [] .normal (roundPost c.P lp (RE c lp rec_ J H)) l (h ++ [[(lp, .loop { rec_ with state := .busy })]]) := by
  intro a w e s
  have hk : w.heap[lp]? = some (.loop { rec_ with state := .busy }) := s.chg.own (lp, _) (by simp)
  refine ⟨_, _, run_endRound none hk, s', hj, rfl, ?_⟩
  have e1 : ({ { rec_ with state := .busy } with state := if (none : Option Code).isNone then .ready else .done, pending := none } : Loop) = rec_ := by
    cases rec_; simp_all
  rw [e1]
  exact (hh _ s.lastPut).chg
end

section
variable {c : Cx} {Q : Exit → Act → World → Prop} {l : Env} {h : List Own}
theorem rf {σ α : Type} {g : Operand} {ps : List Nat} {assign body : Code} {f : FuncId} {pre post : List Value} (enc : α → List Value) (xs : List α) (oi : Own) (H : σ → List Own) (hr : List Own) (J : List α → σ → Prop) (s0 : σ)
    (hc : c.r = none) (hv : Callee1 l g f pre post) (hf : Cl c.P f) (h0 : J [] s0) (hps : ps.all (fun p => Nat.blt p c.N) = true) (hpl : ∀ x, (enc x).length = ps.length)
    (hh : ∀ w, HS c h w → HS c (oi :: (H s0 ++ hr)) w)
    (hI : ∀ (lp : Nat) (w : World) (S : List α → Own → Prop) (oc : Own), RO (Hm c.M hr) (oi ++ oc) w → S [] oc → (∀ p o, S p o → ∃ t, J p t ∧ ∀ b ∈ (H t).flatten, b ∈ o) → (∀ p x q, xs = p ++ x :: q → ∀ oc w, RO (Hm c.M hr) oc w → S p oc → Yld c.P lp (enc x) w oc (S (p ++ [x]))) →
      FnC c.P f (pre ++ [.func (.yield lp) #[] #[]] ++ post) w (oi ++ oc) (fun _ oc' => S xs oc'))
    (round : ∀ (p : List α) (x : α) (q : List α) (s : σ), xs = p ++ x :: q → J p s → ∀ (lp : Nat) (w0 : World) (o0 : Own) (rec_ : Loop), rec_.state = .ready → rec_.pending = none →
      G ⟨c.P, some lp, c.N, Hm c.M hr, w0, o0⟩ [] assign (RQ c.P lp body (RE ⟨c.P, some lp, c.N, Hm c.M hr, w0, o0⟩ lp rec_ (J (p ++ [x])) H)) (envP ps (enc x) l) (H s ++ [[(lp, .loop rec_)]]))
    (after : ∀ s rd, J xs s → GE c [mark rd] .normal Q l ((H s ++ hr) ++ [[(rd, .deferred (some []))]])) :
    G c [] (.rangeFunc g ps.toArray assign body) Q l h := by
  intro a w e s
  refine wpIn_rangeFunc fun fn _ => ?_
  have s1 := hh w s
  obtain ⟨rec_, hrec⟩ : ∃ r : Loop, r = { state := .ready, pending := none, fn := fn, tmps := a.tmps, params := ps.toArray, assign := assign, body := body, defers := w.heap.size } := ⟨_, rfl⟩
  have hst : rec_.state = .ready := by rw [hrec]
  have hpn : rec_.pending = none := by rw [hrec]
  have s2 := (s1.alloc (.deferred (some []))).alloc (.loop rec_)
  have hsz : (w.alloc (.deferred (some []))).heap.size = w.heap.size + 1 := by show (w.heap.push _).size = _; simp
  rw [hsz] at s2
  have hent := run_enterLoop_outer (P := c.P) (w := w) fn a.tmps ps.toArray assign body
  rw [← hrec] at hent
  have hge := ev_eq (xs := #[g]) (e.on _) (x := g) (by simp) hv
  have e2 : pre.toArray ++ #[Value.func (.yield (w.heap.size + 1)) #[] #[]] = (pre ++ [Value.func (.yield (w.heap.size + 1)) #[] #[]]).toArray := by simp
  have e3 : (pre ++ [Value.func (.yield (w.heap.size + 1)) #[] #[]]).toArray ++ post.toArray = (pre ++ [Value.func (.yield (w.heap.size + 1)) #[] #[]] ++ post).toArray := by simp
  refine ⟨w.heap.size + 1, [mark w.heap.size], (w.alloc (.deferred (some []))).alloc (.loop rec_), { target := .fn (.func f) post.toArray, args := (pre ++ [Value.func (.yield (w.heap.size + 1)) #[] #[]]).toArray }, (w.alloc (.deferred (some []))).alloc (.loop rec_), f,
    (pre ++ [Value.func (.yield (w.heap.size + 1)) #[] #[]] ++ post).toArray, (w.alloc (.deferred (some []))).alloc (.loop rec_), ?_, ?_, fun _ _ => trivial, ?_, fun hh => by simp [wd] at hh, callsIn_wd ?_⟩
  · show (Instr.enterLoop fn a.tmps ps.toArray assign body (wd c.r).round).run c.P w = _
    rw [hc]; exact hent
  · simp only [resolve, rangeCall, hge, Deferred.ofValue, Sem.run_pure, List.map_toArray, List.map_cons, List.map_nil]
    rw [show Act.eval a (.const (.func (.yield (w.heap.size + 1)) #[] #[])) = Value.func (.yield (w.heap.size + 1)) #[] #[] from rfl, e2]
  · simp only [invoke, e3]
    exact run_callFunc hf _ _
  · -- the one call
    have hperm : (([(w.heap.size + 1, Obj.loop rec_)] :: [(w.heap.size, Obj.deferred (some []))] :: oi :: (H s0 ++ hr)).flatten).Perm ((oi ++ ((H s0).flatten ++ [(w.heap.size + 1, Obj.loop rec_)])) ++ (hr.flatten ++ [(w.heap.size, Obj.deferred (some []))])) := by
      simp only [List.flatten_cons, List.flatten_append]
      generalize [(w.heap.size + 1, Obj.loop rec_)] = A
      generalize [(w.heap.size, Obj.deferred (some []))] = B
      generalize (H s0).flatten = C
      generalize hr.flatten = E
      -- A ++ (B ++ (oi ++ (C ++ E))) ~ (oi ++ (C ++ A)) ++ (E ++ B)
      refine (List.perm_append_comm (l₁ := A)).trans ?_
      refine ((List.perm_append_comm (l₁ := B)).append_right A).trans ?_
      simp only [List.append_assoc]
      refine List.Perm.append_left oi (List.Perm.append_left C ?_)
      -- E ++ (B ++ A) ~ A ++ (E ++ B)
      rw [← List.append_assoc]
      exact List.perm_append_comm
    have s3 := s2.chg.perm hperm
    have hro : RO (Hm c.M hr) (oi ++ ((H s0).flatten ++ [(w.heap.size + 1, Obj.loop rec_)])) ((w.alloc (.deferred (some []))).alloc (.loop rec_)) :=
      (HS.hm s3 s.mro).le fun k ob x => by
        rcases x with x | x
        · exact .inl x
        · exact .inr (by simp [x])
    have hcall := hI (w.heap.size + 1) _ (fun p o => ∃ t, J p t ∧ o = (H t).flatten ++ [(w.heap.size + 1, Obj.loop rec_)]) _ hro ⟨s0, h0, rfl⟩ (fun p o ⟨t, ht, ho⟩ => ⟨t, ht, fun b hb => by rw [ho]; exact List.mem_append_left _ hb⟩) ?_
    · have s3' := s3
      refine (hcall (fun b hb => s3.own b (by simp only [List.mem_append] at hb ⊢; exact .inl hb)) (by have := s3.nd; rw [List.map_append, List.nodup_append] at this; exact this.1)).mono ?_
      rintro e' w3 ⟨v, o', rfl, ⟨t, ht, rfl⟩, hC⟩
      have s4 := Chg.step s3 hC
      have hk : w3.heap[w.heap.size + 1]? = some (.loop rec_) := s4.own (w.heap.size + 1, .loop rec_) (by simp)
      refine ⟨none, w3.putObj (w.heap.size + 1) (.loop { rec_ with state := .exhausted }), ?_, ?_⟩
      · exact (run_endLoop (P := c.P) hk (by rw [hst]; simp)).trans (by rw [hpn])
      · have s5 : HS c (((H t ++ hr) ++ [[(w.heap.size, Obj.deferred (some []))]]) ++ [[(w.heap.size + 1, Obj.loop rec_)]]) w3 := ⟨s4.perm (by
          simp only [List.flatten_cons, List.flatten_append, List.flatten_nil, List.append_nil]
          generalize [(w.heap.size + 1, Obj.loop rec_)] = A
          generalize [(w.heap.size, Obj.deferred (some []))] = B
          generalize (H t).flatten = C
          generalize hr.flatten = E
          simp only [List.append_assoc]
          refine List.Perm.append_left C ?_
          rw [← List.append_assoc E B A]
          exact List.perm_append_comm), s.mro⟩
        have s6 := (s5.lastPut (ob' := .loop { rec_ with state := .exhausted })).dropIt (List.sublist_append_left _ _)
        refine after t w.heap.size ht _ _ ⟨e.size, ?_, e.get⟩ s6
        show [mark w.heap.size] ++ a.defers = _
        rw [e.dfr]; rfl
    · rintro p x q hx oc w4 hro4 ⟨t, ht, rfl⟩ hown hnd
      have hk : w4.heap[w.heap.size + 1]? = some (.loop rec_) := hown (w.heap.size + 1, .loop rec_) (by simp)
      have hr1 : rec_.params = ps.toArray := by rw [hrec]
      have hr2 : rec_.tmps = a.tmps := by rw [hrec]
      have hr3 : rec_.assign = assign := by rw [hrec]
      have hr4 : rec_.body = body := by rw [hrec]
      have hy := run_yield (P := c.P) (args := (enc x).toArray) hk (by rw [hr1]; simp [hpl])
      refine ⟨_, _, _, _, hy, fun rr => ?_⟩
      rw [hr1, hr2, hr3, hr4]
      refine roundIn_of_wpIn trivial ?_
      have hE : EOk c.N [] { tmps := a.tmps, defers := [] } l := ⟨e.size, rfl, e.get⟩
      have hE2 := envP_ok ps (enc x) a.tmps l hps hE
      have hz : (Array.zip ps.toArray (enc x).toArray).foldl (fun tmps (p : Tmp × Value) => tmps.setIfInBounds p.1 p.2) a.tmps = (ps.zip (enc x)).foldl (fun tmps (p : Nat × Value) => tmps.setIfInBounds p.1 p.2) a.tmps := by
        rw [← Array.foldl_toList]
        congr 1
        simp [Array.toList_zip]
      have hgo := round p x q t hx ht (w.heap.size + 1) w4 ((H t).flatten ++ [(w.heap.size + 1, Obj.loop rec_)]) rec_ hst hpn _ w4 hE2 ⟨by
        have := Chg.refl hown hnd
        simpa using this, hro4⟩
      have hgo2 := wpIn_mono hgo (Q' := RQ c.P (w.heap.size + 1) body fun e w' => ∃ o', e = .returned (.bool true) ∧ (∃ t, J (p ++ [x]) t ∧ o' = (H t).flatten ++ [(w.heap.size + 1, Obj.loop rec_)]) ∧ Chg w4 ((H t).flatten ++ [(w.heap.size + 1, Obj.loop rec_)]) o' w') ?_
      · rw [wd_inRound]
        exact hz ▸ hgo2
      · intro ex a' w' hq
        cases ex with
        | normal =>
          obtain ⟨w2, h1, h2⟩ := hq
          refine ⟨w2, h1, wpIn_mono h2 fun ex2 a2 w5 hq2 => ?_⟩
          have key : ∀ (e : Ending) (w' : World), RE ⟨c.P, some (w.heap.size + 1), c.N, Hm c.M hr, w4, (H t).flatten ++ [(w.heap.size + 1, Obj.loop rec_)]⟩ (w.heap.size + 1) rec_ (J (p ++ [x])) H e w' →
              ∃ o', e = .returned (.bool true) ∧ (∃ t, J (p ++ [x]) t ∧ o' = (H t).flatten ++ [(w.heap.size + 1, Obj.loop rec_)]) ∧ Chg w4 ((H t).flatten ++ [(w.heap.size + 1, Obj.loop rec_)]) o' w' := by
            rintro e w' ⟨t', h1, h2, h3⟩
            exact ⟨_, h2, ⟨t', h1, by simp⟩, h3⟩
          cases ex2 with
          | normal => obtain ⟨v, w6, h3, h4⟩ := hq2; exact ⟨v, w6, h3, key _ _ h4⟩
          | ret => obtain ⟨v, w6, h3, h4⟩ := hq2; exact ⟨v, w6, h3, key _ _ h4⟩
          | exit id => obtain ⟨v, w6, h3, h4⟩ := hq2; exact ⟨v, w6, h3, key _ _ h4⟩
          | goto t => obtain ⟨v, w6, h3, h4⟩ := hq2; exact ⟨v, w6, h3, key _ _ h4⟩
          | panic ch => exact hq2
          | outgrown => exact hq2
        | _ => exact hq
end
theorem hidE {c : Cx} {h : List Own} : ∀ w, HS c h w → HS c ([] :: h) w := fun w s => ⟨by simpa using s.chg, s.mro⟩
end Go.W
/- Words of bits. No program is named here. -/
namespace Go.W
open Go

theorem u32_nat (n : Nat) (h : n < 4294967296) : IntKind.u32.wrap (n : Int) = n := IntWalk.u32_in _ (by omega)
theorem bv32 (n : Nat) (h : n < 4294967296) : (BitVec.ofInt 32 (n : Int)).toNat = n := by
  rw [BitVec.toNat_ofInt]
  omega
theorem bit_and32 {a b : Nat} (ha : a < 4294967296) (hb : b < 4294967296) : bitI .and .u32 (a : Int) (b : Int) = ((a &&& b : Nat) : Int) := by
  show IntKind.u32.wrap (((BitVec.ofInt 32 (a : Int) &&& BitVec.ofInt 32 (b : Int)).toNat : Nat) : Int) = _
  rw [BitVec.toNat_and, bv32 a ha, bv32 b hb]
  exact u32_nat _ (Nat.lt_of_le_of_lt Nat.and_le_left ha)
theorem or_lt32 {a b : Nat} (ha : a < 4294967296) (hb : b < 4294967296) : a ||| b < 4294967296 := Nat.or_lt_two_pow (n := 32) ha hb
theorem bit_or32 {a b : Nat} (ha : a < 4294967296) (hb : b < 4294967296) : bitI .or .u32 (a : Int) (b : Int) = ((a ||| b : Nat) : Int) := by
  show IntKind.u32.wrap (((BitVec.ofInt 32 (a : Int) ||| BitVec.ofInt 32 (b : Int)).toNat : Nat) : Int) = _
  rw [BitVec.toNat_or, bv32 a ha, bv32 b hb]
  exact u32_nat _ (or_lt32 ha hb)
/-- a without the bits of b. -/
def andNot (a b : Nat) : Nat := a &&& (4294967295 - b)
theorem bit_andNot32 {a b : Nat} (ha : a < 4294967296) (hb : b < 4294967296) : bitI .andNot .u32 (a : Int) (b : Int) = ((andNot a b : Nat) : Int) := by
  show IntKind.u32.wrap (((BitVec.ofInt 32 (a : Int) &&& ~~~(BitVec.ofInt 32 (b : Int))).toNat : Nat) : Int) = _
  rw [BitVec.toNat_and, BitVec.toNat_not, bv32 a ha, bv32 b hb]
  rw [show 2 ^ 32 - 1 - b = 4294967295 - b by omega]
  exact u32_nat _ (Nat.lt_of_le_of_lt Nat.and_le_left ha)
theorem andNot_lt {a b : Nat} (ha : a < 4294967296) : andNot a b < 4294967296 := Nat.lt_of_le_of_lt Nat.and_le_left ha
theorem testBit_andNot {a b i : Nat} (hb : b < 4294967296) (hi : i < 32) : (andNot a b).testBit i = (a.testBit i && !b.testBit i) := by
  unfold andNot
  rw [Nat.testBit_and, show 4294967295 - b = 2 ^ 32 - (b + 1) by omega, Nat.testBit_two_pow_sub_succ (by omega)]
  simp [hi]

/-! ### The lowest bit -/
theorem tb_odd (k m i : Nat) : (2 ^ k * (2 * m + 1)).testBit i = if i < k then false else if i = k then true else m.testBit (i - k - 1) := by
  rw [Nat.testBit_two_pow_mul]
  by_cases h : i < k
  · simp only [h, if_true, show ¬ k ≤ i by omega, decide_false, Bool.false_and]
  · simp only [h, if_false]
    by_cases h2 : i = k
    · subst h2; simp [Nat.testBit_zero]
    · obtain ⟨j, hj⟩ : ∃ j, i - k = j + 1 := ⟨i - k - 1, by omega⟩
      rw [hj, Nat.testBit_succ, show (2 * m + 1) / 2 = m by omega, if_neg h2]
      simp [show k ≤ i by omega]
theorem low_neg {k m : Nat} (hk : k < 32) (h : 2 ^ k * (2 * m + 1) < 4294967296) : 2 ^ k * (2 * m + 1) &&& (4294967296 - 2 ^ k * (2 * m + 1)) = 2 ^ k := by
  have hp : 2 ^ k * 2 ^ (32 - k) = 4294967296 := by rw [← Nat.pow_add, show k + (32 - k) = 32 by omega]
  obtain ⟨q, hq⟩ : ∃ q, 2 ^ (32 - k) = 2 * q := ⟨2 ^ (31 - k), by rw [show 32 - k = (31 - k) + 1 by omega, Nat.pow_succ]; omega⟩
  have hpos : 0 < 2 ^ k := Nat.pow_pos (by omega)
  have hm : m < q := by
    have : 2 ^ k * (2 * m + 1) < 2 ^ k * (2 * q) := by rw [← hq, hp]; exact h
    have := Nat.lt_of_mul_lt_mul_left this
    omega
  have e1 : 4294967296 - 2 ^ k * (2 * m + 1) = 2 ^ k * (2 * (q - 1 - m) + 1) := by
    rw [← hp, hq, ← Nat.mul_sub]; congr 1; omega
  rw [e1]
  apply Nat.eq_of_testBit_eq
  intro i
  rw [Nat.testBit_and, tb_odd, tb_odd, Nat.testBit_two_pow]
  by_cases h1 : i < k
  · have : ¬ k = i := by omega
    simp [h1, this]
  · by_cases h2 : i = k
    · subst h2; simp
    · have h3 : ¬ k = i := by omega
      simp only [h1, h2, h3, if_false, decide_false]
      have hq2 : q = 2 ^ (31 - k) := by
        have : 2 ^ (32 - k) = 2 * 2 ^ (31 - k) := by rw [show 32 - k = (31 - k) + 1 by omega, Nat.pow_succ]; omega
        omega
      have : q - 1 - m = 2 ^ (31 - k) - (m + 1) := by omega
      rw [this, Nat.testBit_two_pow_sub_succ (by omega)]
      cases m.testBit (i - k - 1) <;> simp
theorem low_dec {k m : Nat} : 2 ^ k * (2 * m + 1) &&& (2 ^ k * (2 * m + 1) - 1) = 2 ^ k * (2 * m) := by
  have hpos : 0 < 2 ^ k := Nat.pow_pos (by omega)
  apply Nat.eq_of_testBit_eq
  intro i
  have e1 : 2 ^ k * (2 * m + 1) - 1 = 2 ^ k * (2 * m) + (2 ^ k - 1) := by rw [Nat.mul_add]; omega
  rw [Nat.testBit_and, tb_odd, e1, Nat.testBit_two_pow_mul_add _ (by omega), Nat.testBit_two_pow_mul]
  by_cases h1 : i < k
  · have : ¬ k ≤ i := by omega
    simp [h1, this]
  · by_cases h2 : i = k
    · subst h2; simp [Nat.testBit_zero]
    · obtain ⟨j, hj⟩ : ∃ j, i - k = j + 1 := ⟨i - k - 1, by omega⟩
      simp only [h1, h2, if_false, hj, Nat.testBit_succ, show 2 * m / 2 = m by omega, show j + 1 - 1 = j by omega, show k ≤ i by omega]
      simp
theorem exists_low : ∀ (n w : Nat), w ≤ n → 0 < w → ∃ k m, w = 2 ^ k * (2 * m + 1) := by
  intro n
  induction n with
  | zero => intro w h h0; omega
  | succ n ih =>
    intro w h h0
    by_cases h1 : w % 2 = 1
    · exact ⟨0, w / 2, by omega⟩
    · obtain ⟨k, m, e⟩ := ih (w / 2) (by omega) (by omega)
      refine ⟨k + 1, m, ?_⟩
      rw [Nat.pow_succ, Nat.mul_assoc, Nat.mul_comm 2, ← Nat.mul_assoc, ← e]; omega
theorem low_lt {k m n : Nat} (h : 2 ^ k * (2 * m + 1) < 2 ^ n) : k < n := by
  have h1 : 2 ^ k ≤ 2 ^ k * (2 * m + 1) := Nat.le_mul_of_pos_right _ (by omega)
  exact (Nat.pow_lt_pow_iff_right (by omega)).1 (Nat.lt_of_le_of_lt h1 h)
/-- The bits of a word, the lower ones first. -/
def bitsOf (w : Nat) : List Int := ((List.range 32).filter (w.testBit ·)).map Int.ofNat
theorem bitsOf_zero : bitsOf 0 = [] := by simp [bitsOf]
theorem range_split (k n : Nat) (h : k < n) : List.range n = List.range k ++ k :: (List.range (n - k - 1)).map (· + (k + 1)) := by
  have e : n = k + (1 + (n - k - 1)) := by omega
  conv => lhs; rw [e, List.range_add, List.range_add]
  simp [Nat.add_assoc, Nat.add_comm, Nat.add_left_comm]
theorem bitsOf_low {k m : Nat} (hk : k < 32) : bitsOf (2 ^ k * (2 * m + 1)) = (k : Int) :: bitsOf (2 ^ k * (2 * m)) := by
  unfold bitsOf
  rw [range_split k 32 hk]
  simp only [List.filter_append, List.filter_cons, List.map_append]
  have h1 : ∀ (x : Nat), (∀ i, i < k → x.testBit i = false) → (List.range k).filter (x.testBit ·) = [] := fun x hx => by
    rw [List.filter_eq_nil_iff]; intro a ha; simp [hx a (by simpa using ha)]
  have h2 : ∀ i, i < k → (2 ^ k * (2 * m + 1)).testBit i = false := fun i hi => by rw [tb_odd]; simp [hi]
  have h3 : ∀ i, i < k → (2 ^ k * (2 * m)).testBit i = false := fun i hi => by rw [Nat.testBit_two_pow_mul]; simp [show ¬ k ≤ i by omega]
  have h4 : (2 ^ k * (2 * m + 1)).testBit k = true := by rw [tb_odd]; simp
  have h5 : (2 ^ k * (2 * m)).testBit k = false := by rw [Nat.testBit_two_pow_mul]; simp [Nat.testBit_zero]
  rw [h1 _ h2, h1 _ h3, h4, h5]
  have h6 : ((List.range (32 - k - 1)).map (· + (k + 1))).filter ((2 ^ k * (2 * m + 1)).testBit ·) = ((List.range (32 - k - 1)).map (· + (k + 1))).filter ((2 ^ k * (2 * m)).testBit ·) := by
    apply List.filter_congr
    intro i hi
    obtain ⟨j, -, rfl⟩ := List.mem_map.1 hi
    rw [tb_odd, Nat.testBit_two_pow_mul]
    obtain ⟨q, hq⟩ : ∃ q, j + (k + 1) - k = q + 1 := ⟨j, by omega⟩
    rw [hq, Nat.testBit_succ, show 2 * m / 2 = m by omega, if_neg (by omega), if_neg (by omega), show q + 1 - 1 = q by omega]
    simp [show k ≤ j + (k + 1) by omega]
  simp [h6]
def tzT : List Nat := [0, 1, 28, 2, 29, 14, 24, 3, 30, 22, 20, 15, 25, 17, 4, 8, 31, 27, 13, 23, 21, 19, 16, 7, 26, 12, 18, 6, 11, 5, 10, 9]
theorem tz_table : ∀ k : Fin 32, tzT[(2 ^ k.1 * 125613361 % 4294967296) / 134217728]? = some k.1 := by decide
theorem tz_ix (k : Nat) : (2 ^ k * 125613361 % 4294967296) / 134217728 < 32 := by omega

section
variable {c : Cx} {l : Env} {h : List Own} {ty : TypeId} {pos : String} {af : Array Edge} {g : Option (Nat × Bool)} {dst : Option Tmp}
theorem ng {x : Operand} {t : TypeId} {k : IntKind} {n : Int} (hx : ev l x = some (.int k n)) : OpV c ⟨dst, .unOp .neg t x, ty, pos, af, g⟩ l h (.int k (k.wrap (0 - n))) :=
  .of0 (fun _ => by simp) fun a w e s => by simp [execOp, ev_eq e (x := x) (by simp [Op.operands]) hx, Op.unary, Op.intArith]
end
theorem cells1 {M : Mem} {b o i : Nat} {vs : List Value} {v : Value} (h : CellsAt M ⟨b, o, none⟩ vs) (hv : vs[i]? = some v) : CellsAt M ⟨b, o + i, none⟩ [v] :=
  h.sub (o := i) (us := [v]) fun j u hu => by
    match j, hu with
    | 0, hu => simp at hu; subst hu; simpa using hv
theorem cellsI {k : Nat} {cs : List Value} {e : TypeId} {fz : Nat × Nat} : CellsAt (Im [(k, .cells cs.toArray e fz)]) ⟨k, 0, none⟩ cs := ⟨rfl, cs.toArray, e, fz, imS, fun i v hv => by simpa using hv⟩
theorem v_neg {W : Nat} (h : W < 4294967296) (h0 : 0 < W) : Value.int .u32 (IntKind.u32.wrap (0 - (W : Int))) = .int .u32 ((4294967296 - W : Nat) : Int) := by
  rw [show IntKind.u32.wrap (0 - (W : Int)) = ((4294967296 - W : Nat) : Int) by rw [IntKind.wrap_u32]; omega]
theorem v_low {k m : Nat} (hk : k < 32) (h : 2 ^ k * (2 * m + 1) < 4294967296) (h0 : 0 < 2 ^ k * (2 * m + 1)) : Value.int .u32 (bitI .and .u32 ((2 ^ k * (2 * m + 1) : Nat) : Int) ((4294967296 - 2 ^ k * (2 * m + 1) : Nat) : Int)) = .int .u32 ((2 ^ k : Nat) : Int) := by
  rw [bit_and32 h (by omega), low_neg hk h]
theorem v_mul (n : Nat) : Value.int .u32 (IntKind.u32.wrap ((n : Int) * 125613361)) = .int .u32 ((n * 125613361 % 4294967296 : Nat) : Int) := by
  rw [show IntKind.u32.wrap ((n : Int) * 125613361) = ((n * 125613361 % 4294967296 : Nat) : Int) by rw [IntKind.wrap_u32]; omega]
theorem v_shr (n : Nat) : Value.int .u32 (Int.fdiv (n : Int) (2 ^ (min (27 : Int).toNat IntKind.u32.bits))) = .int .u32 ((n / 134217728 : Nat) : Int) := by
  rw [show min (27 : Int).toNat IntKind.u32.bits = 27 from rfl, Int.fdiv_eq_ediv_of_nonneg _ (by decide)]
  rw [show ((2 : Int) ^ 27) = 134217728 by decide]; rw [Int.natCast_ediv]; rfl
theorem v_i64 {k : Nat} (h : k < 4294967296) : Value.int .i64 (IntKind.i64.wrap (k : Int)) = .int .i64 (k : Int) := by rw [IntWalk.i64_in _ (by omega)]
theorem v_dec {W : Nat} (h0 : 0 < W) (h : W < 4294967296) : Value.int .u32 (IntKind.u32.wrap ((W : Int) - 1)) = .int .u32 ((W - 1 : Nat) : Int) := by
  rw [show IntKind.u32.wrap ((W : Int) - 1) = ((W - 1 : Nat) : Int) by rw [IntKind.wrap_u32]; omega]
theorem v_clear {k m : Nat} (h : 2 ^ k * (2 * m + 1) < 4294967296) : Value.int .u32 (bitI .and .u32 ((2 ^ k * (2 * m + 1) : Nat) : Int) ((2 ^ k * (2 * m + 1) - 1 : Nat) : Int)) = .int .u32 ((2 ^ k * (2 * m) : Nat) : Int) := by
  rw [bit_and32 h (by omega), low_dec]
def hasBit (j l : Nat) (n : Int) : Bool := decide (1 ≤ n ∧ n ≤ 16) && (andNot j l).testBit n.toNat
theorem has_bit {x : Nat} {n : Int} (hx : x < 4294967296) (h0 : 1 ≤ n ∧ n ≤ 16) : (bitI .and .u32 (Int.fdiv (x : Int) (2 ^ (min n.toNat IntKind.u32.bits))) 1 == 1) = x.testBit n.toNat := by
  have hm : min n.toNat IntKind.u32.bits = n.toNat := Nat.min_eq_left (by show n.toNat ≤ 32; omega)
  rw [hm, Int.fdiv_eq_ediv_of_nonneg _ (by exact Int.pow_nonneg (by decide))]
  have e1 : ((x : Int) / 2 ^ n.toNat) = ((x / 2 ^ n.toNat : Nat) : Int) := by rw [Int.natCast_ediv, Int.natCast_pow]; rfl
  rw [e1]
  have hlt : x / 2 ^ n.toNat < 4294967296 := Nat.lt_of_le_of_lt (Nat.div_le_self _ _) hx
  have := bit_and32 hlt (show 1 < 4294967296 by decide)
  rw [show ((1 : Nat) : Int) = 1 from rfl] at this
  rw [this, Nat.testBit_eq_decide_div_mod_eq]
  rw [Nat.and_one_is_mod]
  rw [Bool.eq_iff_iff]
  simp only [beq_iff_eq, decide_eq_true_eq]
  omega
def addBit (j : Nat) (n : Int) : Nat := if 1 ≤ n ∧ n ≤ 16 then j ||| 2 ^ n.toNat else j
theorem addBit_lt {j : Nat} {n : Int} (h : j < 131072) : addBit j n < 131072 := by
  unfold addBit
  split
  · rename_i hn
    exact Nat.or_lt_two_pow (n := 17) h (Nat.pow_lt_pow_right (by omega) (by omega))
  · exact h
theorem v_bit {j : Nat} {n : Int} (h : j < 4294967296) (hn : 1 ≤ n ∧ n ≤ 16) : Value.int .u32 (bitI .or .u32 (j : Int) (IntKind.u32.wrap (1 * 2 ^ (min n.toNat IntKind.u32.bits)))) = .int .u32 ((addBit j n : Nat) : Int) := by
  have hm : min n.toNat IntKind.u32.bits = n.toNat := Nat.min_eq_left (by show n.toNat ≤ 32; omega)
  have hp : 2 ^ n.toNat < 4294967296 := Nat.lt_of_lt_of_le (Nat.pow_lt_pow_right (by omega) (show n.toNat < 17 by omega)) (by decide)
  have e : IntKind.u32.wrap (1 * 2 ^ n.toNat) = ((2 ^ n.toNat : Nat) : Int) := by
    rw [Int.one_mul, show (2 : Int) ^ n.toNat = ((2 ^ n.toNat : Nat) : Int) by rw [Int.natCast_pow]; rfl]
    exact u32_nat _ hp
  rw [hm, e, bit_or32 h hp, addBit, if_pos hn]
theorem bitsOf_len (W : Nat) : (bitsOf W).length ≤ 32 := by
  unfold bitsOf
  rw [List.length_map]
  have := List.length_filter_le (W.testBit ·) (List.range 32)
  rw [List.length_range] at this; exact this
theorem bitsOf_bound {W : Nat} {p q : List Int} {x : Int} (h : bitsOf W = p ++ x :: q) : p.length ≤ 32 := by
  have := bitsOf_len W
  rw [h, List.length_append] at this; omega
theorem set_end {S : List Int → Own → Prop} {xs p : List Int} {W : Nat} {oc : Own} (h : xs = p ++ bitsOf W) (h2 : S p oc) (hz : W = 0) : S xs oc := by
  rw [hz, bitsOf_zero, List.append_nil] at h; rw [h]; exact h2
end Go.W
/- slices.Sort of numbers, by the library's contract. -/
namespace Go.Proofs
open Go.Shelf
def Tryz.lays189_ren : Go.Shelf.Ren := ⟨fun | 189 => 105 | 125 => 144 | 257 => 143 | 128 => 173 | 129 => 174 | 294 => 164 | 295 => 165 | 296 => 166 | 297 => 167 | 298 => 168 | 299 => 169 | 216 => 170 | 300 => 171 | 301 => 172 | 328 => 185 | 329 => 186 | 330 => 187 | 331 => 188 | 332 => 189 | 215 => 190 | 343 => 195 | n => n, fun | 28 => 45 | 3 => 3 | 46 => 219 | 0 => 0 | 51 => 165 | 53 => 254 | 4 => 4 | 183 => 246 | 182 => 245 | 131 => 236 | 5 => 5 | 9 => 9 | 218 => 263 | 222 => 267 | 228 => 273 | 229 => 274 | n => n, fun | n => n⟩
theorem Tryz.lays189 : Go.Proofs.Lays.n189 Tryz.prog Tryz.lays189_ren where
  mixed := by kernel_rfl
  f125 := Tryz.func144.trans (congrArg some (by kernel_rfl))
  f128 := Tryz.func173.trans (congrArg some (by kernel_rfl))
  f129 := Tryz.func174.trans (congrArg some (by kernel_rfl))
  f189 := Tryz.func105.trans (congrArg some (by kernel_rfl))
  f215 := Tryz.func190.trans (congrArg some (by kernel_rfl))
  f216 := Tryz.func170.trans (congrArg some (by kernel_rfl))
  f257 := Tryz.func143.trans (congrArg some (by kernel_rfl))
  f294 := Tryz.func164.trans (congrArg some (by kernel_rfl))
  f295 := Tryz.func165.trans (congrArg some (by kernel_rfl))
  f296 := Tryz.func166.trans (congrArg some (by kernel_rfl))
  f297 := Tryz.func167.trans (congrArg some (by kernel_rfl))
  f298 := Tryz.func168.trans (congrArg some (by kernel_rfl))
  f299 := Tryz.func169.trans (congrArg some (by kernel_rfl))
  f300 := Tryz.func171.trans (congrArg some (by kernel_rfl))
  f301 := Tryz.func172.trans (congrArg some (by kernel_rfl))
  f328 := Tryz.func185.trans (congrArg some (by kernel_rfl))
  f329 := Tryz.func186.trans (congrArg some (by kernel_rfl))
  f330 := Tryz.func187.trans (congrArg some (by kernel_rfl))
  f331 := Tryz.func188.trans (congrArg some (by kernel_rfl))
  f332 := Tryz.func189.trans (congrArg some (by kernel_rfl))
  f343 := Tryz.func195.trans (congrArg some (by kernel_rfl))
  t0 := Tryz.underlying0
  a0 := Tryz.isAgg0
  z0 := Tryz.sizeOf0
  v0 := Tryz.zeroValue0
  t3 := Tryz.underlying3
  a3 := Tryz.isAgg3
  z3 := Tryz.sizeOf3
  v3 := Tryz.zeroValue3
  t4 := Tryz.underlying4
  a4 := Tryz.isAgg4
  z4 := Tryz.sizeOf4
  v4 := Tryz.zeroValue4
  t5 := Tryz.underlying5
  a5 := Tryz.isAgg5
  z5 := Tryz.sizeOf5
  v5 := Tryz.zeroValue5
  t9 := Tryz.underlying9
  a9 := Tryz.isAgg9
  z9 := Tryz.sizeOf9
  v9 := Tryz.zeroValue9
  t28 := Tryz.underlying45
  a28 := Tryz.isAgg45
  z28 := Tryz.sizeOf45
  v28 := Tryz.zeroValue45
  t46 := Tryz.underlying219
  a46 := Tryz.isAgg219
  z46 := Tryz.sizeOf219
  v46 := Tryz.zeroValue219
  t51 := Tryz.underlying165
  a51 := Tryz.isAgg165
  z51 := Tryz.sizeOf165
  v51 := Tryz.zeroValue165
  t53 := Tryz.underlying254
  a53 := Tryz.isAgg254
  z53 := Tryz.sizeOf254
  v53 := Tryz.zeroValue254
  t131 := Tryz.underlying236
  a131 := Tryz.isAgg236
  z131 := Tryz.sizeOf236
  v131 := Tryz.zeroValue236
  t182 := Tryz.underlying245
  a182 := Tryz.isAgg245
  z182 := Tryz.sizeOf245
  v182 := Tryz.zeroValue245
  t183 := Tryz.underlying246
  a183 := Tryz.isAgg246
  z183 := Tryz.sizeOf246
  v183 := Tryz.zeroValue246
  t218 := Tryz.underlying263
  a218 := Tryz.isAgg263
  z218 := Tryz.sizeOf263
  v218 := Tryz.zeroValue263
  t222 := Tryz.underlying267
  a222 := Tryz.isAgg267
  z222 := Tryz.sizeOf267
  v222 := Tryz.zeroValue267
  t228 := Tryz.underlying273
  a228 := Tryz.isAgg273
  z228 := Tryz.sizeOf273
  v228 := Tryz.zeroValue273
  t229 := Tryz.underlying274
  a229 := Tryz.isAgg274
  z229 := Tryz.sizeOf274
  v229 := Tryz.zeroValue274
end Go.Proofs
namespace Go.W
open Go Go.Proofs Go.Sort

theorem sort_c {M : Mem} {w : World} {o : Own} {T : TypeId} {V : Value} {xs : List Int} (hM : RO M o w) (hO : OS o T 1 V (xs.flatMap fun n => [Value.int .i64 n])) (hne : xs ≠ []) (hlen : xs.length ≤ 1000) :
    FnC Tryz.prog 105 [V] w o fun u o' => u = .tuple #[] ∧ OS o' T 1 V ((xs.mergeSort fun x y => decide (x ≤ y)).flatMap fun n => [Value.int .i64 n]) := by
  have hfl : ∀ l : List Int, l.flatMap (fun n => [Value.int .i64 n]) = l.map (Value.int .i64) := fun l => by induction l with
    | nil => rfl
    | cons a l ih => simp [ih]
  rw [hfl] at hO
  rcases hO with ⟨-, h2, -⟩ | ⟨k, n, cap, cs, rfl, rfl, h3, h4, h5, h6⟩
  · exact absurd (by simpa using h2) hne
  · intro hown hnd
    have hk : w.heap[k]? = some (.cells cs.toArray T (0, 0)) := hown (k, _) (by simp)
    have hn : xs.length = n := by
      have := congrArg List.length h4
      rw [List.length_map, List.length_take] at this
      omega
    subst hn
    have hc : ∀ j, j < xs.length → cs[j]? = some (.int .i64 xs[j]!) := fun j hj => by
      have : (cs.take (xs.length * 1))[j]? = some (.int .i64 xs[j]!) := by
        rw [← h4, List.getElem?_map, List.getElem?_eq_getElem hj, getElem!_pos xs j hj]; rfl
      rw [List.getElem?_take] at this
      split at this
      · exact this
      · cases this
    have hH : Holds (Value.int .i64) w k 0 xs.toArray := fun j hj => by
      have hj' : j < xs.length := by simpa using hj
      constructor
      · simp [World.cell?, hk, hc j hj']
      · simp [World.frozen?, hk]
    have hsort := calls_of_every_depth fun D => AnyS.slices_Sort_int_in Tryz.lays189 D k 0 cap xs w hH (lt_of_heap hk) (by omega)
    refine hsort.mono ?_
    rintro e w' ⟨rfl, m, os, rfl⟩
    obtain ⟨ys, hys⟩ : ∃ ys, ys = xs.mergeSort (fun x y => decide (x ≤ y)) := ⟨_, rfl⟩
    have hyl : ys.length = xs.length := by rw [hys]; simp
    rw [← hys]
    have hw : (putRow (Value.int .i64) (Sort.ahead w m) k 0 ys.toArray).heap.size = w.heap.size := by simp [Sort.ahead]
    refine ⟨_, [(k, .cells (putCells (Value.int .i64) 0 ys.toArray cs.toArray).toList.toArray T (0, 0))], rfl, ⟨rfl, ?_⟩, ?_⟩
    · refine .inr ⟨k, xs.length, cap, _, rfl, rfl, by simp only [putCells, Array.length_toList, Array.size_mapIdx, List.size_toArray]; omega, ?_, h5, ?_⟩
      · rw [hfl]
        apply List.ext_getElem?
        intro j
        by_cases hj : j < xs.length
        · have hjc : j < cs.length := by omega
          rw [List.getElem?_map, List.getElem?_take, if_pos (by omega), List.getElem?_eq_getElem (by omega : j < ys.length), Array.getElem?_toList]
          simp only [putCells, Array.getElem?_mapIdx, List.getElem?_toArray, List.getElem?_eq_getElem hjc, Option.map_some, Nat.zero_add, List.size_toArray, Nat.zero_le, true_and, Nat.sub_zero]
          rw [if_pos (by omega), List.getElem!_toArray, getElem!_pos ys j (by omega)]
        · rw [List.getElem?_eq_none (by rw [List.length_map]; omega), List.getElem?_eq_none (by rw [List.length_take]; omega)]
      · exact flat_flatMap (fun _ => rfl) _
    · have hkl := lt_of_heap hk
      have hb : ∀ j, j ≠ k → j < w.heap.size → (grow (putRow (Value.int .i64) (Sort.ahead w m) k 0 ys.toArray) os).heap[j]? = w.heap[j]? := fun j hj hjl => by
        rw [heap_grow_old _ _ (by rw [hw]; exact hjl)]
        simp only [putRow, mapBlock, Array.getElem?_modify, if_neg (Ne.symm hj)]
        rfl
      refine ⟨rfl, rfl, rfl, by rw [size_grow, hw]; omega, fun j hj hn => hb j (fun e => hn (k, .cells cs.toArray T (0, 0)) (by simp) e.symm) hj, fun b hb' => ?_, fun b hb' => ?_, by simp⟩
      · simp only [List.mem_singleton] at hb'
        subst hb'
        rw [heap_grow_old _ _ (by rw [hw]; exact hkl)]
        simp only [putRow, mapBlock, Array.getElem?_modify, if_true]
        show Option.map _ (w.heap[k]?) = _
        rw [hk]; rfl
      · simp only [List.mem_singleton] at hb'
        subst hb'
        exact .inl ⟨(k, .cells cs.toArray T (0, 0)), by simp, rfl⟩
end Go.W
