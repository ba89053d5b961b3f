/- Lemmas for the walks of this program: The row of a closed set. No program is named here. The tree in memory. Slices of one's own: cap, parts, copy, room. No program is named here. Another element in the tree. No program is named here. What the program's tables say. Written by a program of mine. -/
import Derived.Lib.Overlaps
import Derived.Test.YtcjnbfpkigadeaaGreatDoorProg
import Derived.Test.YtcjnbfpkigadeaaGreatDoorJ4
set_option linter.unusedVariables false
set_option linter.unusedSimpArgs false
/- The row of a closed set. No program is named here. -/
namespace Go.W
open Go

def getL (l : List Op') (d : Dot) : Option Op' := l.find? fun o => decide (o.dot = d)
def waitB (l : List Op') (gone : List Dot) (d : Dot) : Bool := match getL l d with | some o => coversV gone o.deps | none => false
theorem HOps.look {M : Mem} : ∀ {kvs : List (Dot × Value)} {l : List Op'}, HOps M kvs l → ∀ d : Dot, (lookK kvs d = none ∧ getL l d = none) ∨ ∃ o D G, getL l d = some o ∧ o ∈ l ∧ o.dot = d ∧ lookK kvs d = some (.agg (encOp o D G).toArray) ∧ Sl M 2 RDot D o.deps ∧ Sl M 3 RRun G o.gone ∧ wfOp o := by
  intro kvs
  induction kvs with
  | nil =>
    intro l h d
    have : l = [] := List.eq_nil_of_length_eq_zero (by have := h.len; simpa using this.symm)
    subst this; exact .inl ⟨rfl, rfl⟩
  | cons p r ih =>
    intro l h d
    cases l with
    | nil => have := h.len; simp at this
    | cons o l =>
      have h1 : p.1 = o.dot ∧ r.map (·.1) = l.map (·.dot) := by simpa using h.1
      have h2 : HOps M r l := ⟨h1.2, fun i q u hq hu => h.2 (i + 1) q u (by simpa using hq) (by simpa using hu)⟩
      by_cases e : o.dot = d
      · obtain ⟨vs, e1, D, G, rfl, e2, e3, e4⟩ := h.2 0 p o rfl rfl
        refine .inr ⟨o, D, G, by simp [getL, e], by simp, e, ?_, e2, e3, e4⟩
        rw [lookK, if_pos (h1.1.trans e), e1]
      · have e' : ¬ p.1 = d := fun q => e (h1.1.symm.trans q)
        rcases ih h2 d with ⟨a, b⟩ | ⟨o', D, G, a, b, c, e1, e2⟩
        · refine .inl ⟨by rw [lookK, if_neg e', a], ?_⟩
          unfold getL at b ⊢
          rw [List.find?_cons_of_neg (by simpa using e), b]
        · refine .inr ⟨o', D, G, ?_, by simp [b], c, by rw [lookK, if_neg e', e1], e2⟩
          unfold getL at a ⊢
          rw [List.find?_cons_of_neg (by simpa using e), a]
theorem getL_mem {l : List Op'} {d : Dot} {o : Op'} (h : getL l d = some o) : o ∈ l ∧ o.dot = d := ⟨List.mem_of_find?_eq_some h, by simpa using List.find?_some h⟩
/-- Eleven cells. -/
def C11 (V : Value) : Prop := ∃ v0 v1 v2 v3 v4 v5 v6 v7 v8 v9 va : Value, V = .agg #[v0, v1, v2, v3, v4, v5, v6, v7, v8, v9, va] ∧ flat v0 = true ∧ flat v1 = true ∧ flat v2 = true ∧ flat v3 = true ∧ flat v4 = true ∧ flat v5 = true ∧ flat v6 = true ∧ flat v7 = true ∧ flat v8 = true ∧ flat v9 = true ∧ flat va = true
theorem c11 {vs : List Value} (h : vs.length = 11) (hf : vs.all flat = true) : C11 (.agg vs.toArray) := by
  match vs, h with
  | [v0, v1, v2, v3, v4, v5, v6, v7, v8, v9, va], _ =>
    simp only [List.all_cons, List.all_nil, Bool.and_eq_true, and_true] at hf
    exact ⟨v0, v1, v2, v3, v4, v5, v6, v7, v8, v9, va, rfl, hf⟩
abbrev zOp : List Value := [.int .i64 0, .int .i64 0, .slice none 0 0, .int .i64 0, .int .i64 0, .int .i64 0, .int .i64 0, .int .i64 0, .string ByteArray.empty, .slice none 0 0, .int .i64 0]
theorem look11 {kvs : List (Dot × Value)} (h : Vs 11 kvs) (d : Dot) : C11 ((lookK kvs d).getD (val true zOp)) := by
  obtain ⟨vs, e, hl, hf⟩ := look_cells h d (z := zOp) rfl rfl
  rw [e]; exact c11 hl hf

/-! ### Which one comes next -/
/-- left: of each site (of those that are left) the next one; 0: it is not left. -/
def LeftOK (left : List (Int × Int)) (lf : Int → Int) : Prop := ∀ s, 0 ≤ lf s ∧ lookM left s = if 1 ≤ lf s then some (lf s) else none
theorem LeftOK.get {left : List (Int × Int)} {lf : Int → Int} (h : LeftOK left lf) (s : Int) : (lookM left s).getD 0 = lf s := by
  obtain ⟨h1, h2⟩ := h s
  rw [h2]; split
  · rfl
  · simp; omega
def firstF (l : List Op') (gone : List Dot) (lf : Int → Int) : List Int → Option Dot
  | [] => none
  | s :: r => if waitB l gone ⟨s, lf s⟩ = true then some ⟨s, lf s⟩ else firstF l gone lf r
def valF (kvs : List (Dot × Value)) : Option Dot → Value
  | some d => (lookK kvs d).getD (val true zOp)
  | none => val true zOp
theorem val11 {kvs : List (Dot × Value)} (h : Vs 11 kvs) (d : Option Dot) : C11 (valF kvs d) := by
  cases d with
  | none => exact c11 (vs := zOp) rfl rfl
  | some d => exact look11 h d
abbrev encN (n : Int) : Value := .int .i64 n
/-- What the two closures read. -/
def RowMem (M : Mem) (b1 b3 b5 : Nat) (kvs : List (Dot × Value)) (l : List Op') (lf : Int → Int) (gone : List Dot) : Prop :=
  ∃ mb mob lb lob left gv, CellsAt M ⟨b1, 0, none⟩ [.map (some mb)] ∧ M mb mob ∧ Mp encD mob kvs ∧ HOps M kvs l ∧ CellsAt M ⟨b3, 0, none⟩ [.map (some lb)] ∧ M lb lob ∧ Mp encN lob (encM encN left) ∧ LeftOK left lf ∧ CellsAt M ⟨b5, 0, none⟩ [gv] ∧ Sl M 2 RDot gv gone
theorem RowMem.mono {M M' : Mem} {b1 b3 b5 : Nat} {kvs : List (Dot × Value)} {l : List Op'} {lf : Int → Int} {gone : List Dot} (hM : MLe M M') : RowMem M b1 b3 b5 kvs l lf gone → RowMem M' b1 b3 b5 kvs l lf gone := by
  rintro ⟨mb, mob, lb, lob, left, gv, h1, h2, h3, h4, h5, h6, h7, h8, h9, h10⟩
  exact ⟨mb, mob, lb, lob, left, gv, h1.mono hM, hM _ _ h2, h3, h4.mono hM, h5.mono hM, hM _ _ h6, h7, h8, h9.mono hM, h10.mono mDot hM⟩
theorem waitB_none {l : List Op'} {gone : List Dot} {d : Dot} (h : getL l d = none) : waitB l gone d = false := by rw [waitB, h]
theorem waitB_some {l : List Op'} {gone : List Dot} {d : Dot} {o : Op'} (h : getL l d = some o) : waitB l gone d = coversV gone o.deps := by rw [waitB, h]
theorem firstF_at {l : List Op'} {gone : List Dot} {lf : Int → Int} {sites : List Int} {y : Int} (h : sites[0]? = some y) : firstF l gone lf sites = if waitB l gone ⟨y, lf y⟩ = true then some ⟨y, lf y⟩ else firstF l gone lf (sites.drop 1) := by
  cases sites with
  | nil => cases h
  | cons s r => simp at h; subst h; rfl

/-! ### Slices of slices -/
theorem slT {P : Program} {α : Type} {M : Mem} {sz : Nat} {R : Mem → List Value → α → Prop} {V : Value} {xs : List α} {t e' : TypeId} {gg : Bool} {z : List Value} {bb : Nat} {j : Nat} {ik : IntKind} (hu : P.underlying t = some (.slice e')) (ht : Ty P e' sz gg z bb) (hv : Sl M sz R V xs) (h0 : j ≤ xs.length) :
    ∃ V', Sl M sz R V' (xs.drop j) ∧ ∀ (c : Cx) (l : Env) (h : List Own) (dst : Option Tmp) (ty : TypeId) (pos : String) (af : Array Edge) (g : Option (Nat × Bool)) (x i : Operand), c.P = P → ev l x = some V → ev l i = some (.int ik (j : Int)) →
      OpV c ⟨dst, .slice t x (some i) none none, ty, pos, af, g⟩ l h V' := by
  obtain ⟨A, cp, rfl, h2, h3⟩ := hv
  refine ⟨.slice (if cp = j then A else A.map (·.add (j * sz))) (xs.length - j) (cp - j), ⟨_, cp - j, by rw [List.length_drop], by rw [List.length_drop]; omega, fun hn => ?_⟩, ?_⟩
  · rw [List.length_drop] at hn
    obtain ⟨b, o, rfl, h4⟩ := h3 (by omega)
    have hne : ¬ cp = j := by omega
    rw [if_neg hne]
    refine ⟨b, o + j * sz, by simp [add_mk], fun i x hx => ?_⟩
    rw [List.getElem?_drop] at hx
    obtain ⟨vs, a1, a2, a3⟩ := h4 (j + i) x hx
    refine ⟨vs, ?_, a2, a3⟩
    rw [show o + j * sz + i * sz = o + (j + i) * sz by rw [Nat.add_mul]; omega]
    exact a1
  · intro c l h dst ty pos af g x i hP hx hi
    subst hP
    refine .of0 (fun _ => by simp) fun a w e _ => ?_
    have e1 : (0 : Int) ≤ (j : Int) ∧ (j : Int) ≤ ((xs.length : Nat) : Int) := by omega
    simp [execOp, ev_eq e (x := x) (by simp [Op.operands]) hx, ev_eq e (x := i) (by simp [Op.operands]) hi, Instr.sliceAt, Instr.slice, run_und hu, Instr.sliceBounds, Instr.sliceBound, asIntOf, h0, ht.size]

/-! ### The row -/
def sitesF (lf : Int → Int) : List Int := ((List.range 17).map Int.ofNat).filter fun s => decide (1 ≤ lf s)
def goneF (gone : List Dot) (d : Dot) : List Dot := if addE gone d = 0 then addV gone d else []
def stepF (l : List Op') (lf : Int → Int) (d : Dot) : Int → Int := fun s => if s = d.site then (if (getL l ⟨d.site, d.seq + 1⟩).isSome = true then d.seq + 1 else 0) else lf s
def rowF (l : List Op') : Nat → (Int → Int) → List Dot → List Op'
  | 0, _, _ => []
  | n + 1, lf, gone => match firstF l gone lf (sitesF lf) with
    | none => []
    | some d => match getL l d with
      | none => []
      | some o => o :: rowF l n (stepF l lf d) (goneF gone d)
def left0 (l : List Op') : Int → Int := fun s => if s ∈ l.map (·.dot.site) then 1 else 0
def rowL (l : List Op') : List Op' := rowF l l.length (left0 l) []

/-! ### The iterator's loop -/
def encO (kvs : List (Dot × Value)) (o : Op') : List Value := [(lookK kvs o.dot).getD undef]
/-- How many are left. -/
def rem (l : List Op') (lf : Int → Int) : Nat := (l.filter fun o => decide (1 ≤ lf o.dot.site ∧ lf o.dot.site ≤ o.dot.seq)).length
theorem firstF_some {l : List Op'} {gone : List Dot} {lf : Int → Int} : ∀ {ss : List Int} {d : Dot}, firstF l gone lf ss = some d → ∃ s o, d = ⟨s, lf s⟩ ∧ s ∈ ss ∧ getL l d = some o ∧ coversV gone o.deps = true := by
  intro ss
  induction ss with
  | nil => intro d h; cases h
  | cons s r ih =>
    intro d h
    simp only [firstF] at h
    split at h
    · rename_i hw
      cases h
      cases hg : getL l ⟨s, lf s⟩ with
      | none => rw [waitB_none hg] at hw; cases hw
      | some o => rw [waitB_some hg] at hw; exact ⟨s, o, rfl, by simp, by first | exact hg | rfl, hw⟩
    · obtain ⟨s', o, a, b, c, e⟩ := ih h
      exact ⟨s', o, a, by simp [b], c, e⟩
theorem rowF_none {l : List Op'} {n : Nat} {lf : Int → Int} {gone : List Dot} (h : firstF l gone lf (sitesF lf) = none) : rowF l n lf gone = [] := by
  cases n with
  | zero => rfl
  | succ n => rw [rowF, h]
theorem rowF_some {l : List Op'} {n : Nat} {lf : Int → Int} {gone : List Dot} {d : Dot} {o : Op'} (h : firstF l gone lf (sitesF lf) = some d) (hg : getL l d = some o) : rowF l (n + 1) lf gone = o :: rowF l n (stepF l lf d) (goneF gone d) := by
  rw [rowF, h]; simp only [hg]
theorem rem_pos {l : List Op'} {lf : Int → Int} {o : Op'} (ho : o ∈ l) (h : 1 ≤ lf o.dot.site ∧ lf o.dot.site ≤ o.dot.seq) : 1 ≤ rem l lf := by
  unfold rem
  exact List.length_pos_of_mem (List.mem_filter.2 ⟨ho, by simpa using h⟩)
theorem filter_lt' {α : Type} (p q : α → Bool) (hpq : ∀ x, q x = true → p x = true) {e : α} (hp : p e = true) (hq : q e = false) : ∀ (l : List α), e ∈ l → (l.filter q).length < (l.filter p).length := by
  intro l
  induction l with
  | nil => intro h; cases h
  | cons a l ih =>
    intro h
    have hle : (l.filter q).length ≤ (l.filter p).length := by
      clear ih h
      induction l with
      | nil => simp
      | cons b l ih =>
        simp only [List.filter_cons]
        cases hb : q b with
        | true => rw [hpq b hb]; simpa using ih
        | false =>
          cases hpb : p b with
          | true => simp only [if_true, Bool.false_eq_true, if_false, List.length_cons]; omega
          | false => simpa using ih
    rcases List.mem_cons.1 h with rfl | h
    · simp only [List.filter_cons, hp, hq, if_true, Bool.false_eq_true, if_false, List.length_cons]; omega
    · have := ih h
      simp only [List.filter_cons]
      cases hb : q a with
      | true => rw [hpq a hb]; simp only [if_true, List.length_cons]; omega
      | false =>
        cases hpb : p a with
        | true => simp only [if_true, Bool.false_eq_true, if_false, List.length_cons]; omega
        | false => simpa using this
theorem rem_step {l : List Op'} {lf : Int → Int} {d : Dot} {o : Op'} (hg : getL l d = some o) (hd : lf d.site = d.seq) (h1 : 1 ≤ d.seq) : rem l (stepF l lf d) < rem l lf := by
  obtain ⟨ho, rfl⟩ := getL_mem hg
  refine filter_lt' _ _ (fun x hx => ?_) (e := o) ?_ ?_ l ho
  · simp only [decide_eq_true_eq] at hx ⊢
    unfold stepF at hx
    by_cases hs : x.dot.site = o.dot.site
    · rw [if_pos hs] at hx
      rw [hs, hd]
      split at hx <;> omega
    · rw [if_neg hs] at hx; exact hx
  · simp only [decide_eq_true_eq]; omega
  · simp only [decide_eq_false_iff_not]
    unfold stepF
    rw [if_pos rfl]
    split <;> omega
/-- Sites that are left are sites. -/
def SitesOK (lf : Int → Int) : Prop := ∀ s, 1 ≤ lf s → 1 ≤ s ∧ s ≤ 16 ∧ lf s ≤ 2147483647
theorem mem_sitesF {lf : Int → Int} (h : SitesOK lf) {s : Int} : s ∈ sitesF lf ↔ 1 ≤ lf s := by
  unfold sitesF
  simp only [List.mem_filter, List.mem_map, List.mem_range, decide_eq_true_eq]
  constructor
  · exact fun x => x.2
  · intro x
    have := h s x
    exact ⟨⟨s.toNat, by omega, by show ((s.toNat : Nat) : Int) = s; omega⟩, x⟩
theorem sitesF_sorted (lf : Int → Int) : (sitesF lf).Pairwise (· < ·) := by
  unfold sitesF
  refine List.Pairwise.filter _ ?_
  rw [List.pairwise_map]
  exact List.pairwise_lt_range.imp fun h => by show ((_ : Nat) : Int) < ((_ : Nat) : Int); omega
theorem lookM_isSome {κ β : Type} [DecidableEq κ] {kvs : List (κ × β)} {x : κ} : (lookM kvs x).isSome = true ↔ x ∈ kvs.map (·.1) := by
  induction kvs with
  | nil => simp [lookM]
  | cons p r ih =>
    simp only [lookM, List.map_cons, List.mem_cons]
    split
    · rename_i e; simp [e]
    · rename_i e; rw [ih]; simp [Ne.symm e]
theorem LeftOK.mem {left : List (Int × Int)} {lf : Int → Int} (h : LeftOK left lf) {s : Int} : s ∈ left.map (·.1) ↔ 1 ≤ lf s := by
  rw [← lookM_isSome, (h s).2]
  split
  · rename_i hh; simp [hh]
  · rename_i hh; simp [hh]
theorem eq_of_sorted {l r : List Int} (hl : l.Pairwise (· < ·)) (hr : r.Pairwise (· < ·)) (h : ∀ x, x ∈ l ↔ x ∈ r) : l = r := by
  induction l generalizing r with
  | nil =>
    cases r with
    | nil => rfl
    | cons b r => exact absurd ((h b).2 (by simp)) (by simp)
  | cons a l ih =>
    cases r with
    | nil => exact absurd ((h a).1 (by simp)) (by simp)
    | cons b r =>
      rw [List.pairwise_cons] at hl hr
      have hab : a = b := by
        rcases List.mem_cons.1 ((h a).1 (by simp)) with e | e
        · exact e
        · rcases List.mem_cons.1 ((h b).2 (by simp)) with e2 | e2
          · exact e2.symm
          · have := hl.1 _ e2; have := hr.1 _ e; omega
      subst hab
      rw [ih hl.2 hr.2 fun x => ?_]
      constructor
      · intro hx
        have h1 := hl.1 _ hx
        rcases List.mem_cons.1 ((h x).1 (by simp [hx])) with e | e
        · omega
        · exact e
      · intro hx
        have h1 := hr.1 _ hx
        rcases List.mem_cons.1 ((h x).2 (by simp [hx])) with e | e
        · omega
        · exact e
theorem sites_sorted {left : List (Int × Int)} {lf : Int → Int} {ss : List Int} (h : LeftOK left lf) (hs : SitesOK lf) (hn : (left.map (·.1)).Nodup) (hp : ss.Perm (left.map (·.1))) : ss.mergeSort (fun x y => decide (x ≤ y)) = sitesF lf := by
  have h1 : (ss.mergeSort (fun x y => decide (x ≤ y))).Perm (left.map (·.1)) := (List.mergeSort_perm ss _).trans hp
  refine eq_of_sorted ?_ (sitesF_sorted lf) fun x => ?_
  · have h2 := List.pairwise_mergeSort (le := fun x y : Int => decide (x ≤ y)) (fun a b c => by simp; omega) (fun a b => by simp; omega) ss
    have h3 : (ss.mergeSort (fun x y => decide (x ≤ y))).Nodup := h1.nodup_iff.2 hn
    exact (h2.and h3).imp fun h => by have := h.1; have := h.2; simp at *; omega
  · rw [h1.mem_iff, h.mem, mem_sitesF hs]
theorem stepF_ok {l : List Op'} {lf : Int → Int} {d : Dot} (h : SitesOK lf) (hd : 1 ≤ d.site ∧ d.site ≤ 16) (hl : ∀ o ∈ l, o.dot.seq ≤ 2147483647) : SitesOK (stepF l lf d) := fun s hs => by
  unfold stepF at hs ⊢
  by_cases e : s = d.site
  · rw [if_pos e] at hs ⊢
    cases hg : getL l ⟨d.site, d.seq + 1⟩ with
    | none => rw [hg] at hs; simp at hs
    | some o =>
      rw [hg] at hs
      obtain ⟨ho, he⟩ := getL_mem hg
      have := hl o ho
      rw [he] at this
      simp only [Option.isSome_some, if_true] at hs ⊢
      simp only at this
      omega
  · rw [if_neg e] at hs ⊢; exact h s hs
theorem LeftOK.set {l : List Op'} {left : List (Int × Int)} {lf : Int → Int} {d : Dot} (h : LeftOK left lf) (hg : (getL l ⟨d.site, d.seq + 1⟩).isSome = true) (h1 : 0 ≤ d.seq) : LeftOK (setM left d.site (d.seq + 1)) (stepF l lf d) := fun s => by
  rw [lookM_set]
  unfold stepF
  by_cases e : d.site = s
  · subst e; rw [if_pos rfl, if_pos rfl, if_pos hg, if_pos (by omega)]; exact ⟨by omega, rfl⟩
  · have e' : ¬ s = d.site := fun q => e q.symm
    rw [if_neg e, if_neg e']; exact h s
theorem lookM_filter {κ β : Type} [DecidableEq κ] (kvs : List (κ × β)) (x y : κ) : lookM (kvs.filter fun p => p.1 ≠ x) y = if x = y then none else lookM kvs y := by
  induction kvs with
  | nil => simp [lookM]
  | cons p r ih =>
    simp only [List.filter_cons]
    by_cases e : p.1 = x
    · rw [if_neg (by simp [e]), ih]
      by_cases e2 : x = y
      · simp [e2]
      · simp only [lookM, if_neg e2]
        rw [if_neg (fun q => e2 (e.symm.trans q))]
    · rw [if_pos (by simp [e])]
      simp only [lookM]
      by_cases e3 : p.1 = y
      · have e2 : ¬ x = y := fun q => e (e3.trans q.symm)
        simp [e3, e2]
      · simp only [e3, if_false, ih]
theorem LeftOK.del {l : List Op'} {left : List (Int × Int)} {lf : Int → Int} {d : Dot} {v : Int} (h : LeftOK left lf) (hg : (getL l ⟨d.site, d.seq + 1⟩).isSome = false) : LeftOK ((setM left d.site v).filter fun p => p.1 ≠ d.site) (stepF l lf d) := fun s => by
  rw [lookM_filter, lookM_set]
  unfold stepF
  by_cases e : d.site = s
  · subst e; rw [if_pos rfl, if_pos rfl, hg]; simp
  · have e' : ¬ s = d.site := fun q => e q.symm
    rw [if_neg e, if_neg e, if_neg e']; exact h s
theorem Mp.keys {κ : Type} {enc : κ → Value} {ob : Obj} {kvs : List (κ × Value)} (h : Mp enc ob kvs) : (kvs.map (·.1)).Nodup := by obtain ⟨_, _, _, _, _, h, _⟩ := h; exact h
theorem encM_keys {κ β : Type} (f : β → Value) (kvs : List (κ × β)) : (encM f kvs).map (·.1) = kvs.map (·.1) := by simp [encM]
/-- Dots that the language can hold. -/
def DotsOK (v : List Dot) : Prop := ∀ d ∈ v, (-9223372036854775808 ≤ d.site ∧ d.site ≤ 9223372036854775807) ∧ (-9223372036854775808 ≤ d.seq ∧ d.seq ≤ 9223372036854775807)
theorem goneF_ok {gone : List Dot} {d : Dot} (hd : d.seq ≤ 9223372036854775807 ∧ -9223372036854775808 ≤ d.seq) : DotsOK (goneF gone d) := by
  unfold goneF
  split
  · intro x hx
    unfold addV vecOf vecTo at hx
    obtain ⟨s, hs, e⟩ := List.mem_filterMap.1 hx
    simp only [List.mem_range] at hs
    split at e
    · cases e
      dsimp only
      have h1 := says_le gone s
      have h2 := says_nonneg gone s
      split <;> omega
    · cases e
  · intro x hx; cases hx
theorem dots_sl {o : Own} {e : Nat} {V : Value} {gone : List Dot} (h : OS o e 2 V (gone.flatMap encDot)) (hd : DotsOK gone) (hl : gone.length ≤ 1000) : Sl (Im o) 2 RDot V gone :=
  h.sl (by decide) (fun _ => rfl) (by omega) fun x hx => ⟨rfl, hd x hx⟩
theorem goneF_len (gone : List Dot) (d : Dot) : (goneF gone d).length ≤ 1000 := by
  unfold goneF
  split
  · unfold addV vecOf; have := vecTo_len (fun s => if s = 0 + d.site.toNat * 1 then d.seq else says gone s) 17; omega
  · simp
theorem ints_sl {o : Own} {e : Nat} {V : Value} {ss : List Int} (h : OS o e 1 V (ss.flatMap fun n => [Value.int .i64 n])) (hl : ss.length ≤ 1000) : Sl (Im o) 1 RInt V ss :=
  h.sl (by decide) (fun _ => rfl) (by omega) fun x hx => rfl

theorem look_isSome {M : Mem} {kvs : List (Dot × Value)} {l : List Op'} (h : HOps M kvs l) (d : Dot) : (lookK kvs d).isSome = (getL l d).isSome := by
  rcases h.look d with ⟨a, b⟩ | ⟨o, D, G, a, -, -, b, -⟩ <;> rw [a, b] <;> rfl
theorem init_perm {α : Type} {l done pre post rs : List α} {p : α} (h : l.Perm (done ++ rs)) (hr : rs = pre ++ p :: post) : l.Perm ((done ++ [p]) ++ (pre ++ post)) := by
  rw [hr] at h
  refine h.trans ?_
  rw [List.append_assoc]
  exact List.Perm.append_left done List.perm_middle
theorem init_look {left : List (Int × Int)} {done : List (Dot × Value)} {p : Dot × Value} (h : ∀ s, lookM left s = if s ∈ done.map (·.1.site) then some 1 else none) : ∀ s, lookM (setM left p.1.site 1) s = if s ∈ (done ++ [p]).map (·.1.site) then some 1 else none := fun s => by
  rw [lookM_set, h s]
  by_cases e : p.1.site = s
  · subst e; simp
  · have e' : ¬ s = p.1.site := fun q => e q.symm
    have hm : s ∈ (done ++ [p]).map (·.1.site) ↔ s ∈ done.map (·.1.site) := by
      rw [List.map_append, List.mem_append]
      simp only [List.map_cons, List.map_nil, List.mem_singleton, e', or_false]
    rw [if_neg e]
    by_cases hq : s ∈ done.map (·.1.site)
    · rw [if_pos hq, if_pos (hm.2 hq)]
    · rw [if_neg hq, if_neg (fun x => hq (hm.1 x))]
theorem init_left {M : Mem} {left : List (Int × Int)} {done kvs : List (Dot × Value)} {v : List Op'} (h : ∀ s, lookM left s = if s ∈ done.map (·.1.site) then some 1 else none) (hp : kvs.Perm (done ++ [])) (ho : HOps M kvs v) : LeftOK left (left0 v) := fun s => by
  have hm : s ∈ done.map (·.1.site) ↔ s ∈ v.map (·.dot.site) := by
    rw [List.append_nil] at hp
    have h1 : (kvs.map (·.1)).map (·.site) = (v.map (·.dot)).map (·.site) := by rw [ho.1]
    rw [List.map_map, List.map_map] at h1
    have h2 := (hp.map (fun p : Dot × Value => p.1.site)).mem_iff (a := s)
    rw [← h2]
    show s ∈ List.map ((fun d : Dot => d.site) ∘ fun p : Dot × Value => p.1) kvs ↔ _
    rw [h1]; rfl
  unfold left0
  rw [h s]
  by_cases hq : s ∈ v.map (·.dot.site)
  · rw [if_pos (hm.2 hq), if_pos hq]; simp
  · rw [if_neg (fun x => hq (hm.1 x)), if_neg hq]; simp
theorem init_sites {v : List Op'} (h : ∀ o ∈ v, (1 ≤ o.dot.site ∧ o.dot.site ≤ 16) ∧ 1 ≤ o.dot.seq ∧ o.dot.seq ≤ 2147483647) : SitesOK (left0 v) := fun s hs => by
  unfold left0 at hs ⊢
  split at hs
  · rename_i hm
    obtain ⟨o, ho, rfl⟩ := List.mem_map.1 hm
    have := h o ho
    rw [if_pos hm]; omega
  · omega
theorem sitesF_len (lf : Int → Int) : (sitesF lf).length ≤ 17 := by
  unfold sitesF
  have := List.length_filter_le (fun s => decide (1 ≤ lf s)) ((List.range 17).map Int.ofNat)
  rw [List.length_map, List.length_range] at this; exact this
theorem left_len {left : List (Int × Int)} {lf : Int → Int} (h : LeftOK left lf) (hs : SitesOK lf) (hn : (left.map (·.1)).Nodup) : left.length ≤ 17 := by
  have h1 := sites_sorted h hs hn (List.Perm.refl _)
  have h2 : ((left.map (·.1)).mergeSort (fun x y => decide (x ≤ y))).length = left.length := by simp
  rw [h1] at h2
  have := sitesF_len lf; omega
theorem done_len {left : List (Int × Int)} {lf : Int → Int} {done rs : List (Int × Value)} (h : LeftOK left lf) (hs : SitesOK lf) (hn : (left.map (·.1)).Nodup) (hp : (encM encN left).Perm (done ++ rs)) : done.length ≤ 17 := by
  have h1 := hp.length_eq
  rw [encM_length, List.length_append] at h1
  have := left_len h hs hn; omega
theorem sites_done {left : List (Int × Int)} {done : List (Int × Value)} {ss : List Int} (h : (encM encN left).Perm (done ++ []) ∧ ss = done.map (·.1)) : ss.Perm (left.map (·.1)) := by
  obtain ⟨h1, rfl⟩ := h
  rw [List.append_nil] at h1
  have := (h1.map (·.1)).symm
  rwa [encM_keys] at this
theorem sites_ne {left : List (Int × Int)} {ss : List Int} (h : ss.Perm (left.map (·.1))) (hl : (0 : Int) < ((encM encN left).length : Nat)) : ss ≠ [] := fun e => by
  have := h.length_eq
  rw [e, List.length_map] at this
  rw [encM_length] at hl
  simp at this; omega
theorem sitesF_nil {left : List (Int × Int)} {lf : Int → Int} (h : LeftOK left lf) (hs : SitesOK lf) (hl : ¬ (0 : Int) < ((encM encN left).length : Nat)) : sitesF lf = [] := by
  rw [encM_length] at hl
  have : left = [] := List.eq_nil_of_length_eq_zero (by omega)
  subst this
  refine List.eq_nil_iff_forall_not_mem.2 fun s hm => ?_
  have := h.mem.2 ((mem_sitesF hs).1 hm)
  simp at this
theorem row_end {S : List Op' → Own → Prop} {xs p : List Op'} {v : List Op'} {n : Nat} {lf : Int → Int} {gone : List Dot} {oc : Own} (h : xs = p ++ rowF v n lf gone) (he : firstF v gone lf (sitesF lf) = none) (hS : S p oc) : S xs oc := by
  rw [rowF_none he, List.append_nil] at h
  rw [h]; exact hS
theorem none_of {α : Type} {o : Option α} (h : o.isSome = false) : o = none := by cases o with | none => rfl | some d => cases h
theorem hm_nil {M : Mem} : MLe (Hm M []) M := fun k ob h => by
  rcases h with h | h
  · exact h
  · simp at h
theorem mem_rowF {l : List Op'} : ∀ (n : Nat) (lf : Int → Int) (gone : List Dot), ∀ x ∈ rowF l n lf gone, getL l x.dot = some x := by
  intro n
  induction n with
  | zero => intro lf gone x hx; cases hx
  | succ n ih =>
    intro lf gone x hx
    rw [rowF] at hx
    cases hf : firstF l gone lf (sitesF lf) with
    | none => rw [hf] at hx; cases hx
    | some d =>
      rw [hf] at hx
      cases hg : getL l d with
      | none => simp only [hg] at hx; cases hx
      | some o =>
        simp only [hg] at hx
        rcases List.mem_cons.1 hx with rfl | hx
        · rw [(getL_mem hg).2]; exact hg
        · exact ih _ _ x hx
theorem row_val {M : Mem} {kvs : List (Dot × Value)} {v p q : List Op'} {x : Op'} (ko : HOps M kvs v) (hx : rowL v = p ++ x :: q) : ∃ D G, (lookK kvs x.dot).getD undef = .agg (encOp x D G).toArray ∧ Sl M 2 RDot D x.deps ∧ Sl M 3 RRun G x.gone ∧ wfOp x ∧ x ∈ v := by
  have hg : getL v x.dot = some x := mem_rowF _ _ _ x (by show x ∈ rowL v; rw [hx]; simp)
  rcases ko.look x.dot with ⟨-, h⟩ | ⟨o, D, G, h1, h2, -, h3, h4, h5, h6⟩
  · rw [h] at hg; cases hg
  · rw [hg] at h1; cases h1
    exact ⟨D, G, by rw [h3]; rfl, h4, h5, h6, h2⟩
theorem closed_ok {v : List Op'} (h : closedE v = 0) : ∀ o ∈ v, opOK o := by
  unfold closedE at h
  split at h
  · cases h
  · rename_i h1
    have h2 := Classical.not_not.1 h1
    intro o ho
    have := h2 o ho
    unfold chkOp at this
    split at this
    · assumption
    · cases this
theorem closed_dots {v : List Op'} (h : closedE v = 0) : ∀ o ∈ v, (1 ≤ o.dot.site ∧ o.dot.site ≤ 16) ∧ 1 ≤ o.dot.seq ∧ o.dot.seq ≤ 2147483647 := fun o ho => by
  obtain ⟨-, h1, h2, h3, h4, -⟩ := closed_ok h o ho
  exact ⟨⟨h1, h2⟩, h3, h4⟩
/-! ### Members -/
def rollStep (s : Nat × Nat) (o : Op') : Nat × Nat := if o.kind = 3 then (addBit s.1 o.site, s.2) else if o.kind = 4 then (s.1, addBit s.2 o.dot.site) else s
def rollOf (l : List Op') : Nat × Nat := l.foldl rollStep (0, 0)
def membersL (v : List Op') : List Int := bitsOf (andNot (rollOf (rowL v)).1 (rollOf (rowL v)).2)
theorem rollOf_snoc (p : List Op') (x : Op') : rollOf (p ++ [x]) = rollStep (rollOf p) x := by simp [rollOf]
end Go.W
/- The tree in memory. -/
namespace Go.W
open Go

theorem Chg.perm0 {w0 : World} {o0 o0' o : Own} {w : World} (h : Chg w0 o0 o w) (p : o0.Perm o0') : Chg w0 o0' o w :=
  ⟨h.os, h.tape, h.out, h.size, fun k hk hn => h.frame k hk fun b hb => hn b (p.mem_iff.1 hb), h.own, fun b hb => by
    rcases h.new b hb with ⟨c, hc, e⟩ | hn
    · exact .inl ⟨c, p.mem_iff.1 hc, e⟩
    · exact .inr hn, h.nd⟩
theorem FnC.perm {P : Program} {f : FuncId} {args : List Value} {w : World} {o o' : Own} {R : Value → Own → Prop} (h : FnC P f args w o' R) (p : o.Perm o') : FnC P f args w o R := fun a b =>
  (h (fun x hx => a x (p.mem_iff.2 hx)) ((p.map _).nodup_iff.1 b)).mono fun e w' ⟨v, o'', e1, e2, e3⟩ => ⟨v, o'', e1, e2, e3.perm0 p.symm⟩
theorem RO.perm {M : Mem} {o o' : Own} {w : World} (h : RO M o w) (p : o.Perm o') : RO M o' w := ⟨h.get, fun k ob m b hb => h.not k ob m b (p.mem_iff.2 hb)⟩

structure Nd where
  id : ID
  ref : ID
  rune : Int
  state : Int
@[reducible] def encNd (n : Nd) : List Value := [.int .i64 n.id.time, .int .i64 n.id.site, .int .i64 n.ref.time, .int .i64 n.ref.site, .int .i32 n.rune, .int .i64 n.state]
def z0 : ID := ⟨0, 0⟩
/-! ### The order of identifiers -/
/-- What orders those that stand behind one: the higher ones first. -/
def above (a b : ID) : Prop := cmpID b a < 0
theorem cmpI_lt {a b : Int} : cmpI a b < 0 ↔ a < b := by unfold cmpI; split <;> (try split) <;> omega
theorem cmpI_eq {a b : Int} : cmpI a b = 0 ↔ a = b := by unfold cmpI; split <;> (try split) <;> omega
theorem cmpID_lt {a b : ID} : cmpID a b < 0 ↔ a.time < b.time ∨ (a.time = b.time ∧ a.site < b.site) := by
  unfold cmpID
  by_cases h : cmpI a.time b.time = 0
  · rw [if_neg (by simp [h]), cmpI_lt]
    have := cmpI_eq.1 h; omega
  · rw [if_pos h, cmpI_lt]
    have : a.time ≠ b.time := fun e => h (cmpI_eq.2 e)
    omega
theorem cmpID_trans {a b c : ID} (h1 : cmpID a b < 0) (h2 : cmpID b c < 0) : cmpID a c < 0 := by rw [cmpID_lt] at *; omega
theorem cmpID_irr {a : ID} : ¬ cmpID a a < 0 := by rw [cmpID_lt]; omega
/-- Where an element goes among those that stand behind one. -/
def posOf (x : ID) (ks : List ID) : Nat := (ks.filter fun k => decide (cmpID x k < 0)).length
theorem posOf_at {x : ID} {ks : List ID} {i : Nat} (hi : i ≤ ks.length) (h1 : ∀ j k, j < i → ks[j]? = some k → cmpID x k < 0) (h2 : ∀ j k, i ≤ j → ks[j]? = some k → ¬ cmpID x k < 0) : posOf x ks = i := by
  unfold posOf
  have e : ks = ks.take i ++ ks.drop i := (List.take_append_drop i ks).symm
  rw [e, List.filter_append, List.length_append]
  have e1 : (ks.take i).filter (fun k => decide (cmpID x k < 0)) = ks.take i := by
    rw [List.filter_eq_self]
    intro k hk
    obtain ⟨j, hj⟩ := List.getElem?_of_mem hk
    rw [List.getElem?_take] at hj
    split at hj
    · rename_i hlt; simpa using h1 j k hlt hj
    · cases hj
  have e2 : (ks.drop i).filter (fun k => decide (cmpID x k < 0)) = [] := by
    rw [List.filter_eq_nil_iff]
    intro k hk
    obtain ⟨j, hj⟩ := List.getElem?_of_mem hk
    rw [List.getElem?_drop] at hj
    simpa using h2 (i + j) k (by omega) hj
  rw [e1, e2, List.length_take, List.length_nil]; omega
theorem bs_left {x : ID} {ks : List ID} {h : Nat} {y : ID} (hs : ks.Pairwise above) (hy : ks[h]? = some y) (hc : cmpID x y < 0) : ∀ j k, j < h + 1 → ks[j]? = some k → cmpID x k < 0 := fun j k hj hk => by
  by_cases e : j = h
  · subst e; rw [hy] at hk; cases hk; exact hc
  · have h1 := (List.getElem?_eq_some_iff.1 hk); have h2 := (List.getElem?_eq_some_iff.1 hy)
    obtain ⟨l1, e1⟩ := h1; obtain ⟨l2, e2⟩ := h2
    have := List.pairwise_iff_getElem.1 hs j h l1 l2 (by omega)
    rw [e1, e2] at this
    exact cmpID_trans hc this
theorem bs_right {x : ID} {ks : List ID} {h : Nat} {y : ID} (hs : ks.Pairwise above) (hy : ks[h]? = some y) (hc : ¬ cmpID x y < 0) : ∀ j k, h ≤ j → ks[j]? = some k → ¬ cmpID x k < 0 := fun j k hj hk hn => by
  by_cases e : j = h
  · subst e; rw [hy] at hk; cases hk; exact hc hn
  · have h1 := (List.getElem?_eq_some_iff.1 hk); have h2 := (List.getElem?_eq_some_iff.1 hy)
    obtain ⟨l1, e1⟩ := h1; obtain ⟨l2, e2⟩ := h2
    have := List.pairwise_iff_getElem.1 hs h j l2 l1 (by omega)
    rw [e1, e2] at this
    exact hc (cmpID_trans hn this)
def insK (x : ID) (ks : List ID) : List ID := ks.take (posOf x ks) ++ [x] ++ ks.drop (posOf x ks)
theorem mem_insK {x k : ID} {ks : List ID} : k ∈ insK x ks ↔ k = x ∨ k ∈ ks := by
  unfold insK
  have h : k ∈ ks ↔ k ∈ ks.take (posOf x ks) ∨ k ∈ ks.drop (posOf x ks) := by rw [← List.mem_append, List.take_append_drop]
  rw [h]
  simp only [List.mem_append, List.mem_singleton]
  constructor
  · rintro ((a | a) | a)
    · exact .inr (.inl a)
    · exact .inl a
    · exact .inr (.inr a)
  · rintro (a | a | a)
    · exact .inl (.inr a)
    · exact .inl (.inl a)
    · exact .inr a
theorem cmpID_total {a b : ID} (h : a ≠ b) : cmpID a b < 0 ∨ cmpID b a < 0 := by
  rw [cmpID_lt, cmpID_lt]
  obtain ⟨t, s⟩ := a; obtain ⟨u, v⟩ := b
  simp only [ne_eq, ID.mk.injEq] at h
  simp only
  omega
/-- Sorted: those above x come first. -/
theorem pos_split {x : ID} {ks : List ID} (hs : ks.Pairwise above) : (∀ k ∈ ks.take (posOf x ks), cmpID x k < 0) ∧ ∀ k ∈ ks.drop (posOf x ks), ¬ cmpID x k < 0 := by
  induction ks with
  | nil => simp
  | cons a r ih =>
    rw [List.pairwise_cons] at hs
    obtain ⟨h1, h2⟩ := ih hs.2
    by_cases hc : cmpID x a < 0
    · have e : posOf x (a :: r) = posOf x r + 1 := by simp [posOf, hc]
      rw [e, List.take_succ_cons, List.drop_succ_cons]
      refine ⟨fun k hk => ?_, h2⟩
      rcases List.mem_cons.1 hk with rfl | hk
      · exact hc
      · exact h1 k hk
    · have hall : ∀ k ∈ r, ¬ cmpID x k < 0 := fun k hk hn => hc (cmpID_trans hn (hs.1 k hk))
      have e : posOf x (a :: r) = 0 := by
        unfold posOf
        rw [List.length_eq_zero_iff, List.filter_eq_nil_iff]
        intro k hk
        rcases List.mem_cons.1 hk with rfl | hk
        · simpa using hc
        · simpa using hall k hk
      rw [e]
      refine ⟨by simp, fun k hk => ?_⟩
      rcases List.mem_cons.1 (by simpa using hk) with rfl | hk
      · exact hc
      · exact hall k hk
theorem insK_sorted {x : ID} {ks : List ID} (hs : ks.Pairwise above) (hx : x ∉ ks) : (insK x ks).Pairwise above := by
  obtain ⟨h1, h2⟩ := pos_split (x := x) hs
  have h3 : (ks.take (posOf x ks) ++ ks.drop (posOf x ks)).Pairwise above := by rw [List.take_append_drop]; exact hs
  rw [List.pairwise_append] at h3
  unfold insK
  rw [List.pairwise_append, List.pairwise_append]
  refine ⟨⟨h3.1, by simp, fun a ha b hb => ?_⟩, h3.2.1, fun a ha b hb => ?_⟩
  · simp at hb; subst hb; exact h1 a ha
  · rcases List.mem_append.1 ha with ha | ha
    · exact h3.2.2 a ha b hb
    · simp at ha; subst ha
      have hne : a ≠ b := fun e => hx (e ▸ List.mem_of_mem_drop hb)
      rcases cmpID_total hne with h | h
      · exact absurd h (h2 b hb)
      · exact h
theorem posOf_le (x : ID) (ks : List ID) : posOf x ks ≤ ks.length := List.length_filter_le _ _


/-- What stands behind r, the higher ones first. -/
def kidsOf (l : List Nd) (r : ID) : List ID := l.foldl (fun ks n => if r = n.ref then insK n.id ks else ks) []
theorem kidsOf_snoc (l : List Nd) (n : Nd) (r : ID) : kidsOf (l ++ [n]) r = if r = n.ref then insK n.id (kidsOf l r) else kidsOf l r := by simp [kidsOf]
theorem kids_fold_mem {r k : ID} : ∀ (l : List Nd) (ks : List ID), k ∈ l.foldl (fun ks n => if r = n.ref then insK n.id ks else ks) ks ↔ k ∈ ks ∨ ∃ n ∈ l, n.id = k ∧ n.ref = r := by
  intro l
  induction l with
  | nil => intro ks; simp
  | cons n l ih =>
    intro ks
    rw [List.foldl_cons, ih]
    by_cases h : r = n.ref
    · rw [if_pos h, mem_insK]
      constructor
      · rintro ((rfl | h1) | ⟨m, hm, h2⟩)
        · exact .inr ⟨n, by simp, rfl, h.symm⟩
        · exact .inl h1
        · exact .inr ⟨m, by simp [hm], h2⟩
      · rintro (h1 | ⟨m, hm, h2, h3⟩)
        · exact .inl (.inr h1)
        · rcases List.mem_cons.1 hm with rfl | hm
          · exact .inl (.inl h2.symm)
          · exact .inr ⟨m, hm, h2, h3⟩
    · rw [if_neg h]
      constructor
      · rintro (h1 | ⟨m, hm, h2⟩)
        · exact .inl h1
        · exact .inr ⟨m, by simp [hm], h2⟩
      · rintro (h1 | ⟨m, hm, h2, h3⟩)
        · exact .inl h1
        · rcases List.mem_cons.1 hm with rfl | hm
          · exact absurd h3.symm h
          · exact .inr ⟨m, hm, h2, h3⟩
theorem mem_kidsOf {l : List Nd} {r k : ID} : k ∈ kidsOf l r ↔ ∃ n ∈ l, n.id = k ∧ n.ref = r := by
  unfold kidsOf; rw [kids_fold_mem]; simp
theorem kids_fold_sorted {r : ID} : ∀ (l : List Nd) (ks : List ID), ks.Pairwise above → (l.map (·.id)).Nodup → (∀ n ∈ l, n.id ∉ ks) → (l.foldl (fun ks n => if r = n.ref then insK n.id ks else ks) ks).Pairwise above := by
  intro l
  induction l with
  | nil => intro ks h _ _; exact h
  | cons n l ih =>
    intro ks h hn hd
    rw [List.foldl_cons]
    rw [List.map_cons, List.nodup_cons] at hn
    by_cases e : r = n.ref
    · rw [if_pos e]
      refine ih _ (insK_sorted h (hd n (by simp))) hn.2 fun m hm hk => ?_
      rcases mem_insK.1 hk with e2 | e2
      · exact hn.1 (e2 ▸ List.mem_map_of_mem hm)
      · exact hd m (by simp [hm]) e2
    · rw [if_neg e]; exact ih _ h hn.2 fun m hm => hd m (by simp [hm])
theorem kidsOf_sorted {l : List Nd} {r : ID} (h : (l.map (·.id)).Nodup) : (kidsOf l r).Pairwise above := kids_fold_sorted l [] (by simp) h (by simp)
theorem above_nodup {ks : List ID} (h : ks.Pairwise above) : ks.Nodup := h.imp fun {a b} h e => by subst e; exact cmpID_irr h
theorem eq_of_above {l r : List ID} (hl : l.Pairwise above) (hr : r.Pairwise above) (h : ∀ x, x ∈ l ↔ x ∈ r) : l = r := by
  induction l generalizing r with
  | nil =>
    cases r with
    | nil => rfl
    | cons b r => exact absurd ((h b).2 (by simp)) (by simp)
  | cons a l ih =>
    cases r with
    | nil => exact absurd ((h a).1 (by simp)) (by simp)
    | cons b r =>
      rw [List.pairwise_cons] at hl hr
      have hab : a = b := by
        rcases List.mem_cons.1 ((h a).1 (by simp)) with e | e
        · exact e
        · rcases List.mem_cons.1 ((h b).2 (by simp)) with e2 | e2
          · exact e2.symm
          · exact absurd (cmpID_trans (hl.1 _ e2) (hr.1 _ e)) cmpID_irr
      subst hab
      rw [ih hl.2 hr.2 fun x => ?_]
      constructor
      · intro hx
        have h1 := hl.1 _ hx
        rcases List.mem_cons.1 ((h x).1 (by simp [hx])) with e | e
        · subst e; exact absurd h1 cmpID_irr
        · exact e
      · intro hx
        have h1 := hr.1 _ hx
        rcases List.mem_cons.1 ((h x).2 (by simp [hx])) with e | e
        · subst e; exact absurd h1 cmpID_irr
        · exact e

def mayID (x : ID) : Prop := 1 ≤ x.time ∧ x.time ≤ 2147483647 ∧ 1 ≤ x.site ∧ x.site ≤ 16
instance (x : ID) : Decidable (mayID x) := by unfold mayID; infer_instance
/-- The tree's parts: its block; its map's block; its elements, in the map's order; where each lies; what stands behind each one (z0: behind the beginning), as a value and in blocks. kids: what stands behind each one. -/
structure TD where
  T : Nat
  byv : Option (Nat × Obj)
  nds : List Nd
  ad : ID → Nat
  vs : ID → Value
  os : ID → Own
def TD.ids (d : TD) : List ID := d.nds.map (·.id)
def TD.kids (d : TD) (r : ID) : List ID := kidsOf d.nds r
def TD.el (d : TD) (n : Nd) : Own := [(d.ad n.id, .cells (encNd n ++ [d.vs n.id]).toArray 163 (0, 0))]
def TD.top (d : TD) : Own := [(d.T, .cells [d.vs z0, .map (d.byv.map (·.1))].toArray 187 (0, 0))]
def TD.lay (d : TD) : Own := d.top ++ (d.byv.toList ++ (d.os z0 ++ d.nds.flatMap fun n => d.el n ++ d.os n.id))
abbrev encI (x : ID) : Value := .agg #[.int .i64 x.time, .int .i64 x.site]
structure TD.Ok (d : TD) : Prop where
  nodup : d.ids.Nodup
  nz : z0 ∉ d.ids
  map : match d.byv with | none => d.nds = [] | some m => Mp encI m.2 (d.nds.map fun n => (n.id, pt (d.ad n.id) 0))
  sl : ∀ r, r = z0 ∨ r ∈ d.ids → OS (d.os r) 160 1 (d.vs r) ((d.kids r).map fun k => pt (d.ad k) 0)
  up : ∀ n ∈ d.nds, n.ref = z0 ∨ n.ref ∈ d.ids
  low : ∀ n ∈ d.nds, cmpID n.ref n.id < 0
  few : d.nds.length ≤ 100000000
  rng : ∀ n ∈ d.nds, mayID n.id
theorem TD.Ok.kid {d : TD} (_h : d.Ok) (r k : ID) : k ∈ d.kids r ↔ ∃ n ∈ d.nds, n.id = k ∧ n.ref = r := mem_kidsOf
theorem TD.Ok.srt {d : TD} (h : d.Ok) (r : ID) : (d.kids r).Pairwise above := kidsOf_sorted h.nodup

theorem TD.look (d : TD) (x : ID) : lookK (d.nds.map fun n => (n.id, pt (d.ad n.id) 0)) x = if x ∈ d.ids then some (pt (d.ad x) 0) else none := by
  unfold TD.ids
  generalize d.nds = l
  induction l with
  | nil => rfl
  | cons n r ih =>
    simp only [List.map_cons, lookK, List.mem_cons]
    by_cases e : n.id = x
    · subst e; simp
    · rw [if_neg e, ih]
      have e' : ¬ x = n.id := fun q => e q.symm
      by_cases h : x ∈ r.map (·.id)
      · simp [h]
      · simp [h, e']
/-- The tree can be read in M. -/
def TD.In (d : TD) (M : Mem) : Prop := ∀ b ∈ d.lay, M b.1 b.2
theorem TD.In.mono {d : TD} {M M' : Mem} (h : d.In M) (hM : MLe M M') : d.In M' := fun b hb => hM _ _ (h b hb)
theorem TD.In.im {d : TD} : d.In (Im d.lay) := fun b hb => hb
theorem TD.In.t {d : TD} {M : Mem} (h : d.In M) : CellsAt M ⟨d.T, 0, none⟩ [d.vs z0, .map (d.byv.map (·.1))] :=
  ⟨rfl, _, _, _, h (d.T, .cells [d.vs z0, .map (d.byv.map (·.1))].toArray 187 (0, 0)) (by simp [TD.lay, TD.top]), fun i v hv => by simpa using hv⟩
theorem TD.In.e {d : TD} {M : Mem} (h : d.In M) {n : Nd} (hn : n ∈ d.nds) : CellsAt M ⟨d.ad n.id, 0, none⟩ (encNd n ++ [d.vs n.id]) :=
  ⟨rfl, _, _, _, h (d.ad n.id, .cells (encNd n ++ [d.vs n.id]).toArray 163 (0, 0)) (by
    unfold TD.lay
    refine List.mem_append_right _ (List.mem_append_right _ (List.mem_append_right _ (List.mem_flatMap.2 ⟨n, hn, ?_⟩)))
    simp [TD.el]), fun i v hv => by simpa using hv⟩
theorem TD.In.m {d : TD} {M : Mem} (h : d.In M) {m : Nat × Obj} (hm : d.byv = some m) : M m.1 m.2 := h m (by
  unfold TD.lay
  refine List.mem_append_right _ (List.mem_append_left _ ?_)
  simp [hm])
theorem TD.In.o {d : TD} {M : Mem} (h : d.In M) {r : ID} (hr : r = z0 ∨ r ∈ d.ids) : MLe (Im (d.os r)) M := fun k ob hk => h (k, ob) (by
  unfold TD.lay
  rcases hr with rfl | hr
  · exact List.mem_append_right _ (List.mem_append_right _ (List.mem_append_left _ hk))
  · obtain ⟨n, hn, rfl⟩ := List.mem_map.1 hr
    exact List.mem_append_right _ (List.mem_append_right _ (List.mem_append_right _ (List.mem_flatMap.2 ⟨n, hn, List.mem_append_right _ hk⟩))))
/-- Elements of a slice of pointers. -/
def RPt (ad : ID → Nat) (_ : Mem) (vs : List Value) (k : ID) : Prop := vs = [pt (ad k) 0]
theorem mPt {ad : ID → Nat} : Mono (RPt ad) := fun _ _ _ _ _ h => h
theorem TD.Ok.sl' {d : TD} (h : d.Ok) {r : ID} (hr : r = z0 ∨ r ∈ d.ids) (hl : (d.kids r).length ≤ 100000000) : Sl (Im (d.os r)) 1 (RPt d.ad) (d.vs r) (d.kids r) := by
  have h1 := h.sl r hr
  have h2 : (d.kids r).map (fun k => pt (d.ad k) 0) = (d.kids r).flatMap fun k => [pt (d.ad k) 0] := by
    induction d.kids r with
    | nil => rfl
    | cons a l ih => rw [List.map_cons, List.flatMap_cons, ih]; rfl
  rw [h2] at h1
  exact h1.sl (by decide) (fun _ => rfl) (by omega) fun x hx => rfl

def hitB (x : ID) (ks : List ID) : Bool := match ks[posOf x ks]? with | some k => cmpID x k == 0 | none => false
theorem bs_yes {x y : ID} {ks : List ID} {i : Int} (hp : posOf x ks = i.toNat) (h0 : 0 ≤ i) (e : ks[i.toNat]? = some y) : Value.tuple #[.int .i64 i, .bool (cmpID x y == 0)] = .tuple #[.int .i64 (posOf x ks : Int), .bool (hitB x ks)] := by
  unfold hitB; rw [hp, e, show ((i.toNat : Nat) : Int) = i by omega]
theorem bs_no {x : ID} {ks : List ID} {i : Int} (hp : posOf x ks = i.toNat) (h0 : 0 ≤ i) (e : ¬ i < (ks.length : Int)) : Value.tuple #[.int .i64 i, .bool false] = .tuple #[.int .i64 (posOf x ks : Int), .bool (hitB x ks)] := by
  unfold hitB; rw [hp, List.getElem?_eq_none (by omega), show ((i.toNat : Nat) : Int) = i by omega]
theorem v_u64 {n : Int} (h : 0 ≤ n ∧ n ≤ 9223372036854775807) : Value.int .u64 (IntKind.u64.wrap n) = .int .u64 n := by rw [IntWalk.u64_in _ (by omega)]
theorem v_half {n : Int} (h : 0 ≤ n) : Value.int .u64 (Int.fdiv n (2 ^ (min (1 : Int).toNat IntKind.u64.bits))) = .int .u64 (n / 2) := by
  rw [show min (1 : Int).toNat IntKind.u64.bits = 1 from rfl, Int.fdiv_eq_ediv_of_nonneg _ (by decide)]; rfl
theorem v_back {n : Int} (h : 0 ≤ n ∧ n ≤ 9223372036854775807) : Value.int .i64 (IntKind.i64.wrap n) = .int .i64 n := by rw [IntWalk.i64_in _ (by omega)]
/-- The elements can be read. -/
def Els (M : Mem) (ad : ID → Nat) (ks : List ID) : Prop := ∀ k ∈ ks, ∃ n W, n.id = k ∧ CellsAt M ⟨ad k, 0, none⟩ (encNd n ++ [W])
theorem Els.mono {M M' : Mem} {ad : ID → Nat} {ks : List ID} (h : Els M ad ks) (hM : MLe M M') : Els M' ad ks := fun k hk => by
  obtain ⟨n, W, e, hc⟩ := h k hk; exact ⟨n, W, e, hc.mono hM⟩
end Go.W
/- Slices of one's own: cap, parts, copy, room. No program is named here. -/
namespace Go.W
open Go

section
variable {c : Cx} {D : List Deferred} {ops : Array Oper} {K : Act → World → Prop} {rest : List Oper} {l : Env} {h : List Own}
  {ty : TypeId} {pos : String} {af : Array Edge} {g : Option (Nat × Bool)} {dst : Option Tmp} {d : Nat}
theorem cp_ {x : Operand} {A : Option Addr} {n m : Nat} {t e' : TypeId} (hu : c.P.underlying t = some (.slice e')) (hx : ev l x = some (.slice A n m)) : OpV c ⟨dst, .call { callee := .builtin .cap, args := #[x], argTypes := #[t] }, ty, pos, af, g⟩ l h (.int .i64 m) :=
  .of0 (fun _ => by simp) fun a w e _ => by
    simp [execOp, resolve, invoke, builtin, ev_eq e (by simp [Op.operands, Call.operands]) hx, Builtin.cap_, goInt, run_und hu]
/-- s[i:] -/
theorem slL {x i : Operand} {t e' : TypeId} {sz bb : Nat} {gg : Bool} {z : List Value} {k o n cp j : Nat} {ik : IntKind} (hu : c.P.underlying t = some (.slice e')) (ht : Ty c.P e' sz gg z bb) (hx : ev l x = some (.slice (some ⟨k, o, none⟩) n cp)) (hi : ev l i = some (.int ik (j : Int))) (hj : j ≤ n) (hn : cp ≠ j) :
    OpV c ⟨dst, .slice t x (some i) none none, ty, pos, af, g⟩ l h (.slice (some ⟨k, o + j * sz, none⟩) (n - j) (cp - j)) :=
  .of0 (fun _ => by simp) fun a w e _ => by
    simp [execOp, ev_eq e (x := x) (by simp [Op.operands]) hx, ev_eq e (x := i) (by simp [Op.operands]) hi, Instr.sliceAt, Instr.slice, run_und hu, Instr.sliceBounds, Instr.sliceBound, asIntOf, hj, ht.size, hn, add_mk]
theorem slAny {x i : Operand} {t e' : TypeId} {sz bb : Nat} {gg : Bool} {z : List Value} {A : Option Addr} {n cp j : Nat} {ik : IntKind} (hu : c.P.underlying t = some (.slice e')) (ht : Ty c.P e' sz gg z bb) (hx : ev l x = some (.slice A n cp)) (hi : ev l i = some (.int ik (j : Int))) (hj : j ≤ n) :
    OpV c ⟨dst, .slice t x (some i) none none, ty, pos, af, g⟩ l h (.slice (if cp = j then A else A.map (·.add (j * sz))) (n - j) (cp - j)) :=
  .of0 (fun _ => by simp) fun a w e _ => by
    simp [execOp, ev_eq e (x := x) (by simp [Op.operands]) hx, ev_eq e (x := i) (by simp [Op.operands]) hi, Instr.sliceAt, Instr.slice, run_und hu, Instr.sliceBounds, Instr.sliceBound, asIntOf, hj, ht.size]
/-- s[:i] -/
theorem slH {x i : Operand} {t e' : TypeId} {sz bb : Nat} {gg : Bool} {z : List Value} {k o n cp j : Nat} {ik : IntKind} (hu : c.P.underlying t = some (.slice e')) (ht : Ty c.P e' sz gg z bb) (hx : ev l x = some (.slice (some ⟨k, o, none⟩) n cp)) (hi : ev l i = some (.int ik (j : Int))) (hj : j ≤ cp) :
    OpV c ⟨dst, .slice t x none (some i) none, ty, pos, af, g⟩ l h (.slice (some ⟨k, o, none⟩) j cp) :=
  .of0 (fun _ => by simp) fun a w e _ => by
    have e0 : (⟨k, o, none⟩ : Addr).add 0 = ⟨k, o, none⟩ := by rw [add_mk]; rfl
    by_cases hc : cp = 0
    · have hj0 : j = 0 := by omega
      subst hj0
      simp [execOp, ev_eq e (x := x) (by simp [Op.operands]) hx, ev_eq e (x := i) (by simp [Op.operands]) hi, Instr.sliceAt, Instr.slice, run_und hu, Instr.sliceBounds, Instr.sliceBound, asIntOf, hj, ht.size, hc]
    · simp [execOp, ev_eq e (x := x) (by simp [Op.operands]) hx, ev_eq e (x := i) (by simp [Op.operands]) hi, Instr.sliceAt, Instr.slice, run_und hu, Instr.sliceBounds, Instr.sliceBound, asIntOf, hj, ht.size, hc, e0]
/-- copy into an own block, which stands at the front. -/
theorem cpy {x y : Operand} {t t2 e' : TypeId} {sz bb : Nat} {gg : Bool} {z : List Value} {k o dn dc m cp mn : Nat} {B : Option Addr} {ys cs cs' : List Value} {e2 : TypeId} {hs : List Own} (hu : c.P.underlying t = some (.slice e')) (ht : Ty c.P e' sz gg z bb)
    (hx : ev l x = some (.slice (some ⟨k, o, none⟩) dn dc)) (hy : ev l y = some (.slice B m cp)) (hmn : min m dn = mn) (hS : Src (Hm c.M ([(k, .cells cs.toArray e2 (0, 0))] :: hs)) sz (.slice B mn cp) mn ys) (hl : o + ys.length ≤ cs.length) (hf : ys.all flat = true) (hc : setL cs o ys = cs') (hd : Nat.blt d c.N = true)
    (kk : GL c D ops K rest ((d, .int .i64 ((mn : Nat) : Int)) :: l) ([(k, .cells cs'.toArray e2 (0, 0))] :: hs)) :
    GL c D ops K (⟨some d, .call { callee := .builtin .copy, args := #[x, y], argTypes := #[t, t2] }, ty, pos, af, none⟩ :: rest) l ([(k, .cells cs.toArray e2 (0, 0))] :: hs) := by
  subst hmn
  intro a w e s
  simp only [wpL, wanted_none, if_true]
  have hM := (HS.nil_app s).le
  have h1 := ev_eq (e.on _) (x := x) (xs := (Op.call { callee := .builtin .copy, args := #[x, y], argTypes := #[t, t2] }).operands) (by simp [Op.operands, Call.operands]) hx
  have h2 := ev_eq (e.on _) (x := y) (xs := (Op.call { callee := .builtin .copy, args := #[x, y], argTypes := #[t, t2] }).operands) (by simp [Op.operands, Call.operands]) hy
  obtain ⟨w', r, a1, a2, a3, a4, a5, a6⟩ := run_storeCells (P := c.P) ys w o 0 cs (s.chg.own (k, .cells cs.toArray e2 (0, 0)) (by simp)) (by omega) (flat_all hf)
  have h3 := run_firstCells (P := c.P) hM hS
  have h4 : (Builtin.firstCells sz (min m dn) (.slice B m cp)).run c.P w = .ok ys.toArray w := by
    cases B <;> exact h3
  have hrun : (execOp a.eval ⟨some d, .call { callee := .builtin .copy, args := #[x, y], argTypes := #[t, t2] }, ty, pos, af, none⟩).run c.P w = .ok (.value (.int .i64 ((min m dn : Nat) : Int))) w' := by
    have h5 : Nat.min m dn = min m dn := rfl
    simp [execOp, resolve, invoke, builtin, h1, h2, Builtin.copy_, run_und hu, Builtin.lenOf, ht.size, h4, h5, r, goInt]
  subst hc
  exact opW.of (by simp) hrun (fun _ _ q => by cases q) (kk _ _ (e.put hd _) (s.set a1 a2 a3 a4 a5 (by simpa using a6)))

theorem run_append_zeros {P : Program} {t t2 e' : TypeId} {k2 : IntKind} {sz b : Nat} {gg : Bool} {z : List Value} {A : Option Addr} {n cap m : Nat} (hu : P.underlying t = some (.slice e')) (h2 : P.underlying t2 = some (.int k2)) (ht : Ty P e' sz gg z b) (hz : (val gg z).cells = z.toArray) (w : World) (ty : TypeId) {xs : List Value}
    (hroom : ¬ n + m ≤ cap) (hb : n + m ≤ 4294967296) (hb2 : Nat.ble b 4096 = true) (hm : 0 < m * sz) (hx : ∀ w', w'.heap = w.heap → (Builtin.firstCells sz n (.slice A n cap)).run P w' = .ok xs.toArray w') :
    ∃ nc dr, n + m ≤ nc ∧ (Builtin.append_ #[t, t2] ty #[.slice A n cap, .int .i64 (m : Int)]).run P w =
      .ok (.slice (some ⟨w.heap.size, 0, none⟩) (n + m) nc) (({ w with drawn := dr } : World).alloc (.cells (xs.toArray ++ Builtin.zeroCells z.toArray m ++ Builtin.zeroCells z.toArray (nc - (n + m))) e')) := by
  have hb2' : b ≤ 4096 := by simpa using hb2
  have hcap := nextslicecap_le (n + m) cap (by omega)
  have h3 : ¬ (((n + m : Nat) : Int) > IntKind.i64.max) := by
    have : IntKind.i64.max = 9223372036854775807 := by decide
    rw [this]; omega
  have h4 : ¬ Builtin.nextslicecap (n + m) cap * b > 2 ^ 48 := by
    have : Builtin.nextslicecap (n + m) cap * b ≤ (2 * 4294967296 + 512) * 4096 := Nat.mul_le_mul (by omega) hb2'
    omega
  let nc := (Question.appendCap (n + m) cap e').cut (w.tape w.drawn (.appendCap (n + m) cap e'))
  refine ⟨nc, w.drawn + 1, Nat.le_add_right _ _, ?_⟩
  unfold Builtin.append_
  obtain ⟨i, hi, hi1, hi2, hi3⟩ := ht.i
  have hwr : IntKind.i64.wrap (m : Int) = (m : Int) := IntWalk.i64_in _ (by omega)
  have hneg : ¬ (m : Int) < 0 := by omega
  have hbig : ¬ (m : Int) * ((b : Nat) : Int) > 2 ^ 48 := by
    have : m * b ≤ 4294967296 * 4096 := Nat.mul_le_mul (by omega) hb2'
    have h5 : ((m * b : Nat) : Int) = (m : Int) * (b : Int) := by simp
    have h6 : ((2 : Int) ^ 48) = 281474976710656 := by decide
    rw [h6]; omega
  have hm0 : ¬ m * sz = 0 := by omega
  have has : (asInt (.int .i64 (m : Int))).run P w = .ok (m : Int) w := rfl
  have hch : (choose (.appendCap (n + m) cap e')).run P w = .ok nc { w with drawn := w.drawn + 1 } := by
    simp [choose, Sem.run, Question.forced, nc]
  have hroom2 : (askRoom (nc * b)).run P { w with drawn := w.drawn + 1 } = .ok () { w with drawn := w.drawn + 1 } := by
    unfold askRoom; split <;> rfl
  simp only [(app_idx _ _).1, (app_idx _ _).2, Sem.run_bind, run_und hu, Result.andThen_ok, ht.size, run_und h2, Sem.run_pure, if_true, has, hwr, hneg, if_false, run_typeInfo' hi, hi3, hbig, Int.toNat_natCast, hroom, h3, false_and, h4, hch, hroom2, hx { w with drawn := w.drawn + 1 } rfl, Bool.not_true, Bool.false_eq_true, hm0, ht.zero, hz, run_newRow]

/-- append(s[:n], zeros): there is no room: a new block. xs: what the first n cells hold. -/
theorem apz {x y : Operand} {t t2 e' : TypeId} {k2 : IntKind} {sz b n cap m : Nat} {gg : Bool} {z : List Value} {A : Option Addr} {xs : List Value} (hu : c.P.underlying t = some (.slice e')) (h2 : c.P.underlying t2 = some (.int k2)) (ht : Ty c.P e' sz gg z b)
    (hz : (val gg z).cells = z.toArray) (hzl : Nat.beq z.length sz = true) (hb : Nat.ble b 4096 = true) (hx : ev l x = some (.slice A n cap)) (hy : ev l y = some (.int .i64 (m : Int))) (hS : Src (Hm c.M h) sz (.slice A n cap) n xs) (hroom : cap < n + m) (hnm : n + m ≤ 4294967296) (hm : 0 < m * sz) (hd : Nat.blt d c.N = true)
    (k : ∀ b' nc (ws : List Value), n + m ≤ nc → ws.length = (nc - n) * sz → GL c D ops K rest ((d, .slice (some ⟨b', 0, none⟩) (n + m) nc) :: l) ([(b', .cells (xs ++ ws).toArray e' (0, 0))] :: h)) :
    GL c D ops K (⟨some d, .call { callee := .builtin .append, args := #[x, y], argTypes := #[t, t2] }, ty, pos, af, none⟩ :: rest) l h := by
  intro a w e s
  simp only [wpL, wanted_none, if_true]
  have hM := (HS.nil_app s).le
  have h1 := ev_eq (e.on _) (x := x) (xs := (Op.call { callee := .builtin .append, args := #[x, y], argTypes := #[t, t2] }).operands) (by simp [Op.operands, Call.operands]) hx
  have h3 := ev_eq (e.on _) (x := y) (xs := (Op.call { callee := .builtin .append, args := #[x, y], argTypes := #[t, t2] }).operands) (by simp [Op.operands, Call.operands]) hy
  obtain ⟨nc, dr, hnc, hr⟩ := run_append_zeros (cap := cap) (A := A) hu h2 ht hz w ty (by omega) hnm hb hm (fun w' hw' => run_firstCells (M := Hm c.M h) (fun q ob hq => by
    show w'.heap[q]? = some ob
    rw [hw']; exact hM q ob hq) hS)
  have hrun : (execOp a.eval ⟨some d, .call { callee := .builtin .append, args := #[x, y], argTypes := #[t, t2] }, ty, pos, af, none⟩).run c.P w = .ok (.value (.slice (some ⟨w.heap.size, 0, none⟩) (n + m) nc)) (({ w with drawn := dr } : World).alloc (.cells (xs.toArray ++ Builtin.zeroCells z.toArray m ++ Builtin.zeroCells z.toArray (nc - (n + m))) e')) := by
    simp [execOp, resolve, invoke, builtin, h1, h3, hr]
  have hsz : z.length = sz := Nat.eq_of_beq_eq_true hzl
  have e1 : xs.toArray ++ Builtin.zeroCells z.toArray m ++ Builtin.zeroCells z.toArray (nc - (n + m)) = (xs ++ ((Builtin.zeroCells z.toArray m).toList ++ (Builtin.zeroCells z.toArray (nc - (n + m))).toList)).toArray := by
    apply Array.ext'; simp
  refine opW.of (by simp) hrun (fun _ _ q => by cases q) (k w.heap.size nc ((Builtin.zeroCells z.toArray m).toList ++ (Builtin.zeroCells z.toArray (nc - (n + m))).toList) hnc ?_ _ _ (e.put hd _) ?_)
  · simp only [List.length_append, Builtin.zeroCells, Array.length_toList, Array.size_map, Array.size_range, List.size_toArray, hsz]
    rw [← Nat.add_mul]; congr 1; omega
  · rw [e1]
    exact (s.drawn dr).alloc _

/-- slices.overlaps of two slices in two blocks. -/
theorem ovl {f : FuncId} {x y : Operand} {t tR e' : TypeId} {sz bb : Nat} {gg : Bool} {z : List Value} {dst : Option Tmp} {g : Option (Nat × Bool)} {tys : Array TypeId} {ka kb oa ob la ca lb cb : Nat} {csA csB : Array Value} {eA eB : TypeId} {fB : Nat × Nat}
    (hrun : ∀ (args : Array Value) (w : World), (callFunc f args).run c.P w = ((Extern.SlicesOverlaps.overlaps #[t, t] #[tR] args).run c.P w).andThen fun v w' => .ok (.value v) w') (hu : c.P.underlying t = some (.slice e')) (ht : Ty c.P e' sz gg z bb)
    (hx : ev l x = some (.slice (some ⟨ka, oa, none⟩) la ca)) (hy : ev l y = some (.slice (some ⟨kb, ob, none⟩) lb cb)) (hne : ka ≠ kb) (hA : Hm c.M h ka (.cells csA eA (0, 0))) (hB : Hm c.M h kb (.cells csB eB fB)) (h0 : csB.size ≠ 0) :
    OpV c ⟨dst, .call { callee := .value (.func f), args := #[x, y], argTypes := tys }, ty, pos, af, g⟩ l h (.bool false) :=
  .of0 (fun _ => by simp) fun a w e ⟨hx', s⟩ => by
    have hA' : w.heap[ka]? = some (.cells csA eA (0, 0)) := s.le _ _ hA
    have hB' : w.heap[kb]? = some (.cells csB eB fB) := s.le _ _ hB
    have h1 := Lib.run_overlaps_apart (P := c.P) w t tR e' hu sz (fun w => ht.size w) ⟨ka, oa, none⟩ ⟨kb, ob, none⟩ la ca lb cb hne eA eB csA.size csB.size (by simp [World.shape?, hA']) (by simp [World.shape?, hB']) h0 (by simp [World.frozen?, hA']) (by simp [World.frozen?, hA'])
    have h2 : a.eval (.func f) = .func (.func f) #[] #[] := rfl
    simp [execOp, resolve, ev_eq e (x := x) (by simp [Op.operands, Call.operands]) hx, ev_eq e (x := y) (by simp [Op.operands, Call.operands]) hy, h2, Deferred.ofValue, invoke, hrun, h1]
end

/-- A part of an own block as what is read. -/
theorem srcO {k o n cp : Nat} {cs ys : List Value} {e : TypeId} {fz : Nat × Nat} {M : Mem} (hM : M k (.cells cs.toArray e fz)) (hy : ys = (cs.drop o).take n) (hl : o + n ≤ cs.length) : Src M 1 (.slice (some ⟨k, o, none⟩) n cp) n ys := by
  subst hy
  refine ⟨_, cp, rfl, by simp; omega, fun _ => ⟨_, rfl, rfl, _, _, _, hM, fun i v hv => ?_⟩⟩
  rw [List.getElem?_take] at hv
  split at hv
  · rw [List.getElem?_drop] at hv; simpa using hv
  · cases hv
theorem setL_at {cs vs : List Value} {o : Nat} (h : o + vs.length ≤ cs.length) : setL cs o vs = cs.take o ++ vs ++ cs.drop (o + vs.length) := by
  have e : cs = cs.take o ++ ((cs.drop o).take vs.length ++ cs.drop (o + vs.length)) := by
    rw [← List.drop_drop, List.take_append_drop, List.take_append_drop]
  have h1 : (cs.take o).length = o := by rw [List.length_take]; omega
  have := setL_whole vs ((cs.drop o).take vs.length) (cs.take o) (cs.drop (o + vs.length)) (by simp; omega)
  rw [h1, ← e] at this
  rw [this, List.append_assoc]
theorem ins_room {cs : List Value} {cv : Value} {i n : Nat} (hi : i < n) (hn : n + 1 ≤ cs.length) : (setL (setL cs (i + 1) ((cs.drop i).take (n - i))) i [cv]).take (n + 1) = (cs.take n).take i ++ [cv] ++ (cs.take n).drop i := by
  have l1 : ((cs.drop i).take (n - i)).length = n - i := by simp; omega
  have l2 : (cs.take (i + 1)).length = i + 1 := by simp; omega
  have l3 : (cs.take i).length = i := by simp; omega
  rw [setL_at (cs := cs) (by rw [l1]; omega), l1]
  obtain ⟨Z, hZ⟩ : ∃ Z, Z = cs.drop (i + 1 + (n - i)) := ⟨_, rfl⟩
  rw [← hZ]
  rw [setL_at (by simp only [List.length_append, l2, l1, List.length_cons, List.length_nil]; omega)]
  have e1 : (cs.take (i + 1) ++ (cs.drop i).take (n - i) ++ Z).take i = cs.take i := by
    rw [List.append_assoc, List.take_append_of_le_length (by omega), List.take_take, Nat.min_eq_left (by omega)]
  have e2 : (cs.take (i + 1) ++ (cs.drop i).take (n - i) ++ Z).drop (i + [cv].length) = (cs.drop i).take (n - i) ++ Z := by
    rw [List.append_assoc]; exact List.drop_left' l2
  rw [e1, e2, ← List.append_assoc]
  rw [List.take_left' (by simp only [List.length_append, l3, l1, List.length_cons, List.length_nil]; omega)]
  have e3 : (cs.take n).take i = cs.take i := by rw [List.take_take, Nat.min_eq_left (by omega)]
  have e4 : (cs.take n).drop i = (cs.drop i).take (n - i) := by rw [List.drop_take]
  rw [e3, e4]
theorem ins_grow {cs ws : List Value} {cv : Value} {i n : Nat} (hi : i < n) (hn : n ≤ cs.length) (hw : n + 1 - i ≤ ws.length) : (setL (setL (cs.take i ++ ws) i [cv]) (i + 1) ((cs.drop i).take (n - i))).take (n + 1) = (cs.take n).take i ++ [cv] ++ (cs.take n).drop i := by
  have l1 : ((cs.drop i).take (n - i)).length = n - i := by simp; omega
  have l0 : (cs.take i).length = i := by simp; omega
  rw [setL_at (cs := cs.take i ++ ws) (by simp; omega)]
  have e0 : (cs.take i ++ ws).take i = cs.take i := List.take_left' l0
  rw [e0, setL_at (by rw [l1]; simp; omega), l1]
  have e1 : ((cs.take i ++ [cv]) ++ (cs.take i ++ ws).drop (i + [cv].length)).take (i + 1) = cs.take i ++ [cv] := List.take_left' (by simp; omega)
  rw [e1]
  have e2 : (cs.take i ++ [cv] ++ (cs.drop i).take (n - i)).length = n + 1 := by simp; omega
  rw [List.take_left' e2]
  have e3 : (cs.take n).take i = cs.take i := by rw [List.take_take, Nat.min_eq_left (by omega)]
  have e4 : (cs.take n).drop i = (cs.drop i).take (n - i) := by rw [List.drop_take]
  rw [e3, e4]
theorem ins_end {cs : List Value} {cv : Value} {i n : Nat} (hi : i = n) (hn : n ≤ cs.length) : cs.take n ++ [cv] = (cs.take n).take i ++ [cv] ++ (cs.take n).drop i := by
  subst hi
  have h : (cs.take i).length = i := by simp; omega
  rw [List.take_of_length_le (l := cs.take i) (by omega), List.drop_eq_nil_of_le (by omega), List.append_nil]
theorem ins_flat {cs : List Value} {cv : Value} {i n : Nat} (hf : (cs.take n).all flat = true) (hcv : flat cv = true) : ((cs.take n).take i ++ [cv] ++ (cs.take n).drop i).all flat = true := by
  rw [List.all_eq_true] at hf ⊢
  intro v hv
  simp only [List.mem_append, List.mem_singleton] at hv
  rcases hv with (hv | rfl) | hv
  · exact hf v (List.mem_of_mem_take hv)
  · exact hcv
  · exact hf v (List.mem_of_mem_drop hv)
theorem ins_flat2 {cs : List Value} {i n : Nat} (hf : (cs.take n).all flat = true) : ((cs.drop i).take (n - i)).all flat = true := by
  rw [← List.drop_take, List.all_eq_true]
  rw [List.all_eq_true] at hf
  exact fun v hv => hf v (List.mem_of_mem_drop hv)
end Go.W
/- Another element in the tree. No program is named here. -/
namespace Go.W
open Go

def TD.add (d : TD) (n : Nd) (mp : Nat × Obj) (b : Nat) (V : Value) (ov : Own) : TD :=
  { T := d.T, byv := some mp, nds := d.nds ++ [n], ad := fun x => if x = n.id then b else d.ad x
    vs := fun r => if r = n.ref then V else if r = n.id then .slice none 0 0 else d.vs r
    os := fun r => if r = n.ref then ov else if r = n.id then [] else d.os r }

theorem TD.add_kids (d : TD) (n : Nd) (mp : Nat × Obj) (b : Nat) (V : Value) (ov : Own) (r : ID) : (d.add n mp b V ov).kids r = if r = n.ref then insK n.id (d.kids r) else d.kids r := kidsOf_snoc _ _ _
structure New (d : TD) (n : Nd) : Prop where
  ni : n.id ∉ d.ids
  nz : n.id ≠ z0
  rf : n.ref = z0 ∨ n.ref ∈ d.ids
  lo : cmpID n.ref n.id < 0
  fw : d.nds.length < 100000000
  my : mayID n.id
theorem New.ne {d : TD} {n : Nd} (h : New d n) : n.ref ≠ n.id := fun e => by have := h.lo; rw [e] at this; exact cmpID_irr this
theorem TD.Ok.kid_ids {d : TD} (h : d.Ok) {r k : ID} (hk : k ∈ d.kids r) : k ∈ d.ids := by
  obtain ⟨n, hn, rfl, -⟩ := (h.kid r k).1 hk
  exact List.mem_map_of_mem hn
theorem TD.Ok.kids_nil {d : TD} (h : d.Ok) {r : ID} (hr : r ∉ d.ids) (hz : r ≠ z0) : d.kids r = [] := by
  refine List.eq_nil_iff_forall_not_mem.2 fun k hk => ?_
  obtain ⟨n, hn, -, e⟩ := (h.kid r k).1 hk
  rcases h.up n hn with h1 | h1
  · exact hz (e ▸ h1)
  · exact hr (e ▸ h1)

theorem add_ok {d : TD} {n : Nd} {mp : Nat × Obj} {b : Nat} {V : Value} {ov : Own} (hok : d.Ok) (hn : New d n)
    (hm : Mp encI mp.2 (d.nds.map (fun n => (n.id, pt (d.ad n.id) 0)) ++ [(n.id, pt b 0)]))
    (hv : OS ov 160 1 V (((d.kids n.ref).map fun k => pt (d.ad k) 0).take (posOf n.id (d.kids n.ref)) ++ [pt b 0] ++ ((d.kids n.ref).map fun k => pt (d.ad k) 0).drop (posOf n.id (d.kids n.ref)))) : (d.add n mp b V ov).Ok := by
  have hids : (d.add n mp b V ov).ids = d.ids ++ [n.id] := by simp [TD.ids, TD.add]
  have hadk : ∀ k ∈ d.ids, (if k = n.id then b else d.ad k) = d.ad k := fun k hk => if_neg (fun e : k = n.id => hn.ni (e ▸ hk))
  have hmapk : ∀ r, (d.kids r).map (fun k => pt (if k = n.id then b else d.ad k) 0) = (d.kids r).map fun k => pt (d.ad k) 0 := fun r =>
    List.map_congr_left fun k hk => by rw [hadk k (hok.kid_ids hk)]
  constructor
  · rw [hids, List.nodup_append]
    exact ⟨hok.nodup, by simp, fun a ha c hc e => by simp at hc; subst hc; subst e; exact hn.ni ha⟩
  · rw [hids]; simp only [List.mem_append, List.mem_singleton]; rintro (h | h)
    · exact hok.nz h
    · exact hn.nz h.symm
  · show Mp encI mp.2 ((d.nds ++ [n]).map fun m => (m.id, pt (if m.id = n.id then b else d.ad m.id) 0))
    rw [List.map_append]
    have e1 : d.nds.map (fun m => (m.id, pt (if m.id = n.id then b else d.ad m.id) 0)) = d.nds.map fun m => (m.id, pt (d.ad m.id) 0) :=
      List.map_congr_left fun m hm' => by rw [hadk m.id (List.mem_map_of_mem hm')]
    rw [e1]
    simpa using hm
  · intro r hr
    rw [hids] at hr
    rw [TD.add_kids]
    show OS (if r = n.ref then ov else if r = n.id then [] else d.os r) _ 1 (if r = n.ref then V else if r = n.id then .slice none 0 0 else d.vs r) ((if r = n.ref then insK n.id (d.kids r) else d.kids r).map fun k => pt (if k = n.id then b else d.ad k) 0)
    by_cases h1 : r = n.ref
    · subst h1
      rw [if_pos rfl, if_pos rfl, if_pos rfl]
      refine hv.cast ?_
      unfold insK
      rw [List.map_append, List.map_append, List.map_take, List.map_drop, hmapk]
      simp
    · rw [if_neg h1, if_neg h1, if_neg h1]
      by_cases h2 : r = n.id
      · subst h2
        rw [if_pos rfl, if_pos rfl, hok.kids_nil hn.ni hn.nz]
        exact OS.nil _ _
      · rw [if_neg h2, if_neg h2, hmapk]
        refine hok.sl r ?_
        rcases hr with hr | hr
        · exact .inl hr
        · rcases List.mem_append.1 hr with hr | hr
          · exact .inr hr
          · simp at hr; exact absurd hr h2
  · intro m hm'
    rw [hids]
    rcases List.mem_append.1 hm' with h | h
    · rcases hok.up m h with h | h
      · exact .inl h
      · exact .inr (by simp [h])
    · simp at h; subst h
      rcases hn.rf with h | h
      · exact .inl h
      · exact .inr (by simp [h])
  · intro m hm'
    rcases List.mem_append.1 hm' with h | h
    · exact hok.low m h
    · simp at h; subst h; exact hn.lo
  · show (d.nds ++ [n]).length ≤ 100000000
    have := hn.fw
    simp; omega
  · intro m hm'
    rcases List.mem_append.1 hm' with h | h
    · exact hok.rng m h
    · simp at h; subst h; exact hn.my

/-! ### Counting -/
noncomputable def ct {α : Type} (a : α) (l : List α) : Nat := @List.count α (@instBEqOfDecidableEq α fun a b => Classical.propDecidable (a = b)) a l
section
variable {α : Type} {a : α}
theorem ct_app (l r : List α) : ct a (l ++ r) = ct a l + ct a r := by
  letI : DecidableEq α := fun a b => Classical.propDecidable (a = b)
  exact List.count_append
theorem ct_nil : ct a ([] : List α) = 0 := by
  letI : DecidableEq α := fun a b => Classical.propDecidable (a = b)
  exact List.count_nil
theorem perm_ct {l r : List α} (h : ∀ a, ct a l = ct a r) : l.Perm r := by
  letI : DecidableEq α := fun a b => Classical.propDecidable (a = b)
  exact List.perm_iff_count.2 h
end
theorem oP {c : Cx} {h : List Own} {o' : Own} (p : h.flatten.Perm o') : ∀ w, HS c h w → Chg c.w0 c.o0 o' w := fun w s => s.chg.perm p

theorem oSP {c : Cx} {h h' : List Own} {o' : Own} (s' : h'.Sublist h) (p : h'.flatten.Perm o') : ∀ w, HS c h w → Chg c.w0 c.o0 o' w := fun w s => (s.dropIt s').chg.perm p

def TD.blk (d : TD) (n : Nd) : Own := d.el n ++ d.os n.id
theorem TD.lay_eq (d : TD) : d.lay = d.top ++ (d.byv.toList ++ (d.os z0 ++ d.nds.flatMap d.blk)) := rfl
section
variable {d : TD} {n : Nd} {mp : Nat × Obj} {b : Nat} {V : Value} {ov : Own}
theorem add_blk (hn : New d n) {m : Nd} (hm : m ∈ d.nds) : (d.add n mp b V ov).blk m = if m.id = n.ref then [(d.ad m.id, .cells (encNd m ++ [V]).toArray 163 (0, 0))] ++ ov else d.blk m := by
  have h1 : m.id ≠ n.id := fun e => hn.ni (e ▸ List.mem_map_of_mem hm)
  show [((if m.id = n.id then b else d.ad m.id), Obj.cells (encNd m ++ [if m.id = n.ref then V else if m.id = n.id then Value.slice none 0 0 else d.vs m.id]).toArray _ (0, 0))] ++ (if m.id = n.ref then ov else if m.id = n.id then [] else d.os m.id) = _
  rw [if_neg h1, if_neg h1, if_neg h1]
  by_cases h : m.id = n.ref
  · rw [if_pos h, if_pos h, if_pos h]
  · rw [if_neg h, if_neg h, if_neg h]; rfl
theorem add_new (hn : New d n) : (d.add n mp b V ov).blk n = [(b, .cells (encNd n ++ [Value.slice none 0 0]).toArray 163 (0, 0))] := by
  have h1 : ¬ n.id = n.ref := fun e => hn.ne e.symm
  show [((if n.id = n.id then b else d.ad n.id), Obj.cells (encNd n ++ [if n.id = n.ref then V else if n.id = n.id then Value.slice none 0 0 else d.vs n.id]).toArray _ (0, 0))] ++ (if n.id = n.ref then ov else if n.id = n.id then [] else d.os n.id) = _
  rw [if_pos rfl, if_neg h1, if_pos rfl, if_neg h1, if_pos rfl, List.append_nil]
theorem flatMap_congr' {α β : Type} {f g : α → List β} : ∀ {l : List α}, (∀ x ∈ l, f x = g x) → l.flatMap f = l.flatMap g := by
  intro l
  induction l with
  | nil => intro _; rfl
  | cons x l ih => intro h; rw [List.flatMap_cons, List.flatMap_cons, h x (by simp), ih fun y hy => h y (by simp [hy])]
theorem add_lay0 (hok : d.Ok) (hn : New d n) (hr : n.ref = z0) : (d.add n mp b V ov).lay = [(d.T, .cells [V, .map (some mp.1)].toArray 187 (0, 0))] ++ ([mp] ++ (ov ++ (d.nds.flatMap d.blk ++ [(b, .cells (encNd n ++ [Value.slice none 0 0]).toArray 163 (0, 0))]))) := by
  rw [TD.lay_eq]
  have h1 : (d.add n mp b V ov).nds.flatMap (d.add n mp b V ov).blk = d.nds.flatMap d.blk ++ [(b, .cells (encNd n ++ [Value.slice none 0 0]).toArray 163 (0, 0))] := by
    show (d.nds ++ [n]).flatMap _ = _
    rw [List.flatMap_append, List.flatMap_cons, List.flatMap_nil, List.append_nil, add_new hn]
    congr 1
    refine flatMap_congr' fun m hm => ?_
    rw [add_blk hn hm, if_neg]
    intro e
    exact hok.nz (by rw [← hr, ← e]; exact List.mem_map_of_mem hm)
  have h2 : (d.add n mp b V ov).os z0 = ov := if_pos hr.symm
  have h3 : (d.add n mp b V ov).top = [(d.T, .cells [V, .map (some mp.1)].toArray 187 (0, 0))] := by
    show [(d.T, Obj.cells [if z0 = n.ref then V else _, _].toArray _ (0, 0))] = _
    rw [if_pos hr.symm]; rfl
  rw [h1, h2, h3]; rfl
theorem add_lay1 (hok : d.Ok) (hn : New d n) {m : Nd} {pre post : List Nd} (hs : d.nds = pre ++ m :: post) (hr : n.ref = m.id) : (d.add n mp b V ov).lay = [(d.T, .cells [d.vs z0, .map (some mp.1)].toArray 187 (0, 0))] ++ ([mp] ++ (d.os z0 ++ ((pre.flatMap d.blk ++
    (([(d.ad m.id, .cells (encNd m ++ [V]).toArray 163 (0, 0))] ++ ov) ++ post.flatMap d.blk)) ++ [(b, .cells (encNd n ++ [Value.slice none 0 0]).toArray 163 (0, 0))]))) := by
  rw [TD.lay_eq]
  have hmem : m ∈ d.nds := by rw [hs]; simp
  have hz : ¬ z0 = n.ref := fun e => hok.nz (by rw [e, hr]; exact List.mem_map_of_mem hmem)
  have hz2 : ¬ z0 = n.id := fun e => hn.nz e.symm
  have hnd : (pre.map (·.id) ++ m.id :: post.map (·.id)).Nodup := by have := hok.nodup; unfold TD.ids at this; rw [hs] at this; simpa using this
  rw [List.nodup_append, List.nodup_cons] at hnd
  have h1 : (d.add n mp b V ov).nds.flatMap (d.add n mp b V ov).blk = (pre.flatMap d.blk ++
    (([(d.ad m.id, .cells (encNd m ++ [V]).toArray 163 (0, 0))] ++ ov) ++ post.flatMap d.blk)) ++ [(b, .cells (encNd n ++ [Value.slice none 0 0]).toArray 163 (0, 0))] := by
    show (d.nds ++ [n]).flatMap _ = _
    rw [List.flatMap_append, List.flatMap_cons, List.flatMap_nil, List.append_nil, add_new hn]
    congr 1
    rw [hs, List.flatMap_append, List.flatMap_cons, add_blk hn hmem, if_pos hr.symm]
    congr 1
    · refine flatMap_congr' fun x hx => ?_
      rw [add_blk hn (by rw [hs]; simp [hx]), if_neg]
      intro e
      exact hnd.2.2 x.id (List.mem_map_of_mem hx) m.id (by simp) (e.trans hr)
    · congr 1
      refine flatMap_congr' fun x hx => ?_
      rw [add_blk hn (by rw [hs]; simp [hx]), if_neg]
      intro e
      exact hnd.2.1.1 (by rw [← hr, ← e]; exact List.mem_map_of_mem hx)
  have h2 : (d.add n mp b V ov).os z0 = d.os z0 := by
    show (if z0 = n.ref then ov else if z0 = n.id then [] else d.os z0) = _
    rw [if_neg hz, if_neg hz2]
  have h3 : (d.add n mp b V ov).top = [(d.T, .cells [d.vs z0, .map (some mp.1)].toArray 187 (0, 0))] := by
    show [(d.T, Obj.cells [if z0 = n.ref then V else if z0 = n.id then _ else d.vs z0, _].toArray _ (0, 0))] = _
    rw [if_neg hz, if_neg hz2]; rfl
  rw [h1, h2, h3]; rfl
end
/-- The elements that stand behind r lie among the elements' blocks. -/
theorem TD.els {d : TD} {M : Mem} {ks : List ID} (hk : ∀ k ∈ ks, ∃ n ∈ d.nds, n.id = k ∧ MLe (Im (d.el n)) M) : Els M d.ad ks := fun k hx => by
  obtain ⟨n, -, e, hM⟩ := hk k hx
  subst e
  exact ⟨n, d.vs n.id, rfl, (cellsI (k := d.ad n.id) (cs := encNd n ++ [d.vs n.id]) (e := 163) (fz := (0, 0))).mono hM⟩
theorem map_flat {α β : Type} (f : α → β) : ∀ l : List α, l.map f = l.flatMap fun x => [f x] := by
  intro l
  induction l with
  | nil => rfl
  | cons a l ih => rw [List.map_cons, List.flatMap_cons, ih]; rfl
theorem v_ref0 {x : ID} (h : x = z0) : Value.agg (List.toArray [.int .i64 x.time, .int .i64 x.site]) = .agg #[.int .i64 0, .int .i64 0] := by rw [h]; rfl
theorem v_ref1 {x y : ID} (h : x = y) : Value.agg (List.toArray [.int .i64 x.time, .int .i64 x.site]) = .agg #[.int .i64 y.time, .int .i64 y.site] := by rw [h]
theorem Im.sub {a b : Own} (h : ∀ x ∈ a, x ∈ b) : MLe (Im a) (Im b) := fun k ob hk => h _ hk
end Go.W
/- What the program's tables say. Written by a program of mine. -/
namespace Go.W
open Go Go.Proofs.Tryz
theorem C10 : Cl prog 10 := by unfold Cl; kernel_rfl
theorem C100 : Cl prog 100 := by unfold Cl; kernel_rfl
theorem C101 : Cl prog 101 := by unfold Cl; kernel_rfl
theorem C102 : Cl prog 102 := by unfold Cl; kernel_rfl
theorem C103 : Cl prog 103 := by unfold Cl; kernel_rfl
theorem C104 : Cl prog 104 := by unfold Cl; kernel_rfl
theorem C105 : Cl prog 105 := by unfold Cl; kernel_rfl
theorem C106 : Cl prog 106 := by unfold Cl; kernel_rfl
theorem C107 : Cl prog 107 := by unfold Cl; kernel_rfl
theorem C108 : Cl prog 108 := by unfold Cl; kernel_rfl
theorem C109 : Cl prog 109 := by unfold Cl; kernel_rfl
theorem C110 : Cl prog 110 := by unfold Cl; kernel_rfl
theorem C111 : Cl prog 111 := by unfold Cl; kernel_rfl
theorem C112 : Cl prog 112 := by unfold Cl; kernel_rfl
theorem C113 : Cl prog 113 := by unfold Cl; kernel_rfl
theorem C119 : Cl prog 119 := by unfold Cl; kernel_rfl
theorem C12 : Cl prog 12 := by unfold Cl; kernel_rfl
theorem C124 : Cl prog 124 := by unfold Cl; kernel_rfl
theorem C125 : Cl prog 125 := by unfold Cl; kernel_rfl
theorem C126 : Cl prog 126 := by unfold Cl; kernel_rfl
theorem C127 : Cl prog 127 := by unfold Cl; kernel_rfl
theorem C128 : Cl prog 128 := by unfold Cl; kernel_rfl
theorem C129 : Cl prog 129 := by unfold Cl; kernel_rfl
theorem C130 : Cl prog 130 := by unfold Cl; kernel_rfl
theorem C131 : Cl prog 131 := by unfold Cl; kernel_rfl
theorem C132 : Cl prog 132 := by unfold Cl; kernel_rfl
theorem C133 : Cl prog 133 := by unfold Cl; kernel_rfl
theorem C140 : Cl prog 140 := by unfold Cl; kernel_rfl
theorem C141 : Cl prog 141 := by unfold Cl; kernel_rfl
theorem C142 : Cl prog 142 := by unfold Cl; kernel_rfl
theorem C145 : Cl prog 145 := by unfold Cl; kernel_rfl
theorem C146 : Cl prog 146 := by unfold Cl; kernel_rfl
theorem C147 : Cl prog 147 := by unfold Cl; kernel_rfl
theorem C148 : Cl prog 148 := by unfold Cl; kernel_rfl
theorem C149 : Cl prog 149 := by unfold Cl; kernel_rfl
theorem C15 : Cl prog 15 := by unfold Cl; kernel_rfl
theorem C150 : Cl prog 150 := by unfold Cl; kernel_rfl
theorem C151 : Cl prog 151 := by unfold Cl; kernel_rfl
theorem C154 : Cl prog 154 := by unfold Cl; kernel_rfl
theorem C155 : Cl prog 155 := by unfold Cl; kernel_rfl
theorem C156 : Cl prog 156 := by unfold Cl; kernel_rfl
theorem C157 : Cl prog 157 := by unfold Cl; kernel_rfl
theorem C158 : Cl prog 158 := by unfold Cl; kernel_rfl
theorem C159 : Cl prog 159 := by unfold Cl; kernel_rfl
theorem C160 : Cl prog 160 := by unfold Cl; kernel_rfl
theorem C17 : Cl prog 17 := by unfold Cl; kernel_rfl
theorem C175 : Cl prog 175 := by unfold Cl; kernel_rfl
theorem C176 : Cl prog 176 := by unfold Cl; kernel_rfl
theorem C177 : Cl prog 177 := by unfold Cl; kernel_rfl
theorem C178 : Cl prog 178 := by unfold Cl; kernel_rfl
theorem C180 : Cl prog 180 := by unfold Cl; kernel_rfl
theorem C181 : Cl prog 181 := by unfold Cl; kernel_rfl
theorem C182 : Cl prog 182 := by unfold Cl; kernel_rfl
theorem C19 : Cl prog 19 := by unfold Cl; kernel_rfl
theorem C190 : Cl prog 190 := by unfold Cl; kernel_rfl
theorem C191 : Cl prog 191 := by unfold Cl; kernel_rfl
theorem C21 : Cl prog 21 := by unfold Cl; kernel_rfl
theorem C218 : Cl prog 218 := by unfold Cl; kernel_rfl
theorem C219 : Cl prog 219 := by unfold Cl; kernel_rfl
theorem C22 : Cl prog 22 := by unfold Cl; kernel_rfl
theorem C223 : Cl prog 223 := by unfold Cl; kernel_rfl
theorem C224 : Cl prog 224 := by unfold Cl; kernel_rfl
theorem C225 : Cl prog 225 := by unfold Cl; kernel_rfl
theorem C229 : Cl prog 229 := by unfold Cl; kernel_rfl
theorem C233 : Cl prog 233 := by unfold Cl; kernel_rfl
theorem C24 : Cl prog 24 := by unfold Cl; kernel_rfl
theorem C25 : Cl prog 25 := by unfold Cl; kernel_rfl
theorem C27 : Cl prog 27 := by unfold Cl; kernel_rfl
theorem C30 : Cl prog 30 := by unfold Cl; kernel_rfl
theorem C41 : Cl prog 41 := by unfold Cl; kernel_rfl
theorem C42 : Cl prog 42 := by unfold Cl; kernel_rfl
theorem C47 : Cl prog 47 := by unfold Cl; kernel_rfl
theorem C48 : Cl prog 48 := by unfold Cl; kernel_rfl
theorem C49 : Cl prog 49 := by unfold Cl; kernel_rfl
theorem C50 : Cl prog 50 := by unfold Cl; kernel_rfl
theorem C53 : Cl prog 53 := by unfold Cl; kernel_rfl
theorem C54 : Cl prog 54 := by unfold Cl; kernel_rfl
theorem C57 : Cl prog 57 := by unfold Cl; kernel_rfl
theorem C58 : Cl prog 58 := by unfold Cl; kernel_rfl
theorem C59 : Cl prog 59 := by unfold Cl; kernel_rfl
theorem C60 : Cl prog 60 := by unfold Cl; kernel_rfl
theorem C61 : Cl prog 61 := by unfold Cl; kernel_rfl
theorem C62 : Cl prog 62 := by unfold Cl; kernel_rfl
theorem C63 : Cl prog 63 := by unfold Cl; kernel_rfl
theorem C64 : Cl prog 64 := by unfold Cl; kernel_rfl
theorem C65 : Cl prog 65 := by unfold Cl; kernel_rfl
theorem C79 : Cl prog 79 := by unfold Cl; kernel_rfl
theorem C84 : Cl prog 84 := by unfold Cl; kernel_rfl
theorem C85 : Cl prog 85 := by unfold Cl; kernel_rfl
theorem C86 : Cl prog 86 := by unfold Cl; kernel_rfl
theorem C87 : Cl prog 87 := by unfold Cl; kernel_rfl
theorem C88 : Cl prog 88 := by unfold Cl; kernel_rfl
theorem C89 : Cl prog 89 := by unfold Cl; kernel_rfl
theorem C9 : Cl prog 9 := by unfold Cl; kernel_rfl
theorem C90 : Cl prog 90 := by unfold Cl; kernel_rfl
theorem C91 : Cl prog 91 := by unfold Cl; kernel_rfl
theorem C92 : Cl prog 92 := by unfold Cl; kernel_rfl
theorem C93 : Cl prog 93 := by unfold Cl; kernel_rfl
theorem C94 : Cl prog 94 := by unfold Cl; kernel_rfl
theorem C99 : Cl prog 99 := by unfold Cl; kernel_rfl
theorem EF29 : EqF prog 29 [(3, 0), (3, 1)] := ⟨by kernel_rfl, by kernel_rfl⟩
theorem EF292 : EqF prog 292 [(59, 0), (59, 2), (9, 4), (3, 5)] := ⟨by kernel_rfl, by kernel_rfl⟩
theorem EF59 : EqF prog 59 [(3, 0), (3, 1)] := ⟨by kernel_rfl, by kernel_rfl⟩
theorem EF84 : EqF prog 84 [(59, 0), (59, 2), (21, 4), (3, 5)] := ⟨by kernel_rfl, by kernel_rfl⟩
theorem F146_0 : Fd prog 146 0 0 := ⟨by kernel_rfl⟩
theorem F146_1 : Fd prog 146 1 1 := ⟨by kernel_rfl⟩
theorem F163_0 : Fd prog 163 0 0 := ⟨by kernel_rfl⟩
theorem F163_1 : Fd prog 163 1 6 := ⟨by kernel_rfl⟩
theorem F167_0 : Fd prog 167 0 0 := ⟨by kernel_rfl⟩
theorem F167_1 : Fd prog 167 1 1 := ⟨by kernel_rfl⟩
theorem F167_2 : Fd prog 167 2 2 := ⟨by kernel_rfl⟩
theorem F187_0 : Fd prog 187 0 0 := ⟨by kernel_rfl⟩
theorem F187_1 : Fd prog 187 1 1 := ⟨by kernel_rfl⟩
theorem F229_0 : Fd prog 229 0 0 := ⟨by kernel_rfl⟩
theorem F229_1 : Fd prog 229 1 2 := ⟨by kernel_rfl⟩
theorem F229_2 : Fd prog 229 2 4 := ⟨by kernel_rfl⟩
theorem F231_0 : Fd prog 231 0 0 := ⟨by kernel_rfl⟩
theorem F233_0 : Fd prog 233 0 0 := ⟨by kernel_rfl⟩
theorem F29_0 : Fd prog 29 0 0 := ⟨by kernel_rfl⟩
theorem F29_1 : Fd prog 29 1 1 := ⟨by kernel_rfl⟩
theorem F59_0 : Fd prog 59 0 0 := ⟨by kernel_rfl⟩
theorem F59_1 : Fd prog 59 1 1 := ⟨by kernel_rfl⟩
theorem F62_0 : Fd prog 62 0 0 := ⟨by kernel_rfl⟩
theorem F62_1 : Fd prog 62 1 2 := ⟨by kernel_rfl⟩
theorem F62_2 : Fd prog 62 2 3 := ⟨by kernel_rfl⟩
theorem F62_3 : Fd prog 62 3 4 := ⟨by kernel_rfl⟩
theorem F62_4 : Fd prog 62 4 6 := ⟨by kernel_rfl⟩
theorem F62_5 : Fd prog 62 5 8 := ⟨by kernel_rfl⟩
theorem F62_6 : Fd prog 62 6 9 := ⟨by kernel_rfl⟩
theorem F62_7 : Fd prog 62 7 10 := ⟨by kernel_rfl⟩
theorem F84_0 : Fd prog 84 0 0 := ⟨by kernel_rfl⟩
theorem F84_1 : Fd prog 84 1 2 := ⟨by kernel_rfl⟩
theorem F84_2 : Fd prog 84 2 4 := ⟨by kernel_rfl⟩
theorem F84_3 : Fd prog 84 3 5 := ⟨by kernel_rfl⟩
theorem F89_0 : Fd prog 89 0 0 := ⟨by kernel_rfl⟩
theorem F89_1 : Fd prog 89 1 2 := ⟨by kernel_rfl⟩
theorem G202 : prog.eqGuardType prog.depth 202 = false := by kernel_rfl
theorem G29 : prog.eqGuardType prog.depth 29 = false := by kernel_rfl
theorem G292 : prog.eqGuardType prog.depth 292 = false := by kernel_rfl
theorem G59 : prog.eqGuardType prog.depth 59 = false := by kernel_rfl
theorem G84 : prog.eqGuardType prog.depth 84 = false := by kernel_rfl
theorem Pl163 : Pl prog 163 [(0, 6), (6, 1)] := ⟨by kernel_rfl⟩
theorem Pl167 : Pl prog 167 [(0, 1), (1, 1), (2, 1)] := ⟨by kernel_rfl⟩
theorem Pl187 : Pl prog 187 [(0, 1), (1, 1)] := ⟨by kernel_rfl⟩
theorem Pl229 : Pl prog 229 [(0, 2), (2, 2), (4, 1)] := ⟨by kernel_rfl⟩
theorem Pl231 : Pl prog 231 [(0, 1)] := ⟨by kernel_rfl⟩
theorem Pl233 : Pl prog 233 [(0, 1)] := ⟨by kernel_rfl⟩
theorem Pl235 : Pl prog 235 [] := ⟨by kernel_rfl⟩
theorem Pl29 : Pl prog 29 [(0, 1), (1, 1)] := ⟨by kernel_rfl⟩
theorem Pl292 : Pl prog 292 [(0, 2), (2, 2), (4, 1), (5, 1)] := ⟨by kernel_rfl⟩
theorem Pl59 : Pl prog 59 [(0, 1), (1, 1)] := ⟨by kernel_rfl⟩
theorem Pl62 : Pl prog 62 [(0, 2), (2, 1), (3, 1), (4, 2), (6, 2), (8, 1), (9, 1), (10, 1)] := ⟨by kernel_rfl⟩
theorem Pl84 : Pl prog 84 [(0, 2), (2, 2), (4, 1), (5, 1)] := ⟨by kernel_rfl⟩
theorem Pl89 : Pl prog 89 [(0, 2), (2, 1)] := ⟨by kernel_rfl⟩
theorem T102 : Ty prog 102 1 false [.pointer none] 8 := ⟨by kernel_rfl, by kernel_rfl⟩
theorem T111 : Ty prog 111 1 false [.pointer none] 8 := ⟨by kernel_rfl, by kernel_rfl⟩
theorem T141 : Ty prog 141 1 false [.nilFunc] 8 := ⟨by kernel_rfl, by kernel_rfl⟩
theorem T142 : Ty prog 142 1 false [.map none] 8 := ⟨by kernel_rfl, by kernel_rfl⟩
theorem T143 : Ty prog 143 1 false [.pointer none] 8 := ⟨by kernel_rfl, by kernel_rfl⟩
theorem T144 : Ty prog 144 1 false [.slice none 0 0] 24 := ⟨by kernel_rfl, by kernel_rfl⟩
theorem T146 : Ty prog 146 2 true [.pointer none, .slice none 0 0] 32 := ⟨by kernel_rfl, by kernel_rfl⟩
theorem T160 : Ty prog 160 1 false [.pointer none] 8 := ⟨by kernel_rfl, by kernel_rfl⟩
theorem T161 : Ty prog 161 1 false [.slice none 0 0] 24 := ⟨by kernel_rfl, by kernel_rfl⟩
theorem T163 : Ty prog 163 7 true [.int .i64 0, .int .i64 0, .int .i64 0, .int .i64 0, .int .i32 0, .int .i64 0, .slice none 0 0] 72 := ⟨by kernel_rfl, by kernel_rfl⟩
theorem T165 : Ty prog 165 1 false [.int .u32 0] 4 := ⟨by kernel_rfl, by kernel_rfl⟩
theorem T167 : Ty prog 167 3 true [.int .u32 0, .int .u32 0, .int .i64 0] 16 := ⟨by kernel_rfl, by kernel_rfl⟩
theorem T168 : Ty prog 168 1 false [.map none] 8 := ⟨by kernel_rfl, by kernel_rfl⟩
theorem T169 : Ty prog 169 1 false [.nilFunc] 8 := ⟨by kernel_rfl, by kernel_rfl⟩
theorem T170 : Ty prog 170 1 false [.nilFunc] 8 := ⟨by kernel_rfl, by kernel_rfl⟩
theorem T185 : Ty prog 185 1 false [.map none] 8 := ⟨by kernel_rfl, by kernel_rfl⟩
theorem T187 : Ty prog 187 2 true [.slice none 0 0, .map none] 32 := ⟨by kernel_rfl, by kernel_rfl⟩
theorem T202 : Ty prog 202 17 true [.int .i64 0, .int .i64 0, .int .i64 0, .int .i64 0, .int .i64 0, .int .i64 0, .int .i64 0, .int .i64 0, .int .i64 0, .int .i64 0, .int .i64 0, .int .i64 0, .int .i64 0, .int .i64 0, .int .i64 0, .int .i64 0, .int .i64 0] 136 := ⟨by kernel_rfl, by kernel_rfl⟩
theorem T21 : Ty prog 21 1 false [.int .i32 0] 4 := ⟨by kernel_rfl, by kernel_rfl⟩
theorem T22 : Ty prog 22 1 false [.slice none 0 0] 24 := ⟨by kernel_rfl, by kernel_rfl⟩
theorem T224 : Ty prog 224 1 false [.nilFunc] 8 := ⟨by kernel_rfl, by kernel_rfl⟩
theorem T229 : Ty prog 229 5 true [.int .i64 0, .int .i64 0, .int .i64 0, .int .i64 0, .string ByteArray.empty] 48 := ⟨by kernel_rfl, by kernel_rfl⟩
theorem T231 : Ty prog 231 1 true [.slice none 0 0] 24 := ⟨by kernel_rfl, by kernel_rfl⟩
theorem T233 : Ty prog 233 1 true [.int .i64 0] 8 := ⟨by kernel_rfl, by kernel_rfl⟩
theorem T235 : Ty prog 235 0 true [] 0 := ⟨by kernel_rfl, by kernel_rfl⟩
theorem T24 : Ty prog 24 1 false [.slice none 0 0] 24 := ⟨by kernel_rfl, by kernel_rfl⟩
theorem T29 : Ty prog 29 2 true [.int .i64 0, .int .i64 0] 16 := ⟨by kernel_rfl, by kernel_rfl⟩
theorem T292 : Ty prog 292 6 true [.int .i64 0, .int .i64 0, .int .i64 0, .int .i64 0, .string ByteArray.empty, .int .i64 0] 56 := ⟨by kernel_rfl, by kernel_rfl⟩
theorem T3 : Ty prog 3 1 false [.int .i64 0] 8 := ⟨by kernel_rfl, by kernel_rfl⟩
theorem T39 : Ty prog 39 1 false [.slice none 0 0] 24 := ⟨by kernel_rfl, by kernel_rfl⟩
theorem T45 : Ty prog 45 1 false [.slice none 0 0] 24 := ⟨by kernel_rfl, by kernel_rfl⟩
theorem T5 : Ty prog 5 1 false [.int .u8 0] 1 := ⟨by kernel_rfl, by kernel_rfl⟩
theorem T51 : Ty prog 51 1 false [.slice none 0 0] 24 := ⟨by kernel_rfl, by kernel_rfl⟩
theorem T59 : Ty prog 59 2 true [.int .i64 0, .int .i64 0] 16 := ⟨by kernel_rfl, by kernel_rfl⟩
theorem T60 : Ty prog 60 1 false [.slice none 0 0] 24 := ⟨by kernel_rfl, by kernel_rfl⟩
theorem T62 : Ty prog 62 11 true [.int .i64 0, .int .i64 0, .slice none 0 0, .int .i64 0, .int .i64 0, .int .i64 0, .int .i64 0, .int .i64 0, .string ByteArray.empty, .slice none 0 0, .int .i64 0] 128 := ⟨by kernel_rfl, by kernel_rfl⟩
theorem T84 : Ty prog 84 6 true [.int .i64 0, .int .i64 0, .int .i64 0, .int .i64 0, .int .i32 0, .int .i64 0] 48 := ⟨by kernel_rfl, by kernel_rfl⟩
theorem T89 : Ty prog 89 3 true [.int .i64 0, .int .i64 0, .int .i64 0] 24 := ⟨by kernel_rfl, by kernel_rfl⟩
theorem T9 : Ty prog 9 1 false [.string ByteArray.empty] 16 := ⟨by kernel_rfl, by kernel_rfl⟩
theorem T91 : Ty prog 91 1 false [.map none] 8 := ⟨by kernel_rfl, by kernel_rfl⟩
theorem U102 : prog.underlying 102 = some (.pointer 187) := by kernel_rfl
theorem U111 : prog.underlying 111 = some (.pointer 167) := by kernel_rfl
theorem U142 : prog.underlying 142 = some (.map 3 141) := by kernel_rfl
theorem U143 : prog.underlying 143 = some (.pointer 146) := by kernel_rfl
theorem U144 : prog.underlying 144 = some (.slice 5) := by kernel_rfl
theorem U160 : prog.underlying 160 = some (.pointer 163) := by kernel_rfl
theorem U161 : prog.underlying 161 = some (.slice 160) := by kernel_rfl
theorem U165 : prog.underlying 165 = some (.int .u32) := by kernel_rfl
theorem U168 : prog.underlying 168 = some (.map 3 3) := by kernel_rfl
theorem U185 : prog.underlying 185 = some (.map 59 160) := by kernel_rfl
theorem U202 : prog.underlying 202 = some (.array 17 3) := by kernel_rfl
theorem U208 : prog.underlying 208 = some (.pointer 5) := by kernel_rfl
theorem U21 : prog.underlying 21 = some (.int .i32) := by kernel_rfl
theorem U215 : prog.underlying 215 = some (.slice 161) := by kernel_rfl
theorem U219 : prog.underlying 219 = some (.int .u64) := by kernel_rfl
theorem U22 : prog.underlying 22 = some (.slice 62) := by kernel_rfl
theorem U24 : prog.underlying 24 = some (.slice 29) := by kernel_rfl
theorem U240 : prog.underlying 240 = some (.unsafePointer) := by kernel_rfl
theorem U254 : prog.underlying 254 = some (.int .u64) := by kernel_rfl
theorem U269 : prog.underlying 269 = some (.array 32 5) := by kernel_rfl
theorem U3 : prog.underlying 3 = some (.int .i64) := by kernel_rfl
theorem U39 : prog.underlying 39 = some (.slice 59) := by kernel_rfl
theorem U4 : prog.underlying 4 = some (.bool) := by kernel_rfl
theorem U45 : prog.underlying 45 = some (.slice 3) := by kernel_rfl
theorem U5 : prog.underlying 5 = some (.int .u8) := by kernel_rfl
theorem U51 : prog.underlying 51 = some (.slice 84) := by kernel_rfl
theorem U60 : prog.underlying 60 = some (.slice 89) := by kernel_rfl
theorem U9 : prog.underlying 9 = some (.string) := by kernel_rfl
theorem U91 : prog.underlying 91 = some (.map 29 62) := by kernel_rfl
theorem E29 (d : Nat) (a0 : Int) (a1 : Int) (b0 : Int) (b1 : Int) (w : World) : (Op.equalIn (d + 2) 29 (.agg #[.int .i64 a0, .int .i64 a1]) (.agg #[.int .i64 b0, .int .i64 b1])).run prog w = .ok (a0 == b0 && (a1 == b1 && true)) w := by
  rw [run_eqF EF29]
  have h0 := fun (a b : Int) => run_equalIn_int (P := prog) w (d + 0) 3 .i64 .i64 a b U3
  simp [eqFs, part, T3.isAgg, T3.size, h0]
  repeat (first | rfl | (split <;> simp_all))
theorem E59 (d : Nat) (a0 : Int) (a1 : Int) (b0 : Int) (b1 : Int) (w : World) : (Op.equalIn (d + 2) 59 (.agg #[.int .i64 a0, .int .i64 a1]) (.agg #[.int .i64 b0, .int .i64 b1])).run prog w = .ok (a0 == b0 && (a1 == b1 && true)) w := by
  rw [run_eqF EF59]
  have h0 := fun (a b : Int) => run_equalIn_int (P := prog) w (d + 0) 3 .i64 .i64 a b U3
  simp [eqFs, part, T3.isAgg, T3.size, h0]
  repeat (first | rfl | (split <;> simp_all))
theorem E292 (d : Nat) (a0 : Int) (a1 : Int) (a2 : Int) (a3 : Int) (a4 : ByteArray) (a5 : Int) (b0 : Int) (b1 : Int) (b2 : Int) (b3 : Int) (b4 : ByteArray) (b5 : Int) (w : World) : (Op.equalIn (d + 3) 292 (.agg #[.int .i64 a0, .int .i64 a1, .int .i64 a2, .int .i64 a3, .string a4, .int .i64 a5]) (.agg #[.int .i64 b0, .int .i64 b1, .int .i64 b2, .int .i64 b3, .string b4, .int .i64 b5])).run prog w = .ok (((a0 == b0 && (a1 == b1 && true))) && (((a2 == b2 && (a3 == b3 && true))) && (a4.toList == b4.toList && (a5 == b5 && true)))) w := by
  rw [run_eqF EF292]
  have h0 := fun (x0 : Int) (x1 : Int) (x2 : Int) (x3 : Int) => E59 (d + 0) x0 x1 x2 x3 w
  have h1 := fun (a b : ByteArray) => run_equalIn_string (P := prog) w (d + 1) 9 a b U9
  have h2 := fun (a b : Int) => run_equalIn_int (P := prog) w (d + 1) 3 .i64 .i64 a b U3
  simp [eqFs, part, T3.isAgg, T3.size, T9.isAgg, T9.size, T59.isAgg, T59.size, h0, h1, h2]
  repeat (first | rfl | (split <;> simp_all))
theorem E84 (d : Nat) (a0 : Int) (a1 : Int) (a2 : Int) (a3 : Int) (a4 : Int) (a5 : Int) (b0 : Int) (b1 : Int) (b2 : Int) (b3 : Int) (b4 : Int) (b5 : Int) (w : World) : (Op.equalIn (d + 3) 84 (.agg #[.int .i64 a0, .int .i64 a1, .int .i64 a2, .int .i64 a3, .int .i32 a4, .int .i64 a5]) (.agg #[.int .i64 b0, .int .i64 b1, .int .i64 b2, .int .i64 b3, .int .i32 b4, .int .i64 b5])).run prog w = .ok (((a0 == b0 && (a1 == b1 && true))) && (((a2 == b2 && (a3 == b3 && true))) && (a4 == b4 && (a5 == b5 && true)))) w := by
  rw [run_eqF EF84]
  have h0 := fun (x0 : Int) (x1 : Int) (x2 : Int) (x3 : Int) => E59 (d + 0) x0 x1 x2 x3 w
  have h1 := fun (a b : Int) => run_equalIn_int (P := prog) w (d + 1) 21 .i32 .i32 a b U21
  have h2 := fun (a b : Int) => run_equalIn_int (P := prog) w (d + 1) 3 .i64 .i64 a b U3
  simp [eqFs, part, T3.isAgg, T3.size, T21.isAgg, T21.size, T59.isAgg, T59.size, h0, h1, h2]
  repeat (first | rfl | (split <;> simp_all))
end Go.W
