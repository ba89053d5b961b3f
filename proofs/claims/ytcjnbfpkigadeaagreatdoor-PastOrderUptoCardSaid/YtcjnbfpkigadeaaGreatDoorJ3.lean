/- Lemmas for the walks of this program: Slices of one's own, append; what is built out of parts; slices of slices; == of structs and arrays. No program is named here. Maps: as lists of keys and values. No program is named here. More turns of the items. No program is named here. -/
import Derived.Laws.StructEq
import Derived.Maps.RangeRun
import Derived.Test.YtcjnbfpkigadeaaGreatDoorJ2
set_option linter.unusedVariables false
set_option linter.unusedSimpArgs false
/- Slices of one's own, append; what is built out of parts; slices of slices; == of structs and arrays. No program is named here. -/
namespace Go.W
open Go

/-! ### Parts -/
def Parts (l : Env) : List (Nat × Operand) → List (Nat × List Value) → Prop
  | [], [] => True
  | (i, x) :: r, (j, vs) :: s => i = j ∧ (∃ v, ev l x = some v ∧ v.cells = vs.toArray) ∧ Parts l r s
  | _, _ => False

/-- Cells with the parts laid in; ps: each part's place and size. -/
def fills (ps : Nat → Option (Nat × Nat)) (cs : List Value) : List (Nat × List Value) → Option (List Value)
  | [] => some cs
  | (i, vs) :: r => match ps i with
    | none => none
    | some (off, n) => if vs.length = n ∧ off + n ≤ cs.length then fills ps (setL cs off vs) r else none

theorem setL_append (us vs : List Value) : ∀ (cs : List Value) (o : Nat), setL cs o (us ++ vs) = setL (setL cs o us) (o + us.length) vs := by
  induction us with
  | nil => intro cs o; rfl
  | cons u us ih => intro cs o; simp only [List.cons_append, setL, ih, List.length_cons]; congr 1; omega
theorem foldl_set (vs : List Value) : ∀ (cs : Array Value) (o k : Nat), (vs.zipIdx k).foldl (fun cs (p : Value × Nat) => cs.setIfInBounds (o + p.2) p.1) cs = (setL cs.toList (o + k) vs).toArray := by
  induction vs with
  | nil => intro cs o k; simp [setL]
  | cons v vs ih =>
    intro cs o k
    rw [List.zipIdx_cons, List.foldl_cons, ih]
    simp only [setL, Array.toList_setIfInBounds]
    congr 2

theorem fill_of {ps : Nat → Option (Nat × Nat)} : ∀ (pcs : List (Nat × List Value)) (parts : List (Nat × Value)) (cs cs' : List Value), (parts.map fun p => (p.1, p.2.cells)) = pcs.map (fun p => (p.1, p.2.toArray)) → fills ps cs pcs = some cs' → Instr.fill ps cs.toArray parts = some cs'.toArray := by
  intro pcs
  induction pcs with
  | nil =>
    intro parts cs cs' h1 h2
    have : parts = [] := by cases parts <;> simp_all
    subst this
    simp [fills] at h2
    simp [Instr.fill, h2]
  | cons p pcs ih =>
    intro parts cs cs' h1 h2
    cases parts with
    | nil => simp at h1
    | cons q parts =>
      obtain ⟨i, vs⟩ := p
      obtain ⟨j, v⟩ := q
      simp only [List.map_cons, List.cons.injEq, Prod.mk.injEq] at h1
      obtain ⟨⟨rfl, hc⟩, h1⟩ := h1
      simp only [fills] at h2
      simp only [Instr.fill]
      cases hp : ps j with
      | none => rw [hp] at h2; cases h2
      | some on =>
        obtain ⟨off, n⟩ := on
        rw [hp] at h2
        simp only at h2
        split at h2
        · rename_i hk
          obtain ⟨hk1, hk2⟩ := hk
          have e1 : v.cells.size = n := by rw [hc]; simpa using hk1
          have e3 : ¬ cs.length < off + n := by omega
          simp only [e1, ne_eq, not_true_eq_false, List.size_toArray, false_or, gt_iff_lt, decide_false, e3, Bool.or_self, Bool.false_eq_true, if_false]
          have e2 : (v.cells.zipIdx.foldl (fun cs (p : Value × Nat) => cs.setIfInBounds (off + p.2) p.1) cs.toArray) = (setL cs off vs).toArray := by
            rw [← Array.foldl_toList, Array.toList_zipIdx, hc]
            simpa using foldl_set vs cs.toArray off 0
          rw [e2]
          exact ih _ _ _ h1 h2
        · cases h2

theorem parts_eq {xs : Array Operand} {a : Act} {l : Env} (e : EOn xs a l) : ∀ (parts : List (Nat × Operand)) (pcs : List (Nat × List Value)), (∀ p ∈ parts, p.2 ∈ xs) → Parts l parts pcs →
    ((parts.map fun p => (p.1, a.eval p.2)).map fun p => (p.1, p.2.cells)) = pcs.map (fun p => (p.1, p.2.toArray)) := by
  intro parts
  induction parts with
  | nil => intro pcs _ h; cases pcs with
    | nil => rfl
    | cons p r => exact h.elim
  | cons p parts ih =>
    intro pcs hx h
    cases pcs with
    | nil => exact h.elim
    | cons q pcs =>
      obtain ⟨i, x⟩ := p
      obtain ⟨j, vs⟩ := q
      obtain ⟨rfl, ⟨v, hv, hc⟩, hr⟩ := h
      simp only [List.map_cons, List.cons.injEq, Prod.mk.injEq, true_and]
      exact ⟨by rw [ev_eq e (hx (i, x) (by simp)) hv, hc], ih _ (fun p hp => hx p (by simp [hp])) hr⟩

/-- The places of a struct's fields. -/
structure Pl (P : Program) (t : TypeId) (ps : List (Nat × Nat)) : Prop where
  ok : (P.underlying t).bind (fun d => match d with | .struct fs => some (fs.toList.map fun f => (P.info? f.type).map fun i => (f.offset, i.size)) | _ => none) = some (ps.map some)

theorem run_mapM {P : Program} {w : World} {α β : Type} {f : α → Sem β} {g : α → β} : ∀ (l : List α), (∀ x ∈ l, (f x).run P w = .ok (g x) w) → (l.mapM f).run P w = .ok (l.map g) w := by
  intro l
  induction l with
  | nil => intro _; rfl
  | cons x l ih =>
    intro h
    rw [List.mapM_cons]
    simp [h x (by simp), ih (fun y hy => h y (by simp [hy]))]

section bd
variable {c : Cx} {D : List Deferred} {ops : Array Oper} {K : Act → World → Prop} {rest : List Oper} {l : Env} {h : List Own}
  {ty : TypeId} {pos : String} {af : Array Edge} {g : Option (Nat × Bool)} {dst : Option Tmp} {d : Nat}

/-- A struct out of parts. -/
theorem bd {t : TypeId} {n b : Nat} {z : List Value} {parts : List (Nat × Operand)} {ps : List (Nat × Nat)} (pcs : List (Nat × List Value)) {cs : List Value} (ht : Ty c.P t n true z b) (hp : Pl c.P t ps) (hx : Parts l parts pcs)
    (hf : fills (ps[·]?) z pcs = some cs) : OpV c ⟨dst, .build t parts.toArray, ty, pos, af, g⟩ l h (.agg cs.toArray) :=
  .of0 (fun _ => by simp) fun a w e _ => by
    have h1 := hp.ok
    cases hu : c.P.underlying t with
    | none => rw [hu] at h1; cases h1
    | some dd =>
      rw [hu] at h1
      simp only [Option.bind_some] at h1
      have hpe := parts_eq e parts pcs (fun p hp => by
        simp only [Op.operands]
        exact Array.mem_def.2 (List.mem_map.2 ⟨p, by simpa using hp, rfl⟩)) hx
      have hfill := fill_of pcs _ _ _ hpe hf
      have hmap : (parts.toArray.map fun (x : Nat × Operand) => (x.1, a.eval x.2)).toList = parts.map fun p => (p.1, a.eval p.2) := by simp
      cases dd with
      | struct fs =>
        have hm : (fs.mapM fun f => do pure (f.offset, ← sizeOf f.type) : Sem (Array (Nat × Nat))).run c.P w = .ok ps.toArray w := by
          have h2 : (fs.toList.mapM fun f => do pure (f.offset, ← sizeOf f.type) : Sem (List (Nat × Nat))).run c.P w = .ok (fs.toList.map fun f => (f.offset, c.P.cellsOf f.type)) w := by
            apply run_mapM
            intro f hf
            have h3 : (fs.toList.map fun f => (c.P.info? f.type).map fun i => (f.offset, i.size)) = ps.map some := Option.some.inj h1
            obtain ⟨i, hi⟩ : ∃ i, c.P.info? f.type = some i := by
              cases hq : c.P.info? f.type with
              | some i => exact ⟨i, rfl⟩
              | none =>
                have : (none : Option (Nat × Nat)) ∈ fs.toList.map fun f => (c.P.info? f.type).map fun i => (f.offset, i.size) := List.mem_map.2 ⟨f, hf, by rw [hq]; rfl⟩
                rw [h3] at this
                simp at this
            simp [sizeOf, run_typeInfo' hi, Program.cellsOf, hi]
          have h4 : (fs.toList.map fun f => (f.offset, c.P.cellsOf f.type)) = ps := by
            have h3 : (fs.toList.map fun f => (c.P.info? f.type).map fun i => (f.offset, i.size)) = ps.map some := Option.some.inj h1
            have h5 := congrArg (List.map fun (x : Option (Nat × Nat)) => x.getD (0, 0)) h3
            simp only [List.map_map] at h5
            have h6 : ((fun (x : Option (Nat × Nat)) => x.getD (0, 0)) ∘ some) = (id : Nat × Nat → Nat × Nat) := rfl
            rw [h6, List.map_id] at h5
            rw [← h5]
            apply List.map_congr_left
            intro f hf
            simp only [Function.comp, Program.cellsOf]
            cases hq : c.P.info? f.type with
            | some i => rfl
            | none =>
              have : (none : Option (Nat × Nat)) ∈ fs.toList.map fun f => (c.P.info? f.type).map fun i => (f.offset, i.size) := List.mem_map.2 ⟨f, hf, by rw [hq]; rfl⟩
              rw [h3] at this
              simp at this
          rw [h4] at h2
          rw [Array.mapM_eq_mapM_toList, Sem.run_map, h2]
          rfl
        have hz : (val true z).cells = z.toArray := rfl
        simp only [execOp, Instr.build, Sem.run_bind, ht.zero, Result.andThen_ok, run_und hu, hm, hz, hmap]
        have : (fun (i : Nat) => ps.toArray[i]?) = fun (i : Nat) => ps[i]? := by funext i; simp
        simp only [this, hfill]
        rfl
      | _ => cases h1

/-- A slice out of parts: a block of its own. -/
theorem run_buildSlice {P : Program} {t e' : TypeId} {n len b : Nat} {gg : Bool} {z zs cs : List Value} {parts : Array (Nat × Value)} (hu : P.underlying t = some (.slice e')) (ht : Ty P e' n gg z b) (hz : (val gg z).cells = z.toArray)
    (hl : len * n ≤ 2 ^ 24) (hzs : (List.range (len * n)).map (fun i => z.getD (i % z.length) undef) = zs) (hzl : 0 < len * n → 0 < z.length) (hf : Instr.fill (fun i => some (i * n, n)) zs.toArray parts.toList = some cs.toArray) (w : World) :
    (Instr.buildSlice t len parts).run P w = .ok (.slice (some ⟨w.heap.size, 0, none⟩) len len) (w.alloc (.cells cs.toArray e')) := by
  unfold Instr.buildSlice
  have hl' : ¬ len * n > 2 ^ 24 := by omega
  simp only [Sem.run_bind, run_und hu, Result.andThen_ok, ht.size, hl', if_false, Sem.run_pure]
  by_cases h0 : len * n = 0
  · simp only [h0, if_true, Sem.run_pure, Result.andThen_ok]
    have : zs = [] := by rw [← hzs, h0]; rfl
    subst this
    have e1 : (Array.range 0).map (fun i => (#[] : Array Value)[i % (#[] : Array Value).size]!) = ([] : List Value).toArray := by simp
    simp only [pure_bind, e1, hf]
    rfl
  · simp only [h0, if_false, Sem.run_bind, ht.zero, Result.andThen_ok, Sem.run_pure, hz]
    have e1 : (Array.range (len * n)).map (fun i => z.toArray[i % z.toArray.size]!) = zs.toArray := by
      rw [← hzs]
      apply Array.ext'
      simp only [Array.toList_map, Array.toList_range, List.size_toArray]
      apply List.map_congr_left
      intro i hi
      have hz0 := hzl (by omega)
      have : i % z.length < z.length := Nat.mod_lt _ hz0
      simp [List.getD_eq_getElem?_getD, this]
    simp only [e1, hf]
    rfl

theorem bs {t e' : TypeId} {n len b : Nat} {gg : Bool} {z : List Value} (zs : List Value) {parts : List (Nat × Operand)} (pcs : List (Nat × List Value)) {cs : List Value} (hu : c.P.underlying t = some (.slice e')) (ht : Ty c.P e' n gg z b) (hz : (val gg z).cells = z.toArray)
    (hl : Nat.ble (len * n) 16777216 = true) (hzs : (List.range (len * n)).map (fun i => z.getD (i % z.length) undef) = zs) (hzl : Nat.blt 0 z.length = true) (hx : Parts l parts pcs) (hf : fills (fun i => some (i * n, n)) zs pcs = some cs)
    (hd : Nat.blt d c.N = true) (k : ∀ b, GL c D ops K rest ((d, .slice (some ⟨b, 0, none⟩) len len) :: l) ([(b, .cells cs.toArray e' (0, 0))] :: h)) : GL c D ops K (⟨some d, .buildSlice t len parts.toArray, ty, pos, af, none⟩ :: rest) l h :=
  GL.new (v := fun b => .slice (some ⟨b, 0, none⟩) len len) (by simp) (fun a w e _ => by
    have hpe := parts_eq e parts pcs (fun p hp => by
      simp only [Op.operands]
      exact Array.mem_def.2 (List.mem_map.2 ⟨p, by simpa using hp, rfl⟩)) hx
    have hfill := fill_of pcs _ _ _ hpe hf
    have hmap : (parts.toArray.map fun (x : Nat × Operand) => (x.1, a.eval x.2)).toList = parts.map fun p => (p.1, a.eval p.2) := by simp
    have := run_buildSlice (P := c.P) (parts := parts.toArray.map fun (x : Nat × Operand) => (x.1, a.eval x.2)) hu ht hz (by simpa using hl) hzs (fun _ => by simpa using hzl) (by rw [hmap]; exact hfill) w
    simp only [execOp, Sem.run_bind, this, Result.andThen_ok]
    rfl) hd k

/-! ### append -/
/-- v is a slice of one's own: the item o is its block, cells are those up to its length. -/
def OS (o : Own) (e sz : Nat) (v : Value) (cells : List Value) : Prop :=
  (v = .slice none 0 0 ∧ cells = [] ∧ o = []) ∨
    ∃ k n cap cs, v = .slice (some ⟨k, 0, none⟩) n cap ∧ o = [(k, .cells (List.toArray cs) e (0, 0))] ∧ cap * sz ≤ cs.length ∧ cells = cs.take (n * sz) ∧ n ≤ cap ∧ (cells.all flat = true)
theorem OS.nil (e sz : Nat) : OS [] e sz (.slice none 0 0) [] := .inl ⟨rfl, rfl, rfl⟩
theorem OS.whole {k e sz n : Nat} {cs : List Value} (h : cs.length = n * sz) (hf : cs.all flat = true) : OS [(k, .cells cs.toArray e (0, 0))] e sz (.slice (some ⟨k, 0, none⟩) n n) cs :=
  .inr ⟨k, n, n, cs, rfl, rfl, Nat.le_of_eq h.symm, by rw [List.take_of_length_le (by omega)], Nat.le_refl _, hf⟩

/-- What is appended: m elements, whose cells are ys. -/
def Src (M : Mem) (sz : Nat) (x : Value) (m : Nat) (ys : List Value) : Prop :=
  ∃ A cp, x = .slice A m cp ∧ ys.length = m * sz ∧ (0 < m * sz → ∃ a, A = some a ∧ CellsAt M a ys)

theorem nextslicecap_le (need old : Nat) (h : old < need) : Builtin.nextslicecap need old ≤ 2 * need + 512 := by
  have grow : ∀ (r c : Nat), c ≤ 2 * need + 512 → (c < need → c + (c + 768) / 4 ≤ 2 * need + 512) → Builtin.growBy need r c ≤ 2 * need + 512 := by
    intro r
    induction r with
    | zero => intro c hc _; exact hc
    | succ r ih =>
      intro c hc h2
      simp only [Builtin.growBy]
      split
      · exact hc
      · rename_i hlt
        exact ih _ (h2 (by omega)) (fun h3 => by omega)
  unfold Builtin.nextslicecap
  split
  · omega
  · split
    · omega
    · exact grow 4 old (by omega) (fun _ => by omega)

theorem run_firstCells {P : Program} {M : Mem} {w : World} (hM : MLe M (Wm w)) {sz m : Nat} {x : Value} {ys : List Value} (h : Src M sz x m ys) : (Builtin.firstCells sz m x).run P w = .ok ys.toArray w := by
  obtain ⟨A, cp, rfl, hl, ha⟩ := h
  by_cases h0 : 0 < m * sz
  · obtain ⟨a, rfl, hc⟩ := ha h0
    simp only [Builtin.firstCells, loadCells]
    rw [run_loadCellsFrom hM hc (m * sz) 0 #[] (by omega)]
    simp [← hl]
  · have : ys = [] := List.eq_nil_of_length_eq_zero (by omega)
    subst this
    cases A with
    | none => rfl
    | some a => simp [Builtin.firstCells, loadCells, show m * sz = 0 by omega, loadCellsFrom]

theorem flat_all {ys : List Value} (h : ys.all flat = true) : ∀ v ∈ ys, flat v = true := fun v hv => List.all_eq_true.1 h v hv

theorem app_idx {α : Type} (a b : α) : (#[a, b] : Array α)[0]? = some a ∧ (#[a, b] : Array α)[1]? = some b := ⟨rfl, rfl⟩

theorem run_append_room {P : Program} {t t2 e' e2 : TypeId} {sz b : Nat} {gg : Bool} {z : List Value} {k n cap m cp : Nat} {B : Option Addr} (hu : P.underlying t = some (.slice e')) (h2 : P.underlying t2 = some (.slice e2)) (ht : Ty P e' sz gg z b) (w w' : World) (ty : TypeId) {ys : List Value}
    (hroom : n + m ≤ cap) (hy : (Builtin.firstCells sz m (.slice B m cp)).run P w = .ok ys.toArray w) (hs : (storeCells ⟨k, n * sz, none⟩ ys).run P w = .ok () w') :
    (Builtin.append_ #[t, t2] ty #[.slice (some ⟨k, 0, none⟩) n cap, .slice B m cp]).run P w = .ok (.slice (some ⟨k, 0, none⟩) (n + m) cap) w' := by
  unfold Builtin.append_
  simp only [(app_idx _ _).1, (app_idx _ _).2, Sem.run_bind, run_und hu, Result.andThen_ok, ht.size, run_und h2, Sem.run_pure]
  simp only [Bool.false_eq_true, if_false, Bool.not_false, if_true, Builtin.lenOf, pure_bind, hroom, Sem.run_bind, hy, Result.andThen_ok, add_mk, Nat.zero_add, hs, Sem.run_pure]

theorem run_append_none {P : Program} {t t2 e' e2 : TypeId} {sz b : Nat} {gg : Bool} {z : List Value} {cp : Nat} {B : Option Addr} (hu : P.underlying t = some (.slice e')) (h2 : P.underlying t2 = some (.slice e2)) (ht : Ty P e' sz gg z b) (w : World) (ty : TypeId) {ys : List Value}
    (hy : (Builtin.firstCells sz 0 (.slice B 0 cp)).run P w = .ok ys.toArray w) :
    (Builtin.append_ #[t, t2] ty #[.slice none 0 0, .slice B 0 cp]).run P w = .ok (.slice none 0 0) w := by
  unfold Builtin.append_
  simp only [(app_idx _ _).1, (app_idx _ _).2, Sem.run_bind, run_und hu, Result.andThen_ok, ht.size, run_und h2, Sem.run_pure]
  simp only [Bool.false_eq_true, if_false, Bool.not_false, if_true, Builtin.lenOf, pure_bind, Nat.add_zero, Nat.le_refl, Sem.run_bind, hy, Result.andThen_ok, Sem.run_pure]

theorem run_append_grow {P : Program} {t t2 e' e2 : TypeId} {sz b : Nat} {gg : Bool} {z : List Value} {A : Option Addr} {n cap m cp : Nat} {B : Option Addr} (hu : P.underlying t = some (.slice e')) (h2 : P.underlying t2 = some (.slice e2)) (ht : Ty P e' sz gg z b) (w : World) (ty : TypeId) {xs ys : List Value}
    (hroom : ¬ n + m ≤ cap) (hb : n + m ≤ 4294967296) (hb2 : Nat.ble b 4096 = true) (hx : ∀ w', w'.heap = w.heap → (Builtin.firstCells sz n (.slice A n cap)).run P w' = .ok xs.toArray w') (hy : ∀ w', w'.heap = w.heap → (Builtin.firstCells sz m (.slice B m cp)).run P w' = .ok ys.toArray w') :
    ∃ nc dr, n + m ≤ nc ∧ (Builtin.append_ #[t, t2] ty #[.slice A n cap, .slice B m cp]).run P w =
      .ok (.slice (some ⟨w.heap.size, 0, none⟩) (n + m) nc) (({ w with drawn := dr } : World).alloc (.cells (xs.toArray ++ ys.toArray ++ Builtin.zeroCells (val gg z).cells (nc - (n + m))) e')) := by
  have hb2' : b ≤ 4096 := by simpa using hb2
  have hcap := nextslicecap_le (n + m) cap (by omega)
  have h3 : ¬ (((n + m : Nat) : Int) > IntKind.i64.max) := by
    have : IntKind.i64.max = 9223372036854775807 := by decide
    rw [this]; omega
  have h4 : ¬ Builtin.nextslicecap (n + m) cap * b > 2 ^ 48 := by
    have : Builtin.nextslicecap (n + m) cap * b ≤ (2 * 4294967296 + 512) * 4096 := Nat.mul_le_mul (by omega) hb2'
    omega
  let nc := (Question.appendCap (n + m) cap e').cut (w.tape w.drawn (.appendCap (n + m) cap e'))
  refine ⟨nc, w.drawn + 1, Nat.le_add_right _ _, ?_⟩
  unfold Builtin.append_
  obtain ⟨i, hi, hi1, hi2, hi3⟩ := ht.i
  simp only [(app_idx _ _).1, (app_idx _ _).2, Sem.run_bind, run_und hu, Result.andThen_ok, ht.size, run_und h2, Sem.run_pure]
  simp only [Bool.false_eq_true, if_false, Bool.not_false, if_true, Builtin.lenOf, pure_bind, hroom, Sem.run_bind, run_typeInfo' hi, Result.andThen_ok, h3, false_and, hi3, h4]
  have hch : (choose (.appendCap (n + m) cap e')).run P w = .ok nc { w with drawn := w.drawn + 1 } := by
    simp [choose, Sem.run, Question.forced, nc]
  simp only [hch, Result.andThen_ok]
  have hroom2 : (askRoom (nc * b)).run P { w with drawn := w.drawn + 1 } = .ok () { w with drawn := w.drawn + 1 } := by
    unfold askRoom; split <;> rfl
  simp only [hroom2, Result.andThen_ok, hx { w with drawn := w.drawn + 1 } rfl, hy { w with drawn := w.drawn + 1 } rfl, ht.zero, run_newRow, Sem.run_pure]

theorem take_setL {cs ys : List Value} {o : Nat} (h : o + ys.length ≤ cs.length) : (setL cs o ys).take (o + ys.length) = cs.take o ++ ys := by
  have e : cs = cs.take o ++ ((cs.drop o).take ys.length ++ (cs.drop o).drop ys.length) := by rw [List.take_append_drop, List.take_append_drop]
  have h1 : (cs.take o).length = o := by rw [List.length_take]; omega
  have := setL_whole ys ((cs.drop o).take ys.length) (cs.take o) ((cs.drop o).drop ys.length) (by simp; omega)
  rw [h1, ← e] at this
  rw [this, ← List.append_assoc, List.take_left' (by simp; omega)]

theorem HS.drawn {w : World} (s : HS c h w) (n : Nat) : HS c h { w with drawn := n } := ⟨⟨s.chg.os, s.chg.tape, s.chg.out, s.chg.size, s.chg.frame, s.chg.own, s.chg.new, s.chg.nd⟩, s.mro⟩

theorem Src.mono {M M' : Mem} (hM : MLe M M') {sz m : Nat} {x : Value} {ys : List Value} (s : Src M sz x m ys) : Src M' sz x m ys := by
  obtain ⟨A, cp, h1, h2, h3⟩ := s
  exact ⟨A, cp, h1, h2, fun h0 => let ⟨a, h4, h5⟩ := h3 h0; ⟨a, h4, h5.mono hM⟩⟩

/-- append onto a slice of one's own, which is the item at the front. -/
theorem ap {x y : Operand} {t t2 e' e2 : TypeId} {sz b m : Nat} {gg : Bool} {z : List Value} {V Y : Value} {o : Own} {cells ys : List Value} (hu : c.P.underlying t = some (.slice e')) (h2 : c.P.underlying t2 = some (.slice e2)) (ht : Ty c.P e' sz gg z b)
    (hz : (val gg z).cells = z.toArray) (hzl : Nat.beq z.length sz = true) (hsz : Nat.blt 0 sz = true) (hb : Nat.ble b 4096 = true)
    (hx : ev l x = some V) (hy : ev l y = some Y) (hO : OS o e' sz V cells) (hS : Src (Hm c.M (o :: h)) sz Y m ys) (hf : ys.all flat = true) (hn : cells.length + ys.length ≤ 4294967296) (hd : Nat.blt d c.N = true)
    (k : ∀ v' o', OS o' e' sz v' (cells ++ ys) → GL c D ops K rest ((d, v') :: l) (o' :: h)) :
    GL c D ops K (⟨some d, .call { callee := .builtin .append, args := #[x, y], argTypes := #[t, t2] }, ty, pos, af, none⟩ :: rest) l (o :: h) := by
  intro a w e s
  simp only [wpL, wanted_none, if_true]
  have hsz' : 0 < sz := by simpa using hsz
  have hM : MLe (Hm c.M (o :: h)) (Wm w) := (HS.nil_app s).le
  have hS0 := hS
  obtain ⟨B, cp, rfl, hyl, -⟩ := hS
  have run : ∀ {v' : Value} {w' : World}, (Builtin.append_ #[t, t2] ty #[V, .slice B m cp]).run c.P w = .ok v' w' →
      (execOp a.eval ⟨some d, .call { callee := .builtin .append, args := #[x, y], argTypes := #[t, t2] }, ty, pos, af, none⟩).run c.P w = .ok (.value v') w' := by
    intro v' w' hr
    have h1 := ev_eq (e.on _) (x := x) (xs := (Op.call { callee := .builtin .append, args := #[x, y], argTypes := #[t, t2] }).operands) (by simp [Op.operands, Call.operands]) hx
    have h3 := ev_eq (e.on _) (x := y) (xs := (Op.call { callee := .builtin .append, args := #[x, y], argTypes := #[t, t2] }).operands) (by simp [Op.operands, Call.operands]) hy
    simp [execOp, resolve, invoke, builtin, h1, h3, hr]
  have hm : m ≤ 4294967296 := by
    have : m * 1 ≤ m * sz := Nat.mul_le_mul_left m hsz'
    omega
  have growT : ∀ {A : Option Addr} {n cap : Nat} {xs : List Value}, V = .slice A n cap → ¬ n + m ≤ cap → n + m ≤ 4294967296 → xs = cells → xs.length = n * sz → cells.all flat = true →
      (∀ w', w'.heap = w.heap → (Builtin.firstCells sz n (.slice A n cap)).run c.P w' = .ok xs.toArray w') → opW c ⟨some d, .call { callee := .builtin .append, args := #[x, y], argTypes := #[t, t2] }, ty, pos, af, none⟩ (wpL c ops K rest) a w := by
    intro A n cap xs hV hroom hnm hxs hxl hcf hfirst
    subst hV hxs
    have hyr : ∀ w', w'.heap = w.heap → (Builtin.firstCells sz m (.slice B m cp)).run c.P w' = .ok ys.toArray w' := fun w' hw' => by
      refine run_firstCells (M := Hm c.M (o :: h)) (fun k ob hk => ?_) hS0
      show w'.heap[k]? = some ob
      rw [hw']; exact hM k ob hk
    obtain ⟨nc, dr, hnc, hr⟩ := run_append_grow hu h2 ht w ty hroom hnm hb hfirst hyr
    refine opW.of (by simp) (run hr) (fun _ _ q => by cases q) ?_
    have hsize : z.length = sz := Nat.eq_of_beq_eq_true hzl
    refine k _ [(w.heap.size, .cells (xs ++ ys ++ (Builtin.zeroCells z.toArray (nc - (n + m))).toList).toArray e' (0, 0))] ?_ _ _ (e.put hd _) ?_
    · refine .inr ⟨w.heap.size, n + m, nc, _, rfl, rfl, ?_, ?_, hnc, ?_⟩
      · refine Nat.le_of_eq (Eq.symm ?_)
        simp only [List.length_append, hxl, hyl, Builtin.zeroCells, Array.length_toList, Array.size_map, Array.size_range, List.size_toArray, hsize]
        rw [← Nat.add_mul, ← Nat.add_mul]; congr 1; omega
      · rw [List.take_left' (by simp [hxl, hyl, Nat.add_mul])]
      · rw [List.all_append, hcf, hf]; rfl
    · have s1 : HS c h w := s.dropIt (by simp)
      have := (s1.drawn dr).alloc (.cells (xs ++ ys ++ (Builtin.zeroCells z.toArray (nc - (n + m))).toList).toArray e' (0, 0))
      rw [hz]
      have e1 : xs.toArray ++ ys.toArray ++ Builtin.zeroCells z.toArray (nc - (n + m)) = (xs ++ ys ++ (Builtin.zeroCells z.toArray (nc - (n + m))).toList).toArray := by
        apply Array.ext'; simp
      rw [e1]
      exact this
  rcases hO with ⟨rfl, rfl, rfl⟩ | ⟨kk, n, cap, cs, rfl, rfl, hcl, rfl, hncap, hcf⟩
  · by_cases h0 : m = 0
    · subst h0
      have hys : ys = [] := List.eq_nil_of_length_eq_zero (by simpa using hyl)
      subst hys
      have hr := run_append_none (cp := cp) (B := B) hu h2 ht w ty (run_firstCells hM hS0)
      refine opW.of (by simp) (run hr) (fun _ _ q => by cases q) ?_
      exact k _ [] (.inl ⟨rfl, rfl, rfl⟩) _ _ (e.put hd _) s
    · exact growT rfl (by omega) (by omega) rfl (by simp) rfl (fun w' _ => rfl)
  · have hnl : (cs.take (n * sz)).length = n * sz := by
      rw [List.length_take]
      have : n * sz ≤ cap * sz := Nat.mul_le_mul_right sz hncap
      omega
    have hn' : n ≤ 4294967296 := by
      have : n * 1 ≤ n * sz := Nat.mul_le_mul_left n hsz'
      omega
    have hnm : n + m ≤ 4294967296 := by
      have : (n + m) * 1 ≤ (n + m) * sz := Nat.mul_le_mul_left (n + m) hsz'
      have h5 : (n + m) * sz = n * sz + m * sz := Nat.add_mul n m sz
      omega
    by_cases hroom : n + m ≤ cap
    · have hle : (n + m) * sz ≤ cap * sz := Nat.mul_le_mul_right sz hroom
      rw [Nat.add_mul] at hle
      obtain ⟨w', r, a1, a2, a3, a4, a5, a6⟩ := run_storeCells (P := c.P) ys w (n * sz) 0 cs (s.chg.own (kk, .cells cs.toArray e' (0, 0)) (by simp)) (by omega) (flat_all hf)
      have hr := run_append_room hu h2 ht w w' ty hroom (run_firstCells hM hS0) r
      refine opW.of (by simp) (run hr) (fun _ _ q => by cases q) ?_
      rw [Nat.add_zero] at a6
      refine k _ [(kk, .cells (setL cs (n * sz) ys).toArray e' (0, 0))] (.inr ⟨kk, n + m, cap, _, rfl, rfl, by rw [setL_length]; exact hcl, ?_, hroom, by rw [List.all_append, hcf, hf]; rfl⟩) _ _ (e.put hd _) (s.set a1 a2 a3 a4 a5 a6)
      rw [Nat.add_mul, ← hyl]
      exact (take_setL (by omega)).symm
    · refine growT rfl hroom hnm rfl hnl hcf fun w' hw' => ?_
      have hsrc : Src (Hm c.M ([(kk, .cells cs.toArray e' (0, 0))] :: h)) sz (.slice (some ⟨kk, 0, none⟩) n cap) n (cs.take (n * sz)) :=
        ⟨_, _, rfl, hnl, fun _ => ⟨_, rfl, atI fun i v hv => by
          rw [List.getElem?_take] at hv
          split at hv
          · simpa using hv
          · cases hv⟩⟩
      refine run_firstCells (M := Hm c.M ([(kk, .cells cs.toArray e' (0, 0))] :: h)) (fun q ob hq => ?_) hsrc
      show w'.heap[q]? = some ob
      rw [hw']; exact hM q ob hq

end bd

/-! ### == of structs, of arrays of whole numbers -/
def eqFs (d : Nat) (xs ys : Array Value) : List (TypeId × Nat) → Sem Bool
  | [] => pure true
  | (t, o) :: r => do
    if !(← Op.equalIn d t (← part t xs o) (← part t ys o)) then return false
    eqFs d xs ys r

structure EqF (P : Program) (t : TypeId) (fs : List (TypeId × Nat)) : Prop where
  std : P.stoodInHeld t = false
  fs : ((P.underlying t).bind fun d => match d with | .struct fs => some (fs.toList.map fun f => (f.name == "_", f.type, f.offset)) | _ => none) = some (fs.map fun p => (false, p.1, p.2))

theorem run_eqF {P : Program} {t : TypeId} {fs : List (TypeId × Nat)} (h : EqF P t fs) (d : Nat) (xs ys : Array Value) (w : World) : (Op.equalIn (d + 1) t (.agg xs) (.agg ys)).run P w = (eqFs d xs ys fs).run P w := by
  have h1 := h.fs
  cases hu : P.underlying t with
  | none => rw [hu] at h1; cases h1
  | some dd =>
    rw [hu] at h1
    cases dd with
    | struct F =>
      have h2 : (F.toList.map fun f => (f.name == "_", f.type, f.offset)) = fs.map fun p => (false, p.1, p.2) := Option.some.inj h1
      have hf : P.fieldsOf t = F := by simp [Program.fieldsOf, hu]
      rw [run_equalIn_struct w d t xs ys (by rw [hf, hu]) h.std, hf]
      generalize F.toList = l at h2
      clear hu hf h1 h
      induction l generalizing fs w with
      | nil =>
        have : fs = [] := by cases fs <;> simp_all
        subst this; rfl
      | cons f l ih =>
        cases fs with
        | nil => simp at h2
        | cons p fs =>
          simp only [List.map_cons, List.cons.injEq, Prod.mk.injEq] at h2
          obtain ⟨⟨e1, e2, e3⟩, h2⟩ := h2
          have hn : f.name ≠ "_" := by simpa using e1
          simp only [Op.eqFields, eqFs, Sem.run_bind, ← e2, ← e3, Sem.run_ite]
          rw [if_pos hn]
          generalize (part f.type xs f.offset).run P w = r1
          cases r1 with
          | ok a w1 =>
            simp only [Result.andThen_ok]
            generalize (part f.type ys f.offset).run P w1 = r2
            cases r2 with
            | ok b w2 =>
              simp only [Result.andThen_ok]
              generalize (Op.equalIn d f.type a b).run P w2 = r3
              cases r3 with
              | ok r w3 =>
                cases r
                · simp
                · simp [ih w3 h2]
              | halt x w3 => simp [Result.andThen]
            | halt x w2 => simp [Result.andThen]
          | halt x w1 => simp [Result.andThen]
    | _ => cases h1

theorem rowOf_get (f : Nat → Int) {i : Nat} (hi : i < 17) : (rowOf f).toArray[i]? = some (.int .i64 (f i)) := by simp [rowOf, hi]

theorem run_eqRow {P : Program} {t e' : TypeId} {b d : Nat} {z : List Value} {k : IntKind} (hu : P.underlying t = some (.array 17 e')) (hT : Ty P e' 1 false z b) (hI : P.underlying e' = some (.int k)) (f g : Nat → Int) (w : World) :
    (Op.equalIn (d + 2) t (.agg (rowOf f).toArray) (.agg (rowOf g).toArray)).run P w = .ok ((List.range 17).all fun s => f s == g s) w := by
  rw [Op.equalIn]
  simp only [Sem.run_bind, run_und hu, Result.andThen_ok, hT.size]
  simp only [Std.Legacy.Range.forIn_eq_forIn_range', Nat.mul_one]
  have key : ∀ (n o : Nat), o + n = 17 → (forIn (m := Sem) (List.range' o n) ((none, ()) : Option Bool × Unit) fun i _ => do
      if !(← Op.equalIn (d + 1) e' (← part e' (rowOf f).toArray i) (← part e' (rowOf g).toArray i)) then pure (ForInStep.done (some false, ())) else pure (ForInStep.yield (none, ()))).run P w =
        .ok (if (List.range' o n).all (fun s => f s == g s) then none else some false, ()) w := by
    intro n
    induction n with
    | zero => intro o _; rfl
    | succ n ih =>
      intro o ho
      rw [List.range'_succ, List.forIn_cons]
      have hp : ∀ (q : Nat → Int), (part e' (rowOf q).toArray o).run P w = .ok (.int .i64 (q o)) w := fun q => by
        simp [part, hT.isAgg, rowOf_get q (show o < 17 by omega)]
      simp only [Sem.run_bind, hp, Result.andThen_ok, run_equalIn_int w d e' .i64 k (f o) (g o) hI]
      cases hq : (f o == g o) with
      | false => simp [List.all_cons, hq]
      | true => simp only [Bool.not_true, Bool.false_eq_true, if_false, Sem.run_pure, Result.andThen_ok, List.all_cons, hq, Bool.true_and]; exact ih (o + 1) (by omega)
  have := key 17 0 rfl
  simp only [Std.Legacy.Range.size] at this ⊢
  rw [show (17 - 0 + 1 - 1) / 1 = 17 from rfl]
  rw [this]
  simp only [Result.andThen_ok]
  rw [show List.range' 0 17 = List.range 17 from rfl]
  cases (List.range 17).all (fun s => f s == g s) <;> rfl

section eqs
variable {c : Cx} {l : Env} {h : List Own} {ty : TypeId} {pos : String} {af : Array Edge} {g : Option (Nat × Bool)} {dst : Option Tmp}
theorem eqs {x y : Operand} {t t' : TypeId} {xs ys : Array Value} {r : Bool} (hx : ev l x = some (.agg xs)) (hy : ev l y = some (.agg ys)) (hG : c.P.eqGuardType c.P.depth t = false)
    (hE : ∀ w, (Op.equalIn 10000 t (.agg xs) (.agg ys)).run c.P w = .ok r w) : OpV c ⟨dst, .binOp .eql t x y t', ty, pos, af, g⟩ l h (.bool r) :=
  .of0 (fun _ => by simp) fun a w e _ => by
    simp only [execOp, ev_eq e (x := x) (by simp [Op.operands]) hx, ev_eq e (x := y) (by simp [Op.operands]) hy, Sem.run_bind, run_eqGuard_agg w _ t _ _ _ _ hG, Result.andThen_ok, run_eql_struct, hE, Sem.run_pure]
theorem nes {x y : Operand} {t t' : TypeId} {xs ys : Array Value} {r : Bool} (hx : ev l x = some (.agg xs)) (hy : ev l y = some (.agg ys)) (hG : c.P.eqGuardType c.P.depth t = false)
    (hE : ∀ w, (Op.equalIn 10000 t (.agg xs) (.agg ys)).run c.P w = .ok r w) : OpV c ⟨dst, .binOp .neq t x y t', ty, pos, af, g⟩ l h (.bool !r) :=
  .of0 (fun _ => by simp) fun a w e _ => by
    simp only [execOp, ev_eq e (x := x) (by simp [Op.operands]) hx, ev_eq e (x := y) (by simp [Op.operands]) hy, Sem.run_bind, run_eqGuard_agg w _ t _ _ _ _ hG, Result.andThen_ok, run_neq_struct, hE, Sem.run_pure]
end eqs

/-- A block of one's own as what is appended. -/
theorem srcI {b e sz m cp : Nat} {fz : Nat × Nat} {ys : List Value} (h : ys.length = m * sz) : Src (Im [(b, .cells ys.toArray e fz)]) sz (.slice (some ⟨b, 0, none⟩) m cp) m ys :=
  ⟨_, _, rfl, h, fun _ => ⟨_, rfl, rfl, ys.toArray, e, fz, by simp [Im], fun i v hv => by simpa using hv⟩⟩

/-- What a slice of one's own reads as: elements of sz cells, by enc. -/
theorem flatMap_get {α : Type} {enc : α → List Value} {sz : Nat} (he : ∀ x, (enc x).length = sz) : ∀ (xs : List α) (i : Nat) (x : α), xs[i]? = some x → ∀ j v, (enc x)[j]? = some v → (xs.flatMap enc)[i * sz + j]? = some v := by
  intro xs
  induction xs with
  | nil => intro i x h; simp at h
  | cons y xs ih =>
    intro i x h j v hv
    rw [List.flatMap_cons]
    cases i with
    | zero =>
      simp only [List.getElem?_cons_zero, Option.some.injEq] at h
      subst h
      rw [Nat.zero_mul, Nat.zero_add, List.getElem?_append_left (List.getElem?_eq_some_iff.1 hv).1]
      exact hv
    | succ i =>
      have := ih i x (by simpa using h) j v hv
      rw [List.getElem?_append_right (by rw [he, Nat.succ_mul]; omega), he, show (i + 1) * sz + j - sz = i * sz + j by rw [Nat.succ_mul]; omega]
      exact this
theorem flatMap_length {α : Type} {enc : α → List Value} {sz : Nat} (he : ∀ x, (enc x).length = sz) (xs : List α) : (xs.flatMap enc).length = xs.length * sz := by
  induction xs with
  | nil => simp
  | cons x xs ih => rw [List.flatMap_cons, List.length_append, he, ih, List.length_cons, Nat.succ_mul]; omega

theorem OS.sl {α : Type} {R : Mem → List Value → α → Prop} {o : Own} {e sz : Nat} {V : Value} {xs : List α} {enc : α → List Value} (h : OS o e sz V (xs.flatMap enc)) (hsz : 0 < sz) (he : ∀ x, (enc x).length = sz) (hb : xs.length ≤ 1152921504606846975)
    (hR : ∀ x ∈ xs, R (Im o) (enc x) x) : Sl (Im o) sz R V xs := by
  rcases h with ⟨rfl, h2, rfl⟩ | ⟨k, n, cap, cs, rfl, rfl, h3, h4, h5, _⟩
  · have : xs = [] := by
      cases xs with
      | nil => rfl
      | cons x xs =>
        have := congrArg List.length h2
        rw [flatMap_length he, List.length_nil, List.length_cons, Nat.succ_mul] at this
        omega
    subst this; exact .nil
  · have hl := congrArg List.length h4
    rw [flatMap_length he, List.length_take] at hl
    have hle : n * sz ≤ cap * sz := Nat.mul_le_mul_right sz h5
    have hn : xs.length = n := by
      have : xs.length * sz = n * sz := by omega
      exact Nat.eq_of_mul_eq_mul_right hsz this
    subst hn
    refine ⟨_, cap, rfl, ⟨h5, hb⟩, fun _ => ⟨k, 0, rfl, fun i x hx => ⟨enc x, ⟨rfl, cs.toArray, e, (0, 0), by simp [Im], fun j v hv => ?_⟩, he x, hR x (List.mem_of_getElem? hx)⟩⟩⟩
    have := flatMap_get he xs i x hx j v hv
    rw [h4, List.getElem?_take] at this
    split at this
    · simpa using this
    · cases this
theorem OS.len {α : Type} {o : Own} {e sz : Nat} {V : Value} {xs : List α} {enc : α → List Value} (h : OS o e sz V (xs.flatMap enc)) (hsz : 0 < sz) (he : ∀ x, (enc x).length = sz) : ∃ A cp, V = .slice A xs.length cp ∧ xs.length ≤ cp := by
  rcases h with ⟨rfl, h2, rfl⟩ | ⟨k, n, cap, cs, rfl, rfl, h3, h4, h5, _⟩
  · have := congrArg List.length h2
    rw [flatMap_length he, List.length_nil] at this
    have : xs.length = 0 := by
      rcases Nat.eq_zero_or_pos xs.length with h | h
      · exact h
      · have := Nat.mul_pos h hsz; omega
    exact ⟨none, 0, by rw [this], by omega⟩
  · have hl := congrArg List.length h4
    rw [flatMap_length he, List.length_take] at hl
    have hle : n * sz ≤ cap * sz := Nat.mul_le_mul_right sz h5
    have hn : xs.length = n := by
      have : xs.length * sz = n * sz := by omega
      exact Nat.eq_of_mul_eq_mul_right hsz this
    exact ⟨_, cap, by rw [hn], by omega⟩
theorem flatMap_snoc {α β : Type} (f : α → List β) (xs : List α) (x : α) : (xs ++ [x]).flatMap f = xs.flatMap f ++ f x := by simp
theorem OS.cast {o : Own} {e sz : Nat} {V : Value} {a b : List Value} (h : OS o e sz V a) (hab : a = b) : OS o e sz V b := hab ▸ h
section ni
variable {c : Cx} {D : List Deferred} {Q : Exit → Act → World → Prop} {l : Env} {code : Code} {h : List Own}
theorem niC (k : G c D code Q l ([] :: h)) : G c D code Q l h := fun a w e s => k a w e ⟨by simpa using s.chg, s.mro⟩
end ni
end Go.W
/- Maps: as lists of keys and values. No program is named here. -/
namespace Go.W
open Go

/-! ### Keys -/
/-- The place of the first key that is x. -/
def findIx {κ : Type} [DecidableEq κ] (x : κ) : List κ → Option Nat
  | [] => none
  | k :: r => if k = x then some 0 else (findIx x r).map (· + 1)

structure KeyT {κ : Type} [DecidableEq κ] (P : Program) (kt : TypeId) (enc : κ → Value) : Prop where
  chk : ∀ (b : Bool) (x : κ) (w : World), (Instr.checkKey b 10000 kt (enc x)).run P w = .ok () w
  fnd : ∀ (es : List MapEntry) (ks : List κ) (x : κ) (w : World), es.map (·.key) = ks.map enc → (Instr.findKey kt (enc x) es).run P w = .ok ((findIx x ks).bind fun i => (es[i]?).map fun e => (i, e.val)) w
  bits : ∀ x : κ, Instr.sameBits 10000 (enc x) (enc x) = true

/-- Keys of the kind int. -/
theorem keyInt {P : Program} {kt : TypeId} {k : IntKind} (hu : P.underlying kt = some (.int k)) : KeyT P kt (fun n : Int => .int k n) where
  chk b x w := by rw [Instr.checkKey]; simp [run_und hu]
  fnd es ks x w h := by
    have key : ∀ (es : List MapEntry) (ks : List Int) (j : Nat), es.map (·.key) = ks.map (fun n : Int => Value.int k n) → Instr.findNow (.int k) (.int k x) es j = some ((findIx x ks).bind fun i => (es[i]?).map fun e => (j + i, e.val)) := by
      intro es
      induction es with
      | nil => intro ks j h; have : ks = [] := by cases ks <;> simp_all
               subst this; rfl
      | cons e es ih =>
        intro ks j h
        cases ks with
        | nil => simp at h
        | cons n ks =>
          simp only [List.map_cons, List.cons.injEq] at h
          obtain ⟨h1, h2⟩ := h
          simp only [Instr.findNow, Instr.sameNow, h1, if_true, findIx]
          by_cases hx : n = x
          · subst hx; simp
          · have hx' : (x == n) = false := by rw [beq_eq_false_iff_ne]; exact fun q => hx q.symm
            simp only [hx', hx, if_false]
            rw [ih ks (j + 1) h2]
            cases hq : findIx x ks with
            | none => rfl
            | some i => simp only [Option.map_some, Option.bind_some, List.getElem?_cons_succ, Nat.add_assoc, Nat.add_comm 1]
    unfold Instr.findKey
    simp only [Sem.run_bind, run_und hu, Result.andThen_ok, key es ks 0 h, Nat.zero_add, Sem.run_pure]
  bits x := by simp [Instr.sameBits]

/-- Keys that are structs of two ints. -/
theorem keyPair {κ : Type} [DecidableEq κ] {P : Program} {kt t1 t2 : TypeId} {n1 n2 : List Value} {b1 b2 : Nat} (e1 e2 : κ → Int) (hinj : ∀ x y : κ, e1 x = e1 y → e2 x = e2 y → x = y) (hF : EqF P kt [(t1, 0), (t2, 1)]) (hu1 : P.underlying t1 = some (.int .i64)) (hu2 : P.underlying t2 = some (.int .i64))
    (hT1 : Ty P t1 1 false n1 b1) (hT2 : Ty P t2 1 false n2 b2) : KeyT P kt (fun x : κ => .agg #[.int .i64 (e1 x), .int .i64 (e2 x)]) where
  chk b x w := by
    have h1 := hF.fs
    cases hu : P.underlying kt with
    | none => rw [hu] at h1; cases h1
    | some dd =>
      rw [hu] at h1
      cases dd with
      | struct F =>
        have h2 : (F.toList.map fun f => (f.name == "_", f.type, f.offset)) = [(false, t1, 0), (false, t2, 1)] := Option.some.inj h1
        obtain ⟨f, g, hfg⟩ : ∃ f g, F.toList = [f, g] := by
          cases hl : F.toList with
          | nil => rw [hl] at h2; simp at h2
          | cons f r => cases r with
            | nil => rw [hl] at h2; simp at h2
            | cons g r => cases r with
              | nil => exact ⟨f, g, rfl⟩
              | cons _ _ => rw [hl] at h2; simp at h2
        rw [hfg] at h2
        simp only [List.map_cons, List.map_nil, List.cons.injEq, Prod.mk.injEq, and_true] at h2
        obtain ⟨⟨a1, a2, a3⟩, b1', b2', b3'⟩ := h2
        have ha : f.name ≠ "_" := by simpa using a1
        have hb : g.name ≠ "_" := by simpa using b1'
        rw [Instr.checkKey]
        simp only [Sem.run_bind, run_und hu, Result.andThen_ok]
        rw [← Array.forIn_toList, hfg]
        have c1 : ∀ (n : Nat) (t : TypeId) (v : Int) (w : World), P.underlying t = some (.int .i64) → (Instr.checkKey b (n + 1) t (.int .i64 v)).run P w = .ok () w := fun n t v w h => by rw [Instr.checkKey]; simp [run_und h]
        have p1 : (part t1 #[Value.int .i64 (e1 x), .int .i64 (e2 x)] 0).run P w = .ok (.int .i64 (e1 x)) w := by simp [part, hT1.isAgg]
        have p2 : (part t2 #[Value.int .i64 (e1 x), .int .i64 (e2 x)] 1).run P w = .ok (.int .i64 (e2 x)) w := by simp [part, hT2.isAgg]
        simp only [List.forIn_cons, List.forIn_nil, Sem.run_bind, ne_eq, ha, hb, not_false_eq_true, if_true, a2, a3, b2', b3', p1, p2, Result.andThen_ok, c1 9998 _ _ w hu1, c1 9998 _ _ w hu2, Sem.run_pure]
      | _ => cases h1
  fnd es ks x w h := by
    have h1 := hF.fs
    cases hu : P.underlying kt with
    | none => rw [hu] at h1; cases h1
    | some dd =>
      rw [hu] at h1
      cases dd with
      | struct F =>
        have hq : ∀ (y : κ) (w : World), (Op.equal kt (.agg #[.int .i64 (e1 x), .int .i64 (e2 x)]) (.agg #[.int .i64 (e1 y), .int .i64 (e2 y)])).run P w = .ok (decide (y = x)) w := by
          intro y w
          have p1 : ∀ z : κ, (part t1 #[Value.int .i64 (e1 z), .int .i64 (e2 z)] 0).run P w = .ok (.int .i64 (e1 z)) w := fun z => by simp [part, hT1.isAgg]
          have p2 : ∀ z : κ, (part t2 #[Value.int .i64 (e1 z), .int .i64 (e2 z)] 1).run P w = .ok (.int .i64 (e2 z)) w := fun z => by simp [part, hT2.isAgg]
          have q1 := run_equalIn_int (P := P) w 9998 t1 .i64 .i64 (e1 x) (e1 y) hu1
          have q2 := run_equalIn_int (P := P) w 9998 t2 .i64 .i64 (e2 x) (e2 y) hu2
          show (Op.equalIn (9999 + 1) kt _ _).run P w = _
          rw [run_eqF hF]
          simp only [eqFs, Sem.run_bind, p1, p2, Result.andThen_ok, q1, q2, Sem.run_ite]
          by_cases g1 : e1 x = e1 y
          · by_cases g2 : e2 x = e2 y
            · have := hinj x y g1 g2; subst this; simp
            · have : y ≠ x := fun q => g2 (by rw [q])
              simp [g1, g2, this]
          · have : y ≠ x := fun q => g1 (by rw [q])
            simp [g1, this]
        have key : ∀ (es : List MapEntry) (ks : List κ) (j : Nat), es.map (·.key) = ks.map (fun x : κ => Value.agg #[.int .i64 (e1 x), .int .i64 (e2 x)]) →
            (Instr.findAsking kt (.agg #[.int .i64 (e1 x), .int .i64 (e2 x)]) es j).run P w = .ok ((findIx x ks).bind fun i => (es[i]?).map fun e => (j + i, e.val)) w := by
          intro es
          induction es with
          | nil => intro ks j h; have : ks = [] := by cases ks <;> simp_all
                   subst this; rfl
          | cons e es ih =>
            intro ks j h
            cases ks with
            | nil => simp at h
            | cons n ks =>
              simp only [List.map_cons, List.cons.injEq] at h
              obtain ⟨h1, h2⟩ := h
              simp only [Instr.findAsking, Sem.run_bind, h1, hq, Result.andThen_ok, findIx]
              by_cases hx : n = x
              · subst hx; simp
              · simp only [hx, decide_false, Bool.false_eq_true, if_false]
                rw [ih ks (j + 1) h2]
                cases hqq : findIx x ks with
                | none => rfl
                | some i => simp only [Option.map_some, Option.bind_some, List.getElem?_cons_succ, Nat.add_assoc, Nat.add_comm 1]
        have fn : ∀ e r, Instr.findNow (.struct F) (.agg #[.int .i64 (e1 x), .int .i64 (e2 x)]) (e :: r) 0 = none := fun e r => by simp [Instr.findNow, Instr.sameNow]
        unfold Instr.findKey
        cases es with
        | nil =>
          have : ks = [] := by cases ks <;> simp_all
          subst this
          simp [run_und hu, Instr.findNow, findIx]
        | cons e r =>
          simp only [Sem.run_bind, run_und hu, Result.andThen_ok, fn]
          have := key (e :: r) ks 0 h
          simpa using this
      | _ => cases h1
  bits x := by simp [Instr.sameBits]

/-! ### A map's block -/
/-- The object of a map that holds kvs, each key once, in the order in which they came. -/
def Mp {κ : Type} (enc : κ → Value) (ob : Obj) (kvs : List (κ × Value)) : Prop :=
  ∃ es clk, ob = .map es clk ∧ es.toList.map (·.key) = kvs.map (fun p => enc p.1) ∧ es.toList.map (·.val) = kvs.map (·.2) ∧ (kvs.map (·.1)).Nodup ∧
    (es.toList.map (·.born)).Pairwise (· < ·) ∧ (∀ e ∈ es.toList, e.born < clk)

def lookK {κ : Type} [DecidableEq κ] (kvs : List (κ × Value)) (x : κ) : Option Value :=
  match kvs with
  | [] => none
  | p :: r => if p.1 = x then some p.2 else lookK r x
def setK {κ : Type} [DecidableEq κ] (kvs : List (κ × Value)) (x : κ) (v : Value) : List (κ × Value) :=
  match kvs with
  | [] => [(x, v)]
  | p :: r => if p.1 = x then (x, v) :: r else p :: setK r x v
theorem Mp.nil {κ : Type} (enc : κ → Value) (clk : Nat) : Mp enc (.map #[] clk) ([] : List (κ × Value)) := ⟨#[], clk, rfl, rfl, rfl, by simp, by simp, by simp⟩

theorem look_find {κ : Type} [DecidableEq κ] {enc : κ → Value} : ∀ (es : List MapEntry) (kvs : List (κ × Value)) (x : κ), es.map (·.val) = kvs.map (·.2) → ((findIx x (kvs.map (·.1))).bind fun i => (es[i]?).map fun e => (i, e.val)).map (·.2) = lookK kvs x := by
  intro es
  induction es with
  | nil => intro kvs x h; have : kvs = [] := by cases kvs <;> simp_all
           subst this; rfl
  | cons e es ih =>
    intro kvs x h
    cases kvs with
    | nil => simp at h
    | cons p kvs =>
      simp only [List.map_cons, List.cons.injEq] at h
      obtain ⟨h1, h2⟩ := h
      simp only [List.map_cons, findIx, lookK]
      by_cases hx : p.1 = x
      · simp [hx, h1]
      · simp only [hx, if_false]
        rw [← ih kvs x h2]
        cases findIx x (kvs.map (·.1)) with
        | none => rfl
        | some i => simp; cases es[i]? <;> rfl

section ops
variable {c : Cx} {D : List Deferred} {ops : Array Oper} {K : Act → World → Prop} {rest : List Oper} {l : Env} {h : List Own}
  {ty : TypeId} {pos : String} {af : Array Edge} {g : Option (Nat × Bool)} {dst : Option Tmp} {d : Nat}

/-- make(map ..) -/
theorem mm {t : TypeId} (hd : Nat.blt d c.N = true) (k : ∀ b, GL c D ops K rest ((d, .map (some b)) :: l) ([(b, .map #[] 0)] :: h)) : GL c D ops K (⟨some d, .makeMap t none, ty, pos, af, none⟩ :: rest) l h :=
  GL.new (v := fun b => .map (some b)) (by simp) (fun a w e _ => by simp [execOp, Instr.makeMap]) hd k

theorem run_getObj {P : Program} {w : World} {r : Nat} {es : Array MapEntry} {clk : Nat} (h : w.heap[r]? = some (.map es clk)) : (getObj r).run P w = .ok (.map es clk) w := by simp [getObj, Sem.run, h]

theorem run_lookup {κ : Type} [DecidableEq κ] {P : Program} {t kt et : TypeId} {enc : κ → Value} {n b : Nat} {gg : Bool} {z : List Value} (hu : P.underlying t = some (.map kt et)) (hk : KeyT P kt enc) (ht : Ty P et n gg z b) {r : Nat} {ob : Obj} {kvs : List (κ × Value)} (hm : Mp enc ob kvs) {w : World}
    (hr : w.heap[r]? = some ob) (x : κ) (ok : Bool) : (Instr.lookup t (.map (some r)) (enc x) ok).run P w = .ok (if ok then .tuple #[(lookK kvs x).getD (val gg z), .bool (lookK kvs x).isSome] else (lookK kvs x).getD (val gg z)) w := by
  obtain ⟨es, clk, rfl, h1, h2, _⟩ := hm
  unfold Instr.lookup
  have hf := hk.fnd es.toList (kvs.map (·.1)) x w (by rw [h1, List.map_map]; rfl)
  have hl := look_find (enc := enc) es.toList kvs x h2
  simp only [Sem.run_bind, run_und hu, Result.andThen_ok, run_getObj hr, Sem.run_pure, hk.chk, hf]
  cases hq : ((findIx x (kvs.map (·.1))).bind fun i => (es.toList[i]?).map fun e => (i, e.val)) with
  | none =>
    rw [hq] at hl
    simp only [Option.map_none] at hl
    rw [← hl]
    simp only [Sem.run_bind, ht.zero, Result.andThen_ok, Sem.run_pure]
    cases ok <;> rfl
  | some p =>
    rw [hq] at hl
    simp only [Option.map_some] at hl
    rw [← hl]
    simp only [Sem.run_pure, Result.andThen_ok]
    cases ok <;> rfl
theorem run_lookup_nil {κ : Type} [DecidableEq κ] {P : Program} {t kt et : TypeId} {enc : κ → Value} {n b : Nat} {gg : Bool} {z : List Value} (hu : P.underlying t = some (.map kt et)) (hk : KeyT P kt enc) (ht : Ty P et n gg z b) {w : World} (x : κ) (ok : Bool) :
    (Instr.lookup t (.map none) (enc x) ok).run P w = .ok (if ok then .tuple #[val gg z, .bool false] else val gg z) w := by
  unfold Instr.lookup
  have hf := hk.fnd [] [] x w rfl
  simp only [Sem.run_bind, run_und hu, Result.andThen_ok, Sem.run_pure, hk.chk, hf, findIx, Option.bind_none, ht.zero]

/-- v, ok := m[k]; m[k]: the map's item at the front. -/
theorem lkp2 {κ : Type} [DecidableEq κ] {m x : Operand} {t kt et : TypeId} {enc : κ → Value} {n b r : Nat} {gg : Bool} {z : List Value} {ob : Obj} {kvs : List (κ × Value)} {hs : List Own} {y : κ} {kv : Value} (hu : c.P.underlying t = some (.map kt et)) (hk : KeyT c.P kt enc) (ht : Ty c.P et n gg z b) (hm : Mp enc ob kvs)
    (hx : ev l m = some (.map (some r))) (hy : ev l x = some kv) (hkv : enc y = kv) : OpV c ⟨dst, .lookup t m x true, ty, pos, af, g⟩ l ([(r, ob)] :: hs) (.tuple #[(lookK kvs y).getD (val gg z), .bool (lookK kvs y).isSome]) :=
  .of0 (fun _ => by simp) fun a w e ⟨hx', s⟩ => by
    have hr : w.heap[r]? = some ob := s.chg.own (r, ob) (by simp)
    subst hkv
    have := run_lookup hu hk ht hm hr y true
    simp [execOp, ev_eq e (x := m) (by simp [Op.operands]) hx, ev_eq e (x := x) (by simp [Op.operands]) hy, this]
theorem lkp1 {κ : Type} [DecidableEq κ] {m x : Operand} {t kt et : TypeId} {enc : κ → Value} {n b r : Nat} {gg : Bool} {z : List Value} {ob : Obj} {kvs : List (κ × Value)} {hs : List Own} {y : κ} {kv : Value} (hu : c.P.underlying t = some (.map kt et)) (hk : KeyT c.P kt enc) (ht : Ty c.P et n gg z b) (hm : Mp enc ob kvs)
    (hx : ev l m = some (.map (some r))) (hy : ev l x = some kv) (hkv : enc y = kv) : OpV c ⟨dst, .lookup t m x false, ty, pos, af, g⟩ l ([(r, ob)] :: hs) ((lookK kvs y).getD (val gg z)) :=
  .of0 (fun _ => by simp) fun a w e ⟨hx', s⟩ => by
    have hr : w.heap[r]? = some ob := s.chg.own (r, ob) (by simp)
    subst hkv
    have := run_lookup hu hk ht hm hr y false
    simp [execOp, ev_eq e (x := m) (by simp [Op.operands]) hx, ev_eq e (x := x) (by simp [Op.operands]) hy, this]

theorem findIx_lt {κ : Type} [DecidableEq κ] {x : κ} : ∀ {ks : List κ} {i : Nat}, findIx x ks = some i → ks[i]? = some x := by
  intro ks
  induction ks with
  | nil => intro i h; cases h
  | cons k r ih =>
    intro i h
    simp only [findIx] at h
    split at h
    · rename_i e; cases h; simp [e]
    · cases hq : findIx x r with
      | none => rw [hq] at h; cases h
      | some j => rw [hq] at h; simp at h; subst h; simpa using ih hq
theorem findIx_none {κ : Type} [DecidableEq κ] {x : κ} : ∀ {ks : List κ}, findIx x ks = none → x ∉ ks := by
  intro ks
  induction ks with
  | nil => intro _; simp
  | cons k r ih =>
    intro h
    simp only [findIx] at h
    split at h
    · cases h
    · rename_i e
      cases hq : findIx x r with
      | none => simp [Ne.symm e, ih hq]
      | some j => rw [hq] at h; cases h
theorem setK_none {κ : Type} [DecidableEq κ] {x : κ} {v : Value} : ∀ {kvs : List (κ × Value)}, x ∉ kvs.map (·.1) → setK kvs x v = kvs ++ [(x, v)] := by
  intro kvs
  induction kvs with
  | nil => intro _; rfl
  | cons p r ih =>
    intro h
    simp only [List.map_cons, List.mem_cons, not_or] at h
    simp [setK, Ne.symm h.1, ih h.2]
theorem setK_keys {κ : Type} [DecidableEq κ] {x : κ} {v : Value} : ∀ {kvs : List (κ × Value)}, x ∈ kvs.map (·.1) → (setK kvs x v).map (·.1) = kvs.map (·.1) := by
  intro kvs
  induction kvs with
  | nil => intro h; simp at h
  | cons p r ih =>
    intro h
    simp only [setK]
    by_cases e : p.1 = x
    · simp [e]
    · simp only [e, if_false, List.map_cons]
      rw [ih]
      simp only [List.map_cons, List.mem_cons] at h
      exact h.resolve_left (Ne.symm e)
theorem setK_at {κ : Type} [DecidableEq κ] {x : κ} {v : Value} : ∀ {kvs : List (κ × Value)} {i : Nat}, findIx x (kvs.map (·.1)) = some i → setK kvs x v = kvs.set i (x, v) := by
  intro kvs
  induction kvs with
  | nil => intro i h; cases h
  | cons p r ih =>
    intro i h
    simp only [List.map_cons, findIx] at h
    simp only [setK]
    split at h
    · rename_i e; cases h; simp [e]
    · rename_i e
      simp only [e, if_false]
      cases hq : findIx x (r.map (·.1)) with
      | none => rw [hq] at h; cases h
      | some j => rw [hq] at h; simp at h; subst h; simp [ih hq]

/-- A map without a key. -/
def delK {κ : Type} [DecidableEq κ] (kvs : List (κ × Value)) (x : κ) : List (κ × Value) := kvs.filter fun p => p.1 ≠ x
theorem delK_none {κ : Type} [DecidableEq κ] {x : κ} {kvs : List (κ × Value)} (h : x ∉ kvs.map (·.1)) : delK kvs x = kvs := by
  rw [delK, List.filter_eq_self]
  intro p hp
  simp only [ne_eq, decide_not, Bool.not_eq_true', decide_eq_false_iff_not]
  intro e
  exact h (e ▸ List.mem_map_of_mem hp)
theorem delK_at {κ : Type} [DecidableEq κ] {x : κ} : ∀ {kvs : List (κ × Value)} {i : Nat}, (kvs.map (·.1)).Nodup → findIx x (kvs.map (·.1)) = some i → delK kvs x = kvs.eraseIdx i := by
  intro kvs
  induction kvs with
  | nil => intro i _ h; cases h
  | cons p r ih =>
    intro i hn h
    simp only [List.map_cons, List.nodup_cons] at hn
    simp only [List.map_cons, findIx] at h
    split at h
    · rename_i e
      cases h
      have : delK r x = r := delK_none (e ▸ hn.1)
      rw [delK, List.filter_cons_of_neg (by simp [e])]
      exact this
    · rename_i e
      cases hq : findIx x (r.map (·.1)) with
      | none => rw [hq] at h; cases h
      | some j =>
        rw [hq] at h; simp at h; subst h
        have := ih hn.2 hq
        rw [delK, List.filter_cons_of_pos (by simp [e]), List.eraseIdx_cons_succ, ← this, delK]

theorem run_setObj_map {P : Program} {w : World} {r : Nat} {es : Array MapEntry} {clk : Nat} (h : w.heap[r]? = some (.map es clk)) (o' : Obj) : (setObj r o').run P w = .ok () { w with heap := w.heap.setIfInBounds r o' } := by
  simp [setObj, Sem.run, h]

theorem map_set_list {α β : Type} (f : α → β) (l : List α) (i : Nat) (a : α) : (l.set i a).map f = (l.map f).set i (f a) := by simp

theorem run_mapUpdate {κ : Type} [DecidableEq κ] {P : Program} {t kt et : TypeId} {enc : κ → Value} (hu : P.underlying t = some (.map kt et)) (hk : KeyT P kt enc) {r : Nat} {ob : Obj} {kvs : List (κ × Value)} (hm : Mp enc ob kvs) {w : World}
    (hr : w.heap[r]? = some ob) (x : κ) (v : Value) : ∃ ob', Mp enc ob' (setK kvs x v) ∧ (Instr.mapUpdate t (.map (some r)) (enc x) v).run P w = .ok () { w with heap := w.heap.setIfInBounds r ob' } := by
  obtain ⟨es, clk, rfl, h1, h2, h3, h4, h5⟩ := hm
  have hf := hk.fnd es.toList (kvs.map (·.1)) x w (by rw [h1, List.map_map]; rfl)
  have hlen : es.toList.length = kvs.length := by have := congrArg List.length h1; simpa using this
  unfold Instr.mapUpdate
  cases hq : findIx x (kvs.map (·.1)) with
  | none =>
    rw [hq, Option.bind_none] at hf
    have hx := findIx_none hq
    refine ⟨.map (es.push { key := enc x, val := v, born := clk }) (clk + 1), ⟨_, _, rfl, ?_, ?_, ?_, ?_, ?_⟩, ?_⟩
    · rw [setK_none hx]; simp [h1]
    · rw [setK_none hx]; simp [h2]
    · rw [setK_none hx, List.map_append, List.nodup_append]
      exact ⟨h3, by simp, fun a ha b hb e => by simp at hb; subst hb; subst e; exact hx ha⟩
    · rw [Array.toList_push, List.map_append, List.pairwise_append]
      exact ⟨h4, by simp, fun a ha b hb => by
        simp at hb; subst hb
        obtain ⟨e, he, rfl⟩ := List.mem_map.1 ha
        exact h5 e he⟩
    · intro e he
      simp only [Array.toList_push, List.mem_append, List.mem_singleton] at he
      rcases he with he | rfl
      · have := h5 e he; omega
      · simp
    · simp only [Sem.run_bind, run_und hu, Result.andThen_ok, run_getObj hr, hk.chk, hf, run_setObj_map hr]
  | some i =>
    have hi := findIx_lt hq
    have hik : i < kvs.length := by have := (List.getElem?_eq_some_iff.1 hi).1; simpa using this
    have hie : i < es.size := by have : es.toList.length = es.size := by simp
                                 omega
    have hk1 : (es[i]'hie).key = enc x := by
      have e1 : (es.toList.map (·.key))[i]? = some (es[i]'hie).key := by simp [hie]
      rw [h1] at e1
      simp only [List.getElem?_map] at e1 hi
      cases hkv : kvs[i]? with
      | none => rw [hkv] at hi; cases hi
      | some p =>
        rw [hkv] at hi e1
        simp only [Option.map_some, Option.some.injEq] at hi e1
        rw [← e1, hi]
    rw [hq, Option.bind_some, Array.getElem?_toList, Array.getElem?_eq_getElem hie, Option.map_some] at hf
    have hmod : (es.modify i fun e => { e with key := enc x, val := v }) = es.set i { (es[i]'hie) with key := enc x, val := v } hie := by
      apply Array.ext
      · simp
      · intro j h1 h2
        rw [Array.getElem_modify, Array.getElem_set]
        split
        · rename_i e; subst e; simp
        · rename_i e; simp [e]
    refine ⟨.map (es.modify i fun e => { e with key := enc x, val := v }) clk, ⟨_, _, rfl, ?_, ?_, ?_, ?_, ?_⟩, ?_⟩
    · rw [hmod, setK_at hq, Array.toList_set, map_set_list, map_set_list, h1]
    · rw [hmod, setK_at hq, Array.toList_set, map_set_list, map_set_list, h2]
    · rw [setK_keys (List.mem_of_getElem? hi)]; exact h3
    · rw [hmod, Array.toList_set, map_set_list]
      have : (es.toList.map (·.born)).set i (es[i]'hie).born = es.toList.map (·.born) := by
        apply List.ext_getElem?
        intro j
        rw [List.getElem?_set]
        split
        · rename_i e
          subst e
          simp [hie]
        · rfl
      simp only [this]
      exact h4
    · intro e he
      rw [hmod, Array.toList_set] at he
      rcases List.mem_or_eq_of_mem_set he with he | rfl
      · exact h5 e he
      · exact h5 (es[i]'hie) (by simp)
    · have hst : (Instr.keyThatStays (((es[i]?).map (·.key)).getD (enc x)) (enc x)).run P w = .ok (enc x) w := by
        rw [Array.getElem?_eq_getElem hie, Option.map_some, Option.getD_some, hk1]
        simp [Instr.keyThatStays, hk.bits]
      simp only [Sem.run_bind, run_und hu, Result.andThen_ok, run_getObj hr, hk.chk, hf, hst, run_setObj_map hr]

/-- m[k] = v, m's block at the front. -/
theorem mu {κ : Type} [DecidableEq κ] {m x y : Operand} {t kt et : TypeId} {enc : κ → Value} {r : Nat} {ob : Obj} {kvs : List (κ × Value)} {hs : List Own} {u : κ} {ku v : Value} (hu : c.P.underlying t = some (.map kt et)) (hk : KeyT c.P kt enc) (hm : Mp enc ob kvs)
    (hx : ev l m = some (.map (some r))) (hy : ev l x = some ku) (hku : enc u = ku) (hv : ev l y = some v) (k : ∀ ob', Mp enc ob' (setK kvs u v) → GL c D ops K rest l ([(r, ob')] :: hs)) :
    GL c D ops K (⟨none, .mapUpdate t m x y, ty, pos, af, none⟩ :: rest) l ([(r, ob)] :: hs) := by
  intro a w e s
  simp only [wpL, wanted_none, if_true]
  have hr : w.heap[r]? = some ob := s.chg.own (r, ob) (by simp)
  subst hku
  obtain ⟨ob', h1, h2⟩ := run_mapUpdate hu hk hm hr u v
  have hrun : (execOp a.eval ⟨none, .mapUpdate t m x y, ty, pos, af, none⟩).run c.P w = .ok .skip { w with heap := w.heap.setIfInBounds r ob' } := by
    have e1 := e.on (Op.mapUpdate t m x y).operands
    simp [execOp, ev_eq e1 (x := m) (by simp [Op.operands]) hx, ev_eq e1 (x := x) (by simp [Op.operands]) hy, ev_eq e1 (x := y) (by simp [Op.operands]) hv, h2]
  refine opW.of (by simp) hrun (fun _ _ q => by cases q) (k ob' h1 _ _ e (s.set rfl rfl rfl (by simp) (fun j hj => ?_) ?_))
  · show (w.heap.setIfInBounds r ob')[j]? = _
    simp [Array.getElem?_setIfInBounds, Ne.symm hj]
  · show (w.heap.setIfInBounds r ob')[r]? = _
    simp [Array.getElem?_setIfInBounds, lt_of_heap hr]

theorem map_erase {α β : Type} (f : α → β) : ∀ (l : List α) (i : Nat), (l.eraseIdx i).map f = (l.map f).eraseIdx i := by
  intro l
  induction l with
  | nil => intro i; rfl
  | cons a l ih => intro i; cases i with
    | zero => rfl
    | succ i => simp [ih]
theorem run_delete {κ : Type} [DecidableEq κ] {P : Program} {t kt et : TypeId} {ty : TypeId} {enc : κ → Value} (hu : P.underlying t = some (.map kt et)) (hk : KeyT P kt enc) {r : Nat} {ob : Obj} {kvs : List (κ × Value)} (hm : Mp enc ob kvs) {w : World}
    (hr : w.heap[r]? = some ob) (x : κ) (t2 : TypeId) : ∃ ob', Mp enc ob' (delK kvs x) ∧ (Builtin.delete_ #[t, t2] ty #[.map (some r), enc x]).run P w = .ok (.tuple #[]) { w with heap := w.heap.setIfInBounds r ob' } := by
  obtain ⟨es, clk, rfl, h1, h2, h3, h4, h5⟩ := hm
  have hf := hk.fnd es.toList (kvs.map (·.1)) x w (by rw [h1, List.map_map]; rfl)
  have hlen : es.toList.length = kvs.length := by have := congrArg List.length h1; simpa using this
  unfold Builtin.delete_
  cases hq : findIx x (kvs.map (·.1)) with
  | none =>
    rw [hq, Option.bind_none] at hf
    refine ⟨.map es clk, ⟨es, clk, rfl, ?_, ?_, ?_, h4, h5⟩, ?_⟩
    · rw [delK_none (findIx_none hq)]; exact h1
    · rw [delK_none (findIx_none hq)]; exact h2
    · rw [delK_none (findIx_none hq)]; exact h3
    · simp [run_und hu, run_getObj hr, hk.chk, hf, run_setObj_map hr]
  | some i =>
    have hi := findIx_lt hq
    have hik : i < kvs.length := by have := (List.getElem?_eq_some_iff.1 hi).1; simpa using this
    have hie : i < es.size := by have : es.toList.length = es.size := by simp
                                 omega
    rw [hq, Option.bind_some, Array.getElem?_toList, Array.getElem?_eq_getElem hie, Option.map_some] at hf
    have hl : (es.eraseIdxIfInBounds i).toList = es.toList.eraseIdx i := by simp [Array.eraseIdxIfInBounds, hie, Array.toList_eraseIdx]
    have hsub : (es.toList.eraseIdx i).Sublist es.toList := List.eraseIdx_sublist ..
    refine ⟨.map (es.eraseIdxIfInBounds i) clk, ⟨_, clk, rfl, ?_, ?_, ?_, ?_, ?_⟩, ?_⟩
    · rw [delK_at h3 hq, hl, map_erase, map_erase, h1]
    · rw [delK_at h3 hq, hl, map_erase, map_erase, h2]
    · rw [delK_at h3 hq]
      exact h3.sublist ((List.eraseIdx_sublist ..).map _)
    · rw [hl]; exact h4.sublist (hsub.map _)
    · intro e he; rw [hl] at he; exact h5 e (hsub.subset he)
    · simp [run_und hu, run_getObj hr, hk.chk, hf, run_setObj_map hr]

theorem dl {κ : Type} [DecidableEq κ] {m x : Operand} {t t2 kt et : TypeId} {enc : κ → Value} {r : Nat} {ob : Obj} {kvs : List (κ × Value)} {hs : List Own} {u : κ} {ku : Value} (hu : c.P.underlying t = some (.map kt et)) (hk : KeyT c.P kt enc) (hm : Mp enc ob kvs)
    (hx : ev l m = some (.map (some r))) (hy : ev l x = some ku) (hku : enc u = ku) (k : ∀ ob', Mp enc ob' (delK kvs u) → GL c D ops K rest l ([(r, ob')] :: hs)) :
    GL c D ops K (⟨none, .call { callee := .builtin .delete, args := #[m, x], argTypes := #[t, t2] }, ty, pos, af, none⟩ :: rest) l ([(r, ob)] :: hs) := by
  intro a w e s
  simp only [wpL, wanted_none, if_true]
  have hr : w.heap[r]? = some ob := s.chg.own (r, ob) (by simp)
  subst hku
  obtain ⟨ob', h1, h2⟩ := run_delete (ty := ty) hu hk hm hr u t2
  have hrun : (execOp a.eval ⟨none, .call { callee := .builtin .delete, args := #[m, x], argTypes := #[t, t2] }, ty, pos, af, none⟩).run c.P w = .ok (.value (.tuple #[])) { w with heap := w.heap.setIfInBounds r ob' } := by
    have e1 := e.on (Op.call { callee := .builtin .delete, args := #[m, x], argTypes := #[t, t2] }).operands
    have h3 : (Builtin.delete_ #[t, t2] ty #[.map (some r), enc u]).run c.P w = .ok (.tuple #[]) { w with heap := w.heap.setIfInBounds r ob' } := h2
    simp [execOp, resolve, invoke, builtin, ev_eq e1 (x := m) (by simp [Op.operands, Call.operands]) hx, ev_eq e1 (x := x) (by simp [Op.operands, Call.operands]) hy, h3]
  refine opW.of (by simp) hrun (fun _ _ q => by cases q) (k ob' h1 _ _ e (s.set rfl rfl rfl (by simp) (fun j hj => ?_) ?_))
  · show (w.heap.setIfInBounds r ob')[j]? = _
    simp [Array.getElem?_setIfInBounds, Ne.symm hj]
  · show (w.heap.setIfInBounds r ob')[r]? = _
    simp [Array.getElem?_setIfInBounds, lt_of_heap hr]

theorem Mp.length {κ : Type} {enc : κ → Value} {es : Array MapEntry} {clk : Nat} {kvs : List (κ × Value)} (h : Mp enc (.map es clk) kvs) : es.size = kvs.length := by
  obtain ⟨es', clk', h0, h1, _⟩ := h
  cases h0
  have := congrArg List.length h1; simpa using this

/-- len of a map. -/
theorem lnm {κ : Type} {x : Operand} {t kt et : TypeId} {enc : κ → Value} {r : Nat} {ob : Obj} {kvs : List (κ × Value)} (hu : c.P.underlying t = some (.map kt et)) (hm : Mp enc ob kvs) (hr : Hm c.M h r ob) (hx : ev l x = some (.map (some r))) :
    OpV c ⟨dst, .call { callee := .builtin .len, args := #[x], argTypes := #[t] }, ty, pos, af, g⟩ l h (.int .i64 kvs.length) :=
  .of0 (fun _ => by simp) fun a w e ⟨hx', s⟩ => by
    have hw : w.heap[r]? = some ob := s.le _ _ hr
    obtain ⟨es, clk, rfl, _⟩ := id hm
    simp [execOp, resolve, invoke, builtin, ev_eq e (x := x) (by simp [Op.operands, Call.operands]) hx, Builtin.len_, goInt, run_und hu, run_getObj hw, hm.length]

/-- m[k] of a map that can be read. -/
theorem lkr2 {κ : Type} [DecidableEq κ] {m x : Operand} {t kt et : TypeId} {enc : κ → Value} {n b r : Nat} {gg : Bool} {z : List Value} {ob : Obj} {kvs : List (κ × Value)} {y : κ} {kv : Value} (hu : c.P.underlying t = some (.map kt et)) (hk : KeyT c.P kt enc) (ht : Ty c.P et n gg z b) (hm : Mp enc ob kvs) (hr : Hm c.M h r ob)
    (hx : ev l m = some (.map (some r))) (hy : ev l x = some kv) (hkv : enc y = kv) : OpV c ⟨dst, .lookup t m x true, ty, pos, af, g⟩ l h (.tuple #[(lookK kvs y).getD (val gg z), .bool (lookK kvs y).isSome]) :=
  .of0 (fun _ => by simp) fun a w e ⟨hx', s⟩ => by
    have hw : w.heap[r]? = some ob := s.le _ _ hr
    subst hkv
    have := run_lookup hu hk ht hm hw y true
    simp [execOp, ev_eq e (x := m) (by simp [Op.operands]) hx, ev_eq e (x := x) (by simp [Op.operands]) hy, this]
theorem lkr1 {κ : Type} [DecidableEq κ] {m x : Operand} {t kt et : TypeId} {enc : κ → Value} {n b r : Nat} {gg : Bool} {z : List Value} {ob : Obj} {kvs : List (κ × Value)} {y : κ} {kv : Value} (hu : c.P.underlying t = some (.map kt et)) (hk : KeyT c.P kt enc) (ht : Ty c.P et n gg z b) (hm : Mp enc ob kvs) (hr : Hm c.M h r ob)
    (hx : ev l m = some (.map (some r))) (hy : ev l x = some kv) (hkv : enc y = kv) : OpV c ⟨dst, .lookup t m x false, ty, pos, af, g⟩ l h ((lookK kvs y).getD (val gg z)) :=
  .of0 (fun _ => by simp) fun a w e ⟨hx', s⟩ => by
    have hw : w.heap[r]? = some ob := s.le _ _ hr
    subst hkv
    have := run_lookup hu hk ht hm hw y false
    simp [execOp, ev_eq e (x := m) (by simp [Op.operands]) hx, ev_eq e (x := x) (by simp [Op.operands]) hy, this]
/-- .. of the nil map. -/
theorem lkn1 {κ : Type} [DecidableEq κ] {m x : Operand} {t kt et : TypeId} {enc : κ → Value} {n b : Nat} {gg : Bool} {z : List Value} {y : κ} {kv : Value} (hu : c.P.underlying t = some (.map kt et)) (hk : KeyT c.P kt enc) (ht : Ty c.P et n gg z b)
    (hx : ev l m = some (.map none)) (hy : ev l x = some kv) (hkv : enc y = kv) : OpV c ⟨dst, .lookup t m x false, ty, pos, af, g⟩ l h (val gg z) :=
  .of0 (fun _ => by simp) fun a w e ⟨hx', s⟩ => by
    subst hkv
    have := run_lookup_nil (w := w) hu hk ht y false
    simp [execOp, ev_eq e (x := m) (by simp [Op.operands]) hx, ev_eq e (x := x) (by simp [Op.operands]) hy, this]
/-- == and != of two values that are compared without a guard. -/
theorem eqv {x y : Operand} {t t' : TypeId} {u v : Value} {r : Bool} (hx : ev l x = some u) (hy : ev l y = some v) (hq : binOp .eql t u v = do pure (.bool (← Op.equal t u v))) (hG : ∀ w, (eqGuard .eql t x y u v).run c.P w = .ok () w)
    (hE : ∀ w, (Op.equalIn 10000 t u v).run c.P w = .ok r w) : OpV c ⟨dst, .binOp .eql t x y t', ty, pos, af, g⟩ l h (.bool r) :=
  .of0 (fun _ => by simp) fun a w e _ => by
    have h2 : (binOp .eql t u v).run c.P w = .ok (.bool r) w := by
      have := hE w
      rw [hq]
      simp [Op.equal, Op.maxDepth, this]
    simp only [execOp, ev_eq e (x := x) (by simp [Op.operands]) hx, ev_eq e (x := y) (by simp [Op.operands]) hy, Sem.run_bind, hG, Result.andThen_ok, h2, Sem.run_pure]
theorem nev {x y : Operand} {t t' : TypeId} {u v : Value} {r : Bool} (hx : ev l x = some u) (hy : ev l y = some v) (hq : binOp .neq t u v = do pure (.bool (!(← Op.equal t u v)))) (hG : ∀ w, (eqGuard .neq t x y u v).run c.P w = .ok () w)
    (hE : ∀ w, (Op.equalIn 10000 t u v).run c.P w = .ok r w) : OpV c ⟨dst, .binOp .neq t x y t', ty, pos, af, g⟩ l h (.bool !r) :=
  .of0 (fun _ => by simp) fun a w e _ => by
    have h2 : (binOp .neq t u v).run c.P w = .ok (.bool !r) w := by
      have := hE w
      rw [hq]
      simp [Op.equal, Op.maxDepth, this]
    simp only [execOp, ev_eq e (x := x) (by simp [Op.operands]) hx, ev_eq e (x := y) (by simp [Op.operands]) hy, Sem.run_bind, hG, Result.andThen_ok, h2, Sem.run_pure]
theorem gd_map {op : BinOp} {t : TypeId} {x y : Operand} {a b : Option Nat} {P : Program} (w : World) : (eqGuard op t x y (.map a) (.map b)).run P w = .ok () w := by unfold eqGuard; split <;> rfl
theorem gd_ptr {op : BinOp} {t : TypeId} {x y : Operand} {a b : Option Addr} {P : Program} (w : World) : (eqGuard op t x y (.pointer a) (.pointer b)).run P w = .ok () w := by unfold eqGuard; split <;> rfl
theorem gd_sl {op : BinOp} {t : TypeId} {x y : Operand} {a b : Option Addr} {n m q r : Nat} {P : Program} (w : World) : (eqGuard op t x y (.slice a n m) (.slice b q r)).run P w = .ok () w := by unfold eqGuard; split <;> rfl
theorem gd_str {op : BinOp} {t : TypeId} {x y : Operand} {a b : ByteArray} {P : Program} (w : World) : (eqGuard op t x y (.string a) (.string b)).run P w = .ok () w := by unfold eqGuard; split <;> rfl
theorem gd_bool {op : BinOp} {t : TypeId} {x y : Operand} {a b : Bool} {P : Program} (w : World) : (eqGuard op t x y (.bool a) (.bool b)).run P w = .ok () w := by unfold eqGuard; split <;> rfl
theorem gd_fn {op : BinOp} {t : TypeId} {x y : Operand} {f : Fn} {a b : Array Value} {P : Program} (w : World) : (eqGuard op t x y (.func f a b) .nilFunc).run P w = .ok () w := by unfold eqGuard; split <;> rfl
theorem gd_nf {op : BinOp} {t : TypeId} {x y : Operand} {P : Program} (w : World) : (eqGuard op t x y .nilFunc .nilFunc).run P w = .ok () w := by unfold eqGuard; split <;> rfl
theorem eq_map {P : Program} {t k e : TypeId} {d : Nat} (hu : P.underlying t = some (.map k e)) (a : Option Nat) (w : World) : (Op.equalIn (d + 1) t (.map a) (.map none)).run P w = .ok a.isNone w := by
  rw [Op.equalIn]; cases a <;> simp [run_und hu]
theorem eq_ptr {P : Program} {t e : TypeId} {d : Nat} (hu : P.underlying t = some (.pointer e)) (a : Option Addr) (w : World) : (Op.equalIn (d + 1) t (.pointer a) (.pointer none)).run P w = .ok a.isNone w := by
  rw [Op.equalIn]; cases a <;> simp [run_und hu]
theorem eq_fn {P : Program} {t : TypeId} {ps rs : Array TypeId} {va : Bool} {d : Nat} (hu : P.underlying t = some (.func ps rs va)) (f : Fn) (a b : Array Value) (w : World) : (Op.equalIn (d + 1) t (.func f a b) .nilFunc).run P w = .ok false w := by
  rw [Op.equalIn]; simp [run_und hu]
theorem eq_nf {P : Program} {t : TypeId} {ps rs : Array TypeId} {va : Bool} {d : Nat} (hu : P.underlying t = some (.func ps rs va)) (w : World) : (Op.equalIn (d + 1) t .nilFunc .nilFunc).run P w = .ok true w := by
  rw [Op.equalIn]; simp [run_und hu]
theorem eq_str {P : Program} {t : TypeId} {d : Nat} (hu : P.underlying t = some .string) (a b : ByteArray) (w : World) : (Op.equalIn (d + 1) t (.string a) (.string b)).run P w = .ok (a == b) w := by
  rw [Op.equalIn]; simp [run_und hu]
theorem eq_bool {P : Program} {t : TypeId} {d : Nat} (hu : P.underlying t = some .bool) (a b : Bool) (w : World) : (Op.equalIn (d + 1) t (.bool a) (.bool b)).run P w = .ok (a == b) w := by
  rw [Op.equalIn]; simp [run_und hu]

theorem run_newObj (P : Program) (ob : Obj) (w : World) : (newObj ob).run P w = .ok w.heap.size (w.alloc ob) := rfl

/-! ### Going through a map -/
/-- ob: an iterator over the map in block r, which holds kvs; rest is to come yet; cur came last. -/
def MI {κ : Type} (enc : κ → Value) (r : Nat) (ob mob : Obj) (kvs rest : List (κ × Value)) (cur : Option (κ × Value)) : Prop :=
  Mp enc mob kvs ∧ ∃ es clk seen, mob = .map es clk ∧ ob = .mapIter (some r) clk seen clk ∧ (leftOf es seen).toList.map (fun e => (e.key, e.val)) = rest.map (fun p => (enc p.1, p.2)) ∧
    ∀ p, cur = some p → ∃ e ∈ es.toList, ∃ s : Array Nat, seen = s.push e.born ∧ e.key = enc p.1 ∧ e.val = p.2

theorem left_push {es : Array MapEntry} {seen : Array Nat} {e : MapEntry} {pre post : List MapEntry} (hn : (es.toList.map (·.born)).Nodup) (h : (leftOf es seen).toList = pre ++ e :: post) : (leftOf es (seen.push e.born)).toList = pre ++ post := by
  have h1 : (leftOf es (seen.push e.born)).toList = (leftOf es seen).toList.filter fun x => x.born != e.born := by
    simp only [leftOf, Array.toList_filter, List.filter_filter]
    congr 1
    funext x
    rw [contains_push]
    cases seen.contains x.born <;> cases hx : (x.born == e.born) <;> simp [bne, hx]
  have h2 : ((leftOf es seen).toList.map (·.born)).Nodup := by
    refine hn.sublist (List.Sublist.map _ ?_)
    simp only [leftOf, Array.toList_filter]
    exact List.filter_sublist
  rw [h1, h]
  rw [h, List.map_append, List.map_cons, List.nodup_append] at h2
  obtain ⟨-, h3, h4⟩ := h2
  rw [List.nodup_cons] at h3
  rw [List.filter_append, List.filter_cons]
  have e1 : pre.filter (fun x => x.born != e.born) = pre := List.filter_eq_self.2 fun x hx => by
    simp only [bne_iff_ne, ne_eq]; exact fun q => h4 x.born (List.mem_map_of_mem hx) e.born (by simp) q
  have e2 : post.filter (fun x => x.born != e.born) = post := List.filter_eq_self.2 fun x hx => by
    simp only [bne_iff_ne, ne_eq]; exact fun q => h3.1 (q ▸ List.mem_map_of_mem hx)
  simp [e1, e2]

theorem rgm {κ : Type} {x : Operand} {t kt et : TypeId} {enc : κ → Value} {r : Nat} {ob : Obj} {kvs : List (κ × Value)} (hu : c.P.underlying t = some (.map kt et)) (hm : Mp enc ob kvs) (hr : Hm c.M h r ob) (hx : ev l x = some (.map (some r))) (hd : Nat.blt d c.N = true)
    (k : ∀ b ib, MI enc r ib ob kvs kvs none → GL c D ops K rest ((d, pt b 0) :: l) ([(b, ib)] :: h)) : GL c D ops K (⟨some d, .range t x, ty, pos, af, none⟩ :: rest) l h := by
  obtain ⟨es, clk, rfl, h1, h2, h3, h4, h5⟩ := id hm
  refine GL.new (v := fun b => pt b 0) (ob := .mapIter (some r) clk #[] clk) (by simp) (fun a w e s => ?_) hd (fun b => k b _ ⟨hm, es, clk, #[], rfl, rfl, ?_, by simp⟩)
  · have hw : w.heap[r]? = some (.map es clk) := (HS.nil_app s).le _ _ hr
    simp only [execOp, ev_eq e (x := x) (by simp [Op.operands]) hx, Instr.range, Sem.run_bind, run_und hu, Result.andThen_ok, run_getObj hw, Sem.run_pure, run_newObj]
  · have : (leftOf es #[]) = es := by simp [leftOf]
    rw [this]
    apply List.ext_getElem?
    intro i
    have a1 := congrArg (fun q => q[i]?) h1
    have a2 := congrArg (fun q => q[i]?) h2
    simp only [List.getElem?_map] at a1 a2 ⊢
    cases hq : es.toList[i]? <;> cases hp : kvs[i]? <;> simp_all

theorem map_split {α β : Type} {f : α → β} : ∀ {l : List α} {a b : List β} {x : β}, l.map f = a ++ x :: b → ∃ l1 y l2, l = l1 ++ y :: l2 ∧ l1.map f = a ∧ f y = x ∧ l2.map f = b := by
  intro l a b x h
  obtain ⟨l1, l2, rfl, h1, h2⟩ := List.map_eq_append_iff.1 h
  obtain ⟨y, l3, rfl, h3, h4⟩ := List.map_eq_cons_iff.1 h2
  exact ⟨l1, y, l3, rfl, h1, h3, h4⟩

/-- The next one of a map. The iterator's item stands at the front. -/
theorem nxm {κ : Type} {x : Operand} {enc : κ → Value} {r b : Nat} {ob mob : Obj} {kvs rst : List (κ × Value)} {cur : Option (κ × Value)} {hs : List Own} (hi : MI enc r ob mob kvs rst cur) (hr : Hm c.M hs r mob) (hx : ev l x = some (pt b 0)) (hd : Nat.blt d c.N = true)
    (k0 : rst = [] → GL c D ops K rest ((d, .tuple #[.bool false]) :: l) ([(b, ob)] :: hs))
    (k1 : ∀ pre p post ob', rst = pre ++ p :: post → MI enc r ob' mob kvs (pre ++ post) (some p) → GL c D ops K rest ((d, .tuple #[.bool true, enc p.1, p.2]) :: l) ([(b, ob')] :: hs)) :
    GL c D ops K (⟨some d, .next x false, ty, pos, af, none⟩ :: rest) l ([(b, ob)] :: hs) := by
  intro a w e s
  simp only [wpL, wanted_none, if_true]
  obtain ⟨hm, es, clk, seen, rfl, rfl, h1, h2⟩ := hi
  obtain ⟨es', clk', h0, hk, hv, hnd, hbn, hlt⟩ := id hm
  cases h0
  have hb : w.heap[b]? = some (.mapIter (some r) clk seen clk) := s.chg.own (b, _) (by simp)
  have hM : w.heap[r]? = some (.map es clk) := (HS.nil_app s).le r _ (Hm.tl _ _ hr)
  have hn : (es.toList.map (·.born)).Nodup := hbn.imp fun h => Nat.ne_of_lt h
  have hev := ev_eq (e.on _) (x := x) (xs := (Op.next x false).operands) (by simp [Op.operands]) hx
  rcases run_next_at (P := c.P) w ty b r clk clk seen es clk hb hM hlt (Nat.le_refl _) with ⟨q0, q1⟩ | ⟨en, hen, w1, hw1, q1⟩
  · have hrun : (execOp a.eval ⟨some d, .next x false, ty, pos, af, none⟩).run c.P w = .ok (.value (.tuple #[.bool false])) w := by simp [execOp, hev, q1]
    have : rst = [] := by
      have := congrArg List.length h1
      simp only [List.length_map, Array.length_toList, q0] at this
      exact List.eq_nil_of_length_eq_zero this.symm
    exact opW.of (by simp) hrun (fun _ _ q => by cases q) (k0 this _ _ (e.put hd _) s)
  · have hrun : (execOp a.eval ⟨some d, .next x false, ty, pos, af, none⟩).run c.P w = .ok (.value (.tuple #[.bool true, en.key, en.val])) (ChangeMaps.setBlock w1 b (.mapIter (some r) clk (seen.push en.born) clk)) := by simp [execOp, hev, q1]
    obtain ⟨l1, l2, hl⟩ := List.append_of_mem hen
    have h1' := h1
    rw [hl, List.map_append, List.map_cons] at h1'
    obtain ⟨pre, p, post, rfl, e1, e2, e3⟩ := map_split h1'.symm
    have e2' : enc p.1 = en.key ∧ p.2 = en.val := by simpa using e2
    obtain ⟨hp1, hp2⟩ := e2'
    have hs1 : HS c ([(b, .mapIter (some r) clk seen clk)] :: hs) w1 := by
      rcases hw1 with rfl | rfl
      · exact s
      · exact s.drawn _
    have hb1 : w1.heap[b]? = some (.mapIter (some r) clk seen clk) := hs1.chg.own (b, _) (by simp)
    have hs2 : HS c ([(b, .mapIter (some r) clk (seen.push en.born) clk)] :: hs) (ChangeMaps.setBlock w1 b (.mapIter (some r) clk (seen.push en.born) clk)) := by
      refine hs1.set rfl rfl rfl (by simp [ChangeMaps.setBlock]) (fun j hj => ?_) ?_
      · simp [ChangeMaps.setBlock, Array.getElem?_setIfInBounds, Ne.symm hj]
      · simp [ChangeMaps.setBlock, Array.getElem?_setIfInBounds, lt_of_heap hb1]
    have := k1 pre p post (.mapIter (some r) clk (seen.push en.born) clk) rfl ⟨hm, es, clk, _, rfl, rfl, ?_, fun q hq => ?_⟩
    · rw [hp1, hp2] at this
      exact opW.of (by simp) hrun (fun _ _ q => by cases q) (this _ _ (e.put hd _) hs2)
    · rw [left_push hn hl, List.map_append, List.map_append, ← e1, ← e3]
    · cases hq
      exact ⟨en, (mem_left hen).1, seen, rfl, hp1.symm, hp2.symm⟩

/-- The entry that came last. -/
theorem ent {κ : Type} {x : Operand} {enc : κ → Value} {r b : Nat} {ob mob : Obj} {kvs rst : List (κ × Value)} {p : κ × Value} {hs : List Own} (hi : MI enc r ob mob kvs rst (some p)) (hr : Hm c.M hs r mob) (hx : ev l x = some (pt b 0)) :
    OpV c ⟨dst, .entry x, ty, pos, af, g⟩ l ([(b, ob)] :: hs) (.tuple #[enc p.1, p.2]) :=
  .of0 (fun _ => by simp) fun a w e ⟨hx', s⟩ => by
    obtain ⟨hm, es, clk, seen, rfl, rfl, h1, h2⟩ := hi
    obtain ⟨es', clk', h0, hk, hv, hnd, hbn, hlt⟩ := id hm
    cases h0
    obtain ⟨en, hen, s', rfl, h3, h4⟩ := h2 p rfl
    have hb : w.heap[b]? = some (.mapIter (some r) clk (s'.push en.born) clk) := s.le b _ (Hm.i0 _ _ (by simp [Im]))
    have hM : w.heap[r]? = some (.map es clk) := s.le r _ (Hm.tl _ _ hr)
    have hn : (es.toList.map (·.born)).Nodup := hbn.imp fun h => Nat.ne_of_lt h
    have := run_entry_at (P := c.P) w b r clk s' es clk en hb hM hen hn
    simp [execOp, ev_eq e (x := x) (by simp [Op.operands]) hx, this, h3, h4]

/-! ### Going through a string -/
theorem rgs {x : Operand} {t : TypeId} {s : ByteArray} (hu : c.P.underlying t = some .string) (hx : ev l x = some (.string s)) (hd : Nat.blt d c.N = true)
    (k : ∀ b, GL c D ops K rest ((d, pt b 0) :: l) ([(b, .stringIter s 0)] :: h)) : GL c D ops K (⟨some d, .range t x, ty, pos, af, none⟩ :: rest) l h :=
  GL.new (v := fun b => pt b 0) (by simp) (fun a w e _ => by simp only [execOp, ev_eq e (x := x) (by simp [Op.operands]) hx, Instr.range, Sem.run_bind, run_und hu, Result.andThen_ok, Sem.run_pure, run_newObj]) hd k
theorem nxs {x : Operand} {s : ByteArray} {b p : Nat} {hs : List Own} (hx : ev l x = some (pt b 0)) (hd : Nat.blt d c.N = true)
    (k0 : s.size ≤ p → GL c D ops K rest ((d, .tuple #[.bool false]) :: l) ([(b, .stringIter s p)] :: hs))
    (k1 : p < s.size → GL c D ops K rest ((d, .tuple #[.bool true, .int .i64 p, .int .i32 (Utf8.decode s p).1]) :: l) ([(b, .stringIter s (p + (Utf8.decode s p).2))] :: hs)) :
    GL c D ops K (⟨some d, .next x true, ty, pos, af, none⟩ :: rest) l ([(b, .stringIter s p)] :: hs) := by
  intro a w e st
  simp only [wpL, wanted_none, if_true]
  have hb : w.heap[b]? = some (.stringIter s p) := st.chg.own (b, _) (by simp)
  have hev := ev_eq (e.on _) (x := x) (xs := (Op.next x true).operands) (by simp [Op.operands]) hx
  by_cases hp : p < s.size
  · have hrun : (execOp a.eval ⟨some d, .next x true, ty, pos, af, none⟩).run c.P w = .ok (.value (.tuple #[.bool true, .int .i64 p, .int .i32 (Utf8.decode s p).1])) { w with heap := w.heap.setIfInBounds b (.stringIter s (p + (Utf8.decode s p).2)) } := by
      simp [execOp, hev, Instr.next, getObj, setObj, Sem.run, hb, hp, goInt]
    refine opW.of (by simp) hrun (fun _ _ q => by cases q) (k1 hp _ _ (e.put hd _) (st.set rfl rfl rfl (by simp) (fun j hj => ?_) ?_))
    · show (w.heap.setIfInBounds b _)[j]? = _
      simp [Array.getElem?_setIfInBounds, Ne.symm hj]
    · show (w.heap.setIfInBounds b _)[b]? = _
      simp [Array.getElem?_setIfInBounds, lt_of_heap hb]
  · have hrun : (execOp a.eval ⟨some d, .next x true, ty, pos, af, none⟩).run c.P w = .ok (.value (.tuple #[.bool false])) w := by
      simp [execOp, hev, Instr.next, getObj, Sem.run, hb, hp]
    exact opW.of (by simp) hrun (fun _ _ q => by cases q) (k0 (by omega) _ _ (e.put hd _) st)
/-- s[i:] of a string. -/
theorem sls {x i : Operand} {t : TypeId} {s : ByteArray} {j : Int} {ik : IntKind} (hu : c.P.underlying t = some .string) (hx : ev l x = some (.string s)) (hi : ev l i = some (.int ik j)) (h0 : 0 ≤ j) (h1 : j ≤ s.size) :
    OpV c ⟨dst, .slice t x (some i) none none, ty, pos, af, g⟩ l h (.string (s.extract j.toNat s.size)) :=
  .of0 (fun _ => by simp) fun a w e _ => by
    simp [execOp, ev_eq e (x := x) (by simp [Op.operands]) hx, ev_eq e (x := i) (by simp [Op.operands]) hi, Instr.sliceAt, Instr.slice, run_und hu, Instr.sliceBounds, Instr.sliceBound, asIntOf, h0, h1]
end ops
end Go.W
/- More turns of the items. No program is named here. -/
namespace Go.W
open Go
section
variable {c : Cx} {D : List Deferred} {ops : Array Oper} {K : Act → World → Prop} {rest : List Oper} {l : Env} {code : Code} {ex : Exit} {Q : Exit → Act → World → Prop} {o : Oper} {v : Value}
theorem r8 {x0 x1 x2 x3 x4 x5 x6 x7 z : Own} {t : List Own} (x : GL c D ops K rest l (z :: x0 :: x1 :: x2 :: x3 :: x4 :: x5 :: x6 :: x7 :: t)) : GL c D ops K rest l (x0 :: x1 :: x2 :: x3 :: x4 :: x5 :: x6 :: x7 :: z :: t) := rotG [x0, x1, x2, x3, x4, x5, x6, x7] x
theorem w8 {x0 x1 x2 x3 x4 x5 x6 x7 z : Own} {t : List Own} (x : OpV c o l (z :: x0 :: x1 :: x2 :: x3 :: x4 :: x5 :: x6 :: x7 :: t) v) : OpV c o l (x0 :: x1 :: x2 :: x3 :: x4 :: x5 :: x6 :: x7 :: z :: t) v := rotV [x0, x1, x2, x3, x4, x5, x6, x7] x
theorem gR8 {x0 x1 x2 x3 x4 x5 x6 x7 z : Own} {t : List Own} (y : G c D code Q l (z :: x0 :: x1 :: x2 :: x3 :: x4 :: x5 :: x6 :: x7 :: t)) : G c D code Q l (x0 :: x1 :: x2 :: x3 :: x4 :: x5 :: x6 :: x7 :: z :: t) := rotC [x0, x1, x2, x3, x4, x5, x6, x7] y
theorem gr8 {x0 x1 x2 x3 x4 x5 x6 x7 z : Own} {t : List Own} (y : GE c D ex Q l (z :: x0 :: x1 :: x2 :: x3 :: x4 :: x5 :: x6 :: x7 :: t)) : GE c D ex Q l (x0 :: x1 :: x2 :: x3 :: x4 :: x5 :: x6 :: x7 :: z :: t) := rotE [x0, x1, x2, x3, x4, x5, x6, x7] y
end
section
variable {c : Cx} {D : List Deferred} {ops : Array Oper} {K : Act → World → Prop} {rest : List Oper} {l : Env} {code : Code} {ex : Exit} {Q : Exit → Act → World → Prop} {o : Oper} {v : Value}
theorem r9 {x0 x1 x2 x3 x4 x5 x6 x7 x8 z : Own} {t : List Own} (x : GL c D ops K rest l (z :: x0 :: x1 :: x2 :: x3 :: x4 :: x5 :: x6 :: x7 :: x8 :: t)) : GL c D ops K rest l (x0 :: x1 :: x2 :: x3 :: x4 :: x5 :: x6 :: x7 :: x8 :: z :: t) := rotG [x0, x1, x2, x3, x4, x5, x6, x7, x8] x
theorem w9 {x0 x1 x2 x3 x4 x5 x6 x7 x8 z : Own} {t : List Own} (x : OpV c o l (z :: x0 :: x1 :: x2 :: x3 :: x4 :: x5 :: x6 :: x7 :: x8 :: t) v) : OpV c o l (x0 :: x1 :: x2 :: x3 :: x4 :: x5 :: x6 :: x7 :: x8 :: z :: t) v := rotV [x0, x1, x2, x3, x4, x5, x6, x7, x8] x
theorem gR9 {x0 x1 x2 x3 x4 x5 x6 x7 x8 z : Own} {t : List Own} (y : G c D code Q l (z :: x0 :: x1 :: x2 :: x3 :: x4 :: x5 :: x6 :: x7 :: x8 :: t)) : G c D code Q l (x0 :: x1 :: x2 :: x3 :: x4 :: x5 :: x6 :: x7 :: x8 :: z :: t) := rotC [x0, x1, x2, x3, x4, x5, x6, x7, x8] y
theorem gr9 {x0 x1 x2 x3 x4 x5 x6 x7 x8 z : Own} {t : List Own} (y : GE c D ex Q l (z :: x0 :: x1 :: x2 :: x3 :: x4 :: x5 :: x6 :: x7 :: x8 :: t)) : GE c D ex Q l (x0 :: x1 :: x2 :: x3 :: x4 :: x5 :: x6 :: x7 :: x8 :: z :: t) := rotE [x0, x1, x2, x3, x4, x5, x6, x7, x8] y
end
section
variable {c : Cx} {D : List Deferred} {ops : Array Oper} {K : Act → World → Prop} {rest : List Oper} {l : Env} {code : Code} {ex : Exit} {Q : Exit → Act → World → Prop} {o : Oper} {v : Value}
theorem r10 {x0 x1 x2 x3 x4 x5 x6 x7 x8 x9 z : Own} {t : List Own} (x : GL c D ops K rest l (z :: x0 :: x1 :: x2 :: x3 :: x4 :: x5 :: x6 :: x7 :: x8 :: x9 :: t)) : GL c D ops K rest l (x0 :: x1 :: x2 :: x3 :: x4 :: x5 :: x6 :: x7 :: x8 :: x9 :: z :: t) := rotG [x0, x1, x2, x3, x4, x5, x6, x7, x8, x9] x
theorem w10 {x0 x1 x2 x3 x4 x5 x6 x7 x8 x9 z : Own} {t : List Own} (x : OpV c o l (z :: x0 :: x1 :: x2 :: x3 :: x4 :: x5 :: x6 :: x7 :: x8 :: x9 :: t) v) : OpV c o l (x0 :: x1 :: x2 :: x3 :: x4 :: x5 :: x6 :: x7 :: x8 :: x9 :: z :: t) v := rotV [x0, x1, x2, x3, x4, x5, x6, x7, x8, x9] x
theorem gR10 {x0 x1 x2 x3 x4 x5 x6 x7 x8 x9 z : Own} {t : List Own} (y : G c D code Q l (z :: x0 :: x1 :: x2 :: x3 :: x4 :: x5 :: x6 :: x7 :: x8 :: x9 :: t)) : G c D code Q l (x0 :: x1 :: x2 :: x3 :: x4 :: x5 :: x6 :: x7 :: x8 :: x9 :: z :: t) := rotC [x0, x1, x2, x3, x4, x5, x6, x7, x8, x9] y
theorem gr10 {x0 x1 x2 x3 x4 x5 x6 x7 x8 x9 z : Own} {t : List Own} (y : GE c D ex Q l (z :: x0 :: x1 :: x2 :: x3 :: x4 :: x5 :: x6 :: x7 :: x8 :: x9 :: t)) : GE c D ex Q l (x0 :: x1 :: x2 :: x3 :: x4 :: x5 :: x6 :: x7 :: x8 :: x9 :: z :: t) := rotE [x0, x1, x2, x3, x4, x5, x6, x7, x8, x9] y
end
section
variable {c : Cx} {D : List Deferred} {ops : Array Oper} {K : Act → World → Prop} {rest : List Oper} {l : Env} {code : Code} {ex : Exit} {Q : Exit → Act → World → Prop} {o : Oper} {v : Value}
theorem r11 {x0 x1 x2 x3 x4 x5 x6 x7 x8 x9 x10 z : Own} {t : List Own} (x : GL c D ops K rest l (z :: x0 :: x1 :: x2 :: x3 :: x4 :: x5 :: x6 :: x7 :: x8 :: x9 :: x10 :: t)) : GL c D ops K rest l (x0 :: x1 :: x2 :: x3 :: x4 :: x5 :: x6 :: x7 :: x8 :: x9 :: x10 :: z :: t) := rotG [x0, x1, x2, x3, x4, x5, x6, x7, x8, x9, x10] x
theorem w11 {x0 x1 x2 x3 x4 x5 x6 x7 x8 x9 x10 z : Own} {t : List Own} (x : OpV c o l (z :: x0 :: x1 :: x2 :: x3 :: x4 :: x5 :: x6 :: x7 :: x8 :: x9 :: x10 :: t) v) : OpV c o l (x0 :: x1 :: x2 :: x3 :: x4 :: x5 :: x6 :: x7 :: x8 :: x9 :: x10 :: z :: t) v := rotV [x0, x1, x2, x3, x4, x5, x6, x7, x8, x9, x10] x
theorem gR11 {x0 x1 x2 x3 x4 x5 x6 x7 x8 x9 x10 z : Own} {t : List Own} (y : G c D code Q l (z :: x0 :: x1 :: x2 :: x3 :: x4 :: x5 :: x6 :: x7 :: x8 :: x9 :: x10 :: t)) : G c D code Q l (x0 :: x1 :: x2 :: x3 :: x4 :: x5 :: x6 :: x7 :: x8 :: x9 :: x10 :: z :: t) := rotC [x0, x1, x2, x3, x4, x5, x6, x7, x8, x9, x10] y
theorem gr11 {x0 x1 x2 x3 x4 x5 x6 x7 x8 x9 x10 z : Own} {t : List Own} (y : GE c D ex Q l (z :: x0 :: x1 :: x2 :: x3 :: x4 :: x5 :: x6 :: x7 :: x8 :: x9 :: x10 :: t)) : GE c D ex Q l (x0 :: x1 :: x2 :: x3 :: x4 :: x5 :: x6 :: x7 :: x8 :: x9 :: x10 :: z :: t) := rotE [x0, x1, x2, x3, x4, x5, x6, x7, x8, x9, x10] y
end
section
variable {c : Cx} {D : List Deferred} {ops : Array Oper} {K : Act → World → Prop} {rest : List Oper} {l : Env} {code : Code} {ex : Exit} {Q : Exit → Act → World → Prop} {o : Oper} {v : Value}
theorem r12 {x0 x1 x2 x3 x4 x5 x6 x7 x8 x9 x10 x11 z : Own} {t : List Own} (x : GL c D ops K rest l (z :: x0 :: x1 :: x2 :: x3 :: x4 :: x5 :: x6 :: x7 :: x8 :: x9 :: x10 :: x11 :: t)) : GL c D ops K rest l (x0 :: x1 :: x2 :: x3 :: x4 :: x5 :: x6 :: x7 :: x8 :: x9 :: x10 :: x11 :: z :: t) := rotG [x0, x1, x2, x3, x4, x5, x6, x7, x8, x9, x10, x11] x
theorem w12 {x0 x1 x2 x3 x4 x5 x6 x7 x8 x9 x10 x11 z : Own} {t : List Own} (x : OpV c o l (z :: x0 :: x1 :: x2 :: x3 :: x4 :: x5 :: x6 :: x7 :: x8 :: x9 :: x10 :: x11 :: t) v) : OpV c o l (x0 :: x1 :: x2 :: x3 :: x4 :: x5 :: x6 :: x7 :: x8 :: x9 :: x10 :: x11 :: z :: t) v := rotV [x0, x1, x2, x3, x4, x5, x6, x7, x8, x9, x10, x11] x
theorem gR12 {x0 x1 x2 x3 x4 x5 x6 x7 x8 x9 x10 x11 z : Own} {t : List Own} (y : G c D code Q l (z :: x0 :: x1 :: x2 :: x3 :: x4 :: x5 :: x6 :: x7 :: x8 :: x9 :: x10 :: x11 :: t)) : G c D code Q l (x0 :: x1 :: x2 :: x3 :: x4 :: x5 :: x6 :: x7 :: x8 :: x9 :: x10 :: x11 :: z :: t) := rotC [x0, x1, x2, x3, x4, x5, x6, x7, x8, x9, x10, x11] y
theorem gr12 {x0 x1 x2 x3 x4 x5 x6 x7 x8 x9 x10 x11 z : Own} {t : List Own} (y : GE c D ex Q l (z :: x0 :: x1 :: x2 :: x3 :: x4 :: x5 :: x6 :: x7 :: x8 :: x9 :: x10 :: x11 :: t)) : GE c D ex Q l (x0 :: x1 :: x2 :: x3 :: x4 :: x5 :: x6 :: x7 :: x8 :: x9 :: x10 :: x11 :: z :: t) := rotE [x0, x1, x2, x3, x4, x5, x6, x7, x8, x9, x10, x11] y
end
section
variable {c : Cx} {D : List Deferred} {ops : Array Oper} {K : Act → World → Prop} {rest : List Oper} {l : Env} {code : Code} {ex : Exit} {Q : Exit → Act → World → Prop} {o : Oper} {v : Value}
theorem r13 {x0 x1 x2 x3 x4 x5 x6 x7 x8 x9 x10 x11 x12 z : Own} {t : List Own} (x : GL c D ops K rest l (z :: x0 :: x1 :: x2 :: x3 :: x4 :: x5 :: x6 :: x7 :: x8 :: x9 :: x10 :: x11 :: x12 :: t)) : GL c D ops K rest l (x0 :: x1 :: x2 :: x3 :: x4 :: x5 :: x6 :: x7 :: x8 :: x9 :: x10 :: x11 :: x12 :: z :: t) := rotG [x0, x1, x2, x3, x4, x5, x6, x7, x8, x9, x10, x11, x12] x
theorem w13 {x0 x1 x2 x3 x4 x5 x6 x7 x8 x9 x10 x11 x12 z : Own} {t : List Own} (x : OpV c o l (z :: x0 :: x1 :: x2 :: x3 :: x4 :: x5 :: x6 :: x7 :: x8 :: x9 :: x10 :: x11 :: x12 :: t) v) : OpV c o l (x0 :: x1 :: x2 :: x3 :: x4 :: x5 :: x6 :: x7 :: x8 :: x9 :: x10 :: x11 :: x12 :: z :: t) v := rotV [x0, x1, x2, x3, x4, x5, x6, x7, x8, x9, x10, x11, x12] x
theorem gR13 {x0 x1 x2 x3 x4 x5 x6 x7 x8 x9 x10 x11 x12 z : Own} {t : List Own} (y : G c D code Q l (z :: x0 :: x1 :: x2 :: x3 :: x4 :: x5 :: x6 :: x7 :: x8 :: x9 :: x10 :: x11 :: x12 :: t)) : G c D code Q l (x0 :: x1 :: x2 :: x3 :: x4 :: x5 :: x6 :: x7 :: x8 :: x9 :: x10 :: x11 :: x12 :: z :: t) := rotC [x0, x1, x2, x3, x4, x5, x6, x7, x8, x9, x10, x11, x12] y
theorem gr13 {x0 x1 x2 x3 x4 x5 x6 x7 x8 x9 x10 x11 x12 z : Own} {t : List Own} (y : GE c D ex Q l (z :: x0 :: x1 :: x2 :: x3 :: x4 :: x5 :: x6 :: x7 :: x8 :: x9 :: x10 :: x11 :: x12 :: t)) : GE c D ex Q l (x0 :: x1 :: x2 :: x3 :: x4 :: x5 :: x6 :: x7 :: x8 :: x9 :: x10 :: x11 :: x12 :: z :: t) := rotE [x0, x1, x2, x3, x4, x5, x6, x7, x8, x9, x10, x11, x12] y
end
section
variable {c : Cx} {D : List Deferred} {ops : Array Oper} {K : Act → World → Prop} {rest : List Oper} {l : Env} {code : Code} {ex : Exit} {Q : Exit → Act → World → Prop} {o : Oper} {v : Value}
theorem r14 {x0 x1 x2 x3 x4 x5 x6 x7 x8 x9 x10 x11 x12 x13 z : Own} {t : List Own} (x : GL c D ops K rest l (z :: x0 :: x1 :: x2 :: x3 :: x4 :: x5 :: x6 :: x7 :: x8 :: x9 :: x10 :: x11 :: x12 :: x13 :: t)) : GL c D ops K rest l (x0 :: x1 :: x2 :: x3 :: x4 :: x5 :: x6 :: x7 :: x8 :: x9 :: x10 :: x11 :: x12 :: x13 :: z :: t) := rotG [x0, x1, x2, x3, x4, x5, x6, x7, x8, x9, x10, x11, x12, x13] x
theorem w14 {x0 x1 x2 x3 x4 x5 x6 x7 x8 x9 x10 x11 x12 x13 z : Own} {t : List Own} (x : OpV c o l (z :: x0 :: x1 :: x2 :: x3 :: x4 :: x5 :: x6 :: x7 :: x8 :: x9 :: x10 :: x11 :: x12 :: x13 :: t) v) : OpV c o l (x0 :: x1 :: x2 :: x3 :: x4 :: x5 :: x6 :: x7 :: x8 :: x9 :: x10 :: x11 :: x12 :: x13 :: z :: t) v := rotV [x0, x1, x2, x3, x4, x5, x6, x7, x8, x9, x10, x11, x12, x13] x
theorem gR14 {x0 x1 x2 x3 x4 x5 x6 x7 x8 x9 x10 x11 x12 x13 z : Own} {t : List Own} (y : G c D code Q l (z :: x0 :: x1 :: x2 :: x3 :: x4 :: x5 :: x6 :: x7 :: x8 :: x9 :: x10 :: x11 :: x12 :: x13 :: t)) : G c D code Q l (x0 :: x1 :: x2 :: x3 :: x4 :: x5 :: x6 :: x7 :: x8 :: x9 :: x10 :: x11 :: x12 :: x13 :: z :: t) := rotC [x0, x1, x2, x3, x4, x5, x6, x7, x8, x9, x10, x11, x12, x13] y
theorem gr14 {x0 x1 x2 x3 x4 x5 x6 x7 x8 x9 x10 x11 x12 x13 z : Own} {t : List Own} (y : GE c D ex Q l (z :: x0 :: x1 :: x2 :: x3 :: x4 :: x5 :: x6 :: x7 :: x8 :: x9 :: x10 :: x11 :: x12 :: x13 :: t)) : GE c D ex Q l (x0 :: x1 :: x2 :: x3 :: x4 :: x5 :: x6 :: x7 :: x8 :: x9 :: x10 :: x11 :: x12 :: x13 :: z :: t) := rotE [x0, x1, x2, x3, x4, x5, x6, x7, x8, x9, x10, x11, x12, x13] y
end
theorem hK7 {c : Cx} {x0 x1 x2 x3 x4 x5 x6 z : Own} {t : List Own} : ∀ w, HS c (x0 :: x1 :: x2 :: x3 :: x4 :: x5 :: x6 :: z :: t) w → HS c [x0, x1, x2, x3, x4, x5, x6] w := fun w s => s.dropIt (by simp)
theorem hK8 {c : Cx} {x0 x1 x2 x3 x4 x5 x6 x7 z : Own} {t : List Own} : ∀ w, HS c (x0 :: x1 :: x2 :: x3 :: x4 :: x5 :: x6 :: x7 :: z :: t) w → HS c [x0, x1, x2, x3, x4, x5, x6, x7] w := fun w s => s.dropIt (by simp)
theorem hK9 {c : Cx} {x0 x1 x2 x3 x4 x5 x6 x7 x8 z : Own} {t : List Own} : ∀ w, HS c (x0 :: x1 :: x2 :: x3 :: x4 :: x5 :: x6 :: x7 :: x8 :: z :: t) w → HS c [x0, x1, x2, x3, x4, x5, x6, x7, x8] w := fun w s => s.dropIt (by simp)
theorem hK10 {c : Cx} {x0 x1 x2 x3 x4 x5 x6 x7 x8 x9 z : Own} {t : List Own} : ∀ w, HS c (x0 :: x1 :: x2 :: x3 :: x4 :: x5 :: x6 :: x7 :: x8 :: x9 :: z :: t) w → HS c [x0, x1, x2, x3, x4, x5, x6, x7, x8, x9] w := fun w s => s.dropIt (by simp)
theorem hK11 {c : Cx} {x0 x1 x2 x3 x4 x5 x6 x7 x8 x9 x10 z : Own} {t : List Own} : ∀ w, HS c (x0 :: x1 :: x2 :: x3 :: x4 :: x5 :: x6 :: x7 :: x8 :: x9 :: x10 :: z :: t) w → HS c [x0, x1, x2, x3, x4, x5, x6, x7, x8, x9, x10] w := fun w s => s.dropIt (by simp)
theorem hK12 {c : Cx} {x0 x1 x2 x3 x4 x5 x6 x7 x8 x9 x10 x11 z : Own} {t : List Own} : ∀ w, HS c (x0 :: x1 :: x2 :: x3 :: x4 :: x5 :: x6 :: x7 :: x8 :: x9 :: x10 :: x11 :: z :: t) w → HS c [x0, x1, x2, x3, x4, x5, x6, x7, x8, x9, x10, x11] w := fun w s => s.dropIt (by simp)
theorem hK13 {c : Cx} {x0 x1 x2 x3 x4 x5 x6 x7 x8 x9 x10 x11 x12 z : Own} {t : List Own} : ∀ w, HS c (x0 :: x1 :: x2 :: x3 :: x4 :: x5 :: x6 :: x7 :: x8 :: x9 :: x10 :: x11 :: x12 :: z :: t) w → HS c [x0, x1, x2, x3, x4, x5, x6, x7, x8, x9, x10, x11, x12] w := fun w s => s.dropIt (by simp)
theorem hK14 {c : Cx} {x0 x1 x2 x3 x4 x5 x6 x7 x8 x9 x10 x11 x12 x13 z : Own} {t : List Own} : ∀ w, HS c (x0 :: x1 :: x2 :: x3 :: x4 :: x5 :: x6 :: x7 :: x8 :: x9 :: x10 :: x11 :: x12 :: x13 :: z :: t) w → HS c [x0, x1, x2, x3, x4, x5, x6, x7, x8, x9, x10, x11, x12, x13] w := fun w s => s.dropIt (by simp)
theorem Hm.i8 {M : Mem} {x0 x1 x2 x3 x4 x5 x6 x7 z : Own} {h : List Own} : MLe (Im z) (Hm M (x0 :: x1 :: x2 :: x3 :: x4 :: x5 :: x6 :: x7 :: z :: h)) := Hm.i7.trans Hm.tl
theorem Hm.i9 {M : Mem} {x0 x1 x2 x3 x4 x5 x6 x7 x8 z : Own} {h : List Own} : MLe (Im z) (Hm M (x0 :: x1 :: x2 :: x3 :: x4 :: x5 :: x6 :: x7 :: x8 :: z :: h)) := Hm.i8.trans Hm.tl
theorem Hm.i10 {M : Mem} {x0 x1 x2 x3 x4 x5 x6 x7 x8 x9 z : Own} {h : List Own} : MLe (Im z) (Hm M (x0 :: x1 :: x2 :: x3 :: x4 :: x5 :: x6 :: x7 :: x8 :: x9 :: z :: h)) := Hm.i9.trans Hm.tl
theorem Hm.i11 {M : Mem} {x0 x1 x2 x3 x4 x5 x6 x7 x8 x9 x10 z : Own} {h : List Own} : MLe (Im z) (Hm M (x0 :: x1 :: x2 :: x3 :: x4 :: x5 :: x6 :: x7 :: x8 :: x9 :: x10 :: z :: h)) := Hm.i10.trans Hm.tl
theorem Hm.i12 {M : Mem} {x0 x1 x2 x3 x4 x5 x6 x7 x8 x9 x10 x11 z : Own} {h : List Own} : MLe (Im z) (Hm M (x0 :: x1 :: x2 :: x3 :: x4 :: x5 :: x6 :: x7 :: x8 :: x9 :: x10 :: x11 :: z :: h)) := Hm.i11.trans Hm.tl
theorem Hm.i13 {M : Mem} {x0 x1 x2 x3 x4 x5 x6 x7 x8 x9 x10 x11 x12 z : Own} {h : List Own} : MLe (Im z) (Hm M (x0 :: x1 :: x2 :: x3 :: x4 :: x5 :: x6 :: x7 :: x8 :: x9 :: x10 :: x11 :: x12 :: z :: h)) := Hm.i12.trans Hm.tl
theorem Hm.i14 {M : Mem} {x0 x1 x2 x3 x4 x5 x6 x7 x8 x9 x10 x11 x12 x13 z : Own} {h : List Own} : MLe (Im z) (Hm M (x0 :: x1 :: x2 :: x3 :: x4 :: x5 :: x6 :: x7 :: x8 :: x9 :: x10 :: x11 :: x12 :: x13 :: z :: h)) := Hm.i13.trans Hm.tl
theorem o5 {c : Cx} {h : List Own} {x0 x1 x2 x3 z : Own} : ∀ w, HS c (x0 :: x1 :: x2 :: x3 :: z :: h) w → Chg c.w0 c.o0 z w := fun w s => o4 w (s.dropIt (List.sublist_cons_self _ _))
theorem o6 {c : Cx} {h : List Own} {x0 x1 x2 x3 x4 z : Own} : ∀ w, HS c (x0 :: x1 :: x2 :: x3 :: x4 :: z :: h) w → Chg c.w0 c.o0 z w := fun w s => o5 w (s.dropIt (List.sublist_cons_self _ _))
theorem o7 {c : Cx} {h : List Own} {x0 x1 x2 x3 x4 x5 z : Own} : ∀ w, HS c (x0 :: x1 :: x2 :: x3 :: x4 :: x5 :: z :: h) w → Chg c.w0 c.o0 z w := fun w s => o6 w (s.dropIt (List.sublist_cons_self _ _))
theorem o8 {c : Cx} {h : List Own} {x0 x1 x2 x3 x4 x5 x6 z : Own} : ∀ w, HS c (x0 :: x1 :: x2 :: x3 :: x4 :: x5 :: x6 :: z :: h) w → Chg c.w0 c.o0 z w := fun w s => o7 w (s.dropIt (List.sublist_cons_self _ _))
theorem o9 {c : Cx} {h : List Own} {x0 x1 x2 x3 x4 x5 x6 x7 z : Own} : ∀ w, HS c (x0 :: x1 :: x2 :: x3 :: x4 :: x5 :: x6 :: x7 :: z :: h) w → Chg c.w0 c.o0 z w := fun w s => o8 w (s.dropIt (List.sublist_cons_self _ _))
theorem o10 {c : Cx} {h : List Own} {x0 x1 x2 x3 x4 x5 x6 x7 x8 z : Own} : ∀ w, HS c (x0 :: x1 :: x2 :: x3 :: x4 :: x5 :: x6 :: x7 :: x8 :: z :: h) w → Chg c.w0 c.o0 z w := fun w s => o9 w (s.dropIt (List.sublist_cons_self _ _))
theorem o11 {c : Cx} {h : List Own} {x0 x1 x2 x3 x4 x5 x6 x7 x8 x9 z : Own} : ∀ w, HS c (x0 :: x1 :: x2 :: x3 :: x4 :: x5 :: x6 :: x7 :: x8 :: x9 :: z :: h) w → Chg c.w0 c.o0 z w := fun w s => o10 w (s.dropIt (List.sublist_cons_self _ _))
theorem o12 {c : Cx} {h : List Own} {x0 x1 x2 x3 x4 x5 x6 x7 x8 x9 x10 z : Own} : ∀ w, HS c (x0 :: x1 :: x2 :: x3 :: x4 :: x5 :: x6 :: x7 :: x8 :: x9 :: x10 :: z :: h) w → Chg c.w0 c.o0 z w := fun w s => o11 w (s.dropIt (List.sublist_cons_self _ _))
theorem o13 {c : Cx} {h : List Own} {x0 x1 x2 x3 x4 x5 x6 x7 x8 x9 x10 x11 z : Own} : ∀ w, HS c (x0 :: x1 :: x2 :: x3 :: x4 :: x5 :: x6 :: x7 :: x8 :: x9 :: x10 :: x11 :: z :: h) w → Chg c.w0 c.o0 z w := fun w s => o12 w (s.dropIt (List.sublist_cons_self _ _))
theorem o14 {c : Cx} {h : List Own} {x0 x1 x2 x3 x4 x5 x6 x7 x8 x9 x10 x11 x12 z : Own} : ∀ w, HS c (x0 :: x1 :: x2 :: x3 :: x4 :: x5 :: x6 :: x7 :: x8 :: x9 :: x10 :: x11 :: x12 :: z :: h) w → Chg c.w0 c.o0 z w := fun w s => o13 w (s.dropIt (List.sublist_cons_self _ _))
end Go.W
