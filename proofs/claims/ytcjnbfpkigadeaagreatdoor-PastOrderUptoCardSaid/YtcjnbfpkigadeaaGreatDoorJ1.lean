/- Lemmas for the walks of this program: The base of the walks: symbolic states (slots by a list, blocks of one's own by items), and the rules of the code's forms. No program is named here. The operations, one lemma each: what it yields (OpV), and the steps of a walk. No program is named here. Calls, the head and the end of a function's walk; sums; slices of slices; what is built. No program is named here. A region that draws its order: one walk serves every order. A: the operations that leave the items alone; F: those that make a block; T: those that write, behind all others (a few of A may come late). No program is named here. -/
import Derived.OrdersIn
import Derived.CallsIn
import Derived.RangeFuncIn
import Derived.Defers
import Derived.Laws.Sem
import Derived.Laws.World
import Derived.KernelRfl
import Derived.IntWalk
set_option linter.unusedVariables false
set_option linter.unusedSimpArgs false
/- The base of the walks: symbolic states (slots by a list, blocks of one's own by items), and the rules of the code's forms. No program is named here. -/
namespace Go.W
open Go

theorem beq_ff {a b : Nat} (h : ¬ a = b) : Nat.beq a b = false := by
  rw [← Bool.not_eq_true]; intro e; exact h (Nat.eq_of_beq_eq_true e)
theorem ne_of_beq {a b : Nat} (h : Nat.beq a b = false) : ¬ a = b := fun e => by subst e; rw [Nat.beq_refl] at h; cases h

abbrev Env := List (Nat × Value)
abbrev Own := List (Nat × Obj)
abbrev Mem := Nat → Obj → Prop

/-! ### Slots -/
def lk (t : Nat) : Env → Option Value
  | [] => none
  | (k, v) :: r => bif Nat.beq k t then some v else lk t r

def ev (l : Env) : Operand → Option Value
  | .tmp t => lk t l
  | .const v => some v
  | .global g => some (.pointer (some ⟨g, 0, none⟩))
  | .func f => some (.func (.func f) #[] #[])

def evs (l : Env) : List Operand → Option (List Value)
  | [] => some []
  | x :: r => match ev l x, evs l r with
    | some v, some vs => some (v :: vs)
    | _, _ => none

structure EOk (N : Nat) (D : List Deferred) (a : Act) (l : Env) : Prop where
  size : a.tmps.size = N
  dfr : a.defers = D
  get : ∀ t v, lk t l = some v → a.tmps[t]? = some v

/-- The operands' slots alone. -/
def EOn (xs : Array Operand) (a : Act) (l : Env) : Prop := ∀ t, Operand.tmp t ∈ xs → ∀ v, lk t l = some v → a.tmps[t]? = some v

theorem EOk.on {N : Nat} {D : List Deferred} {a : Act} {l : Env} (h : EOk N D a l) (xs : Array Operand) : EOn xs a l := fun t _ v hv => h.get t v hv

theorem getD_of {a : Array Value} {t : Nat} {v : Value} (h : a[t]? = some v) : a.getD t undef = v := by
  rw [Array.getD_eq_getD_getElem?, h]; rfl

theorem ev_eq {xs : Array Operand} {a : Act} {l : Env} (h : EOn xs a l) {x : Operand} (hx : x ∈ xs) {v : Value} (hv : ev l x = some v) : a.eval x = v := by
  cases x with
  | tmp t => exact getD_of (h t hx v hv)
  | const u => simpa [ev, Act.eval] using hv
  | global g => simpa [ev, Act.eval] using hv
  | func f => simpa [ev, Act.eval] using hv

theorem evs_eq {xs : Array Operand} {a : Act} {l : Env} (h : EOn xs a l) : ∀ (ys : List Operand), (∀ y ∈ ys, y ∈ xs) → ∀ vs, evs l ys = some vs → ys.map a.eval = vs := by
  intro ys
  induction ys with
  | nil => intro _ vs hv; simp [evs] at hv; simp [hv]
  | cons y ys ih =>
    intro hy vs hv
    simp only [evs] at hv
    split at hv
    · rename_i v vs' e1 e2
      cases hv
      simp [ev_eq h (hy y (by simp)) e1, ih (fun z hz => hy z (by simp [hz])) _ e2]
    · cases hv

theorem EOk.put {N : Nat} {D : List Deferred} {a : Act} {l : Env} (h : EOk N D a l) {d : Nat} (hd : Nat.blt d N = true) (v : Value) : EOk N D (a.put (some d) v) ((d, v) :: l) := by
  have hd : d < N := by simpa using hd
  refine ⟨by simp [Act.put, h.size], h.dfr, fun t u hu => ?_⟩
  simp only [lk] at hu
  by_cases e : d = t
  · subst e
    simp at hu
    subst hu
    simp [Act.put, Array.getElem?_setIfInBounds, h.size, hd]
  · have e' : Nat.beq d t = false := beq_ff e
    simp only [e', cond_false] at hu
    simp [Act.put, Array.getElem?_setIfInBounds, e, h.get t u hu]

theorem EOk.none {N : Nat} {D : List Deferred} {a : Act} {l : Env} (h : EOk N D a l) (v : Value) : EOk N D (a.put none v) l := h

/-- Some of the slots. -/
def Sub (l : Env) : Env → Prop
  | [] => True
  | (t, v) :: r => lk t l = some v ∧ Sub l r

theorem Sub.get {l : Env} : ∀ {l' : Env}, Sub l l' → ∀ t v, lk t l' = some v → lk t l = some v := by
  intro l'
  induction l' with
  | nil => intro _ t v h; cases h
  | cons p r ih =>
    intro h t v hv
    obtain ⟨k, u⟩ := p
    simp only [lk] at hv
    by_cases e : k = t
    · subst e; simp at hv; subst hv; exact h.1
    · have e' : Nat.beq k t = false := beq_ff e
      simp only [e', cond_false] at hv
      exact ih h.2 t v hv

theorem EOk.sub {N : Nat} {D : List Deferred} {a : Act} {l l' : Env} (h : EOk N D a l) (s : Sub l l') : EOk N D a l' := ⟨h.size, h.dfr, fun t v hv => h.get t v (s.get t v hv)⟩

theorem Sub.refl' (l : Env) (h : ∀ t v, (t, v) ∈ l → lk t l = some v) : Sub l l := by
  suffices ∀ l', (∀ t v, (t, v) ∈ l' → lk t l = some v) → Sub l l' from this l h
  intro l'
  induction l' with
  | nil => intro _; trivial
  | cons p r ih => intro h; exact ⟨h _ _ (by simp), ih fun t v hv => h t v (by simp [hv])⟩

/-! ### Memory -/
def Wm (w : World) : Mem := fun k ob => w.heap[k]? = some ob
def Im (o : Own) : Mem := fun k ob => (k, ob) ∈ o
/-- What can be read: the memory M that nobody writes, and the items. -/
def Hm (M : Mem) (h : List Own) : Mem := fun k ob => M k ob ∨ (k, ob) ∈ h.flatten

def MLe (M M' : Mem) : Prop := ∀ k ob, M k ob → M' k ob
theorem MLe.refl (M : Mem) : MLe M M := fun _ _ h => h
theorem MLe.trans {a b c : Mem} (h : MLe a b) (k : MLe b c) : MLe a c := fun x y z => k x y (h x y z)
theorem Hm.m {M : Mem} {h : List Own} : MLe M (Hm M h) := fun _ _ x => .inl x
theorem Hm.i0 {M : Mem} {a : Own} {h : List Own} : MLe (Im a) (Hm M (a :: h)) := fun _ _ x => .inr (by simp; exact .inl x)
theorem Hm.tl {M : Mem} {a : Own} {h : List Own} : MLe (Hm M h) (Hm M (a :: h)) := fun k ob x => by
  rcases x with x | x
  · exact .inl x
  · exact .inr (by simp only [List.flatten_cons, List.mem_append]; exact .inr x)
theorem Hm.i1 {M : Mem} {a b : Own} {h : List Own} : MLe (Im b) (Hm M (a :: b :: h)) := Hm.i0.trans Hm.tl
theorem Hm.i2 {M : Mem} {a b c : Own} {h : List Own} : MLe (Im c) (Hm M (a :: b :: c :: h)) := Hm.i1.trans Hm.tl
theorem Hm.i3 {M : Mem} {a b c d : Own} {h : List Own} : MLe (Im d) (Hm M (a :: b :: c :: d :: h)) := Hm.i2.trans Hm.tl
theorem Hm.i4 {M : Mem} {a b c d e : Own} {h : List Own} : MLe (Im e) (Hm M (a :: b :: c :: d :: e :: h)) := Hm.i3.trans Hm.tl
theorem Hm.i5 {M : Mem} {a b c d e f : Own} {h : List Own} : MLe (Im f) (Hm M (a :: b :: c :: d :: e :: f :: h)) := Hm.i4.trans Hm.tl
theorem Hm.i6 {M : Mem} {a b c d e f g : Own} {h : List Own} : MLe (Im g) (Hm M (a :: b :: c :: d :: e :: f :: g :: h)) := Hm.i5.trans Hm.tl
theorem Hm.i7 {M : Mem} {a b c d e f g i : Own} {h : List Own} : MLe (Im i) (Hm M (a :: b :: c :: d :: e :: f :: g :: i :: h)) := Hm.i6.trans Hm.tl

/-- From w0, in which o0 was one's own, to w, in which o is: the rest of what there was is as it was. -/
structure Chg (w0 : World) (o0 : Own) (o : Own) (w : World) : Prop where
  os : w.os = w0.os
  tape : w.tape = w0.tape
  out : w.output = w0.output
  size : w0.heap.size ≤ w.heap.size
  frame : ∀ k, k < w0.heap.size → (∀ b ∈ o0, b.1 ≠ k) → w.heap[k]? = w0.heap[k]?
  own : ∀ b ∈ o, w.heap[b.1]? = some b.2
  new : ∀ b ∈ o, (∃ c ∈ o0, c.1 = b.1) ∨ w0.heap.size ≤ b.1
  nd : (o.map Prod.fst).Nodup

structure RO (M : Mem) (o : Own) (w : World) : Prop where
  get : ∀ k ob, M k ob → w.heap[k]? = some ob
  not : ∀ k ob, M k ob → ∀ b ∈ o, b.1 ≠ k

theorem lt_of_heap {w : World} {k : Nat} {ob : Obj} (h : w.heap[k]? = some ob) : k < w.heap.size := (Array.getElem?_eq_some_iff.1 h).1

theorem RO.lt {M : Mem} {o : Own} {w : World} (h : RO M o w) {k : Nat} {ob : Obj} (m : M k ob) : k < w.heap.size := lt_of_heap (h.get k ob m)
theorem Chg.lt {w0 : World} {o0 o : Own} {w : World} (h : Chg w0 o0 o w) {b : Nat × Obj} (m : b ∈ o) : b.1 < w.heap.size := lt_of_heap (h.own b m)

theorem Chg.refl {w : World} {o : Own} (h : ∀ b ∈ o, w.heap[b.1]? = some b.2) (nd : (o.map Prod.fst).Nodup) : Chg w o o w :=
  ⟨rfl, rfl, rfl, Nat.le_refl _, fun _ _ _ => rfl, h, fun b hb => .inl ⟨b, hb, rfl⟩, nd⟩

theorem Chg.perm {w0 : World} {o0 o o' : Own} {w : World} (h : Chg w0 o0 o w) (p : o.Perm o') : Chg w0 o0 o' w :=
  ⟨h.os, h.tape, h.out, h.size, h.frame, fun b hb => h.own b (p.mem_iff.2 hb), fun b hb => h.new b (p.mem_iff.2 hb), (p.map _).nodup_iff.1 h.nd⟩

theorem Chg.sublist {w0 : World} {o0 o o' : Own} {w : World} (h : Chg w0 o0 o w) (p : o'.Sublist o) : Chg w0 o0 o' w :=
  ⟨h.os, h.tape, h.out, h.size, h.frame, fun b hb => h.own b (p.subset hb), fun b hb => h.new b (p.subset hb), h.nd.sublist (p.map _)⟩

theorem Chg.ro {w0 : World} {o0 o : Own} {w : World} (h : Chg w0 o0 o w) {M : Mem} (r : RO M o0 w0) : RO M o w :=
  ⟨fun k ob m => (h.frame k (r.lt m) (r.not k ob m)).trans (r.get k ob m), fun k ob m b hb e => by
    rcases h.new b hb with ⟨c, hc, hc'⟩ | hn
    · exact r.not k ob m c hc (hc'.trans e)
    · have := r.lt m; omega⟩

/-- A call (or a step) that had o1 and left o2, within a state that has o1 and r. -/
theorem Chg.step {w0 : World} {o0 o1 o2 r : Own} {w w' : World} (h : Chg w0 o0 (o1 ++ r) w) (s : Chg w o1 o2 w') : Chg w0 o0 (o2 ++ r) w' := by
  have nd := h.nd
  rw [List.map_append, List.nodup_append] at nd
  have hr : ∀ b ∈ r, ∀ c ∈ o1, c.1 ≠ b.1 := fun b hb c hc => nd.2.2 c.1 (List.mem_map_of_mem hc) b.1 (List.mem_map_of_mem hb)
  refine ⟨s.os.trans h.os, s.tape.trans h.tape, s.out.trans h.out, Nat.le_trans h.size s.size, fun k hk hn => ?_, fun b hb => ?_, fun b hb => ?_, ?_⟩
  · refine (s.frame k (Nat.lt_of_lt_of_le hk h.size) fun b hb e => ?_).trans (h.frame k hk hn)
    rcases h.new b (by simp [hb]) with ⟨c, hc, hc'⟩ | hn'
    · exact hn c hc (hc'.trans e)
    · omega
  · rcases List.mem_append.1 hb with hb | hb
    · exact s.own b hb
    · rw [s.frame b.1 (h.lt (by simp [hb])) (fun c hc => hr b hb c hc)]
      exact h.own b (by simp [hb])
  · rcases List.mem_append.1 hb with hb | hb
    · rcases s.new b hb with ⟨c, hc, hc'⟩ | hn
      · rw [← hc']; exact h.new c (by simp [hc])
      · exact .inr (Nat.le_trans h.size hn)
    · exact h.new b (by simp [hb])
  · rw [List.map_append, List.nodup_append]
    refine ⟨s.nd, nd.2.1, fun x hx y hy e => ?_⟩
    obtain ⟨b, hb, rfl⟩ := List.mem_map.1 hx
    obtain ⟨c, hc, rfl⟩ := List.mem_map.1 hy
    rcases s.new b hb with ⟨d, hd, hd'⟩ | hn
    · exact hr c hc d hd (hd'.trans e)
    · have := h.lt (b := c) (by simp [hc]); omega

theorem Chg.drew {w0 : World} {o0 o : Own} {w : World} (h : Chg w0 o0 o w) : Chg w0 o0 o { w with drawn := w.drawn + 1 } :=
  ⟨h.os, h.tape, h.out, h.size, h.frame, h.own, h.new, h.nd⟩

theorem Chg.alloc_step (w : World) (ob : Obj) : Chg w [] [(w.heap.size, ob)] (w.alloc ob) :=
  ⟨rfl, rfl, rfl, by show w.heap.size ≤ (w.heap.push ob).size; simp, fun k hk _ => by
      show (w.heap.push ob)[k]? = _
      rw [Array.getElem?_push, if_neg (by omega)],
    fun b hb => by
      simp only [List.mem_singleton] at hb
      subst hb
      show (w.heap.push ob)[w.heap.size]? = _
      simp,
    fun b hb => by simp only [List.mem_singleton] at hb; subst hb; exact .inr (Nat.le_refl _), by simp⟩

/-- Another object in a block of one's own. -/
theorem Chg.set_step {w : World} {k : Nat} {ob ob' : Obj} {w' : World} (hk : w.heap[k]? = some ob) (h1 : w'.os = w.os) (h2 : w'.tape = w.tape) (h3 : w'.output = w.output) (h4 : w'.heap.size = w.heap.size)
    (h5 : ∀ j, j ≠ k → w'.heap[j]? = w.heap[j]?) (h6 : w'.heap[k]? = some ob') : Chg w [(k, ob)] [(k, ob')] w' :=
  ⟨h1, h2, h3, by omega, fun j _ hj => h5 j (fun e => hj (k, ob) (by simp) e.symm), fun b hb => by simp only [List.mem_singleton] at hb; subst hb; exact h6,
    fun b hb => by simp only [List.mem_singleton] at hb; subst hb; exact .inl ⟨(k, ob), by simp, rfl⟩, by simp⟩

/-! ### What a walk stands in -/
structure Cx where
  P : Program
  r : Option Nat := none
  N : Nat
  M : Mem
  w0 : World
  o0 : Own

def wd (r : Option Nat) : Fence := { fn := fun _ => True, depth := none, alive := false, round := r }
theorem wd_none : wd none = Fence.wide := rfl
theorem wd_inRound (r : Option Nat) (l : Nat) : (wd r).inRound l = wd (some l) := rfl
theorem room_wd (r : Option Nat) (n : Nat) : (wd r).room n := fun _ h => by simp [wd] at h

structure HS (c : Cx) (h : List Own) (w : World) : Prop where
  chg : Chg c.w0 c.o0 h.flatten w
  mro : RO c.M c.o0 c.w0

theorem HS.ro {c : Cx} {h : List Own} {w : World} (s : HS c h w) : RO c.M h.flatten w := s.chg.ro s.mro

/-- What a call may read that is handed the item(s) o, the rest being r. -/
theorem HS.hm {c : Cx} {o r : Own} {w : World} (s : Chg c.w0 c.o0 (o ++ r) w) (m : RO c.M c.o0 c.w0) : RO (fun k ob => c.M k ob ∨ (k, ob) ∈ r) o w := by
  have h := s.ro m
  refine ⟨fun k ob x => ?_, fun k ob x b hb => ?_⟩
  · rcases x with x | x
    · exact h.get k ob x
    · exact s.own (k, ob) (by simp [x])
  · rcases x with x | x
    · exact h.not k ob x b (by simp [hb])
    · have nd := s.nd
      rw [List.map_append, List.nodup_append] at nd
      exact nd.2.2 b.1 (List.mem_map_of_mem hb) k (List.mem_map.2 ⟨(k, ob), x, rfl⟩)

/-! ### Contracts -/
def FnC (P : Program) (f : FuncId) (args : List Value) (w : World) (o : Own) (R : Value → Own → Prop) : Prop :=
  (∀ b ∈ o, w.heap[b.1]? = some b.2) → (o.map Prod.fst).Nodup →
    Calls P f args.toArray w fun e w' => ∃ v o', e = .returned v ∧ R v o' ∧ Chg w o o' w'

theorem FnC.mono {P : Program} {f : FuncId} {args : List Value} {w : World} {o : Own} {R R' : Value → Own → Prop} (h : FnC P f args w o R) (hr : ∀ v o', R v o' → R' v o') : FnC P f args w o R' :=
  fun a b => (h a b).mono fun e w' ⟨v, o', e1, e2, e3⟩ => ⟨v, o', e1, hr _ _ e2, e3⟩

/-- The code c, from the symbolic state (l, h) on. -/
def G (c : Cx) (D : List Deferred) (code : Code) (Q : Exit → Act → World → Prop) (l : Env) (h : List Own) : Prop :=
  ∀ a w, EOk c.N D a l → HS c h w → code.wpIn (wd c.r) 0 c.P Q a w
/-- A way out. -/
def GE (c : Cx) (D : List Deferred) (e : Exit) (Q : Exit → Act → World → Prop) (l : Env) (h : List Own) : Prop :=
  ∀ a w, EOk c.N D a l → HS c h w → Q e a w

/-- One operation: what it needs of Oper.wpIn, panics left out. -/
def opW (c : Cx) (o : Oper) (next : Act → World → Prop) (a : Act) (w : World) : Prop :=
  (∀ d w', (o.semAt c.r a.eval).run c.P w ≠ .ok (.defer d) w') ∧ o.uponIn (wd c.r) 0 c.P a next (fun _ _ _ => False) ((o.semAt c.r a.eval).run c.P w)
/-- Out of the run. -/
theorem opW.of {c : Cx} {o : Oper} {next : Act → World → Prop} {a : Act} {w : World} {r : Result Next} (hnd : ∀ cl, o.op ≠ .defer cl) (hr : (execOp a.eval o).run c.P w = r) (hd : ∀ d w', r ≠ .ok (.defer d) w')
    (h : o.uponIn (wd c.r) 0 c.P a next (fun _ _ _ => False) r) : opW c o next a w := by
  unfold opW
  rw [Oper.semAt_eq _ _ _ hnd, hr]
  exact ⟨hd, h⟩

def wpL (c : Cx) (ops : Array Oper) (K : Act → World → Prop) : List Oper → Act → World → Prop
  | [], a, w => K a w
  | o :: rest, a, w => if Region.wanted o (yielded ops a.tmps) then opW c o (wpL c ops K rest) a w else wpL c ops K rest (a.put o.dst undef) w

def GL (c : Cx) (D : List Deferred) (ops : Array Oper) (K : Act → World → Prop) (rest : List Oper) (l : Env) (h : List Own) : Prop :=
  ∀ a w, EOk c.N D a l → HS c h w → wpL c ops K rest a w

theorem uponIn_mono {F : Fence} {n : Nat} {P : Program} {o : Oper} {a : Act} {K K' : Act → World → Prop} {Q Q' : Exit → Act → World → Prop} {r : Result Next}
    (h : o.uponIn F n P a K Q r) (hk : ∀ a w, K a w → K' a w) (hq : ∀ e a w, Q e a w → Q' e a w) : o.uponIn F n P a K' Q' r := by
  cases r with
  | ok x w' =>
    cases x <;> simp only [Oper.uponIn] at h ⊢ <;>
      first
        | exact hk _ _ h
        | exact ⟨h.1, CallsIn.mono h.2 (fun e w'' he => by cases e <;> first | exact hk _ _ he | exact hq _ _ _ he | exact (let ⟨a, w, x⟩ := he; ⟨a, w, hq _ _ _ x⟩))⟩
        | exact ⟨h.1, RowsIn.mono h.2 (fun _ _ he => hk _ _ he)⟩
        | exact ⟨h.1, RoundIn.mono h.2 (fun e w'' he => by cases e <;> first | exact hk _ _ he | exact hq _ _ _ he | exact (let ⟨a, w, x⟩ := he; ⟨a, w, hq _ _ _ x⟩))⟩
  | halt x w' => cases x <;> simp only [Oper.uponIn] at h ⊢ <;> first | exact hq _ _ _ h | exact h

theorem about_wd {c : Cx} {o : Oper} {a : Act} {w : World} : ∀ f, o.about c.P w a.eval = some f → (wd c.r).fn f := fun _ _ => trivial

theorem wpOps_of_wpL {c : Cx} {ops : Array Oper} {Q : Exit → Act → World → Prop} : ∀ (l : List Oper) (k : Nat), (∀ j, l[j]? = ops[k + j]?) → ∀ a w,
    wpL c ops (fun a w => Q .normal a w) l a w → wpOpsIn (wd c.r) 0 c.P ops Q (List.range' k l.length) a w := by
  intro l
  induction l with
  | nil => intro k _ a w h; simpa [wpOpsIn, wpL] using h
  | cons o l ih =>
    intro k hj a w h
    have h0 : ops[k]? = some o := by simpa using (hj 0).symm
    have ih' := ih (k + 1) (fun j => by have := hj (j + 1); simpa [Nat.add_assoc, Nat.add_comm 1 j] using this)
    simp only [List.length_cons, List.range'_succ, wpOpsIn, h0]
    simp only [wpL] at h
    split at h
    · rename_i hw
      rw [if_pos hw]
      exact ⟨about_wd, uponIn_mono h.2 (fun a w => ih' a w) (fun _ _ _ x => x.elim)⟩
    · rename_i hw
      rw [if_neg hw]
      exact ⟨about_wd, ih' _ _ h⟩

section rules
variable {c : Cx} {D : List Deferred} {Q : Exit → Act → World → Prop} {l : Env} {h : List Own}

/-- A region in the order of its text. -/
theorem rg {id : Nat} {ops : List Oper} (x : GL c D ops.toArray (fun a w => Q .normal a w) ops l h) : G c D (.region id ops.toArray false) Q l h := by
  intro a w e s
  refine wpIn_region ?_
  have := wpOps_of_wpL (c := c) (ops := ops.toArray) (Q := Q) ops 0 (by simp) a w (x a w e s)
  rw [List.range_eq_range']
  simpa using this

theorem sq {x y : Code} (hx : G c D x (Exit.then (fun a w => y.wpIn (wd c.r) 0 c.P Q a w) Q) l h) : G c D (.seq x y) Q l h := fun a w e s => wpIn_seq (hx a w e s)
theorem sk (x : GE c D .normal Q l h) : G c D .skip Q l h := fun a w e s => wpIn_skip (x a w e s)
theorem xt {id : Nat} (x : GE c D (.exit id) Q l h) : G c D (.exit id) Q l h := fun a w e s => wpIn_exit (x a w e s)
theorem rt (x : GE c D .ret Q l h) : G c D .ret Q l h := fun a w e s => wpIn_ret (x a w e s)
theorem bk {id : Nat} {x : Code} (hx : G c D x (Exit.inBlock id Q) l h) : G c D (.block id x) Q l h := fun a w e s => wpIn_block (hx a w e s)
theorem lb {t : Nat} (x : GE c D .normal Q l h) : G c D (.label t) Q l h := fun a w e s => wpIn_label (x a w e s)

theorem cdT {x : Operand} {p q : Code} (hv : ev l x = some (.bool true)) (hp : G c D p Q l h) : G c D (.cond x p q) Q l h :=
  fun a w e s => wpIn_cond_true (ev_eq (xs := #[x]) (e.on _) (by simp) hv) (hp a w e s)
theorem cdF {x : Operand} {p q : Code} (hv : ev l x = some (.bool false)) (hq : G c D q Q l h) : G c D (.cond x p q) Q l h :=
  fun a w e s => wpIn_cond_false (ev_eq (xs := #[x]) (e.on _) (by simp) hv) (hq a w e s)
theorem cd {x : Operand} {p q : Code} {b : Bool} (hv : ev l x = some (.bool b)) (hp : b = true → G c D p Q l h) (hq : b = false → G c D q Q l h) : G c D (.cond x p q) Q l h := by
  cases b
  · exact cdF hv (hq rfl)
  · exact cdT hv (hp rfl)

/-- The end of a region: the code that stands behind it; or the block's end. -/
theorem nl {ops : Array Oper} (x : GE c D .normal Q l h) : GL c D ops (fun a w => Q .normal a w) [] l h := x
theorem nS {y : Code} (x : G c D y Q l h) : GE c D .normal (Exit.then (fun a w => y.wpIn (wd c.r) 0 c.P Q a w) Q) l h := x
theorem nB {id : Nat} (x : GE c D .normal Q l h) : GE c D .normal (Exit.inBlock id Q) l h := x
theorem xS {id : Nat} {K : Act → World → Prop} (x : GE c D (.exit id) Q l h) : GE c D (.exit id) (Exit.then K Q) l h := x
theorem xB {id : Nat} (x : GE c D .normal Q l h) : GE c D (.exit id) (Exit.inBlock id Q) l h := fun a w e s => by
  simp only [Exit.inBlock, if_true]; exact x a w e s
theorem xN {id j : Nat} (hj : Nat.beq id j = false) (x : GE c D (.exit id) Q l h) : GE c D (.exit id) (Exit.inBlock j Q) l h := fun a w e s => by
  have : ¬ id = j := ne_of_beq hj
  simp only [Exit.inBlock, if_neg this]; exact x a w e s
theorem rS {K : Act → World → Prop} (x : GE c D .ret Q l h) : GE c D .ret (Exit.then K Q) l h := x
theorem rB {id : Nat} (x : GE c D .ret Q l h) : GE c D .ret (Exit.inBlock id Q) l h := x

theorem G.sub {l' : Env} {code : Code} (hs : Sub l l') (x : G c D code Q l' h) : G c D code Q l h := fun a w e s => x a w (e.sub hs) s
theorem GE.sub {l' : Env} {ex : Exit} (hs : Sub l l') (x : GE c D ex Q l' h) : GE c D ex Q l h := fun a w e s => x a w (e.sub hs) s
theorem GL.sub {l' : Env} {ops : Array Oper} {K : Act → World → Prop} {rest : List Oper} (hs : Sub l l') (x : GL c D ops K rest l' h) : GL c D ops K rest l h := fun a w e s => x a w (e.sub hs) s

/-- Another order of the items. -/
theorem HS.perm {h' : List Own} {w : World} (s : HS c h w) (p : h.flatten.Perm h'.flatten) : HS c h' w := ⟨s.chg.perm p, s.mro⟩
theorem HS.sublist {h' : List Own} {w : World} (s : HS c h w) (p : h'.flatten.Sublist h.flatten) : HS c h' w := ⟨s.chg.sublist p, s.mro⟩
theorem flatten_sub {h h' : List Own} (p : h'.Sublist h) : h'.flatten.Sublist h.flatten := by
  induction p with
  | slnil => exact List.Sublist.refl _
  | cons a _ ih => exact ih.trans (by simp)
  | cons_cons a _ ih => simpa using ih
/-- Fewer items. -/
theorem HS.dropIt {h' : List Own} {w : World} (s : HS c h w) (p : h'.Sublist h) : HS c h' w := s.sublist (flatten_sub p)

/-- A cut: the ways come together in one state. -/
theorem sqc {x y : Code} {σ : Type} (L : σ → Env) (H : σ → List Own) (J : σ → Prop)
    (hx : G c D x (Exit.then (fun a w => ∃ s, J s ∧ EOk c.N D a (L s) ∧ HS c (H s) w) Q) l h)
    (hy : ∀ s, J s → G c D y Q (L s) (H s)) : G c D (.seq x y) Q l h := by
  intro a w e s
  refine wpIn_seq (wpIn_mono (hx a w e s) fun ex a w hq => ?_)
  cases ex with
  | normal => obtain ⟨s, hj, e, hs⟩ := hq; exact hy s hj a w e hs
  | _ => exact hq

theorem exists_least {p : Nat → Prop} (h : ∃ n, p n) : ∃ n, p n ∧ ∀ m, p m → n ≤ m := by
  obtain ⟨n, hn⟩ := h
  induction n using Nat.strongRecOn with
  | _ n ih =>
    by_cases hx : ∃ m, m < n ∧ p m
    · obtain ⟨m, hm, hp⟩ := hx; exact ih m hm hp
    · exact ⟨n, hn, fun m hm => Nat.le_of_not_lt fun hlt => hx ⟨m, hlt, hm⟩⟩

/-- A loop. -/
theorem lp {body : Code} {σ : Type} (L : σ → Env) (H : σ → List Own) (J : σ → Prop) (μ : σ → Nat) (s0 : σ) (h0 : J s0)
    (hl : Sub l (L s0)) (hh : ∀ w, HS c h w → HS c (H s0) w)
    (round : ∀ s, J s → G c D body (Exit.then (fun a w => ∃ s', (J s' ∧ μ s' < μ s) ∧ EOk c.N D a (L s') ∧ HS c (H s') w) Q) (L s) (H s)) :
    G c D (.loop body) Q l h := by
  classical
  intro a w e hs
  let Fits : σ → Act → World → Prop := fun s a w => J s ∧ EOk c.N D a (L s) ∧ HS c (H s) w
  let m : Act → World → Nat := fun a w => if hx : ∃ n, ∃ s, Fits s a w ∧ μ s = n then Classical.choose (exists_least hx) else 0
  refine wpIn_loop (fun a w => ∃ s, Fits s a w) m ⟨s0, h0, e.sub hl, hh w hs⟩ ?_
  intro a w hI
  have hx : ∃ n, ∃ s, Fits s a w ∧ μ s = n := let ⟨s, f⟩ := hI; ⟨_, s, f, rfl⟩
  obtain ⟨⟨s, ⟨hj, he, hs⟩, hμ⟩, -⟩ := Classical.choose_spec (exists_least hx)
  refine wpIn_mono (round s hj a w he hs) fun ex a' w' hq => ?_
  cases ex with
  | normal =>
    obtain ⟨s', ⟨hj', hlt⟩, he', hs'⟩ := hq
    refine ⟨⟨s', hj', he', hs'⟩, ?_⟩
    have hx' : ∃ n, ∃ s, Fits s a' w' ∧ μ s = n := ⟨_, s', ⟨hj', he', hs'⟩, rfl⟩
    show m a' w' < m a w
    have e1 : m a' w' = Classical.choose (exists_least hx') := dif_pos hx'
    have e2 : m a w = Classical.choose (exists_least hx) := dif_pos hx
    rw [e1, e2, ← hμ]
    exact Nat.lt_of_le_of_lt ((Classical.choose_spec (exists_least hx')).2 _ ⟨s', ⟨hj', he', hs'⟩, rfl⟩) hlt
  | _ => exact hq

/-- The end of a round; of a cut's first part. -/
theorem le {σ : Type} {L : σ → Env} {H : σ → List Own} {J' : σ → Prop} (s' : σ) (hj : J' s') (hl : Sub l (L s')) (hh : ∀ w, HS c h w → HS c (H s') w) :
    GE c D .normal (Exit.then (fun a w => ∃ s', J' s' ∧ EOk c.N D a (L s') ∧ HS c (H s') w) Q) l h :=
  fun a w e s => ⟨s', hj, e.sub hl, hh w s⟩

end rules

theorem hid {c : Cx} {h : List Own} : ∀ w, HS c h w → HS c h w := fun _ s => s

/-! ### Bringing an item to the front -/
theorem fl_rot (a : Own) (pre post : List Own) : (pre ++ a :: post).flatten.Perm (a :: (pre ++ post)).flatten := by
  simp only [List.flatten_append, List.flatten_cons]
  rw [← List.append_assoc]
  refine (List.Perm.append_right _ List.perm_append_comm).trans ?_
  rw [List.append_assoc]
section rot
variable {c : Cx} {D : List Deferred} {ops : Array Oper} {K : Act → World → Prop} {rest : List Oper} {l : Env}
theorem rotG (pre : List Own) {a : Own} {post : List Own} (x : GL c D ops K rest l (a :: (pre ++ post))) : GL c D ops K rest l (pre ++ a :: post) :=
  fun ac w e s => x ac w e (s.perm (fl_rot a pre post))
theorem r1 {a b : Own} {t : List Own} (x : GL c D ops K rest l (b :: a :: t)) : GL c D ops K rest l (a :: b :: t) := rotG [a] x
theorem r2 {a b d : Own} {t : List Own} (x : GL c D ops K rest l (d :: a :: b :: t)) : GL c D ops K rest l (a :: b :: d :: t) := rotG [a, b] x
theorem r3 {a b d e : Own} {t : List Own} (x : GL c D ops K rest l (e :: a :: b :: d :: t)) : GL c D ops K rest l (a :: b :: d :: e :: t) := rotG [a, b, d] x
theorem r4 {a b d e f : Own} {t : List Own} (x : GL c D ops K rest l (f :: a :: b :: d :: e :: t)) : GL c D ops K rest l (a :: b :: d :: e :: f :: t) := rotG [a, b, d, e] x
theorem r5 {a b d e f g : Own} {t : List Own} (x : GL c D ops K rest l (g :: a :: b :: d :: e :: f :: t)) : GL c D ops K rest l (a :: b :: d :: e :: f :: g :: t) := rotG [a, b, d, e, f] x
theorem r6 {a b d e f g i : Own} {t : List Own} (x : GL c D ops K rest l (i :: a :: b :: d :: e :: f :: g :: t)) : GL c D ops K rest l (a :: b :: d :: e :: f :: g :: i :: t) := rotG [a, b, d, e, f, g] x
theorem r7 {a b d e f g i j : Own} {t : List Own} (x : GL c D ops K rest l (j :: a :: b :: d :: e :: f :: g :: i :: t)) : GL c D ops K rest l (a :: b :: d :: e :: f :: g :: i :: j :: t) := rotG [a, b, d, e, f, g, i] x
end rot
end Go.W
/- The operations, one lemma each: what it yields (OpV), and the steps of a walk. No program is named here. -/
namespace Go.W
open Go

/-- An operation that leaves all items as they are, and yields v. -/
def OpV (c : Cx) (o : Oper) (l : Env) (h : List Own) (v : Value) : Prop :=
  ∀ (hx : List Own) (a : Act) (w : World), EOn o.op.operands a l → HS c (h ++ hx) w →
    ∀ next : Act → World → Prop, (∀ w', HS c (h ++ hx) w' → next (a.put o.dst v) w') → opW c o next a w

section steps
variable {c : Cx} {D : List Deferred} {ops : Array Oper} {K : Act → World → Prop} {rest : List Oper} {l : Env} {h : List Own}
  {op : Op} {ty : TypeId} {pos : String} {af : Array Edge} {v : Value} {d : Nat}

theorem HS.nil_app {w : World} (s : HS c h w) : HS c (h ++ []) w := by simpa using s

theorem wanted_none (y : Nat → Option Bool) {dst : Option Tmp} : Region.wanted ⟨dst, op, ty, pos, af, none⟩ y = true := rfl

theorem st (V : OpV c ⟨some d, op, ty, pos, af, none⟩ l h v) (hd : Nat.blt d c.N = true) (k : GL c D ops K rest ((d, v) :: l) h) :
    GL c D ops K (⟨some d, op, ty, pos, af, none⟩ :: rest) l h := by
  intro a w e s
  simp only [wpL, wanted_none, if_true]
  exact V [] a w (e.on _) s.nil_app _ fun w' s' => k _ _ (e.put hd v) (by simpa using s')
theorem st0 (V : OpV c ⟨none, op, ty, pos, af, none⟩ l h v) (k : GL c D ops K rest l h) :
    GL c D ops K (⟨none, op, ty, pos, af, none⟩ :: rest) l h := by
  intro a w e s
  simp only [wpL, wanted_none, if_true]
  exact V [] a w (e.on _) s.nil_app _ fun w' s' => k _ _ e (by simpa using s')

/-- A guarded operation, its guard's value known. -/
theorem yl {j e : Nat} {b : Bool} {N : Nat} {a : Act} (he : EOk N D a l) (hj : (ops[j]?).bind (·.dst) = some e) (hv : lk e l = some (.bool b)) : yielded ops a.tmps j = some b := by
  simp [yielded, hj, he.get e _ hv]
theorem gT {j e : Nat} {b : Bool} {dst : Option Tmp} (hj : (ops[j]?).bind (·.dst) = some e) (hv : lk e l = some (.bool b)) (k : GL c D ops K (⟨dst, op, ty, pos, af, none⟩ :: rest) l h) :
    GL c D ops K (⟨dst, op, ty, pos, af, some (j, b)⟩ :: rest) l h := by
  intro a w e s
  have := k a w e s
  have hy := yl e hj hv
  simp only [wpL, wanted_none, if_true] at this
  simp only [wpL, Region.wanted, hy, beq_self_eq_true, if_true]
  exact this
theorem gF {j e : Nat} {b b' : Bool} (hj : (ops[j]?).bind (·.dst) = some e) (hv : lk e l = some (.bool b')) (hb : (b' == b) = false) (hd : Nat.blt d c.N = true) (k : GL c D ops K rest ((d, undef) :: l) h) :
    GL c D ops K (⟨some d, op, ty, pos, af, some (j, b)⟩ :: rest) l h := by
  intro a w e s
  have hy := yl e hj hv
  have : Region.wanted ⟨some d, op, ty, pos, af, some (j, b)⟩ (yielded ops a.tmps) = false := by
    simp only [Region.wanted, hy]
    cases b <;> cases b' <;> simp_all
  simp only [wpL, this, Bool.false_eq_true, if_false]
  exact k _ _ (e.put hd undef) s
theorem gF0 {j e : Nat} {b b' : Bool} (hj : (ops[j]?).bind (·.dst) = some e) (hv : lk e l = some (.bool b')) (hb : (b' == b) = false) (k : GL c D ops K rest l h) :
    GL c D ops K (⟨none, op, ty, pos, af, some (j, b)⟩ :: rest) l h := by
  intro a w e s
  have hy := yl e hj hv
  have : Region.wanted ⟨none, op, ty, pos, af, some (j, b)⟩ (yielded ops a.tmps) = false := by
    simp only [Region.wanted, hy]
    cases b <;> cases b' <;> simp_all
  simp only [wpL, this, Bool.false_eq_true, if_false]
  exact k _ _ e s

/-- .. its guard undefined. -/
theorem gU {j e : Nat} {b : Bool} (hj : (ops[j]?).bind (·.dst) = some e) (hv : lk e l = some undef) (hd : Nat.blt d c.N = true) (k : GL c D ops K rest ((d, undef) :: l) h) :
    GL c D ops K (⟨some d, op, ty, pos, af, some (j, b)⟩ :: rest) l h := by
  intro a w e s
  have hy : yielded ops a.tmps j = none := by simp [yielded, hj, e.get _ _ hv, undef]
  have : Region.wanted ⟨some d, op, ty, pos, af, some (j, b)⟩ (yielded ops a.tmps) = false := by
    simp only [Region.wanted, hy]; rfl
  simp only [wpL, this, Bool.false_eq_true, if_false]
  exact k _ _ (e.put hd undef) s
theorem gU0 {j e : Nat} {b : Bool} (hj : (ops[j]?).bind (·.dst) = some e) (hv : lk e l = some undef) (k : GL c D ops K rest l h) :
    GL c D ops K (⟨none, op, ty, pos, af, some (j, b)⟩ :: rest) l h := by
  intro a w e s
  have hy : yielded ops a.tmps j = none := by simp [yielded, hj, e.get _ _ hv, undef]
  have : Region.wanted ⟨none, op, ty, pos, af, some (j, b)⟩ (yielded ops a.tmps) = false := by
    simp only [Region.wanted, hy]; rfl
  simp only [wpL, this, Bool.false_eq_true, if_false]
  exact k _ _ e s

/-- The two ways of a bool that has just been laid. -/
theorem spl {b : Bool} (t : b = true → GL c D ops K rest ((d, .bool true) :: l) h) (f : b = false → GL c D ops K rest ((d, .bool false) :: l) h) : GL c D ops K rest ((d, .bool b) :: l) h := by
  cases b
  · exact f rfl
  · exact t rfl
/-- Another word for a value that has just been laid. -/
theorem cv {u : Value} (e : v = u) (k : GL c D ops K rest ((d, u) :: l) h) : GL c D ops K rest ((d, v) :: l) h := e ▸ k
end steps

/-! ### What yields a value and touches nothing -/
section pure
variable {c : Cx} {l : Env} {h : List Own} {ty : TypeId} {pos : String} {af : Array Edge} {g : Option (Nat × Bool)} {dst : Option Tmp}

/-- By the run alone. -/
theorem OpV.of {op : Op} {v : Value} (hnd : ∀ cl, op ≠ .defer cl)
    (hr : ∀ (a : Act) (w : World), EOn op.operands a l → (∃ hx, HS c (h ++ hx) w) → ∃ n, (execOp a.eval ⟨dst, op, ty, pos, af, g⟩).run c.P w = .ok (.value v) { w with drawn := w.drawn + n }) : OpV c ⟨dst, op, ty, pos, af, g⟩ l h v := by
  intro hx a w e s next k
  obtain ⟨n, hn⟩ := hr a w e ⟨hx, s⟩
  have hd : HS c (h ++ hx) { w with drawn := w.drawn + n } := ⟨⟨s.chg.os, s.chg.tape, s.chg.out, s.chg.size, s.chg.frame, s.chg.own, s.chg.new, s.chg.nd⟩, s.mro⟩
  exact opW.of hnd hn (fun _ _ x => by cases x) (k _ hd)

theorem OpV.of0 {op : Op} {v : Value} (hnd : ∀ cl, op ≠ .defer cl)
    (hr : ∀ (a : Act) (w : World), EOn op.operands a l → (∃ hx, HS c (h ++ hx) w) → (execOp a.eval ⟨dst, op, ty, pos, af, g⟩).run c.P w = .ok (.value v) w) : OpV c ⟨dst, op, ty, pos, af, g⟩ l h v :=
  .of hnd fun a w e s => ⟨0, hr a w e s⟩

theorem mv {x : Operand} {v : Value} (hx : ev l x = some v) : OpV c ⟨dst, .move x, ty, pos, af, g⟩ l h v :=
  .of0 (fun _ => by simp) fun a w e s => by simp [execOp, ev_eq e (by simp [Op.operands]) hx]
theorem asg {x : Operand} {v : Value} (hx : ev l x = some v) : OpV c ⟨dst, .assign x, ty, pos, af, g⟩ l h v :=
  .of0 (fun _ => by simp) fun a w e s => by simp [execOp, ev_eq e (by simp [Op.operands]) hx]

theorem pkT {x y z : Operand} {v : Value} (hx : ev l x = some (.bool true)) (hy : ev l y = some v) : OpV c ⟨dst, .pick x y z, ty, pos, af, g⟩ l h v :=
  .of0 (fun _ => by simp) fun a w e s => by simp [execOp, ev_eq e (by simp [Op.operands]) hx, ev_eq e (by simp [Op.operands]) hy, asBool]
theorem pkF {x y z : Operand} {v : Value} (hx : ev l x = some (.bool false)) (hz : ev l z = some v) : OpV c ⟨dst, .pick x y z, ty, pos, af, g⟩ l h v :=
  .of0 (fun _ => by simp) fun a w e s => by simp [execOp, ev_eq e (by simp [Op.operands]) hx, ev_eq e (by simp [Op.operands]) hz, asBool]

theorem nt {x : Operand} {t : TypeId} {b : Bool} (hx : ev l x = some (.bool b)) : OpV c ⟨dst, .unOp .not t x, ty, pos, af, g⟩ l h (.bool !b) :=
  .of0 (fun _ => by simp) fun a w e s => by simp [execOp, ev_eq e (by simp [Op.operands]) hx, Op.unary]

theorem xc {x : Operand} {i : Nat} {vs : Array Value} {v : Value} (hx : ev l x = some (.tuple vs)) (hv : vs[i]? = some v) : OpV c ⟨dst, .extract x i, ty, pos, af, g⟩ l h v :=
  .of0 (fun _ => by simp) fun a w e s => by simp [execOp, ev_eq e (by simp [Op.operands]) hx, Instr.extract, hv]

theorem eqGuard_int {op : BinOp} {t : TypeId} {x y : Operand} {k k' : IntKind} {m n : Int} {P : Program} {w : World} : (eqGuard op t x y (.int k m) (.int k' n)).run P w = .ok () w := by
  unfold eqGuard; split <;> rfl

theorem bi {op : BinOp} {x y : Operand} {t t' : TypeId} {k : IntKind} {m n : Int} {v : Value} (hx : ev l x = some (.int k m)) (hy : ev l y = some (.int k n))
    (hr : ∀ w, (binOp op t (.int k m) (.int k n)).run c.P w = .ok v w) : OpV c ⟨dst, .binOp op t x y t', ty, pos, af, g⟩ l h v :=
  .of0 (fun _ => by simp) fun a w e s => by
    simp [execOp, ev_eq e (by simp [Op.operands]) hx, ev_eq e (by simp [Op.operands]) hy, eqGuard_int, hr]

section ints
variable {x y : Operand} {t t' : TypeId} {k : IntKind} {m n : Int}
theorem lt (hx : ev l x = some (.int k m)) (hy : ev l y = some (.int k n)) : OpV c ⟨dst, .binOp .lss t x y t', ty, pos, af, g⟩ l h (.bool (decide (m < n))) := bi hx hy fun w => by simp [binOp, Op.intCmp]
theorem lq (hx : ev l x = some (.int k m)) (hy : ev l y = some (.int k n)) : OpV c ⟨dst, .binOp .leq t x y t', ty, pos, af, g⟩ l h (.bool (decide (m ≤ n))) := bi hx hy fun w => by simp [binOp, Op.intCmp]
theorem gt (hx : ev l x = some (.int k m)) (hy : ev l y = some (.int k n)) : OpV c ⟨dst, .binOp .gtr t x y t', ty, pos, af, g⟩ l h (.bool (decide (n < m))) := bi hx hy fun w => by simp [binOp, Op.intCmp]
theorem gq (hx : ev l x = some (.int k m)) (hy : ev l y = some (.int k n)) : OpV c ⟨dst, .binOp .geq t x y t', ty, pos, af, g⟩ l h (.bool (decide (n ≤ m))) := bi hx hy fun w => by simp [binOp, Op.intCmp]
theorem eq (hx : ev l x = some (.int k m)) (hy : ev l y = some (.int k n)) : OpV c ⟨dst, .binOp .eql t x y t', ty, pos, af, g⟩ l h (.bool (m == n)) := bi hx hy fun w => by simp [binOp, Op.intCmp]
theorem ne (hx : ev l x = some (.int k m)) (hy : ev l y = some (.int k n)) : OpV c ⟨dst, .binOp .neq t x y t', ty, pos, af, g⟩ l h (.bool (m != n)) := bi hx hy fun w => by simp [binOp, Op.intCmp]
theorem adw (hx : ev l x = some (.int k m)) (hy : ev l y = some (.int k n)) : OpV c ⟨dst, .binOp .add t x y t', ty, pos, af, g⟩ l h (.int k (k.wrap (m + n))) := bi hx hy fun w => by simp [binOp, Op.intArith]
theorem sbw (hx : ev l x = some (.int k m)) (hy : ev l y = some (.int k n)) : OpV c ⟨dst, .binOp .sub t x y t', ty, pos, af, g⟩ l h (.int k (k.wrap (m - n))) := bi hx hy fun w => by simp [binOp, Op.intArith]
theorem mlw (hx : ev l x = some (.int k m)) (hy : ev l y = some (.int k n)) : OpV c ⟨dst, .binOp .mul t x y t', ty, pos, af, g⟩ l h (.int k (k.wrap (m * n))) := bi hx hy fun w => by simp [binOp, Op.intArith]
end ints
end pure


/-! ### Types -/
/-- The value that is read of some cells. -/
def val (g : Bool) (vs : List Value) : Value := if g then .agg vs.toArray else vs.headD undef
/-- What the program's table says of a type: its cells, whether it is read as an aggregate, its zero value, its bytes. -/
structure Ty (P : Program) (t : TypeId) (n : Nat) (g : Bool) (z : List Value) (b : Nat) : Prop where
  info : (P.info? t).map (fun i => (i.size, i.zero, i.bytes)) = some (n, some (val g z), b)
  agg : (P.underlying t).map (fun d => match d with | .struct _ | .array _ _ => true | _ => false) = some g

section ty
variable {P : Program} {t : TypeId} {n : Nat} {g : Bool} {z : List Value} {b : Nat}
theorem Ty.i (h : Ty P t n g z b) : ∃ i, P.info? t = some i ∧ i.size = n ∧ i.zero = some (val g z) ∧ i.bytes = b := by
  have := h.info
  cases hi : P.info? t with
  | none => rw [hi] at this; cases this
  | some i => rw [hi] at this; simp at this; exact ⟨i, rfl, this⟩
theorem run_typeInfo' {i : TypeInfo} (hi : P.info? t = some i) (w : World) : (typeInfo t).run P w = .ok i w := by simp [typeInfo, program, Sem.run, hi]
theorem Ty.size (h : Ty P t n g z b) (w : World) : (sizeOf t).run P w = .ok n w := by
  obtain ⟨i, hi, h1, _, _⟩ := h.i; simp [sizeOf, run_typeInfo' hi, h1]
theorem Ty.zero (h : Ty P t n g z b) (w : World) : (zeroValue t).run P w = .ok (val g z) w := by
  obtain ⟨i, hi, _, h2, _⟩ := h.i; simp [zeroValue, run_typeInfo' hi, h2]
theorem Ty.isAgg (h : Ty P t n g z b) (w : World) : (isAgg t).run P w = .ok g w := by
  have := h.agg
  cases hi : P.underlying t with
  | none => rw [hi] at this; cases this
  | some d =>
    rw [hi] at this; simp at this
    have hu : (underlying t).run P w = .ok d w := by simp [underlying, program, Sem.run, hi]
    unfold Go.isAgg
    simp only [Sem.run_bind, hu, Result.andThen_ok]
    cases d <;> simp_all
theorem run_und {d : TypeDesc} (hd : P.underlying t = some d) (w : World) : (underlying t).run P w = .ok d w := by simp [underlying, program, Sem.run, hd]
end ty

/-! ### Cells -/
def CellsAt (M : Mem) (a : Addr) (vs : List Value) : Prop :=
  a.spot = none ∧ ∃ cs e fz, M a.block (.cells cs e fz) ∧ ∀ i v, vs[i]? = some v → cs[a.off + i]? = some v

theorem CellsAt.mono {M M' : Mem} (h : MLe M M') {a : Addr} {vs : List Value} : CellsAt M a vs → CellsAt M' a vs := fun ⟨s, cs, e, fz, m, x⟩ => ⟨s, cs, e, fz, h _ _ m, x⟩
theorem CellsAt.sub {M : Mem} {a : Addr} {vs us : List Value} {o : Nat} (h : CellsAt M a vs) (hu : ∀ i v, us[i]? = some v → vs[o + i]? = some v) : CellsAt M ⟨a.block, a.off + o, none⟩ us := by
  obtain ⟨s, cs, e, fz, m, x⟩ := h
  exact ⟨rfl, cs, e, fz, m, fun i v hv => by have := x _ _ (hu i v hv); rw [Nat.add_assoc]; exact this⟩

theorem cell_of {M : Mem} {w : World} (hM : MLe M (Wm w)) {a : Addr} {vs : List Value} (h : CellsAt M a vs) {i : Nat} {v : Value} (hv : vs[i]? = some v) : w.cell? (a.add i) = some v := by
  obtain ⟨s, cs, e, fz, m, x⟩ := h
  have := hM _ _ m
  have hx := x i v hv
  unfold Addr.add
  split
  · rename_i h0; subst h0
    simp only [World.cell?, Wm] at this ⊢
    rw [this]; simpa [s] using hx
  · simp only [World.cell?, Wm] at this ⊢
    rw [this]; simpa using hx

theorem run_loadCellsFrom {P : Program} {M : Mem} {w : World} (hM : MLe M (Wm w)) {a : Addr} {vs : List Value} (h : CellsAt M a vs) : ∀ (n i : Nat) (acc : Array Value), i + n ≤ vs.length →
    (loadCellsFrom a i n acc).run P w = .ok (acc ++ ((vs.drop i).take n).toArray) w := by
  intro n
  induction n with
  | zero => intro i acc _; simp [loadCellsFrom]
  | succ n ih =>
    intro i acc hi
    have hv : vs[i]? = some vs[i] := List.getElem?_eq_getElem (by omega)
    simp only [loadCellsFrom, Sem.run_bind, run_load, cell_of hM h hv, Result.andThen_ok]
    rw [ih (i + 1) _ (by omega)]
    congr 1
    apply Array.ext'
    simp only [Array.toList_append, Array.toList_push, List.append_assoc]
    congr 1
    rw [List.drop_eq_getElem_cons (show i < vs.length by omega), List.take_succ_cons]
    rfl

theorem run_loadVar' {P : Program} {t : TypeId} {n : Nat} {g : Bool} {z : List Value} {b : Nat} (ht : Ty P t n g z b) {M : Mem} {w : World} (hM : MLe M (Wm w)) {a : Addr} {vs : List Value} (h : CellsAt M a vs)
    (hn : vs.length = n) (hg : g = true ∨ n = 1) : (loadVar t a).run P w = .ok (val g vs) w := by
  unfold loadVar
  simp only [Sem.run_bind, ht.isAgg, Result.andThen_ok]
  cases g with
  | true =>
    simp only [if_true, Sem.run_bind, ht.size, Result.andThen_ok, loadCells, run_loadCellsFrom hM h n 0 #[] (by omega)]
    subst hn
    simp [val]
  | false =>
    obtain rfl : n = 1 := by simpa using hg
    obtain ⟨v, rfl⟩ : ∃ v, vs = [v] := List.length_eq_one_iff.1 hn
    have := cell_of hM h (i := 0) (v := v) rfl
    simp only [Addr.add, if_true] at this
    simp [this, val]

section mem
variable {c : Cx} {D : List Deferred} {ops : Array Oper} {K : Act → World → Prop} {rest : List Oper} {l : Env} {h : List Own}
  {ty : TypeId} {pos : String} {af : Array Edge} {g : Option (Nat × Bool)} {dst : Option Tmp} {d : Nat}

theorem HS.le {hx : List Own} {w : World} (s : HS c (h ++ hx) w) : MLe (Hm c.M h) (Wm w) := fun k ob x => by
  rcases x with x | x
  · exact s.ro.get k ob x
  · exact s.chg.own (k, ob) (by simp [x])

/-- A load. -/
theorem ld {x : Operand} {t : TypeId} {n : Nat} {gg : Bool} {z : List Value} {b : Nat} {A : Addr} {vs : List Value} (ht : Ty c.P t n gg z b) (hx : ev l x = some (.pointer (some A)))
    (hc : CellsAt (Hm c.M h) A vs) (hn : vs.length = n) (hg : gg = true ∨ n = 1) : OpV c ⟨dst, .load t x, ty, pos, af, g⟩ l h (val gg vs) :=
  .of0 (fun _ => by simp) fun a w e ⟨hx', s⟩ => by
    simp [execOp, ev_eq e (by simp [Op.operands]) hx, Instr.loadAt, Instr.sureAddr, run_loadVar' ht s.le hc hn hg]

/-- The cells of an item that is one block. -/
theorem atI {M : Mem} {k : Nat} {cs : Array Value} {e : TypeId} {fz : Nat × Nat} {t : List Own} {o : Nat} {vs : List Value} (hv : ∀ i v, vs[i]? = some v → cs[o + i]? = some v) :
    CellsAt (Hm M ([(k, .cells cs e fz)] :: t)) ⟨k, o, none⟩ vs := ⟨rfl, cs, e, fz, .inr (by simp), hv⟩

theorem getE_of_take {vs : List Value} {cs : Array Value} {o n : Nat} (h : vs = (cs.toList.drop o).take n) : ∀ i v, vs[i]? = some v → cs[o + i]? = some v := by
  subst h
  intro i v hv
  rw [List.getElem?_take] at hv
  split at hv
  · rw [List.getElem?_drop] at hv; simpa using hv
  · cases hv

/-- A load of an own block's cells: the item stands at the front. -/
theorem ldo {x : Operand} {t : TypeId} {n : Nat} {gg : Bool} {z : List Value} {b : Nat} {k : Nat} {cs : List Value} {e : TypeId} {fz : Nat × Nat} {hs : List Own} {o : Nat} {vs : List Value} (ht : Ty c.P t n gg z b)
    (hx : ev l x = some (.pointer (some ⟨k, o, none⟩))) (hv : (cs.drop o).take n = vs) (hn : vs.length = n) (hg : gg = true ∨ n = 1) :
    OpV c ⟨dst, .load t x, ty, pos, af, g⟩ l ([(k, .cells cs.toArray e fz)] :: hs) (val gg vs) :=
  ld ht hx (atI (getE_of_take (by simpa using hv.symm))) hn hg

/-- A field's place. -/
structure Fd (P : Program) (s : TypeId) (f o : Nat) : Prop where
  ok : (P.underlying s).bind (fun d => match d with | .struct fs => (fs[f]?).bind fun F => (P.info? F.type).map fun i => (F.offset, Nat.beq i.size 0) | _ => none) = some (o, false)
theorem Fd.get {P : Program} {s : TypeId} {f o : Nat} (h : Fd P s f o) : ∃ fs F i, P.underlying s = some (.struct fs) ∧ fs[f]? = some F ∧ P.info? F.type = some i ∧ F.offset = o ∧ i.size ≠ 0 := by
  have := h.ok
  cases hu : P.underlying s with
  | none => rw [hu] at this; cases this
  | some d =>
    rw [hu] at this
    cases d with
    | struct fs =>
      simp only [Option.bind_some] at this
      cases hf : fs[f]? with
      | none => rw [hf] at this; cases this
      | some F =>
        rw [hf] at this
        simp only [Option.bind_some] at this
        cases hi : P.info? F.type with
        | none => rw [hi] at this; cases this
        | some i =>
          rw [hi] at this
          simp at this
          exact ⟨fs, F, i, rfl, hf, hi, this.1, ne_of_beq this.2⟩
    | _ => simp at this

abbrev pt (b o : Nat) : Value := .pointer (some ⟨b, o, none⟩)
theorem add_mk (b o n : Nat) : (⟨b, o, none⟩ : Addr).add n = ⟨b, o + n, none⟩ := by unfold Addr.add; split <;> simp_all

theorem fa {x : Operand} {s : TypeId} {f k o1 o2 o3 : Nat} (hs : Fd c.P s f o2) (hx : ev l x = some (pt k o1)) (ho : o1 + o2 = o3) :
    OpV c ⟨dst, .fieldAddr s x f, ty, pos, af, g⟩ l h (pt k o3) :=
  .of0 (fun _ => by simp) fun a w e _ => by
    obtain ⟨fs, F, i, h1, h2, h3, h4, h5⟩ := hs.get
    subst ho h4
    simp [execOp, ev_eq e (by simp [Op.operands]) hx, Instr.fieldAt, run_und h1, h2, Instr.sureAddr, fieldPlace, sizeOf, run_typeInfo' h3, h5, add_mk]

/-- nilCheck of a pointer that is none. -/
theorem nk {x : Operand} {A : Addr} (hx : ev l x = some (.pointer (some A))) : OpV c ⟨dst, .nilCheck x, ty, pos, af, g⟩ l h (.pointer (some A)) :=
  .of0 (fun _ => by simp) fun a w e _ => by simp [execOp, ev_eq e (by simp [Op.operands]) hx]

/-- An element's place. -/
theorem ia {x i : Operand} {t e' : TypeId} {n : Nat} {gg : Bool} {z : List Value} {b : Nat} {k o m cp : Nat} {j : Int} {ik : IntKind} (hu : c.P.underlying t = some (.slice e')) (ht : Ty c.P e' n gg z b)
    (hx : ev l x = some (.slice (some ⟨k, o, none⟩) m cp)) (hi : ev l i = some (.int ik j)) (h0 : 0 ≤ j) (h1 : j < m) :
    OpV c ⟨dst, .indexAddr t x i, ty, pos, af, g⟩ l h (pt k (o + j.toNat * n)) :=
  .of0 (fun _ => by simp) fun a w e _ => by
    simp [execOp, ev_eq e (by simp [Op.operands]) hx, ev_eq e (x := i) (by simp [Op.operands]) hi, Instr.indexAt, asIntOf, run_und hu, h0, h1, ht.size, add_mk]
/-- .. of an array behind a pointer. -/
theorem iaA {x i : Operand} {t e' : TypeId} {n : Nat} {gg : Bool} {z : List Value} {b : Nat} {k o m : Nat} {j : Int} {ik : IntKind} (hu : c.P.underlying t = some (.array m e')) (ht : Ty c.P e' n gg z b)
    (hx : ev l x = some (pt k o)) (hi : ev l i = some (.int ik j)) (h0 : 0 ≤ j) (h1 : j < m) :
    OpV c ⟨dst, .indexAddr t x i, ty, pos, af, g⟩ l h (pt k (o + j.toNat * n)) :=
  .of0 (fun _ => by simp) fun a w e _ => by
    simp [execOp, ev_eq e (by simp [Op.operands]) hx, ev_eq e (x := i) (by simp [Op.operands]) hi, Instr.indexAt, Instr.sureAddr, asIntOf, run_und hu, h0, h1, ht.size, add_mk]
/-- An element of an array value. -/
theorem ix {x i : Operand} {t e' : TypeId} {z : List Value} {b : Nat} {m : Nat} {j : Int} {ik : IntKind} {cs : Array Value} {v : Value} (hu : c.P.underlying t = some (.array m e')) (ht : Ty c.P e' 1 false z b)
    (hx : ev l x = some (.agg cs)) (hi : ev l i = some (.int ik j)) (h0 : 0 ≤ j) (h1 : j < m) (hv : cs[j.toNat]? = some v) :
    OpV c ⟨dst, .index t x i, ty, pos, af, g⟩ l h v :=
  .of0 (fun _ => by simp) fun a w e _ => by
    simp [execOp, ev_eq e (by simp [Op.operands]) hx, ev_eq e (x := i) (by simp [Op.operands]) hi, Instr.index, asIntOf, run_und hu, h0, h1, ht.size, ht.isAgg, part, hv]
/-- A byte of a string. -/
theorem ixs {x i : Operand} {t : TypeId} {j : Int} {ik : IntKind} {s : ByteArray} {v : UInt8} (hu : c.P.underlying t = some .string)
    (hx : ev l x = some (.string s)) (hi : ev l i = some (.int ik j)) (h0 : 0 ≤ j) (hv : s[j.toNat]? = some v) :
    OpV c ⟨dst, .index t x i, ty, pos, af, g⟩ l h (.int .u8 v.toNat) :=
  .of0 (fun _ => by simp) fun a w e _ => by
    simp [execOp, ev_eq e (by simp [Op.operands]) hx, ev_eq e (x := i) (by simp [Op.operands]) hi, Instr.index, asIntOf, run_und hu, h0, hv]

/-- len of a slice; of a string. -/
theorem ln {x : Operand} {A : Option Addr} {n m : Nat} {t e' : TypeId} (hu : c.P.underlying t = some (.slice e')) (hx : ev l x = some (.slice A n m)) : OpV c ⟨dst, .call { callee := .builtin .len, args := #[x], argTypes := #[t] }, ty, pos, af, g⟩ l h (.int .i64 n) :=
  .of0 (fun _ => by simp) fun a w e _ => by
    simp [execOp, resolve, invoke, builtin, ev_eq e (by simp [Op.operands, Call.operands]) hx, Builtin.len_, goInt, run_und hu]
theorem lns {x : Operand} {s : ByteArray} {t : TypeId} (hu : c.P.underlying t = some .string) (hx : ev l x = some (.string s)) : OpV c ⟨dst, .call { callee := .builtin .len, args := #[x], argTypes := #[t] }, ty, pos, af, g⟩ l h (.int .i64 s.size) :=
  .of0 (fun _ => by simp) fun a w e _ => by
    simp [execOp, resolve, invoke, builtin, ev_eq e (by simp [Op.operands, Call.operands]) hx, Builtin.len_, goInt, run_und hu]
end mem

/-! ### What makes or writes memory -/
/-- The cells of a value that is laid in a block. -/
theorem cells_agg (vs : Array Value) : (Value.agg vs).cells = vs := rfl

section made
variable {c : Cx} {D : List Deferred} {ops : Array Oper} {K : Act → World → Prop} {rest : List Oper} {l : Env} {h : List Own}
  {ty : TypeId} {pos : String} {af : Array Edge} {d : Nat}

theorem HS.alloc {w : World} (s : HS c h w) (ob : Obj) : HS c ([(w.heap.size, ob)] :: h) (w.alloc ob) :=
  ⟨by simpa using Chg.step (o1 := []) (by simpa using s.chg) (Chg.alloc_step w ob), s.mro⟩

theorem run_newRow (P : Program) (t : TypeId) (cs : Array Value) (w : World) : (newRow t cs).run P w = .ok ⟨w.heap.size, 0, none⟩ (w.alloc (.cells cs t)) := by
  rfl

/-- A new block. -/
theorem GL.new {op : Op} {v : Nat → Value} {ob : Obj} (hnd : ∀ cl, op ≠ .defer cl)
    (hr : ∀ (a : Act) (w : World), EOn op.operands a l → HS c h w → (execOp a.eval ⟨some d, op, ty, pos, af, none⟩).run c.P w = .ok (.value (v w.heap.size)) (w.alloc ob))
    (hd : Nat.blt d c.N = true) (k : ∀ b, GL c D ops K rest ((d, v b) :: l) ([(b, ob)] :: h)) : GL c D ops K (⟨some d, op, ty, pos, af, none⟩ :: rest) l h := by
  intro a w e s
  simp only [wpL, wanted_none, if_true]
  exact opW.of hnd (hr a w (e.on _) s) (fun _ _ x => by cases x) (k _ _ _ (e.put hd _) (s.alloc ob))

theorem al {t : TypeId} {n : Nat} {gg : Bool} {z : List Value} {b : Nat} (ht : Ty c.P t n gg z b) (hz : (val gg z).cells = z.toArray) (hd : Nat.blt d c.N = true) (k : ∀ b, GL c D ops K rest ((d, pt b 0) :: l) ([(b, .cells z.toArray t (0, 0))] :: h)) :
    GL c D ops K (⟨some d, .alloc t, ty, pos, af, none⟩ :: rest) l h :=
  GL.new (v := fun b => pt b 0) (by simp) (fun a w e _ => by simp [execOp, Instr.alloc, ht.zero, newVar, run_newRow, hz]) hd k
theorem bx {x : Operand} {t : TypeId} {v : Value} {z : List Value} (hx : ev l x = some v) (hz : v.cells = z.toArray) (hd : Nat.blt d c.N = true) (k : ∀ b, GL c D ops K rest ((d, pt b 0) :: l) ([(b, .cells z.toArray t (0, 0))] :: h)) :
    GL c D ops K (⟨some d, .box t x, ty, pos, af, none⟩ :: rest) l h :=
  GL.new (v := fun b => pt b 0) (by simp) (fun a w e _ => by simp [execOp, Instr.box, ev_eq e (by simp [Op.operands]) hx, newVar, run_newRow, hz]) hd k

/-- Cells with some of them written. -/
def setL (cs : List Value) (o : Nat) : List Value → List Value
  | [] => cs
  | v :: vs => setL (cs.set o v) (o + 1) vs
theorem setL_length (vs : List Value) : ∀ (cs : List Value) (o : Nat), (setL cs o vs).length = cs.length := by
  induction vs with
  | nil => intro _ _; rfl
  | cons v vs ih => intro cs o; simp [setL, ih]

def flat : Value → Bool
  | .agg _ | .tuple _ => false
  | _ => true

theorem run_store_own {P : Program} {w : World} {k o : Nat} {cs : Array Value} {e : TypeId} {v : Value} (hk : w.heap[k]? = some (.cells cs e (0, 0))) (ho : o < cs.size) (hv : flat v = true) :
    (store ⟨k, o, none⟩ v).run P w = .ok () { w with heap := w.heap.setIfInBounds k (.cells (cs.setIfInBounds o v) e (0, 0)) } := by
  have hc : w.cell? ⟨k, o, none⟩ = some cs[o] := by simp [World.cell?, hk, ho]
  have hf : w.frozen? ⟨k, o, none⟩ = false := by simp [World.frozen?, hk]
  have hs : w.setCell ⟨k, o, none⟩ v = { w with heap := w.heap.setIfInBounds k (.cells (cs.setIfInBounds o v) e (0, 0)) } := by
    simp only [World.setCell]
    congr 1
    apply Array.ext_getElem?
    intro i
    rw [Array.getElem?_modify, Array.getElem?_setIfInBounds]
    by_cases hi : k = i
    · subst hi
      have hk' := (Array.getElem?_eq_some_iff.1 hk).2
      simp [hk', lt_of_heap hk]
    · simp [hi]
  cases v <;> first | (simp [flat] at hv; done) | simp [store, Sem.run, hc, hf, hs]

theorem run_storeCells {P : Program} {k : Nat} {e : TypeId} (vs : List Value) : ∀ (w : World) (o i : Nat) (cs : List Value), w.heap[k]? = some (.cells cs.toArray e (0, 0)) → o + i + vs.length ≤ cs.length → (∀ v ∈ vs, flat v = true) →
    ∃ w', (storeCells ⟨k, o, none⟩ vs i).run P w = .ok () w' ∧ w'.os = w.os ∧ w'.tape = w.tape ∧ w'.output = w.output ∧ w'.heap.size = w.heap.size ∧ (∀ j, j ≠ k → w'.heap[j]? = w.heap[j]?) ∧
      w'.heap[k]? = some (.cells (setL cs (o + i) vs).toArray e (0, 0)) := by
  induction vs with
  | nil => intro w o i cs hk _ _; exact ⟨w, by simp [storeCells], rfl, rfl, rfl, rfl, fun _ _ => rfl, hk⟩
  | cons v vs ih =>
    intro w o i cs hk hl hv
    simp only [List.length_cons] at hl
    have h1 := run_store_own (P := P) (v := v) hk (o := o + i) (by simp; omega) (hv v (by simp))
    let w1 : World := { w with heap := w.heap.setIfInBounds k (.cells (cs.set (o + i) v).toArray e (0, 0)) }
    have hk1 : w1.heap[k]? = some (.cells (cs.set (o + i) v).toArray e (0, 0)) := by
      simp [w1, Array.getElem?_setIfInBounds, lt_of_heap hk]
    obtain ⟨w', r, a1, a2, a3, a4, a5, a6⟩ := ih w1 o (i + 1) (cs.set (o + i) v) hk1 (by simp; omega) (fun u hu => hv u (by simp [hu]))
    refine ⟨w', ?_, a1, a2, a3, by rw [a4]; simp [w1], fun j hj => by rw [a5 j hj]; simp [w1, Array.getElem?_setIfInBounds, Ne.symm hj], a6⟩
    simp only [storeCells, Sem.run_bind, add_mk, h1, Result.andThen_ok]
    rw [show cs.toArray.setIfInBounds (o + i) v = (cs.set (o + i) v).toArray by simp]
    exact r

theorem HS.set {w w' : World} {k : Nat} {ob ob' : Obj} {hs : List Own} (s : HS c ([(k, ob)] :: hs) w) (h1 : w'.os = w.os) (h2 : w'.tape = w.tape) (h3 : w'.output = w.output) (h4 : w'.heap.size = w.heap.size)
    (h5 : ∀ j, j ≠ k → w'.heap[j]? = w.heap[j]?) (h6 : w'.heap[k]? = some ob') : HS c ([(k, ob')] :: hs) w' :=
  ⟨by simpa using Chg.step (o1 := [(k, ob)]) (by simpa using s.chg) (Chg.set_step (s.chg.own (k, ob) (by simp)) h1 h2 h3 h4 h5 h6), s.mro⟩

/-- A store into an own block (at the front). -/
theorem sto {x y : Operand} {t : TypeId} {n : Nat} {gg : Bool} {z : List Value} {b k o : Nat} {cs cs' vs : List Value} {e' : TypeId} {hs : List Own} {v : Value} (ht : Ty c.P t n gg z b)
    (hx : ev l x = some (pt k o)) (hy : ev l y = some v) (hv : v.cells = vs.toArray) (hn : vs.length = n) (hf : vs.all flat = true) (hl : o + n ≤ cs.length) (hc : setL cs o vs = cs')
    (kk : GL c D ops K rest l ([(k, .cells cs'.toArray e' (0, 0))] :: hs)) : GL c D ops K (⟨none, .store t x y, ty, pos, af, none⟩ :: rest) l ([(k, .cells cs.toArray e' (0, 0))] :: hs) := by
  intro a w e s
  simp only [wpL, wanted_none, if_true]
  obtain ⟨w', r, a1, a2, a3, a4, a5, a6⟩ := run_storeCells (P := c.P) vs w o 0 cs (s.chg.own (k, .cells cs.toArray e' (0, 0)) (by simp)) (by omega) (fun u hu => List.all_eq_true.1 hf u hu)
  have hr : (execOp a.eval ⟨none, .store t x y, ty, pos, af, none⟩).run c.P w = .ok .skip w' := by
    simp [execOp, ev_eq (e.on _) (x := x) (xs := (Op.store t x y).operands) (by simp [Op.operands]) hx, ev_eq (e.on _) (x := y) (xs := (Op.store t x y).operands) (by simp [Op.operands]) hy, Instr.storeAt, Instr.sureAddr, storeVar, ht.size, hv, hn, r]
  subst hc
  exact opW.of (by simp) hr (fun _ _ x => by cases x) (kk _ _ e (s.set a1 a2 a3 a4 a5 a6))
end made
end Go.W
/- Calls, the head and the end of a function's walk; sums; slices of slices; what is built. No program is named here. -/
namespace Go.W
open Go

/-! ### Calls -/
def Cl (P : Program) (f : FuncId) : Prop := (P.funcs[f]?).map (fun fn => fn.body.isSome && !(fn.name == "runtime.NumGoroutine")) = some true

theorem run_callFunc {P : Program} {f : FuncId} (h : Cl P f) (args : Array Value) (w : World) : (callFunc f args).run P w = .ok (.enter f args) w := by
  unfold Cl at h
  cases hf : P.funcs[f]? with
  | none => rw [hf] at h; cases h
  | some fn =>
    rw [hf] at h
    simp at h
    have h2 : fn.body.isNone = false := by
      cases hb : fn.body with
      | none => rw [hb] at h; simp at h
      | some _ => rfl
    unfold callFunc
    simp only [Sem.run_bind, program, Sem.run, Result.andThen_ok, hf]
    have h3 : (fn.name == "runtime.NumGoroutine") = false := by
      cases hb : (fn.name == "runtime.NumGoroutine") with
      | false => rfl
      | true => exact absurd (by simpa using hb) h.2
    rw [h3]
    simp [h2]

theorem callsIn_wd {r : Option Nat} {n : Nat} {P : Program} {f : FuncId} {args : Array Value} {w : World} {R : Ending → World → Prop} (h : Calls P f args w R) : CallsIn (wd r) n P f args w R :=
  (callsIn_wide (n := n)).2 h

theorem evs_call {c : Call} {a : Act} {l : Env} (e : EOn (Op.call c).operands a l) {vs : List Value} (hx : evs l c.args.toList = some vs) : c.args.map a.eval = vs.toArray := by
  have := evs_eq e c.args.toList (fun y hy => by simp [Op.operands, Call.operands]; right; exact Array.mem_def.2 hy) vs hx
  rw [← this]
  apply Array.ext'
  rw [Array.toList_map]

section call
variable {c : Cx} {D : List Deferred} {ops : Array Oper} {K : Act → World → Prop} {rest : List Oper} {l : Env} {h : List Own}
  {ty : TypeId} {pos : String} {af : Array Edge} {g : Option (Nat × Bool)} {dst : Option Tmp} {d : Nat} {f : FuncId} {xs : Array Operand} {tys : Array TypeId}

/-- What is called: a function by its name, a function value. -/
def Callee1 (l : Env) (x : Operand) (f : FuncId) (pre post : List Value) : Prop := ev l x = some (.func (.func f) pre.toArray post.toArray)
theorem fnc (f : FuncId) : Callee1 l (.func f) f [] [] := rfl

theorem run_call {x : Operand} {vs pre post : List Value} {a : Act} (hf : Cl c.P f) (hv : Callee1 l x f pre post) (hx : evs l xs.toList = some vs)
    (e : EOn (Op.call { callee := .value x, args := xs, argTypes := tys }).operands a l) (w : World) :
    (execOp a.eval ⟨dst, .call { callee := .value x, args := xs, argTypes := tys }, ty, pos, af, g⟩).run c.P w = .ok (.enter f (pre ++ vs ++ post).toArray) w := by
  have h1 := ev_eq e (x := x) (by simp [Op.operands, Call.operands]) hv
  have h2 := evs_call e hx
  simp only [execOp, resolve, h1, Deferred.ofValue, Sem.run_bind, Sem.run_pure, Result.andThen_ok, invoke, h2]
  rw [show pre.toArray ++ vs.toArray ++ post.toArray = (pre ++ vs ++ post).toArray by simp]
  exact run_callFunc hf _ w

/-- A call that only computes: what it yields is known. -/
theorem cl0 {x : Operand} {vs pre post : List Value} {u : Value} (hf : Cl c.P f) (hv : Callee1 l x f pre post) (hx : evs l xs.toList = some vs)
    (hc : ∀ w, RO (Hm c.M h) [] w → FnC c.P f (pre ++ vs ++ post) w [] fun v _ => v = u) : OpV c ⟨dst, .call { callee := .value x, args := xs, argTypes := tys }, ty, pos, af, g⟩ l h u := by
  intro hx' a w e s next k
  refine opW.of (by simp) (run_call hf hv hx e w) (fun _ _ x => by cases x) ?_
  refine ⟨fun hh => by simp [wd] at hh, callsIn_wd ?_⟩
  have hro : RO (Hm c.M h) [] w := ⟨fun k ob x => s.le k ob x, fun _ _ _ b hb => by simp at hb⟩
  refine ((hc w hro) (by simp) (by simp)).mono fun e' w' ⟨v, o', e1, e2, e3⟩ => ?_
  subst e1 e2
  exact k w' ⟨by simpa using (Chg.step (o1 := []) (by simpa using s.chg) (e3.sublist (o' := []) (by simp))), s.mro⟩

/-- A call that is handed the item at the front (nothing: []). -/
theorem cl {x : Operand} {vs pre post : List Value} {o : Own} {hr : List Own} {R : Value → Own → Prop} (hf : Cl c.P f) (hv : Callee1 l x f pre post) (hx : evs l xs.toList = some vs)
    (hc : ∀ w, RO (Hm c.M hr) o w → FnC c.P f (pre ++ vs ++ post) w o R) (hd : Nat.blt d c.N = true) (k : ∀ v o', R v o' → GL c D ops K rest ((d, v) :: l) (o' :: hr)) :
    GL c D ops K (⟨some d, .call { callee := .value x, args := xs, argTypes := tys }, ty, pos, af, none⟩ :: rest) l (o :: hr) := by
  intro a w e s
  simp only [wpL, wanted_none, if_true]
  refine opW.of (by simp) (run_call hf hv hx (e.on _) w) (fun _ _ x => by cases x) ?_
  refine ⟨fun hh => by simp [wd] at hh, callsIn_wd ?_⟩
  have s' : Chg c.w0 c.o0 (o ++ hr.flatten) w := by simpa using s.chg
  refine ((hc w (HS.hm s' s.mro)) (fun b hb => s'.own b (by simp [hb])) (by have := s'.nd; rw [List.map_append, List.nodup_append] at this; exact this.1)).mono fun e' w' ⟨v, o', e1, e2, e3⟩ => ?_
  subst e1
  exact k v o' e2 _ _ (e.put hd v) ⟨by simpa using Chg.step s' e3, s.mro⟩
theorem cln {x : Operand} {vs pre post : List Value} {o : Own} {hr : List Own} {R : Value → Own → Prop} (hf : Cl c.P f) (hv : Callee1 l x f pre post) (hx : evs l xs.toList = some vs)
    (hc : ∀ w, RO (Hm c.M hr) o w → FnC c.P f (pre ++ vs ++ post) w o R) (k : ∀ v o', R v o' → GL c D ops K rest l (o' :: hr)) :
    GL c D ops K (⟨none, .call { callee := .value x, args := xs, argTypes := tys }, ty, pos, af, none⟩ :: rest) l (o :: hr) := by
  intro a w e s
  simp only [wpL, wanted_none, if_true]
  refine opW.of (by simp) (run_call hf hv hx (e.on _) w) (fun _ _ x => by cases x) ?_
  refine ⟨fun hh => by simp [wd] at hh, callsIn_wd ?_⟩
  have s' : Chg c.w0 c.o0 (o ++ hr.flatten) w := by simpa using s.chg
  refine ((hc w (HS.hm s' s.mro)) (fun b hb => s'.own b (by simp [hb])) (by have := s'.nd; rw [List.map_append, List.nodup_append] at this; exact this.1)).mono fun e' w' ⟨v, o', e1, e2, e3⟩ => ?_
  subst e1
  exact k v o' e2 _ _ e ⟨by simpa using Chg.step s' e3, s.mro⟩
/-- An empty item ahead; two items as one; the front item left out. -/
theorem ni (k : GL c D ops K rest l ([] :: h)) : GL c D ops K rest l h := fun a w e s => k a w e ⟨by simpa using s.chg, s.mro⟩
theorem jn {o1 o2 : Own} (k : GL c D ops K rest l ((o1 ++ o2) :: h)) : GL c D ops K rest l (o1 :: o2 :: h) := fun a w e s => k a w e ⟨by simpa using s.chg, s.mro⟩
theorem pt2 {o1 o2 : Own} (k : GL c D ops K rest l (o1 :: o2 :: h)) : GL c D ops K rest l ((o1 ++ o2) :: h) := fun a w e s => k a w e ⟨by simpa using s.chg, s.mro⟩
theorem dr {o : Own} (k : GL c D ops K rest l h) : GL c D ops K rest l (o :: h) := fun a w e s => k a w e (s.dropIt (by simp))
end call

/-! ### The head and the end of a function -/
def env0 : Nat → List Value → Env
  | _, [] => []
  | i, v :: vs => (i, v) :: env0 (i + 1) vs
theorem lk_env0 : ∀ (vs : List Value) (i t : Nat) (v : Value), lk t (env0 i vs) = some v → i ≤ t ∧ vs[t - i]? = some v := by
  intro vs
  induction vs with
  | nil => intro i t v h; cases h
  | cons u us ih =>
    intro i t v h
    simp only [env0, lk] at h
    by_cases e : i = t
    · subst e; simp at h; subst h; simp
    · simp only [beq_ff e, cond_false] at h
      obtain ⟨h1, h2⟩ := ih _ _ _ h
      refine ⟨by omega, ?_⟩
      rw [show t - i = (t - (i + 1)) + 1 by omega]
      simpa using h2

def Post (c : Cx) (fn : Func) (R : Value → Own → Prop) : Exit → Act → World → Prop :=
  bodyPost c.P fn fun e w' => ∃ v o', e = .returned v ∧ R v o' ∧ Chg c.w0 c.o0 o' w'

theorem enter {P : Program} {f : FuncId} {fn : Func} {code : Code} {args : List Value} {w : World} {o : Own} {M : Mem} {R : Value → Own → Prop} (hf : P.funcs[f]? = some fn) (hb : fn.body = some code) (N : Nat) (hN : fn.ntmps = N)
    (hn : Nat.ble args.length N = true) (hM : RO M o w) (h : List Own) (hh : h.flatten = o) (l : Env) (hl : Sub (env0 0 args) l) (g : G ⟨P, none, N, M, w, o⟩ [] code (Post ⟨P, none, N, M, w, o⟩ fn R) l h) : FnC P f args w o R := by
  intro h1 h2
  refine calls_of_wp hf hb ?_
  have hn' : args.length ≤ N := by simpa using hn
  subst hN
  have hE : EOk fn.ntmps [] ({ tmps := args.toArray ++ Array.replicate (fn.ntmps - args.toArray.size) undef, defers := [] } : Act) (env0 0 args) :=
    ⟨by simp; omega, rfl, fun t v hv => by
      obtain ⟨-, h4⟩ := lk_env0 _ _ _ _ hv
      simp only [Nat.sub_zero] at h4
      have := (List.getElem?_eq_some_iff.1 h4).1
      rw [Array.getElem?_append_left (by simpa using this)]
      simpa using h4⟩
  subst hh
  have := g _ w (hE.sub hl) ⟨Chg.refl h1 h2, hM⟩
  rw [wd_none] at this
  exact wpIn_wide.1 this

section ret
variable {c : Cx} {fn : Func} {R : Value → Own → Prop} {l : Env} {h : List Own}
theorem retE {ex : Exit} (hex : ex = .ret ∨ ex = .normal) {v : Value} (hr : ∀ a w, EOk c.N [] a l → HS c h w → (results fn a.tmps).run c.P w = .ok v w) {o' : Own} (hR : R v o') (ho : ∀ w, HS c h w → Chg c.w0 c.o0 o' w) : GE c [] ex (Post c fn R) l h := by
  intro a w e s
  have : bodyPost c.P fn (fun e w' => ∃ v o', e = .returned v ∧ R v o' ∧ Chg c.w0 c.o0 o' w') .ret a w := ⟨e.dfr, v, hr a w e s, v, o', rfl, hR, ho w s⟩
  rcases hex with rfl | rfl <;> exact this
theorem ret1 {t : Nat} {v : Value} (hr : fn.results = #[.tmp t]) (hv : lk t l = some v) {o' : Own} (hR : R v o') (ho : ∀ w, HS c h w → Chg c.w0 c.o0 o' w) : GE c [] .ret (Post c fn R) l h :=
  retE (.inl rfl) (fun a w e _ => by simp [results, hr, e.get t v hv]) hR ho
theorem ret2 {t u : Nat} {v1 v2 : Value} (hr : fn.results = #[.tmp t, .tmp u]) (hv : lk t l = some v1) (hu : lk u l = some v2) {o' : Own} (hR : R (.tuple #[v1, v2]) o') (ho : ∀ w, HS c h w → Chg c.w0 c.o0 o' w) : GE c [] .ret (Post c fn R) l h :=
  retE (.inl rfl) (fun a w e _ => by simp [results, hr, e.get t v1 hv, e.get u v2 hu]) hR ho
theorem ret3 {t u x : Nat} {v1 v2 v3 : Value} (hr : fn.results = #[.tmp t, .tmp u, .tmp x]) (hv : lk t l = some v1) (hu : lk u l = some v2) (hx : lk x l = some v3) {o' : Own} (hR : R (.tuple #[v1, v2, v3]) o') (ho : ∀ w, HS c h w → Chg c.w0 c.o0 o' w) : GE c [] .ret (Post c fn R) l h :=
  retE (.inl rfl) (fun a w e _ => by simp [results, hr, e.get t v1 hv, e.get u v2 hu, e.get x v3 hx]) hR ho
theorem ret0 {ex : Exit} (hex : ex = .ret ∨ ex = .normal) (hr : fn.results = #[]) {o' : Own} (hR : R (.tuple #[]) o') (ho : ∀ w, HS c h w → Chg c.w0 c.o0 o' w) : GE c [] ex (Post c fn R) l h :=
  retE hex (fun a w e _ => by simp [results, hr]) hR ho
/-- One result, in a cell of an own block at the front. -/
theorem retc {t n : Nat} {tt : TypeId} {gg : Bool} {z : List Value} {b k o : Nat} {cs vs : List Value} {e' : TypeId} {fz : Nat × Nat} {hs : List Own} (hr : fn.results = #[.cell t tt]) (hv : lk t l = some (pt k o)) (ht : Ty c.P tt n gg z b)
    (hvs : (cs.drop o).take n = vs) (hn : vs.length = n) (hg : gg = true ∨ n = 1) {o' : Own} (hR : R (val gg vs) o') (ho : ∀ w, HS c ([(k, .cells cs.toArray e' fz)] :: hs) w → Chg c.w0 c.o0 o' w) : GE c [] .ret (Post c fn R) l ([(k, .cells cs.toArray e' fz)] :: hs) :=
  retE (.inl rfl) (fun a w e s => by
    have hm : MLe (Hm c.M ([(k, .cells cs.toArray e' fz)] :: hs)) (Wm w) := (HS.nil_app s).le
    simp [results, hr, e.get t _ hv, asAddr, run_loadVar' ht hm (atI (getE_of_take (by simpa using hvs.symm))) hn hg]) hR ho
theorem retc2 {t u n : Nat} {tt : TypeId} {gg : Bool} {z : List Value} {b k o : Nat} {cs vs : List Value} {e' : TypeId} {fz : Nat × Nat} {hs : List Own} {v2 : Value} (hr : fn.results = #[.cell t tt, .tmp u]) (hv : lk t l = some (pt k o)) (hu : lk u l = some v2) (ht : Ty c.P tt n gg z b)
    (hvs : (cs.drop o).take n = vs) (hn : vs.length = n) (hg : gg = true ∨ n = 1) {o' : Own} (hR : R (.tuple #[val gg vs, v2]) o') (ho : ∀ w, HS c ([(k, .cells cs.toArray e' fz)] :: hs) w → Chg c.w0 c.o0 o' w) : GE c [] .ret (Post c fn R) l ([(k, .cells cs.toArray e' fz)] :: hs) :=
  retE (.inl rfl) (fun a w e s => by
    have hm : MLe (Hm c.M ([(k, .cells cs.toArray e' fz)] :: hs)) (Wm w) := (HS.nil_app s).le
    simp [results, hr, e.get t _ hv, e.get u _ hu, asAddr, run_loadVar' ht hm (atI (getE_of_take (by simpa using hvs.symm))) hn hg]) hR ho

theorem o0 : ∀ w, HS c h w → Chg c.w0 c.o0 [] w := fun w s => s.chg.sublist (by simp)
theorem o1 {a : Own} : ∀ w, HS c (a :: h) w → Chg c.w0 c.o0 a w := fun w s => s.chg.sublist (by simp)
theorem o2 {a b : Own} : ∀ w, HS c (a :: b :: h) w → Chg c.w0 c.o0 b w := fun w s => s.chg.sublist (by simp only [List.flatten_cons]; exact ((List.sublist_append_left b _).trans (List.sublist_append_right a _)))
theorem o3 {a b d : Own} : ∀ w, HS c (a :: b :: d :: h) w → Chg c.w0 c.o0 d w := fun w s => o2 w (s.dropIt (List.sublist_cons_self _ _))
theorem o4 {a b d e : Own} : ∀ w, HS c (a :: b :: d :: e :: h) w → Chg c.w0 c.o0 e w := fun w s => o3 w (s.dropIt (List.sublist_cons_self _ _))
end ret

/-! ### Sums of numbers in range; bits -/
section ints
variable {c : Cx} {l : Env} {h : List Own} {ty : TypeId} {pos : String} {af : Array Edge} {g : Option (Nat × Bool)} {dst : Option Tmp} {x y : Operand} {t t' : TypeId} {m n : Int}
theorem ad (hx : ev l x = some (.int .i64 m)) (hy : ev l y = some (.int .i64 n)) (hb : -9223372036854775808 ≤ m + n ∧ m + n ≤ 9223372036854775807) : OpV c ⟨dst, .binOp .add t x y t', ty, pos, af, g⟩ l h (.int .i64 (m + n)) :=
  bi hx hy fun w => by simp [binOp, Op.intArith, IntWalk.i64_in _ hb]
theorem sb (hx : ev l x = some (.int .i64 m)) (hy : ev l y = some (.int .i64 n)) (hb : -9223372036854775808 ≤ m - n ∧ m - n ≤ 9223372036854775807) : OpV c ⟨dst, .binOp .sub t x y t', ty, pos, af, g⟩ l h (.int .i64 (m - n)) :=
  bi hx hy fun w => by simp [binOp, Op.intArith, IntWalk.i64_in _ hb]
theorem ml (hx : ev l x = some (.int .i64 m)) (hy : ev l y = some (.int .i64 n)) (hb : -9223372036854775808 ≤ m * n ∧ m * n ≤ 9223372036854775807) : OpV c ⟨dst, .binOp .mul t x y t', ty, pos, af, g⟩ l h (.int .i64 (m * n)) :=
  bi hx hy fun w => by simp [binOp, Op.intArith, IntWalk.i64_in _ hb]
end ints
end Go.W
/- A region that draws its order: one walk serves every order. A: the operations that leave the items alone; F: those that make a block; T: those that write, behind all others (a few of A may come late). No program is named here. -/
namespace Go.W
open Go

def dirE (o : Oper) : List Nat := (o.after.toList.filter (Region.binds .any)).map (·.on)
def mask (acc : List Nat) (o : Oper) : Nat := (dirE o).foldl (fun s j => s ||| (2 ^ j ||| acc.getD j 0)) 0
def masks (ops : List Oper) : List Nat := ops.foldl (fun acc o => acc ++ [mask acc o]) []

inductive Reach (ops : List Oper) : Nat → Nat → Prop
  | one {i j : Nat} {o : Oper} (ho : ops[i]? = some o) (hj : j ∈ dirE o) : Reach ops i j
  | step {i j k : Nat} {o : Oper} (ho : ops[i]? = some o) (hj : j ∈ dirE o) (h : Reach ops j k) : Reach ops i k

theorem mask_fold {ops : List Oper} {acc : List Nat} {i : Nat} {o : Oper} (ho : ops[i]? = some o) (hacc : ∀ j k, Nat.testBit (acc.getD j 0) k = true → Reach ops j k) : ∀ (es : List Nat) (s : Nat), (∀ e ∈ es, e ∈ dirE o) →
    (∀ k, Nat.testBit s k = true → Reach ops i k) → ∀ k, Nat.testBit (es.foldl (fun s j => s ||| (2 ^ j ||| acc.getD j 0)) s) k = true → Reach ops i k := by
  intro es
  induction es with
  | nil => intro s _ hs; exact hs
  | cons e es ih =>
    intro s he hs
    refine ih _ (fun x hx => he x (by simp [hx])) fun k hk => ?_
    rw [Nat.testBit_or, Nat.testBit_or, Bool.or_eq_true, Bool.or_eq_true] at hk
    rcases hk with hk | hk | hk
    · exact hs k hk
    · rw [Nat.testBit_two_pow] at hk
      have : e = k := by simpa using hk
      subst this
      exact .one ho (he _ (by simp))
    · exact .step ho (he _ (by simp)) (hacc _ _ hk)

theorem masks_go {ops : List Oper} : ∀ (rest pre : List Oper) (acc : List Nat), ops = pre ++ rest → acc.length = pre.length → (∀ j k, Nat.testBit (acc.getD j 0) k = true → Reach ops j k) →
    ∀ j k, Nat.testBit ((rest.foldl (fun acc o => acc ++ [mask acc o]) acc).getD j 0) k = true → Reach ops j k := by
  intro rest
  induction rest with
  | nil => intro pre acc _ _ h; exact h
  | cons o rest ih =>
    intro pre acc he hl h
    refine ih (pre ++ [o]) (acc ++ [mask acc o]) (by simp [he]) (by simp [hl]) fun j k hk => ?_
    have ho : ops[pre.length]? = some o := by rw [he]; simp
    by_cases hj : j < acc.length
    · refine h j k ?_
      simpa [List.getD_eq_getElem?_getD, List.getElem?_append_left hj] using hk
    · by_cases hj2 : j = acc.length
      · subst hj2
        have : (acc ++ [mask acc o]).getD acc.length 0 = mask acc o := by simp [List.getD_eq_getElem?_getD]
        rw [this] at hk
        rw [hl]
        exact mask_fold ho h (dirE o) 0 (fun _ x => x) (fun k hk => by simp at hk) k hk
      · have : (acc ++ [mask acc o])[j]? = none := by simp; omega
        rw [List.getD_eq_getElem?_getD, this] at hk
        simp at hk
theorem masks_reach {ops : List Oper} {j k : Nat} (h : Nat.testBit ((masks ops).getD j 0) k = true) : Reach ops j k :=
  masks_go ops [] [] rfl rfl (fun j k hk => by simp at hk) j k h

def opT (o : Oper) : List Nat := o.op.operands.toList.filterMap fun | .tmp t => some t | _ => none
theorem mem_opT {o : Oper} {t : Nat} : t ∈ opT o ↔ Operand.tmp t ∈ o.op.operands := by
  unfold opT
  rw [List.mem_filterMap]
  constructor
  · rintro ⟨x, hx, h⟩
    cases x <;> simp at h
    subst h
    exact Array.mem_def.2 hx
  · intro h; exact ⟨_, Array.mem_def.1 h, rfl⟩
/-- The slots that an operation looks at: its operands', its guard's. -/
def reads (ops : List Oper) (o : Oper) : List Nat := opT o ++ (match o.guard with | some (j, _) => (((ops[j]?).bind (·.dst)).toList) | none => [])

def rb (ms : List Nat) (i j : Nat) : Bool := Nat.testBit (ms.getD i 0) j
def isT (l : List Nat) (i : Nat) : Bool := l.any (Nat.beq i)
def dstB (o p : Oper) : Bool := match o.dst, p.dst with | some d, some e => Nat.beq d e | _, _ => false
def readB (ops : List Oper) (o p : Oper) : Bool := match p.dst with | some e => isT (reads ops o) e | _ => false

def ndB : List Nat → Bool
  | [] => true
  | x :: r => !isT r x && ndB r
def plainOp (o : Oper) : Bool := match o.op with | .defer _ => false | .select _ _ => false | _ => true

def drawOk (ops : List Oper) (A F T late : List Nat) : Bool :=
  let ms := masks ops
  let all := A ++ F ++ T
  let ix := List.range ops.length
  let f := fun (i : Nat) (p : Oper → Bool) => match ops[i]? with | some o => p o | none => false
  ((ndB all && all.all fun i => Nat.blt i ops.length) && ops.all plainOp) && ix.all (isT all) &&
  ix.all (fun i => f i fun o => (dirE o).all fun j => Nat.blt j i) &&
  (A.zip (A.drop 1)).all (fun p => Nat.blt p.1 p.2) &&
  A.all (fun i => f i fun o => ix.all fun j => f j fun p =>
    Nat.beq i j || ((!readB ops o p || (isT A j && Nat.blt j i && rb ms i j) || rb ms j i) && (!dstB o p || (isT T j && rb ms j i)))) &&
  F.all (fun i => f i fun o => o.guard.isNone && ix.all fun j => f j fun p =>
    Nat.beq i j || ((!readB ops o p || (isT A j && rb ms i j) || (!isT A j && rb ms j i)) && (!dstB o p || (isT T j && rb ms j i)))) &&
  T.all (fun i => f i fun o => F.all (fun j => rb ms i j) && A.all (fun j => rb ms i j || (isT late j && f j fun p => !readB ops o p && !dstB o p))) &&
  (T.zip (T.drop 1)).all (fun p => rb ms p.2 p.1)

/-! ### The walk -/
structure AE where
  i : Nat
  d : Nat
  v : Value
  l : Env
structure FE where
  i : Nat
  d : Nat
  vf : Nat → Value
  ob : Obj

def gOk (ops : List Oper) (o : Oper) (l : Env) : Option Bool :=
  match o.guard with
  | none => some true
  | some (j, b) => match (ops[j]?).bind (·.dst) with
    | some e => match lk e l with
      | some (.bool b') => some (b' == b)
      | some (.tuple _) => some false
      | _ => none
    | none => none

/-- What yields v in whatever world. -/
def OpR (c : Cx) (o : Oper) (l : Env) (v : Value) : Prop := (∀ cl, o.op ≠ .defer cl) ∧ ∀ (a : Act) (w : World), EOn o.op.operands a l → (execOp a.eval o).run c.P w = .ok (.value v) w

def AF (c : Cx) (ops : List Oper) (late : List Nat) (h : List Own) (e : AE) : Prop :=
  ∃ o, ops[e.i]? = some o ∧ o.dst = some e.d ∧ Nat.blt e.d c.N = true ∧
    ((gOk ops o e.l = some true ∧ OpV c o e.l h e.v ∧ (isT late e.i = true → OpR c o e.l e.v)) ∨ (gOk ops o e.l = some false ∧ e.v = undef))
def FF (c : Cx) (ops : List Oper) (l : Env) (h : List Own) (e : FE) : Prop :=
  ∃ o, ops[e.i]? = some o ∧ o.dst = some e.d ∧ Nat.blt e.d c.N = true ∧ o.guard = none ∧ (∀ cl, o.op ≠ .defer cl) ∧
    ∀ (a : Act) (w : World), EOn o.op.operands a l → (execOp a.eval o).run c.P w = .ok (.value (e.vf w.heap.size)) (w.alloc e.ob)

inductive DA (c : Cx) (ops : List Oper) (late : List Nat) (l0 : Env) (h : List Own) : List AE → Env → Prop
  | nil : DA c ops late l0 h [] l0
  | cons {es : List AE} {l : Env} {e : AE} (hd : DA c ops late l0 h es l) (hl : e.l = l) (hf : AF c ops late h e) : DA c ops late l0 h (e :: es) ((e.d, e.v) :: l)

def TT (c : Cx) (D : List Deferred) (ops : Array Oper) (K : Act → World → Prop) (Ts : List Oper) : List FE → Env → List Own → Prop
  | [], l, h => GL c D ops K Ts l h
  | e :: r, l, h => ∀ b, TT c D ops K Ts r ((e.d, e.vf b) :: l) ([(b, e.ob)] :: h)

def Qk (K : Act → World → Prop) : Exit → Act → World → Prop
  | .normal, a, w => K a w
  | _, _, _ => False

def Goal (c : Cx) (D : List Deferred) (ops : List Oper) (K : Act → World → Prop) (l0 : Env) (h : List Own) : Prop :=
  ∀ a w, EOk c.N D a l0 → HS c h w → wpAnyIn (wd c.r) 0 c.P .any ops.toArray (Qk K) ops.length (Array.replicate ops.length false) a w

section sound
variable {c : Cx} {D : List Deferred} {ops : List Oper} {K : Act → World → Prop} {A F T late : List Nat} {l0 l : Env} {h : List Own} {es : List AE} {fes : List FE}

theorem lk_cons {t k : Nat} {v u : Value} {l : Env} : lk t ((k, v) :: l) = some u ↔ (k = t ∧ v = u) ∨ (k ≠ t ∧ lk t l = some u) := by
  simp only [lk]
  by_cases e : k = t
  · subst e; simp
  · simp [beq_ff e, e]

theorem DA.lk (hD : DA c ops late l0 h es l) {t : Nat} {u : Value} (hu : lk t l = some u) : (∃ e ∈ es, e.d = t ∧ e.v = u) ∨ ((∀ e ∈ es, e.d ≠ t) ∧ lk t l0 = some u) := by
  induction hD with
  | nil => exact .inr ⟨by simp, hu⟩
  | @cons es l e hd hl hf ih =>
    rcases lk_cons.1 hu with ⟨h1, h2⟩ | ⟨h1, h2⟩
    · exact .inl ⟨e, by simp, h1, h2⟩
    · rcases ih h2 with ⟨e', he', x⟩ | ⟨h3, h4⟩
      · exact .inl ⟨e', by simp [he'], x⟩
      · refine .inr ⟨fun e' he' => ?_, h4⟩
        rcases List.mem_cons.1 he' with rfl | he'
        · exact h1
        · exact h3 e' he'
theorem DA.mem (hD : DA c ops late l0 h es l) {e : AE} (he : e ∈ es) : AF c ops late h e ∧ ∃ pre suf, es = pre ++ e :: suf ∧ DA c ops late l0 h suf e.l := by
  induction hD with
  | nil => cases he
  | @cons es l e' hd hl hf ih =>
    rcases List.mem_cons.1 he with rfl | he
    · exact ⟨hf, [], es, rfl, hl ▸ hd⟩
    · obtain ⟨h1, pre, suf, h2, h3⟩ := ih he
      exact ⟨h1, e' :: pre, suf, by rw [h2]; rfl, h3⟩

/-- What the check says. -/
structure Ok (ops : List Oper) (A F T late : List Nat) : Prop where
  nd : (A ++ F ++ T).Nodup
  lt : ∀ i ∈ A ++ F ++ T, i < ops.length
  plain : ∀ o ∈ ops, plainOp o = true
  all : ∀ i, i < ops.length → i ∈ A ++ F ++ T
  dir : ∀ i o, ops[i]? = some o → ∀ j ∈ dirE o, j < i
  sorted : A.Pairwise (· < ·)
  a : ∀ i ∈ A, ∀ o, ops[i]? = some o → ∀ j p, ops[j]? = some p → i ≠ j → ∀ d, p.dst = some d →
    (d ∈ reads ops o → (j ∈ A ∧ j < i ∧ Reach ops i j) ∨ Reach ops j i) ∧ (o.dst = some d → j ∈ T ∧ Reach ops j i)
  f : ∀ i ∈ F, ∀ o, ops[i]? = some o → o.guard = none ∧ ∀ j p, ops[j]? = some p → i ≠ j → ∀ d, p.dst = some d →
    (d ∈ reads ops o → (j ∈ A ∧ Reach ops i j) ∨ (j ∉ A ∧ Reach ops j i)) ∧ (o.dst = some d → j ∈ T ∧ Reach ops j i)
  t : ∀ i ∈ T, ∀ o, ops[i]? = some o → (∀ j ∈ F, Reach ops i j) ∧ ∀ j ∈ A, Reach ops i j ∨ (isT late j = true ∧ ∀ p d, ops[j]? = some p → p.dst = some d → d ∉ reads ops o ∧ o.dst ≠ some d)
  chain : ∀ q i j, T[q]? = some i → T[q + 1]? = some j → Reach ops j i

theorem isT_iff {l : List Nat} {i : Nat} : isT l i = true ↔ i ∈ l := by
  unfold isT
  rw [List.any_eq_true]
  constructor
  · rintro ⟨x, hx, e⟩; have := Nat.eq_of_beq_eq_true e; subst this; exact hx
  · intro h; exact ⟨i, h, Nat.beq_refl i⟩
theorem isT_ff {l : List Nat} {i : Nat} : isT l i = false ↔ i ∉ l := by rw [← Bool.not_eq_true, isT_iff]
theorem readB_iff {o p : Oper} {d : Nat} (hd : p.dst = some d) : readB ops o p = true ↔ d ∈ reads ops o := by simp only [readB, hd, isT_iff]
theorem dstB_iff {o p : Oper} {d : Nat} (hd : p.dst = some d) : dstB o p = true ↔ o.dst = some d := by
  simp only [dstB, hd]
  cases ho : o.dst with
  | none => simp
  | some e => simp only [Option.some.injEq]; exact ⟨Nat.eq_of_beq_eq_true, fun e => by subst e; exact Nat.beq_refl _⟩

theorem pairwise_of_zip : ∀ {A : List Nat}, (A.zip (A.drop 1)).all (fun p => Nat.blt p.1 p.2) = true → A.Pairwise (· < ·) := by
  intro A
  induction A with
  | nil => intro _; simp
  | cons x A ih =>
    intro h
    cases A with
    | nil => simp
    | cons y A =>
      simp only [List.drop_succ_cons, List.drop_zero, List.zip_cons_cons, List.all_cons, Bool.and_eq_true] at h
      have h1 : x < y := by simpa using h.1
      have h2 := ih (by simpa using h.2)
      refine List.pairwise_cons.2 ⟨fun z hz => ?_, h2⟩
      rcases List.mem_cons.1 hz with rfl | hz
      · exact h1
      · exact Nat.lt_trans h1 ((List.pairwise_cons.1 h2).1 z hz)

theorem nodup_of : ∀ {l : List Nat}, ndB l = true → l.Nodup := by
  intro l
  induction l with
  | nil => intro _; simp
  | cons x r ih =>
    intro h
    simp only [ndB, Bool.and_eq_true, Bool.not_eq_true'] at h
    exact List.nodup_cons.2 ⟨isT_ff.1 h.1, ih h.2⟩

theorem Ok.of (hk : drawOk ops A F T late = true) : Ok ops A F T late := by
  unfold drawOk at hk
  simp only [Bool.and_eq_true, List.all_eq_true, List.mem_range] at hk
  obtain ⟨⟨⟨⟨⟨⟨⟨k1, k2⟩, k3⟩, k4⟩, k5⟩, k6⟩, k7⟩, k8⟩ := hk
  refine ⟨nodup_of k1.1.1, fun i hi => by simpa using k1.1.2 i hi, k1.2, fun i hi => isT_iff.1 (k2 i hi), fun i o ho j hj => ?_, pairwise_of_zip (List.all_eq_true.2 k4), fun i hi o ho j p hp hne d hd => ?_, fun i hi o ho => ?_, fun i hi o ho => ?_, fun q i j hi hj => ?_⟩
  · have := k3 i (List.getElem?_eq_some_iff.1 ho).1
    simp only [ho, List.all_eq_true] at this
    simpa using this j hj
  · have h1 := k5 i hi
    simp only [ho, List.all_eq_true, List.mem_range] at h1
    have h2 := h1 j (List.getElem?_eq_some_iff.1 hp).1
    simp only [hp, Bool.or_eq_true, Bool.and_eq_true, Bool.not_eq_true', beq_ff hne, Bool.false_eq_true, false_or] at h2
    obtain ⟨h3, h4⟩ := h2
    refine ⟨fun hr => ?_, fun hd' => ?_⟩
    · rcases h3 with (h3 | ⟨⟨h3, h5⟩, h6⟩) | h3
      · rw [(readB_iff hd).2 hr] at h3; cases h3
      · exact .inl ⟨isT_iff.1 h3, by simpa using h5, masks_reach h6⟩
      · exact .inr (masks_reach h3)
    · rcases h4 with h4 | ⟨h4, h5⟩
      · rw [(dstB_iff hd).2 hd'] at h4; cases h4
      · exact ⟨isT_iff.1 h4, masks_reach h5⟩
  · have h1 := k6 i hi
    simp only [ho, Bool.and_eq_true, List.all_eq_true, List.mem_range, Option.isNone_iff_eq_none] at h1
    refine ⟨h1.1, fun j p hp hne d hd => ?_⟩
    have h2 := h1.2 j (List.getElem?_eq_some_iff.1 hp).1
    simp only [hp, Bool.or_eq_true, Bool.and_eq_true, Bool.not_eq_true', beq_ff hne, Bool.false_eq_true, false_or] at h2
    obtain ⟨h3, h4⟩ := h2
    refine ⟨fun hr => ?_, fun hd' => ?_⟩
    · rcases h3 with (h3 | ⟨h3, h6⟩) | ⟨h3, h6⟩
      · rw [(readB_iff hd).2 hr] at h3; cases h3
      · exact .inl ⟨isT_iff.1 h3, masks_reach h6⟩
      · exact .inr ⟨isT_ff.1 h3, masks_reach h6⟩
    · rcases h4 with h4 | ⟨h4, h5⟩
      · rw [(dstB_iff hd).2 hd'] at h4; cases h4
      · exact ⟨isT_iff.1 h4, masks_reach h5⟩
  · have h1 := k7 i hi
    simp only [ho, Bool.and_eq_true, List.all_eq_true] at h1
    refine ⟨fun j hj => masks_reach (h1.1 j hj), fun j hj => ?_⟩
    have h2 := h1.2 j hj
    rw [Bool.or_eq_true, Bool.and_eq_true] at h2
    rcases h2 with h2 | ⟨h2, h3⟩
    · exact .inl (masks_reach h2)
    · refine .inr ⟨h2, fun p d hp hd => ?_⟩
      simp only [hp, Bool.and_eq_true, Bool.not_eq_true'] at h3
      exact ⟨fun hr => (by rw [(readB_iff hd).2 hr] at h3; exact absurd h3.1 (by simp)), fun hd' => (by rw [(dstB_iff hd).2 hd'] at h3; exact absurd h3.2 (by simp))⟩
  · have hm : (i, j) ∈ T.zip (T.drop 1) := by
      rw [List.mem_iff_getElem?]
      exact ⟨q, by rw [List.getElem?_zip_eq_some]; exact ⟨hi, by simpa [Nat.add_comm] using hj⟩⟩
    exact masks_reach (k8 _ hm)

theorem Reach.lt (ok : Ok ops A F T late) {i j : Nat} (r : Reach ops i j) : j < i := by
  induction r with
  | one ho hj => exact ok.dir _ _ ho _ hj
  | step ho hj _ ih => exact Nat.lt_trans ih (ok.dir _ _ ho _ hj)

/-- What has been listed stands on what has been listed. -/
def Dn (ops : List Oper) (listed : Array Bool) : Prop := ∀ j o, ops[j]? = some o → listed.getD j false = true → ∀ e ∈ dirE o, listed.getD e false = true
theorem Dn.reach {listed : Array Bool} (hd : Dn ops listed) {i j : Nat} {o : Oper} (ho : ops[i]? = some o) (hi : ∀ e ∈ dirE o, listed.getD e false = true) (r : Reach ops i j) : listed.getD j false = true := by
  induction r generalizing o with
  | one ho' hj => rw [ho] at ho'; cases ho'; exact hi _ hj
  | @step i j k o' ho' hj r ih =>
    rw [ho] at ho'; cases ho'
    have h1 := hi _ hj
    cases r with
    | one ho2 hj2 => exact hd _ _ ho2 h1 _ hj2
    | step ho2 hj2 r2 => exact ih ho2 (hd _ _ ho2 h1)
theorem Dn.listed {listed : Array Bool} (hd : Dn ops listed) {i j : Nat} (hi : listed.getD i false = true) (r : Reach ops i j) : listed.getD j false = true := by
  cases r with
  | one ho hj => exact hd _ _ ho hi _ hj
  | step ho hj r => exact hd.reach ho (hd _ _ ho hi) (.step ho hj r)

theorem ready_iff {listed : Array Bool} {i : Nat} (hs : listed.size = ops.length) : i ∈ Region.ready .any ops.toArray listed ↔ listed.getD i false = false ∧ ∃ o, ops[i]? = some o ∧ ∀ e ∈ dirE o, listed.getD e false = true := by
  rw [mem_ready]
  simp only [List.getElem?_toArray]
  constructor
  · rintro ⟨h1, o, ho, h2⟩
    have hlt : i < listed.size := by rw [hs]; exact (List.getElem?_eq_some_iff.1 ho).1
    refine ⟨by simpa [hlt] using h1, o, ho, fun e he => ?_⟩
    simp only [dirE, List.mem_map, List.mem_filter] at he
    obtain ⟨x, ⟨hx, hb⟩, rfl⟩ := he
    exact h2 x (Array.mem_def.2 hx) hb
  · rintro ⟨h1, o, ho, h2⟩
    have hlt : i < listed.size := by rw [hs]; exact (List.getElem?_eq_some_iff.1 ho).1
    refine ⟨by simpa [hlt] using h1, o, ho, fun e he hb => h2 _ ?_⟩
    simp only [dirE, List.mem_map, List.mem_filter]
    exact ⟨e, ⟨Array.mem_def.1 he, hb⟩, rfl⟩

/-- How many are not listed. -/
def un (m : Nat) (listed : Array Bool) : Nat := ((List.range m).filter fun j => !listed.getD j false).length
theorem un_zero {m : Nat} {listed : Array Bool} (h : un m listed = 0) : ∀ j, j < m → listed.getD j false = true := by
  intro j hj
  have := List.eq_nil_of_length_eq_zero h
  rw [List.filter_eq_nil_iff] at this
  simpa using this j (by simpa using hj)
theorem filter_upd (f : Nat → Bool) (i : Nat) : ∀ (l : List Nat), l.Nodup → i ∈ l → f i = true → (l.filter f).length = (l.filter fun j => f j && !(Nat.beq i j)).length + 1 := by
  intro l
  induction l with
  | nil => intro _ h; cases h
  | cons x l ih =>
    intro nd hi hf
    rw [List.nodup_cons] at nd
    by_cases hx : i = x
    · subst hx
      have : (l.filter fun j => f j && !(Nat.beq i j)) = l.filter f := by
        apply List.filter_congr
        intro j hj
        have : i ≠ j := fun e => nd.1 (e ▸ hj)
        simp [beq_ff this]
      simp [List.filter_cons, hf, Nat.beq_refl, this]
    · have hi' : i ∈ l := by simpa [hx] using hi
      have := ih nd.2 hi' hf
      simp only [List.filter_cons, beq_ff hx, Bool.not_false, Bool.and_true]
      split <;> simp_all
theorem un_set {m i : Nat} {listed : Array Bool} (hs : listed.size = m) (hi : i < m) (hl : listed.getD i false = false) : un m listed = un m (listed.setIfInBounds i true) + 1 := by
  unfold un
  rw [filter_upd _ i (List.range m) List.nodup_range (by simpa using hi) (by simpa using hl)]
  congr 2
  apply List.filter_congr
  intro j hj
  by_cases e : i = j
  · subst e; simp [hs, hi, Nat.beq_refl]
  · rw [getD_set_ne false e]; simp [beq_ff e]
theorem getD_set {listed : Array Bool} {i j : Nat} (hi : i < listed.size) : (listed.setIfInBounds i true).getD j false = true ↔ j = i ∨ listed.getD j false = true := by
  by_cases e : i = j
  · subst e; simp [hi]
  · rw [getD_set_ne false e]; simp [Ne.symm e]
theorem Dn.set {listed : Array Bool} (hd : Dn ops listed) {i : Nat} {o : Oper} (hs : i < listed.size) (ho : ops[i]? = some o) (hi : ∀ e ∈ dirE o, listed.getD e false = true) : Dn ops (listed.setIfInBounds i true) := by
  intro j p hp hj e he
  rw [getD_set hs] at hj ⊢
  rcases hj with rfl | hj
  · rw [ho] at hp; cases hp; exact .inr (hi e he)
  · exact .inr (hd j p hp hj e he)
end sound
end Go.W
