/- Lemmas for the walks of this program: The soundness of the walk of a region that draws its order, and its steps. No program is named here. Slices that are read, loops over states of one to four parts. No program is named here. The plain data: dots, identifiers, runs, elements, operations; and how their cells read. No program is named here. -/
import Derived.Test.YtcjnbfpkigadeaaGreatDoorJ1
set_option linter.unusedVariables false
set_option linter.unusedSimpArgs false
/- The soundness of the walk of a region that draws its order, and its steps. No program is named here. -/
namespace Go.W
open Go
section sound
variable {c : Cx} {D : List Deferred} {ops : List Oper} {K : Act → World → Prop} {A F T late : List Nat} {l0 l : Env} {h : List Own} {es : List AE} {fes : List FE}

/-- What the parts of a walk are. -/
structure Wk (c : Cx) (D : List Deferred) (ops : List Oper) (K : Act → World → Prop) (A F T late : List Nat) (l0 l : Env) (h : List Own) (es : List AE) (fes : List FE) : Prop where
  ok : Ok ops A F T late
  da : DA c ops late l0 h es l
  ea : (es.map (·.i)).reverse = A
  ff : ∀ e ∈ fes, FF c ops l h e
  ef : fes.map (·.i) = F
  tt : TT c D ops.toArray K (T.filterMap (ops[·]?)) fes l h

def Li (listed : Array Bool) (i : Nat) : Prop := listed.getD i false = true

def Vl (l0 : Env) (es : List AE) (fes : List FE) (listed : Array Bool) (B : Nat → Nat) (t : Nat) (v : Value) : Prop :=
  (∃ e ∈ es, Li listed e.i ∧ e.d = t ∧ e.v = v) ∨ (∃ e ∈ fes, Li listed e.i ∧ e.d = t ∧ e.vf (B e.i) = v) ∨
    ((∀ e ∈ es, Li listed e.i → e.d ≠ t) ∧ (∀ e ∈ fes, Li listed e.i → e.d ≠ t) ∧ lk t l0 = some v)

structure Regs (c : Cx) (D : List Deferred) (ops : List Oper) (T : List Nat) (l0 : Env) (es : List AE) (fes : List FE) (listed : Array Bool) (a : Act) (B : Nat → Nat) : Prop where
  size : a.tmps.size = c.N
  dfr : a.defers = D
  get : ∀ t v, (∀ i ∈ T, Li listed i → ∀ o, ops[i]? = some o → o.dst ≠ some t) → Vl l0 es fes listed B t v → a.tmps[t]? = some v

namespace Wk
variable (k : Wk c D ops K A F T late l0 l h es fes)
include k

theorem memA {e : AE} (he : e ∈ es) : e.i ∈ A := by rw [← k.ea]; simp; exact ⟨e, he, rfl⟩
theorem memF {e : FE} (he : e ∈ fes) : e.i ∈ F := by rw [← k.ef]; exact List.mem_map.2 ⟨e, he, rfl⟩
theorem ofA {i : Nat} (hi : i ∈ A) : ∃ e ∈ es, e.i = i := by rw [← k.ea] at hi; simpa using hi
theorem ofF {i : Nat} (hi : i ∈ F) : ∃ e ∈ fes, e.i = i := by rw [← k.ef] at hi; simpa using hi
theorem ndA : (es.map (·.i)).Nodup := by
  have := k.ok.sorted
  rw [← k.ea] at this
  have h2 : ((es.map (·.i)).reverse).Nodup := this.imp (fun h => Nat.ne_of_lt h)
  exact (List.reverse_perm _).nodup_iff.1 h2
theorem ndF : (fes.map (·.i)).Nodup := by
  have := k.ok.nd
  rw [k.ef]
  rw [List.append_assoc, List.nodup_append] at this
  have := this.2.1
  rw [List.nodup_append] at this
  exact this.1
theorem ndT : T.Nodup := by
  have := k.ok.nd
  rw [List.nodup_append] at this
  exact this.2.1
theorem notAF {i : Nat} (ha : i ∈ A) (hf : i ∈ F) : False := by
  have := k.ok.nd
  rw [List.append_assoc, List.nodup_append] at this
  exact this.2.2 i ha i (by simp [hf]) rfl
theorem notAT {i : Nat} (ha : i ∈ A) (hf : i ∈ T) : False := by
  have := k.ok.nd
  rw [List.append_assoc, List.nodup_append] at this
  exact this.2.2 i ha i (by simp [hf]) rfl
theorem notFT {i : Nat} (ha : i ∈ F) (hf : i ∈ T) : False := by
  have := k.ok.nd
  rw [List.nodup_append] at this
  exact this.2.2 i (by simp [ha]) i hf rfl
theorem eqA {e e' : AE} (he : e ∈ es) (he' : e' ∈ es) (hi : e.i = e'.i) : e = e' := by
  have nd := k.ndA
  have : ∀ (l : List AE), (l.map (·.i)).Nodup → e ∈ l → e' ∈ l → e = e' := by
    intro l
    induction l with
    | nil => intro _ h; cases h
    | cons x l ih =>
      intro nd h1 h2
      rw [List.map_cons, List.nodup_cons] at nd
      rcases List.mem_cons.1 h1 with rfl | g1 <;> rcases List.mem_cons.1 h2 with rfl | g2
      · rfl
      · exact absurd (List.mem_map.2 ⟨e', g2, hi.symm⟩) nd.1
      · exact absurd ((List.mem_map.2 ⟨e, g1, hi⟩)) nd.1
      · exact ih nd.2 g1 g2
  exact this es nd he he'
theorem eqF {e e' : FE} (he : e ∈ fes) (he' : e' ∈ fes) (hi : e.i = e'.i) : e = e' := by
  have nd := k.ndF
  have : ∀ (l : List FE), (l.map (·.i)).Nodup → e ∈ l → e' ∈ l → e = e' := by
    intro l
    induction l with
    | nil => intro _ h; cases h
    | cons x l ih =>
      intro nd h1 h2
      rw [List.map_cons, List.nodup_cons] at nd
      rcases List.mem_cons.1 h1 with rfl | g1 <;> rcases List.mem_cons.1 h2 with rfl | g2
      · rfl
      · exact absurd (List.mem_map.2 ⟨e', g2, hi.symm⟩) nd.1
      · exact absurd ((List.mem_map.2 ⟨e, g1, hi⟩)) nd.1
      · exact ih nd.2 g1 g2
  exact this fes nd he he'
theorem opA {e : AE} (he : e ∈ es) : ∃ o, ops[e.i]? = some o ∧ o.dst = some e.d := let ⟨o, h1, h2, _⟩ := (k.da.mem he).1; ⟨o, h1, h2⟩
theorem opF {e : FE} (he : e ∈ fes) : ∃ o, ops[e.i]? = some o ∧ o.dst = some e.d := let ⟨o, h1, h2, _⟩ := k.ff e he; ⟨o, h1, h2⟩
/-- Two of A write two slots. -/
theorem dA {e e' : AE} (he : e ∈ es) (he' : e' ∈ es) (hd : e.d = e'.d) : e = e' := by
  by_cases hi : e.i = e'.i
  · exact k.eqA he he' hi
  · obtain ⟨o, h1, h2⟩ := k.opA he
    obtain ⟨o', h3, h4⟩ := k.opA he'
    exact (k.notAT (k.memA he') (((k.ok.a _ (k.memA he) o h1 _ o' h3 hi _ h4).2 (by rw [h2, hd])).1)).elim
theorem dAF {e : AE} {e' : FE} (he : e ∈ es) (he' : e' ∈ fes) (hd : e.d = e'.d) : False := by
  obtain ⟨o, h1, h2⟩ := k.opA he
  obtain ⟨o', h3, h4⟩ := k.opF he'
  have hi : e.i ≠ e'.i := fun x => k.notAF (k.memA he) (x ▸ k.memF he')
  exact k.notFT (k.memF he') (((k.ok.a _ (k.memA he) o h1 _ o' h3 hi _ h4).2 (by rw [h2, hd])).1)
theorem dF {e e' : FE} (he : e ∈ fes) (he' : e' ∈ fes) (hd : e.d = e'.d) : e = e' := by
  by_cases hi : e.i = e'.i
  · exact k.eqF he he' hi
  · obtain ⟨o, h1, h2⟩ := k.opF he
    obtain ⟨o', h3, h4⟩ := k.opF he'
    exact (k.notFT (k.memF he') ((((k.ok.f _ (k.memF he) o h1).2 _ o' h3 hi _ h4).2 (by rw [h2, hd])).1)).elim

theorem before {e e' : AE} {pre suf : List AE} (hs : es = pre ++ e :: suf) (he' : e' ∈ suf) : e'.i < e.i := by
  have := k.ok.sorted
  rw [← k.ea, hs] at this
  simp only [List.map_append, List.map_cons, List.reverse_append, List.reverse_cons, List.append_assoc] at this
  rw [List.pairwise_append] at this
  exact this.2.2 e'.i (by simp; exact ⟨e', he', rfl⟩) e.i (by simp)
theorem after {e e' : AE} {pre suf : List AE} (hs : es = pre ++ e :: suf) (he' : e' ∈ es) (hlt : e'.i < e.i) : e' ∈ suf := by
  rw [hs] at he'
  rcases List.mem_append.1 he' with h1 | h1
  · have := k.ok.sorted
    rw [← k.ea, hs] at this
    simp only [List.map_append, List.map_cons, List.reverse_append, List.reverse_cons, List.append_assoc] at this
    rw [← List.append_assoc, List.pairwise_append] at this
    have := this.2.2 e.i (by simp) e'.i (by simp; exact ⟨e', h1, rfl⟩)
    omega
  · rcases List.mem_cons.1 h1 with rfl | h1
    · omega
    · exact h1

/-- What an operation of A that is ready looks at is laid. -/
theorem rdA {listed : Array Bool} {a : Act} {B : Nat → Nat} (dn : Dn ops listed) (rg : Regs c D ops T l0 es fes listed a B) {e : AE} (he : e ∈ es) {o : Oper} (ho : ops[e.i]? = some o) (hl : ¬ Li listed e.i)
    (hr : ∀ x ∈ dirE o, listed.getD x false = true) {t : Nat} (ht : t ∈ reads ops o) {v : Value} (hv : lk t e.l = some v) : a.tmps[t]? = some v := by
  obtain ⟨-, pre, suf, hs, hd⟩ := k.da.mem he
  have noT : ∀ i ∈ T, Li listed i → ∀ p, ops[i]? = some p → p.dst ≠ some t := by
    intro i hi hli p hp hpd
    have hne : e.i ≠ i := fun x => k.notAT (k.memA he) (x ▸ hi)
    rcases (k.ok.a _ (k.memA he) o ho i p hp hne t hpd).1 ht with ⟨h1, _⟩ | h1
    · exact k.notAT h1 hi
    · exact hl (dn.listed hli h1)
  refine rg.get t v noT ?_
  rcases hd.lk hv with ⟨e', he', h1, h2⟩ | ⟨h1, h2⟩
  · have hlt := k.before hs he'
    have he2 : e' ∈ es := by rw [hs]; simp [he']
    obtain ⟨p, hp, hpd⟩ := k.opA he2
    rcases (k.ok.a _ (k.memA he) o ho _ p hp (by omega) t (by rw [hpd, h1])).1 ht with ⟨_, _, h3⟩ | h3
    · exact .inl ⟨e', he2, dn.reach ho hr h3, h1, h2⟩
    · have := h3.lt k.ok; omega
  · refine .inr (.inr ⟨fun e' he' hli hd' => ?_, fun e' he' hli hd' => ?_, h2⟩)
    · have hne : e.i ≠ e'.i := fun x => hl (x ▸ hli)
      obtain ⟨p, hp, hpd⟩ := k.opA he'
      rcases (k.ok.a _ (k.memA he) o ho _ p hp hne t (by rw [hpd, hd'])).1 ht with ⟨_, h3, _⟩ | h3
      · exact h1 e' (k.after hs he' h3) hd'
      · exact hl (dn.listed hli h3)
    · have hne : e.i ≠ e'.i := fun x => k.notAF (k.memA he) (x ▸ k.memF he')
      obtain ⟨p, hp, hpd⟩ := k.opF he'
      rcases (k.ok.a _ (k.memA he) o ho _ p hp hne t (by rw [hpd, hd'])).1 ht with ⟨h3, _, _⟩ | h3
      · exact k.notAF h3 (k.memF he')
      · exact hl (dn.listed hli h3)

/-- .. of F. -/
theorem rdF {listed : Array Bool} {a : Act} {B : Nat → Nat} (dn : Dn ops listed) (rg : Regs c D ops T l0 es fes listed a B) {e : FE} (he : e ∈ fes) {o : Oper} (ho : ops[e.i]? = some o) (hl : ¬ Li listed e.i)
    (hr : ∀ x ∈ dirE o, listed.getD x false = true) {t : Nat} (ht : t ∈ reads ops o) {v : Value} (hv : lk t l = some v) : a.tmps[t]? = some v := by
  have noT : ∀ i ∈ T, Li listed i → ∀ p, ops[i]? = some p → p.dst ≠ some t := by
    intro i hi hli p hp hpd
    have hne : e.i ≠ i := fun x => k.notFT (k.memF he) (x ▸ hi)
    rcases ((k.ok.f _ (k.memF he) o ho).2 i p hp hne t hpd).1 ht with ⟨h1, _⟩ | ⟨_, h1⟩
    · exact k.notAT h1 hi
    · exact hl (dn.listed hli h1)
  refine rg.get t v noT ?_
  rcases k.da.lk hv with ⟨e', he', h1, h2⟩ | ⟨h1, h2⟩
  · have hne : e.i ≠ e'.i := fun x => k.notAF (k.memA he') (x ▸ k.memF he)
    obtain ⟨p, hp, hpd⟩ := k.opA he'
    rcases ((k.ok.f _ (k.memF he) o ho).2 _ p hp hne t (by rw [hpd, h1])).1 ht with ⟨_, h3⟩ | h3
    · exact .inl ⟨e', he', dn.reach ho hr h3, h1, h2⟩
    · exact absurd (k.memA he') h3.1
  · refine .inr (.inr ⟨fun e' he' _ => h1 e' he', fun e' he' hli hd' => ?_, h2⟩)
    have hne : e.i ≠ e'.i := fun x => hl (x ▸ hli)
    obtain ⟨p, hp, hpd⟩ := k.opF he'
    rcases ((k.ok.f _ (k.memF he) o ho).2 _ p hp hne t (by rw [hpd, hd'])).1 ht with ⟨h3, _⟩ | ⟨_, h3⟩
    · exact k.notAF h3 (k.memF he')
    · exact hl (dn.listed hli h3)
end Wk

theorem wanted_of {a : Act} {e : Env} {o : Oper} {b : Bool} (hg : gOk ops o e = some b) (hr : ∀ t ∈ reads ops o, ∀ v, lk t e = some v → a.tmps[t]? = some v) : Region.wanted o (yielded ops.toArray a.tmps) = b := by
  unfold gOk at hg
  unfold Region.wanted
  cases hgd : o.guard with
  | none => simp only [hgd] at hg ⊢; simpa using hg
  | some p =>
    obtain ⟨j, w⟩ := p
    simp only [hgd] at hg ⊢
    cases hj : (ops[j]?).bind (·.dst) with
    | none => simp only [hj] at hg; cases hg
    | some t =>
      simp only [hj] at hg
      have ht : t ∈ reads ops o := by unfold reads; simp only [hgd, hj]; simp
      cases hv : lk t e with
      | none => simp only [hv] at hg; cases hg
      | some v =>
        simp only [hv] at hg
        cases v with
        | bool b' =>
          simp only [Option.some.injEq] at hg
          have := hr t ht _ hv
          simp only [yielded, List.getElem?_toArray, hj, Option.bind_some, this]
          subst hg
          cases b' <;> cases w <;> rfl
        | tuple q =>
          simp only [Option.some.injEq] at hg
          have := hr t ht _ hv
          simp only [yielded, List.getElem?_toArray, hj, Option.bind_some, this]
          subst hg
          rfl
        | _ => simp at hg

theorem eon_of {a : Act} {e : Env} {o : Oper} (hr : ∀ t ∈ reads ops o, ∀ v, lk t e = some v → a.tmps[t]? = some v) : EOn o.op.operands a e :=
  fun t ht v hv => hr t (by unfold reads; rw [List.mem_append]; exact .inl (mem_opT.2 ht)) v hv

theorem Li_set {listed : Array Bool} {i j : Nat} (hi : i < listed.size) : Li (listed.setIfInBounds i true) j ↔ j = i ∨ Li listed j := getD_set hi

namespace Wk
variable (k : Wk c D ops K A F T late l0 l h es fes)
include k

theorem regsA {listed : Array Bool} {a : Act} {B : Nat → Nat} (rg : Regs c D ops T l0 es fes listed a B) {e : AE} (he : e ∈ es) (hi : e.i < listed.size) (hd : Nat.blt e.d c.N = true) : Regs c D ops T l0 es fes (listed.setIfInBounds e.i true) (a.put (some e.d) e.v) B := by
  have hd' : e.d < a.tmps.size := by rw [rg.size]; simpa using hd
  refine ⟨by simp [Act.put, rg.size], rg.dfr, fun t v hT hv => ?_⟩
  have hT' : ∀ i ∈ T, Li listed i → ∀ o, ops[i]? = some o → o.dst ≠ some t := fun i x y => hT i x ((Li_set hi).2 (.inr y))
  by_cases htd : e.d = t
  · subst htd
    have : v = e.v := by
      rcases hv with ⟨e', he', _, h2, h3⟩ | ⟨e', he', _, h2, _⟩ | ⟨h1, _, _⟩
      · rw [← h3, k.dA he' he h2]
      · exact (k.dAF he he' h2.symm).elim
      · exact absurd rfl (h1 e he ((Li_set hi).2 (.inl rfl)))
    subst this
    simp [Act.put, Array.getElem?_setIfInBounds, hd']
  · have : Vl l0 es fes listed B t v := by
      rcases hv with ⟨e', he', h1, h2, h3⟩ | ⟨e', he', h1, h2, h3⟩ | ⟨h1, h2, h3⟩
      · rcases (Li_set hi).1 h1 with h4 | h4
        · have := k.eqA he' he h4; subst this; exact absurd h2 htd
        · exact .inl ⟨e', he', h4, h2, h3⟩
      · rcases (Li_set hi).1 h1 with h4 | h4
        · exact (k.notAF (k.memA he) (h4 ▸ k.memF he')).elim
        · exact .inr (.inl ⟨e', he', h4, h2, h3⟩)
      · exact .inr (.inr ⟨fun x y z => h1 x y ((Li_set hi).2 (.inr z)), fun x y z => h2 x y ((Li_set hi).2 (.inr z)), h3⟩)
    have := rg.get t v hT' this
    simp [Act.put, Array.getElem?_setIfInBounds, htd, this]

theorem regsF {listed : Array Bool} {a : Act} {B : Nat → Nat} (rg : Regs c D ops T l0 es fes listed a B) {e : FE} (he : e ∈ fes) (hi : e.i < listed.size) (hl : ¬ Li listed e.i) (hd : Nat.blt e.d c.N = true) (b : Nat) :
    Regs c D ops T l0 es fes (listed.setIfInBounds e.i true) (a.put (some e.d) (e.vf b)) (fun j => if j = e.i then b else B j) := by
  have hd' : e.d < a.tmps.size := by rw [rg.size]; simpa using hd
  refine ⟨by simp [Act.put, rg.size], rg.dfr, fun t v hT hv => ?_⟩
  have hT' : ∀ i ∈ T, Li listed i → ∀ o, ops[i]? = some o → o.dst ≠ some t := fun i x y => hT i x ((Li_set hi).2 (.inr y))
  by_cases htd : e.d = t
  · subst htd
    have : v = e.vf b := by
      rcases hv with ⟨e', he', _, h2, h3⟩ | ⟨e', he', _, h2, h3⟩ | ⟨_, h1, _⟩
      · exact (k.dAF he' he h2).elim
      · have := k.dF he' he h2; subst this; rw [← h3]; simp
      · exact absurd rfl (h1 e he ((Li_set hi).2 (.inl rfl)))
    subst this
    simp [Act.put, Array.getElem?_setIfInBounds, hd']
  · have : Vl l0 es fes listed B t v := by
      rcases hv with ⟨e', he', h1, h2, h3⟩ | ⟨e', he', h1, h2, h3⟩ | ⟨h1, h2, h3⟩
      · rcases (Li_set hi).1 h1 with h4 | h4
        · exact (k.notAF (k.memA he') (h4 ▸ k.memF he)).elim
        · exact .inl ⟨e', he', h4, h2, h3⟩
      · rcases (Li_set hi).1 h1 with h4 | h4
        · have := k.eqF he' he h4; subst this; exact absurd h2 htd
        · refine .inr (.inl ⟨e', he', h4, h2, ?_⟩)
          have : e'.i ≠ e.i := fun x => hl (x ▸ h4)
          simpa [this] using h3
      · exact .inr (.inr ⟨fun x y z => h1 x y ((Li_set hi).2 (.inr z)), fun x y z => h2 x y ((Li_set hi).2 (.inr z)), h3⟩)
    have := rg.get t v hT' this
    simp [Act.put, Array.getElem?_setIfInBounds, htd, this]
end Wk

/-- The items of the blocks that were made. -/
def Its (fes : List FE) (listed : Array Bool) (B : Nat → Nat) : List Own := (fes.filter fun e => listed.getD e.i false).map fun e => [(B e.i, e.ob)]

theorem Its_congr {fes : List FE} {listed listed' : Array Bool} {B B' : Nat → Nat} (h1 : ∀ e ∈ fes, listed'.getD e.i false = listed.getD e.i false) (h2 : ∀ e ∈ fes, listed.getD e.i false = true → B' e.i = B e.i) : Its fes listed' B' = Its fes listed B := by
  unfold Its
  rw [List.filter_congr (fun e he => h1 e he)]
  apply List.map_congr_left
  intro e he
  rw [List.mem_filter] at he
  rw [h2 e he.1 he.2]

theorem Its_set {fes : List FE} {listed : Array Bool} {B : Nat → Nat} {e : FE} (nd : (fes.map (·.i)).Nodup) (he : e ∈ fes) (hi : e.i < listed.size) (hl : listed.getD e.i false = false) (b : Nat) :
    (([(b, e.ob)] : Own) :: Its fes listed B).flatten.Perm (Its fes (listed.setIfInBounds e.i true) (fun j => if j = e.i then b else B j)).flatten := by
  induction fes with
  | nil => cases he
  | cons x fes ih =>
    rw [List.map_cons, List.nodup_cons] at nd
    rcases List.mem_cons.1 he with rfl | he
    · have h1 : Its fes (listed.setIfInBounds e.i true) (fun j => if j = e.i then b else B j) = Its fes listed B := by
        refine Its_congr (fun y hy => ?_) (fun y hy _ => ?_)
        · have : y.i ≠ e.i := fun q => nd.1 (List.mem_map.2 ⟨y, hy, q⟩)
          rw [getD_set_ne false (Ne.symm this)]
        · have : y.i ≠ e.i := fun q => nd.1 (List.mem_map.2 ⟨y, hy, q⟩)
          simp [this]
      have h2 : (listed.setIfInBounds e.i true).getD e.i false = true := (getD_set hi).2 (.inl rfl)
      simp only [Its, List.filter_cons, hl, h2, if_true, Bool.false_eq_true, if_false, List.map_cons] at h1 ⊢
      rw [h1]
    · have hne : x.i ≠ e.i := fun q => nd.1 (List.mem_map.2 ⟨e, he, q.symm⟩)
      have ih' := ih nd.2 he
      have h2 : (listed.setIfInBounds e.i true).getD x.i false = listed.getD x.i false := getD_set_ne false (Ne.symm hne)
      simp only [Its, List.filter_cons, h2] at ih' ⊢
      split
      · simp only [List.map_cons, List.flatten_cons, hne, if_false] at ih' ⊢
        refine List.Perm.trans ?_ (List.Perm.append_left _ ih')
        rw [← List.append_assoc, ← List.append_assoc]
        exact List.Perm.append_right _ List.perm_append_comm
      · exact ih'

theorem Its_all {fes : List FE} {listed : Array Bool} {B : Nat → Nat} (hall : ∀ e ∈ fes, listed.getD e.i false = true) (h : List Own) :
    (Its fes listed B ++ h).flatten.Perm (fes.foldl (fun h e => [(B e.i, e.ob)] :: h) h).flatten := by
  induction fes generalizing h with
  | nil => simp [Its]
  | cons x fes ih =>
    have ih' := ih (fun e he => hall e (by simp [he])) ([(B x.i, x.ob)] :: h)
    refine List.Perm.trans ?_ ih'
    have hx := hall x (by simp)
    simp only [Its, List.filter_cons, hx, if_true, List.map_cons, List.cons_append]
    exact (fl_rot _ _ _).symm

theorem TT_get {D : List Deferred} {opsA : Array Oper} {Ts : List Oper} : ∀ (fes : List FE) (l : Env) (h : List Own), TT c D opsA K Ts fes l h → ∀ B : Nat → Nat,
    GL c D opsA K Ts (fes.foldl (fun l e => (e.d, e.vf (B e.i)) :: l) l) (fes.foldl (fun h e => [(B e.i, e.ob)] :: h) h) := by
  intro fes
  induction fes with
  | nil => intro l h t _; exact t
  | cons e fes ih => intro l h t B; exact ih _ _ (t (B e.i)) B

theorem lk_fold {B : Nat → Nat} {t : Nat} {u : Value} : ∀ (fes : List FE) (l : Env), lk t (fes.foldl (fun l e => (e.d, e.vf (B e.i)) :: l) l) = some u → (∃ e ∈ fes, e.d = t ∧ e.vf (B e.i) = u) ∨ ((∀ e ∈ fes, e.d ≠ t) ∧ lk t l = some u) := by
  intro fes
  induction fes with
  | nil => intro l h; exact .inr ⟨by simp, h⟩
  | cons x fes ih =>
    intro l h
    rcases ih _ h with ⟨e, he, h1⟩ | ⟨h1, h2⟩
    · exact .inl ⟨e, by simp [he], h1⟩
    · rcases lk_cons.1 h2 with ⟨h3, h4⟩ | ⟨h3, h4⟩
      · exact .inl ⟨x, by simp, h3, h4⟩
      · refine .inr ⟨fun e he => ?_, h4⟩
        rcases List.mem_cons.1 he with rfl | he
        · exact h3
        · exact h1 e he

/-- a with the slots of those of A that are yet to come. -/
structure Star (es : List AE) (listed : Array Bool) (a x : Act) : Prop where
  size : x.tmps.size = a.tmps.size
  dfr : x.defers = a.defers
  get : ∀ t, t < a.tmps.size → (∃ e ∈ es, ¬ Li listed e.i ∧ e.d = t ∧ x.tmps[t]? = some e.v) ∨ ((∀ e ∈ es, ¬ Li listed e.i → e.d ≠ t) ∧ x.tmps[t]? = a.tmps[t]?)

theorem Star.ex (es : List AE) (listed : Array Bool) (a : Act) : ∃ x, Star es listed a x := by
  induction es with
  | nil => exact ⟨a, rfl, rfl, fun t _ => .inr ⟨by simp, rfl⟩⟩
  | cons e es ih =>
    obtain ⟨x, h1, h2, h3⟩ := ih
    by_cases hl : Li listed e.i
    · refine ⟨x, h1, h2, fun t ht => ?_⟩
      rcases h3 t ht with ⟨e', he', y⟩ | ⟨h4, h5⟩
      · exact .inl ⟨e', by simp [he'], y⟩
      · refine .inr ⟨fun e' he' hn => ?_, h5⟩
        rcases List.mem_cons.1 he' with rfl | he'
        · exact absurd hl hn
        · exact h4 e' he' hn
    · refine ⟨x.put (some e.d) e.v, by simp [Act.put, h1], h2, fun t ht => ?_⟩
      by_cases htd : e.d = t
      · subst htd
        exact .inl ⟨e, by simp, hl, rfl, by simp [Act.put, Array.getElem?_setIfInBounds, h1, ht]⟩
      · have e1 : (x.put (some e.d) e.v).tmps[t]? = x.tmps[t]? := by simp [Act.put, Array.getElem?_setIfInBounds, htd]
        rw [e1]
        rcases h3 t ht with ⟨e', he', y⟩ | ⟨h4, h5⟩
        · exact .inl ⟨e', by simp [he'], y⟩
        · refine .inr ⟨fun e' he' hn => ?_, h5⟩
          rcases List.mem_cons.1 he' with rfl | he'
          · exact htd
          · exact h4 e' he' hn

theorem Act.ext' {a b : Act} (h1 : a.tmps.size = b.tmps.size) (h2 : a.defers = b.defers) (h3 : ∀ t : Nat, t < a.tmps.size → a.tmps[t]? = b.tmps[t]?) : a = b := by
  cases a; cases b
  simp only at h1 h2 h3
  subst h2
  congr 1
  apply Array.ext_getElem?
  rename_i ta _ tb
  intro i
  by_cases hi : i < ta.size
  · exact h3 i hi
  · rw [Array.getElem?_eq_none (by omega), Array.getElem?_eq_none (by omega)]

/-- Phase two: the operations of T, the late ones of A between them. -/
structure InvT (c : Cx) (D : List Deferred) (ops : List Oper) (K : Act → World → Prop) (T late : List Nat) (l0 : Env) (es : List AE) (fes : List FE) (q : Nat) (listed : Array Bool) (a : Act) (w : World) : Prop where
  size : listed.size = ops.length
  dn : Dn ops listed
  t : ∀ p i, T[p]? = some i → (Li listed i ↔ p < q)
  f : ∀ e ∈ fes, Li listed e.i
  late : ∀ e ∈ es, ¬ Li listed e.i → isT late e.i = true
  regs : ∃ B, Regs c D ops T l0 es fes listed a B
  wl : ∀ x, Star es listed a x → wpL c ops.toArray K ((T.filterMap (ops[·]?)).drop q) x w

/-- Phase one. -/
structure InvA (c : Cx) (D : List Deferred) (ops : List Oper) (T : List Nat) (l0 : Env) (h : List Own) (es : List AE) (fes : List FE) (listed : Array Bool) (a : Act) (w : World) : Prop where
  size : listed.size = ops.length
  dn : Dn ops listed
  t : ∀ i ∈ T, ¬ Li listed i
  regs : ∃ B, Regs c D ops T l0 es fes listed a B ∧ HS c (Its fes listed B ++ h) w

theorem all_listed (ok : Ok ops A F T late) {listed : Array Bool} (hs : listed.size = ops.length) (hr : Region.ready .any ops.toArray listed = []) : ∀ j, j < ops.length → Li listed j := by
  intro j
  induction j using Nat.strongRecOn with
  | _ j ih =>
    intro hj
    by_cases hl : Li listed j
    · exact hl
    · exfalso
      have ho : ops[j]? = some ops[j] := List.getElem?_eq_getElem hj
      have : j ∈ Region.ready .any ops.toArray listed := by
        rw [ready_iff hs]
        exact ⟨by simpa [Li] using hl, _, ho, fun e he => ih e (ok.dir _ _ ho e he) (Nat.lt_trans (ok.dir _ _ ho e he) hj)⟩
      rw [hr] at this
      cases this


theorem Ts_get (ok : Ok ops A F T late) {q i : Nat} {o : Oper} (hi : T[q]? = some i) (ho : ops[i]? = some o) : (T.filterMap (ops[·]?)).drop q = o :: (T.filterMap (ops[·]?)).drop (q + 1) := by
  have hlt : ∀ i ∈ T, ∃ o, ops[i]? = some o := fun i hi => ⟨_, List.getElem?_eq_getElem (ok.lt i (by simp [hi]))⟩
  clear ok
  induction T generalizing q with
  | nil => simp at hi
  | cons x T ih =>
    obtain ⟨ox, hox⟩ := hlt x (by simp)
    cases q with
    | zero =>
      simp only [List.getElem?_cons_zero, Option.some.injEq] at hi
      subst hi
      rw [ho] at hox; cases hox
      simp [List.filterMap_cons, ho]
    | succ q =>
      have := ih (q := q) (by simpa using hi) (fun i hi => hlt i (by simp [hi]))
      simpa [List.filterMap_cons, hox] using this
theorem Ts_end {q : Nat} (ok : Ok ops A F T late) (hq : T.length ≤ q) : (T.filterMap (ops[·]?)).drop q = [] := by
  apply List.drop_eq_nil_of_le
  exact Nat.le_trans (List.length_filterMap_le _ _) hq

theorem uponIn_star {Fe : Fence} {n : Nat} {P : Program} {o : Oper} {x a : Act} {nx na : Act → World → Prop} (hk : ∀ v w', nx (x.put o.dst v) w' → na (a.put o.dst v) w') {r : Result Next} (hr : ∀ d w', r ≠ .ok (.defer d) w')
    (h : o.uponIn Fe n P x nx (fun _ _ _ => False) r) : o.uponIn Fe n P a na (fun _ _ _ => False) r := by
  cases r with
  | ok y w' =>
    cases y <;> simp only [Oper.uponIn] at h ⊢ <;>
      first
        | exact hk _ _ h
        | exact absurd rfl (hr _ _)
        | exact ⟨h.1, CallsIn.mono h.2 (fun e w'' he => by cases e <;> first | exact hk _ _ he | exact he | exact (let ⟨_, _, y⟩ := he; y.elim))⟩
        | exact ⟨h.1, RowsIn.mono h.2 (fun _ _ he => hk _ _ he)⟩
        | exact ⟨h.1, RoundIn.mono h.2 (fun e w'' he => by cases e <;> first | exact hk _ _ he | exact he | exact (let ⟨_, _, y⟩ := he; y.elim))⟩
  | halt y w' => cases y <;> simp only [Oper.uponIn] at h ⊢

namespace Wk
variable (k : Wk c D ops K A F T late l0 l h es fes)
include k

/-- From the first phase to the second. -/
theorem toT {listed : Array Bool} {a : Act} {w : World} (I : InvA c D ops T l0 h es fes listed a w) (hf : ∀ e ∈ fes, Li listed e.i) (hl : ∀ e ∈ es, ¬ Li listed e.i → isT late e.i = true) : InvT c D ops K T late l0 es fes 0 listed a w := by
  obtain ⟨B, rg, hs⟩ := I.regs
  refine ⟨I.size, I.dn, fun p i hp => ⟨fun x => absurd x (I.t i (List.mem_of_getElem? hp)), fun x => by omega⟩, hf, hl, ⟨B, rg⟩, fun x st => ?_⟩
  have g := TT_get fes l h k.tt B
  refine g x w ⟨by rw [st.size, rg.size], by rw [st.dfr, rg.dfr], fun t v hv => ?_⟩ (hs.perm (Its_all hf h))
  have noT : ∀ i ∈ T, Li listed i → ∀ o, ops[i]? = some o → o.dst ≠ some t := fun i hi x => absurd x (I.t i hi)
  have base : (∀ e ∈ es, ¬ Li listed e.i → e.d ≠ t) → Vl l0 es fes listed B t v → x.tmps[t]? = some v := by
    intro h1 h2
    have h3 := rg.get t v noT h2
    have ht : t < a.tmps.size := (Array.getElem?_eq_some_iff.1 h3).1
    rcases st.get t ht with ⟨e, he, h4, h5, _⟩ | ⟨_, h4⟩
    · exact absurd h5 (h1 e he h4)
    · rw [h4, h3]
  rcases lk_fold fes l hv with ⟨e, he, h1, h2⟩ | ⟨h1, h2⟩
  · exact base (fun e' he' _ hd => k.dAF he' he (by rw [hd, h1])) (.inr (.inl ⟨e, he, hf e he, h1, h2⟩))
  · rcases k.da.lk h2 with ⟨e, he, h3, h4⟩ | ⟨h3, h4⟩
    · by_cases hle : Li listed e.i
      · exact base (fun e' he' hn hd => by have := k.dA he' he (by rw [hd, h3]); subst this; exact hn hle) (.inl ⟨e, he, hle, h3, h4⟩)
      · have hlt : t < a.tmps.size := by
          obtain ⟨⟨o, _, _, hb, _⟩, _⟩ := k.da.mem he
          rw [rg.size, ← h3]; simpa using hb
        rcases st.get t hlt with ⟨e', he', h5, h6, h7⟩ | ⟨h5, _⟩
        · have := k.dA he' he (by rw [h6, h3]); subst this; rw [h7, h4]
        · exact absurd h3 (h5 e he hle)
    · exact base (fun e he _ => h3 e he) (.inr (.inr ⟨fun e he _ => h3 e he, fun e he _ => h1 e he, h4⟩))

/-- A step of A, run at whatever state fits. -/
theorem stepA {listed : Array Bool} {a : Act} {w : World} {B : Nat → Nat} (dn : Dn ops listed) (rg : Regs c D ops T l0 es fes listed a B) {e : AE} (he : e ∈ es) (hl : ¬ Li listed e.i) {o : Oper} (ho : ops[e.i]? = some o)
    (hr : ∀ x ∈ dirE o, listed.getD x false = true) (next : Act → World → Prop)
    (hv : ((∃ hx, HS c (h ++ hx) w ∧ ∀ w', HS c (h ++ hx) w' → next (a.put (some e.d) e.v) w') ∨ (isT late e.i = true ∧ next (a.put (some e.d) e.v) w)))
    (hskip : next (a.put (some e.d) e.v) w) :
    wpOpIn (wd c.r) 0 c.P ops.toArray (Qk K) e.i next a w := by
  obtain ⟨⟨o', ho', hdst, hb, hrun⟩, -⟩ := k.da.mem he
  rw [ho] at ho'; cases ho'
  have rd : ∀ t ∈ reads ops o, ∀ v, lk t e.l = some v → a.tmps[t]? = some v := fun t ht v hv => k.rdA dn rg he ho hl hr ht hv
  unfold wpOpIn
  simp only [List.getElem?_toArray, ho]
  rcases hrun with ⟨hg, hV, hR⟩ | ⟨hg, hu⟩
  · rw [wanted_of hg rd]
    simp only [if_true]
    refine ⟨about_wd, ?_⟩
    refine uponIn_mono (K := next) (Q := fun _ _ _ => False) ?_ (fun _ _ x => x) (fun _ _ _ x => x.elim)
    rcases hv with ⟨hx, hs, hn⟩ | ⟨hlt, hn⟩
    · have := hV hx a w (eon_of rd) hs next (fun w' hw' => by rw [hdst]; exact hn w' hw')
      exact this.2
    · obtain ⟨hnd, hrun⟩ := hR hlt
      show Oper.uponIn _ _ _ _ _ _ _ ((o.semAt c.r a.eval).run c.P w)
      rw [Oper.semAt_eq _ _ _ hnd, hrun a w (eon_of rd)]
      show next (a.put o.dst e.v) w
      rw [hdst]; exact hn
  · rw [wanted_of hg rd]
    simp only [Bool.false_eq_true, if_false]
    refine ⟨about_wd, ?_⟩
    rw [hdst, ← hu]; exact hskip

/-- The second phase goes through. -/
theorem soundT : ∀ (fuel q : Nat) (listed : Array Bool) (a : Act) (w : World), InvT c D ops K T late l0 es fes q listed a w → un ops.length listed = fuel → wpAnyIn (wd c.r) 0 c.P .any ops.toArray (Qk K) fuel listed a w := by
  have fin : ∀ (q : Nat) (listed : Array Bool) (a : Act) (w : World), InvT c D ops K T late l0 es fes q listed a w → (∀ j, j < ops.length → Li listed j) → K a w := by
    intro q listed a w I hall
    have hq : T.length ≤ q := by
      refine Nat.le_of_not_lt fun hlt => ?_
      have h1 := List.getElem?_eq_getElem hlt
      have := (I.t q _ h1).1 (hall _ (k.ok.lt _ (by simp)))
      omega
    have := I.wl a ⟨rfl, rfl, fun t _ => .inr ⟨fun e he hn => absurd (hall _ (k.ok.lt _ (by simp [k.memA he]))) hn, rfl⟩⟩
    rw [Ts_end k.ok hq] at this
    exact this
  intro fuel
  induction fuel with
  | zero =>
    intro q listed a w I hu
    have hall : ∀ j, j < ops.length → Li listed j := fun j hj => un_zero hu j hj
    refine ⟨?_, fin q listed a w I hall⟩
    rw [List.eq_nil_iff_forall_not_mem]
    intro i hi
    obtain ⟨h1, o, ho, _⟩ := (ready_iff I.size).1 hi
    have := hall i (List.getElem?_eq_some_iff.1 ho).1
    rw [Li, h1] at this; cases this
  | succ fuel ih =>
    intro q listed a w I hu
    refine ⟨fun hr => fin q listed a w I (all_listed k.ok I.size hr), fun i hi => ?_⟩
    obtain ⟨hl0, o, ho, hr⟩ := (ready_iff I.size).1 hi
    have hil : i < ops.length := (List.getElem?_eq_some_iff.1 ho).1
    have his : i < listed.size := by rw [I.size]; exact hil
    have hl : ¬ Li listed i := by rw [Li, hl0]; simp
    have hu' : un ops.length (listed.setIfInBounds i true) = fuel := by have := un_set I.size hil hl0; omega
    have dn' := I.dn.set his ho hr
    obtain ⟨B, rg⟩ := I.regs
    have hm := k.ok.all i hil
    simp only [List.mem_append] at hm
    rcases hm with (hA | hF) | hT
    · obtain ⟨e, he, rfl⟩ := k.ofA hA
      obtain ⟨⟨o', ho', hdst, hb, _⟩, _⟩ := k.da.mem he
      have I' : InvT c D ops K T late l0 es fes q (listed.setIfInBounds e.i true) (a.put (some e.d) e.v) w := by
        refine ⟨by simp [I.size], dn', fun p i hp => ?_, fun e' he' => (Li_set his).2 (.inr (I.f e' he')), fun e' he' hn => I.late e' he' fun x => hn ((Li_set his).2 (.inr x)), ⟨B, k.regsA rg he his hb⟩, fun x st => ?_⟩
        · rw [Li_set his]
          have : i ≠ e.i := fun y => k.notAT (k.memA he) (y ▸ List.mem_of_getElem? hp)
          rw [← I.t p i hp]; simp [this]
        · refine I.wl x ⟨by rw [st.size]; simp [Act.put], st.dfr, fun t ht => ?_⟩
          by_cases htd : e.d = t
          · subst htd
            refine .inl ⟨e, he, hl, rfl, ?_⟩
            rcases st.get e.d (by simpa [Act.put] using ht) with ⟨e', he', h1, h2, _⟩ | ⟨_, h1⟩
            · have := k.dA he' he h2; subst this; exact absurd ((Li_set his).2 (.inl rfl)) h1
            · rw [h1]; simp [Act.put, Array.getElem?_setIfInBounds, ht]
          · have e1 : (a.put (some e.d) e.v).tmps[t]? = a.tmps[t]? := by simp [Act.put, Array.getElem?_setIfInBounds, htd]
            rcases st.get t (by simpa [Act.put] using ht) with ⟨e', he', h1, h2, h3⟩ | ⟨h1, h2⟩
            · exact .inl ⟨e', he', fun y => h1 ((Li_set his).2 (.inr y)), h2, h3⟩
            · refine .inr ⟨fun e' he' hn hd => ?_, by rw [h2, e1]⟩
              by_cases hee : e'.i = e.i
              · have := k.eqA he' he hee; subst this; exact htd hd
              · exact h1 e' he' (fun y => by rcases (Li_set his).1 y with y | y; exact hee y; exact hn y) hd
      have nx := ih q _ _ _ I' hu'
      exact k.stepA I.dn rg he hl ho hr _ (.inr ⟨I.late e he hl, nx⟩) nx
    · obtain ⟨e, he, rfl⟩ := k.ofF hF
      exact absurd (I.f e he) hl
    · obtain ⟨p, hp⟩ := List.mem_iff_getElem?.1 hT
      -- the next one of T
      have hpq : p = q := by
        have h1 : ¬ p < q := fun x => hl ((I.t p i hp).2 x)
        refine Nat.le_antisymm (Nat.le_of_not_lt fun h2 => ?_) (by omega)
        obtain ⟨p', rfl⟩ : ∃ p', p = p' + 1 := ⟨p - 1, by omega⟩
        have hlt : p' < T.length := by have := (List.getElem?_eq_some_iff.1 hp).1; omega
        have h3 := k.ok.chain p' _ i (List.getElem?_eq_getElem hlt) hp
        have h4 : Li listed T[p'] := I.dn.reach ho hr h3
        have := (I.t p' _ (List.getElem?_eq_getElem hlt)).1 h4
        omega
      subst hpq
      obtain ⟨hTf, hTa⟩ := k.ok.t i hT o ho
      obtain ⟨x, st⟩ := Star.ex es listed a
      have W := I.wl x st
      rw [Ts_get k.ok hp ho] at W
      -- what it looks at is not yet to come
      have same : ∀ t, t ∈ reads ops o → x.tmps[t]? = a.tmps[t]? := by
        intro t ht
        by_cases hta : t < a.tmps.size
        · rcases st.get t hta with ⟨e, he, h1, h2, _⟩ | ⟨_, h1⟩
          · obtain ⟨p', hp', hpd⟩ := k.opA he
            rcases hTa e.i (k.memA he) with h3 | ⟨_, h3⟩
            · exact absurd (I.dn.reach ho hr h3) h1
            · exact absurd ht (h2 ▸ (h3 p' e.d hp' hpd).1)
          · exact h1
        · rw [Array.getElem?_eq_none (by rw [st.size]; omega), Array.getElem?_eq_none (by omega)]
      have noD : ∀ e ∈ es, ¬ Li listed e.i → o.dst ≠ some e.d := by
        intro e he h1
        obtain ⟨p', hp', hpd⟩ := k.opA he
        rcases hTa e.i (k.memA he) with h3 | ⟨_, h3⟩
        · exact absurd (I.dn.reach ho hr h3) h1
        · exact (h3 p' e.d hp' hpd).2
      have hsame : ∀ y ∈ o.op.operands, x.eval y = a.eval y := by
        intro y hy
        cases y with
        | tmp t =>
          have := same t (by unfold reads; rw [List.mem_append]; exact .inl (mem_opT.2 hy))
          simp only [Act.eval]
          rw [Array.getD_eq_getD_getElem?, Array.getD_eq_getD_getElem?, this]
        | _ => rfl
      have hw : Region.wanted o (yielded ops.toArray x.tmps) = Region.wanted o (yielded ops.toArray a.tmps) := by
        unfold Region.wanted
        cases hgd : o.guard with
        | none => rfl
        | some pr =>
          obtain ⟨j, b⟩ := pr
          simp only [yielded, List.getElem?_toArray]
          cases hj : (ops[j]?).bind (·.dst) with
          | none => rfl
          | some t =>
            have := same t (by unfold reads; simp only [hgd, hj]; simp)
            simp only [Option.bind_some, this]
      have hpl := k.ok.plain o (List.mem_of_getElem? ho)
      have hnd : ∀ cl, o.op ≠ .defer cl := fun cl hh => by simp [plainOp, hh] at hpl
      have hns : ∀ cs b, o.op ≠ .select cs b := fun cs b hh => by simp [plainOp, hh] at hpl
      -- the step
      have nxt : ∀ v w', wpL c ops.toArray K ((T.filterMap (ops[·]?)).drop (p + 1)) (x.put o.dst v) w' → wpAnyIn (wd c.r) 0 c.P .any ops.toArray (Qk K) fuel (listed.setIfInBounds i true) (a.put o.dst v) w' := by
        intro v w' hW
        refine ih (p + 1) _ _ _ ⟨by simp [I.size], dn', fun p' i' hp' => ?_, fun e he => (Li_set his).2 (.inr (I.f e he)), fun e he hn => I.late e he fun y => hn ((Li_set his).2 (.inr y)), ⟨B, ?_⟩, fun y sy => ?_⟩ hu'
        · rw [Li_set his, I.t p' i' hp']
          constructor
          · rintro (rfl | h1)
            · have := (List.getElem?_inj (List.getElem?_eq_some_iff.1 hp').1 k.ndT).1 (hp'.trans hp.symm)
              omega
            · omega
          · intro h1
            by_cases h2 : p' = p
            · subst h2; rw [hp] at hp'; cases hp'; exact .inl rfl
            · exact .inr (by omega)
        · refine ⟨by cases hd : o.dst <;> simp [Act.put, rg.size], by cases hd : o.dst <;> exact rg.dfr, fun t u hTn hv => ?_⟩
          have h1 : o.dst ≠ some t := hTn i hT ((Li_set his).2 (.inl rfl)) o ho
          have hv' : Vl l0 es fes listed B t u := by
            rcases hv with ⟨e', he', h2, h3⟩ | ⟨e', he', h2, h3⟩ | ⟨h2, h3, h4⟩
            · rcases (Li_set his).1 h2 with h4 | h4
              · exact (k.notAT (k.memA he') (h4 ▸ hT)).elim
              · exact .inl ⟨e', he', h4, h3⟩
            · rcases (Li_set his).1 h2 with h4 | h4
              · exact (k.notFT (k.memF he') (h4 ▸ hT)).elim
              · exact .inr (.inl ⟨e', he', h4, h3⟩)
            · exact .inr (.inr ⟨fun y z q => h2 y z ((Li_set his).2 (.inr q)), fun y z q => h3 y z ((Li_set his).2 (.inr q)), h4⟩)
          have := rg.get t u (fun i' hi' hli => hTn i' hi' ((Li_set his).2 (.inr hli))) hv'
          cases hd : o.dst with
          | none => simpa [Act.put] using this
          | some d =>
            have : d ≠ t := fun hh => h1 (by rw [hd, hh])
            simp [Act.put, Array.getElem?_setIfInBounds, this, ‹a.tmps[t]? = some u›]
        · have : y = x.put o.dst v := by
            refine Act.ext' ?_ ?_ fun t ht => ?_
            · rw [sy.size]; cases hd : o.dst <;> simp [Act.put, st.size]
            · rw [sy.dfr]; cases hd : o.dst <;> simp [Act.put, st.dfr]
            · have hta : t < a.tmps.size := by
                have h0 := ht
                rw [sy.size] at h0
                cases hd : o.dst <;> simp [Act.put, hd] at h0 <;> exact h0
              have pend : ∀ e ∈ es, (¬ Li (listed.setIfInBounds i true) e.i ↔ ¬ Li listed e.i) := by
                intro e he
                rw [Li_set his]
                have : e.i ≠ i := fun hh => k.notAT (k.memA he) (hh ▸ hT)
                simp [this]
              rcases sy.get t (by cases hd : o.dst <;> simp [Act.put, hta]) with ⟨e, he, h1, h2, h3⟩ | ⟨h1, h2⟩
              · have h1' := (pend e he).1 h1
                rcases st.get t hta with ⟨e', he', h4, h5, h6⟩ | ⟨h4, _⟩
                · have := k.dA he' he (by rw [h5, h2]); subst this
                  have hne := noD e' he' h4
                  cases hd : o.dst with
                  | none => rw [h3]; simp [Act.put, h6]
                  | some d =>
                    have : d ≠ t := fun hh => hne (by rw [hd, hh, h5])
                    rw [h3]; simp [Act.put, Array.getElem?_setIfInBounds, this, h6]
                · exact absurd h2 (h4 e he h1')
              · have h1' : ∀ e ∈ es, ¬ Li listed e.i → e.d ≠ t := fun e he hn => h1 e he ((pend e he).2 hn)
                rcases st.get t hta with ⟨e', he', h4, h5, _⟩ | ⟨_, h4⟩
                · exact absurd h5 (h1' e' he' h4)
                · rw [h2]
                  cases hd : o.dst with
                  | none => simp [Act.put, h4]
                  | some d =>
                    by_cases hdt : d = t
                    · subst hdt; simp [Act.put, Array.getElem?_setIfInBounds, st.size, hta]
                    · simp [Act.put, Array.getElem?_setIfInBounds, hdt, h4]
          rw [this]; exact hW
      unfold wpOpIn
      simp only [List.getElem?_toArray, ho]
      simp only [wpL, hw] at W
      split
      · rename_i hwt
        rw [if_pos hwt] at W
        refine ⟨about_wd, ?_⟩
        unfold opW at W
        have hsem : o.semAt c.r x.eval = o.semAt c.r a.eval := by
          rw [Oper.semAt_eq _ _ _ hnd, Oper.semAt_eq _ _ _ hnd]
          exact execOp_congr o hns hsame
        rw [hsem] at W
        exact uponIn_mono (uponIn_star nxt W.1 W.2) (fun _ _ y => y) (fun _ _ _ y => y.elim)
      · rename_i hwt
        rw [if_neg hwt] at W
        exact ⟨about_wd, nxt _ _ W⟩

theorem soundA : ∀ (fuel : Nat) (listed : Array Bool) (a : Act) (w : World), InvA c D ops T l0 h es fes listed a w → un ops.length listed = fuel → wpAnyIn (wd c.r) 0 c.P .any ops.toArray (Qk K) fuel listed a w := by
  intro fuel
  induction fuel with
  | zero =>
    intro listed a w I hu
    have hall : ∀ j, j < ops.length → Li listed j := fun j hj => un_zero hu j hj
    exact k.soundT 0 0 listed a w (k.toT I (fun e he => hall _ (k.ok.lt _ (by simp [k.memF he]))) (fun e he hn => absurd (hall _ (k.ok.lt _ (by simp [k.memA he]))) hn)) hu
  | succ fuel ih =>
    intro listed a w I hu
    by_cases hready : Region.ready .any ops.toArray listed = []
    · have hall := all_listed k.ok I.size hready
      exact k.soundT (fuel + 1) 0 listed a w (k.toT I (fun e he => hall _ (k.ok.lt _ (by simp [k.memF he]))) (fun e he hn => absurd (hall _ (k.ok.lt _ (by simp [k.memA he]))) hn)) hu
    by_cases hTr : ∃ i, i ∈ T ∧ i ∈ Region.ready .any ops.toArray listed
    · -- one of T is ready: all of F, all of A but the late ones are listed
      obtain ⟨i, hT, hi⟩ := hTr
      obtain ⟨hl0, o, ho, hr⟩ := (ready_iff I.size).1 hi
      obtain ⟨hTf, hTa⟩ := k.ok.t i hT o ho
      refine k.soundT (fuel + 1) 0 listed a w (k.toT I (fun e he => I.dn.reach ho hr (hTf _ (k.memF he))) fun e he hn => ?_) hu
      rcases hTa _ (k.memA he) with h1 | ⟨h1, _⟩
      · exact absurd (I.dn.reach ho hr h1) hn
      · exact h1
    refine ⟨fun hr => absurd hr hready, fun i hi => ?_⟩
    obtain ⟨hl0, o, ho, hr⟩ := (ready_iff I.size).1 hi
    have hil : i < ops.length := (List.getElem?_eq_some_iff.1 ho).1
    have his : i < listed.size := by rw [I.size]; exact hil
    have hl : ¬ Li listed i := by rw [Li, hl0]; simp
    have hu' : un ops.length (listed.setIfInBounds i true) = fuel := by have := un_set I.size hil hl0; omega
    have dn' := I.dn.set his ho hr
    obtain ⟨B, rg, hs⟩ := I.regs
    have hm := k.ok.all i hil
    simp only [List.mem_append] at hm
    rcases hm with (hA | hF) | hT
    · obtain ⟨e, he, rfl⟩ := k.ofA hA
      obtain ⟨⟨o', ho', hdst, hb, _⟩, _⟩ := k.da.mem he
      have hIts : Its fes (listed.setIfInBounds e.i true) B = Its fes listed B := Its_congr (fun x hx => getD_set_ne false fun y => k.notAF (k.memA he) (y ▸ k.memF hx)) (fun _ _ _ => rfl)
      have nx : ∀ w', HS c (Its fes listed B ++ h) w' → wpAnyIn (wd c.r) 0 c.P .any ops.toArray (Qk K) fuel (listed.setIfInBounds e.i true) (a.put (some e.d) e.v) w' := fun w' hs' =>
        ih _ _ _ ⟨by simp [I.size], dn', fun i hi x => (Li_set his).1 x |>.elim (fun y => k.notAT (k.memA he) (y ▸ hi)) (I.t i hi), B, k.regsA rg he his hb, by rw [hIts]; exact hs'⟩ hu'
      exact k.stepA I.dn rg he hl ho hr _ (.inl ⟨Its fes listed B, hs.perm (by simp only [List.flatten_append]; exact List.perm_append_comm), fun w' hs' => nx w' (hs'.perm (by simp only [List.flatten_append]; exact List.perm_append_comm))⟩) (nx w hs)
    · obtain ⟨e, he, rfl⟩ := k.ofF hF
      obtain ⟨o', ho', hdst, hb, hg, hnd, hrun⟩ := k.ff e he
      rw [ho] at ho'; cases ho'
      have rd : ∀ t ∈ reads ops o, ∀ v, lk t l = some v → a.tmps[t]? = some v := fun t ht v hv => k.rdF I.dn rg he ho hl hr ht hv
      unfold wpOpIn
      simp only [List.getElem?_toArray, ho]
      have hw : Region.wanted o (yielded ops.toArray a.tmps) = true := by unfold Region.wanted; rw [hg]
      rw [hw]
      simp only [if_true]
      refine ⟨about_wd, ?_⟩
      show Oper.uponIn _ _ _ _ _ _ _ ((o.semAt c.r a.eval).run c.P w)
      rw [Oper.semAt_eq _ _ _ hnd, hrun a w (eon_of rd)]
      show wpAnyIn _ _ _ _ _ _ _ _ (a.put o.dst _) _
      rw [hdst]
      refine ih _ _ _ ⟨by simp [I.size], dn', fun i hi x => (Li_set his).1 x |>.elim (fun y => k.notFT (k.memF he) (y ▸ hi)) (I.t i hi), fun j => if j = e.i then w.heap.size else B j, k.regsF rg he his hl hb _, ?_⟩ hu'
      refine (hs.alloc e.ob).perm ?_
      have := Its_set (B := B) k.ndF he his hl0 w.heap.size
      simp only [List.flatten_cons, List.flatten_append] at this ⊢
      rw [← List.append_assoc]
      exact List.Perm.append_right _ this
    · exact absurd ⟨i, hT, hi⟩ hTr

theorem sound : Goal c D ops K l0 h := by
  intro a w e s
  refine k.soundA _ _ a w ⟨by simp, fun j o ho hl => ?_, fun i _ hl => ?_, fun _ => 0, ⟨e.size, e.dfr, fun t v _ hv => ?_⟩, ?_⟩ ?_
  · have hlt : j < ops.length := (List.getElem?_eq_some_iff.1 ho).1
    simp [Array.getElem?_replicate, hlt] at hl
  · unfold Li at hl
    rw [Array.getD_eq_getD_getElem?, Array.getElem?_replicate] at hl
    split at hl <;> simp at hl
  · have hno : ∀ i, ¬ Li (Array.replicate ops.length false) i := fun i hl => by
      unfold Li at hl
      rw [Array.getD_eq_getD_getElem?, Array.getElem?_replicate] at hl
      split at hl <;> simp at hl
    rcases hv with ⟨_, _, h1, _⟩ | ⟨_, _, h1, _⟩ | ⟨_, _, h1⟩
    · exact absurd h1 (hno _)
    · exact absurd h1 (hno _)
    · exact e.get t v h1
  · have : Its fes (Array.replicate ops.length false) (fun _ => 0) = [] := by
      unfold Its
      rw [List.map_eq_nil_iff, List.filter_eq_nil_iff]
      intro x _ hl
      rw [Array.getD_eq_getD_getElem?, Array.getElem?_replicate] at hl
      split at hl <;> simp at hl
    rw [this]; simpa using s
  · unfold un
    have : ((List.range ops.length).filter fun j => !(Array.replicate ops.length false).getD j false) = List.range ops.length := by
      rw [List.filter_eq_self]
      intro j hj
      rw [Array.getD_eq_getD_getElem?, Array.getElem?_replicate]
      split <;> rfl
    rw [this, List.length_range]
end Wk

/-! ### The steps of such a walk -/
/-- The walk of A: ra is what is left of it. -/
def GD (c : Cx) (D : List Deferred) (ops : List Oper) (K : Act → World → Prop) (A F T late : List Nat) (l0 : Env) (ra : List Nat) (l : Env) (h : List Own) : Prop :=
  drawOk ops A F T late = true → ∀ es, DA c ops late l0 h es l → (es.map (·.i)).reverse ++ ra = A → Goal c D ops K l0 h
/-- The walk of F. -/
def GF (c : Cx) (D : List Deferred) (ops : List Oper) (K : Act → World → Prop) (Ts : List Oper) (l1 : Env) (h1 : List Own) (rf : List Nat) (l : Env) (h : List Own) : Prop :=
  ∃ fes, (∀ e ∈ fes, FF c ops l1 h1 e) ∧ fes.map (·.i) = rf ∧ TT c D ops.toArray K Ts fes l h

section steps
variable {ra : List Nat} {Q : Exit → Act → World → Prop} {i d : Nat} {op : Op} {ty : TypeId} {pos : String} {af : Array Edge} {v : Value}

theorem rgd {id : Nat} (hm : c.P.follows .mixedOrders = true) (A F T late : List Nat) (hok : drawOk ops A F T late = true) (x : GD c D ops (fun a w => Q .normal a w) A F T late l A l h) : G c D (.region id ops.toArray true) Q l h := by
  intro a w e s
  have hs : HS c h { w with drawn := w.drawn + 1 } := ⟨s.chg.drew, s.mro⟩
  have := x hok [] .nil (by simp) a _ e hs
  refine wpIn_mono (wpIn_region_any (Q := Qk fun a w => Q .normal a w) hm (by simpa using this)) fun ex a w hq => ?_
  cases ex <;> first | exact hq | exact hq.elim

theorem dst (ho : ops[i]? = some ⟨some d, op, ty, pos, af, none⟩) (hn : isT late i = false) (V : OpV c ⟨some d, op, ty, pos, af, none⟩ l h v) (hd : Nat.blt d c.N = true) (k : GD c D ops K A F T late l0 ra ((d, v) :: l) h) : GD c D ops K A F T late l0 (i :: ra) l h :=
  fun hok es hD hA => k hok (⟨i, d, v, l⟩ :: es) (.cons hD rfl ⟨_, ho, rfl, hd, .inl ⟨rfl, V, fun x => by rw [hn] at x; cases x⟩⟩) (by simpa using hA)
theorem dsR (ho : ops[i]? = some ⟨some d, op, ty, pos, af, none⟩) (V : OpV c ⟨some d, op, ty, pos, af, none⟩ l h v) (R : OpR c ⟨some d, op, ty, pos, af, none⟩ l v) (hd : Nat.blt d c.N = true) (k : GD c D ops K A F T late l0 ra ((d, v) :: l) h) : GD c D ops K A F T late l0 (i :: ra) l h :=
  fun hok es hD hA => k hok (⟨i, d, v, l⟩ :: es) (.cons hD rfl ⟨_, ho, rfl, hd, .inl ⟨rfl, V, fun _ => R⟩⟩) (by simpa using hA)
theorem dgT {j e : Nat} {b : Bool} (ho : ops[i]? = some ⟨some d, op, ty, pos, af, some (j, b)⟩) (hj : (ops[j]?).bind (·.dst) = some e) (hv : lk e l = some (.bool b)) (hn : isT late i = false) (V : OpV c ⟨some d, op, ty, pos, af, some (j, b)⟩ l h v) (hd : Nat.blt d c.N = true)
    (k : GD c D ops K A F T late l0 ra ((d, v) :: l) h) : GD c D ops K A F T late l0 (i :: ra) l h :=
  fun hok es hD hA => k hok (⟨i, d, v, l⟩ :: es) (.cons hD rfl ⟨_, ho, rfl, hd, .inl ⟨by simp [gOk, hj, hv], V, fun x => by rw [hn] at x; cases x⟩⟩) (by simpa using hA)
theorem dgF {j e : Nat} {b b' : Bool} (ho : ops[i]? = some ⟨some d, op, ty, pos, af, some (j, b)⟩) (hj : (ops[j]?).bind (·.dst) = some e) (hv : lk e l = some (.bool b')) (hb : (b' == b) = false) (hd : Nat.blt d c.N = true)
    (k : GD c D ops K A F T late l0 ra ((d, undef) :: l) h) : GD c D ops K A F T late l0 (i :: ra) l h :=
  fun hok es hD hA => k hok (⟨i, d, undef, l⟩ :: es) (.cons hD rfl ⟨_, ho, rfl, hd, .inr ⟨by simp only [gOk, hj, hv, hb], rfl⟩⟩) (by simpa using hA)
theorem dgU {j e : Nat} {b : Bool} (ho : ops[i]? = some ⟨some d, op, ty, pos, af, some (j, b)⟩) (hj : (ops[j]?).bind (·.dst) = some e) (hv : lk e l = some undef) (hd : Nat.blt d c.N = true)
    (k : GD c D ops K A F T late l0 ra ((d, undef) :: l) h) : GD c D ops K A F T late l0 (i :: ra) l h :=
  fun hok es hD hA => k hok (⟨i, d, undef, l⟩ :: es) (.cons hD rfl ⟨_, ho, rfl, hd, .inr ⟨by simp only [gOk, hj, hv, undef], rfl⟩⟩) (by simpa using hA)
theorem dspl {b : Bool} (t : b = true → GD c D ops K A F T late l0 ra ((d, .bool true) :: l) h) (f : b = false → GD c D ops K A F T late l0 ra ((d, .bool false) :: l) h) : GD c D ops K A F T late l0 ra ((d, .bool b) :: l) h := by
  cases b
  · exact f rfl
  · exact t rfl
theorem dcv {u : Value} (e : v = u) (k : GD c D ops K A F T late l0 ra ((d, u) :: l) h) : GD c D ops K A F T late l0 ra ((d, v) :: l) h := e ▸ k

/-- The end of A, where nothing is of F. -/
theorem dend {Ts : List Oper} (hT : T.filterMap (ops[·]?) = Ts) (k : GL c D ops.toArray K Ts l h) : GD c D ops K A [] T late l0 [] l h :=
  fun hok es hD hA => Wk.sound (fes := []) ⟨.of hok, hD, by simpa using hA, by simp, rfl, hT ▸ k⟩
/-- .. where something is. -/
theorem dfor {Ts : List Oper} (hT : T.filterMap (ops[·]?) = Ts) (k : GF c D ops K Ts l h F l h) : GD c D ops K A F T late l0 [] l h := by
  intro hok es hD hA
  obtain ⟨fes, h1, h2, h3⟩ := k
  exact Wk.sound (fes := fes) ⟨.of hok, hD, by simpa using hA, h1, h2, hT ▸ h3⟩
/-- One new variable. -/
theorem fal1 {Ts : List Oper} {l : Env} {h : List Own} {t : TypeId} {n b' : Nat} {gg : Bool} {z : List Value} (ho : ops[i]? = some ⟨some d, .alloc t, ty, pos, af, none⟩) (ht : Ty c.P t n gg z b') (hz : (val gg z).cells = z.toArray) (hd : Nat.blt d c.N = true)
    (k : ∀ b, GL c D ops.toArray K Ts ((d, pt b 0) :: l) ([(b, .cells z.toArray t (0, 0))] :: h)) : GF c D ops K Ts l h [i] l h := by
  refine ⟨[⟨i, d, fun b => pt b 0, .cells z.toArray t (0, 0)⟩], fun e he => ?_, rfl, k⟩
  simp only [List.mem_singleton] at he
  subst he
  exact ⟨_, ho, rfl, hd, rfl, by simp, fun a w _ => by simp [execOp, Instr.alloc, ht.zero, newVar, run_newRow, hz]⟩
end steps
end sound
end Go.W
/- Slices that are read, loops over states of one to four parts. No program is named here. -/
namespace Go.W
open Go

def I64 (n : Int) : Prop := -9223372036854775808 ≤ n ∧ n ≤ 9223372036854775807

/-- v is a slice whose elements, sz cells each, read by R as xs. -/
def Sl {α : Type} (M : Mem) (sz : Nat) (R : Mem → List Value → α → Prop) (v : Value) (xs : List α) : Prop :=
  ∃ A c, v = .slice A xs.length c ∧ (xs.length ≤ c ∧ xs.length ≤ 1152921504606846975) ∧ (0 < xs.length → ∃ b o, A = some ⟨b, o, none⟩ ∧ ∀ i x, xs[i]? = some x → ∃ vs, CellsAt M ⟨b, o + i * sz, none⟩ vs ∧ vs.length = sz ∧ R M vs x)

/-- A relation that lives on in more memory. -/
def Mono {α : Type} (R : Mem → List Value → α → Prop) : Prop := ∀ M M' vs x, MLe M M' → R M vs x → R M' vs x

section sl
variable {α : Type} {M : Mem} {sz : Nat} {R : Mem → List Value → α → Prop} {V : Value} {xs : List α}
theorem Sl.mono {M' : Mem} (hR : Mono R) (h : MLe M M') (s : Sl M sz R V xs) : Sl M' sz R V xs := by
  obtain ⟨A, c, h1, h2, h3⟩ := s
  refine ⟨A, c, h1, h2, fun hn => ?_⟩
  obtain ⟨b, o, h4, h5⟩ := h3 hn
  exact ⟨b, o, h4, fun i x hx => let ⟨vs, a1, a2, a3⟩ := h5 i x hx; ⟨vs, a1.mono h, a2, hR _ _ _ _ h a3⟩⟩
theorem Sl.nil : Sl M sz R (.slice none 0 0) ([] : List α) := ⟨none, 0, rfl, ⟨Nat.le_refl _, by simp⟩, fun h => by simp at h⟩
theorem Sl.bound (s : Sl M sz R V xs) : xs.length ≤ 1152921504606846975 := let ⟨_, _, _, h, _⟩ := s; h.2
theorem Sl.el (s : Sl M sz R V xs) {j : Int} (h0 : 0 ≤ j) (h1 : j < xs.length) : ∃ b o c y vs, V = .slice (some ⟨b, o, none⟩) xs.length c ∧ xs[j.toNat]? = some y ∧ CellsAt M ⟨b, o + j.toNat * sz, none⟩ vs ∧ vs.length = sz ∧ R M vs y := by
  obtain ⟨A, c, e1, e2, e3⟩ := s
  obtain ⟨b, o, rfl, e4⟩ := e3 (by omega)
  have hy : xs[j.toNat]? = some xs[j.toNat] := List.getElem?_eq_getElem (by omega)
  obtain ⟨vs, a1, a2, a3⟩ := e4 _ _ hy
  exact ⟨b, o, c, _, vs, e1, hy, a1, a2, a3⟩
end sl

section steps
variable {α : Type} {M : Mem} {sz : Nat} {R : Mem → List Value → α → Prop} {V : Value} {xs : List α}
  {c : Cx} {D : List Deferred} {K : Act → World → Prop} {rest : List Oper} {l : Env} {h : List Own}
  {ty : TypeId} {pos : String} {af : Array Edge} {g : Option (Nat × Bool)} {dst : Option Tmp} {d : Nat}

theorem lnS {x : Operand} {t e' : TypeId} (hu : c.P.underlying t = some (.slice e')) (hS : Sl M sz R V xs) (hx : ev l x = some V) : OpV c ⟨dst, .call { callee := .builtin .len, args := #[x], argTypes := #[t] }, ty, pos, af, g⟩ l h (.int .i64 xs.length) := by
  obtain ⟨A, cp, rfl, _, _⟩ := hS
  exact ln hu hx

/-- An element's place, and what lies there. -/
theorem iaS {ops : Array Oper} {x i : Operand} {t e' : TypeId} {gg : Bool} {z : List Value} {b : Nat} {j : Int} {ik : IntKind} (hu : c.P.underlying t = some (.slice e')) (ht : Ty c.P e' sz gg z b) (hS : Sl M sz R V xs)
    (hx : ev l x = some V) (hi : ev l i = some (.int ik j)) (h0 : 0 ≤ j) (h1 : j < xs.length) (hd : Nat.blt d c.N = true)
    (k : ∀ b o y vs, xs[j.toNat]? = some y → CellsAt M ⟨b, o, none⟩ vs → vs.length = sz → R M vs y → GL c D ops K rest ((d, pt b o) :: l) h) : GL c D ops K (⟨some d, .indexAddr t x i, ty, pos, af, none⟩ :: rest) l h := by
  obtain ⟨b, o, cp, y, vs, rfl, hy, a1, a2, a3⟩ := hS.el h0 h1
  exact st (ia hu ht hx hi h0 h1) hd (k _ _ _ _ hy a1 a2 a3)
theorem diaS {ops : List Oper} {A F T late : List Nat} {l0 : Env} {ra : List Nat} {q : Nat} {x i : Operand} {t e' : TypeId} {gg : Bool} {z : List Value} {b : Nat} {j : Int} {ik : IntKind} (ho : ops[q]? = some ⟨some d, .indexAddr t x i, ty, pos, af, none⟩) (hn : isT late q = false)
    (hu : c.P.underlying t = some (.slice e')) (ht : Ty c.P e' sz gg z b) (hS : Sl M sz R V xs)
    (hx : ev l x = some V) (hi : ev l i = some (.int ik j)) (h0 : 0 ≤ j) (h1 : j < xs.length) (hd : Nat.blt d c.N = true)
    (k : ∀ b o y vs, xs[j.toNat]? = some y → CellsAt M ⟨b, o, none⟩ vs → vs.length = sz → R M vs y → GD c D ops K A F T late l0 ra ((d, pt b o) :: l) h) : GD c D ops K A F T late l0 (q :: ra) l h := by
  obtain ⟨b, o, cp, y, vs, rfl, hy, a1, a2, a3⟩ := hS.el h0 h1
  exact dst ho hn (ia hu ht hx hi h0 h1) hd (k _ _ _ _ hy a1 a2 a3)
theorem diaSg {ops : List Oper} {A F T late : List Nat} {l0 : Env} {ra : List Nat} {q jg eg : Nat} {bg : Bool} {x i : Operand} {t e' : TypeId} {gg : Bool} {z : List Value} {b : Nat} {j : Int} {ik : IntKind} (ho : ops[q]? = some ⟨some d, .indexAddr t x i, ty, pos, af, some (jg, bg)⟩)
    (hj : (ops[jg]?).bind (·.dst) = some eg) (hv : lk eg l = some (.bool bg)) (hn : isT late q = false)
    (hu : c.P.underlying t = some (.slice e')) (ht : Ty c.P e' sz gg z b) (hS : Sl M sz R V xs)
    (hx : ev l x = some V) (hi : ev l i = some (.int ik j)) (h0 : 0 ≤ j) (h1 : j < xs.length) (hd : Nat.blt d c.N = true)
    (k : ∀ b o y vs, xs[j.toNat]? = some y → CellsAt M ⟨b, o, none⟩ vs → vs.length = sz → R M vs y → GD c D ops K A F T late l0 ra ((d, pt b o) :: l) h) : GD c D ops K A F T late l0 (q :: ra) l h := by
  obtain ⟨b, o, cp, y, vs, rfl, hy, a1, a2, a3⟩ := hS.el h0 h1
  exact dgT ho hj hv hn (ia hu ht hx hi h0 h1) hd (k _ _ _ _ hy a1 a2 a3)

/-- A load of cells that are known. -/
theorem ldm {x : Operand} {t : TypeId} {n : Nat} {gg : Bool} {z : List Value} {b k o f o' : Nat} {vs us : List Value} (ht : Ty c.P t n gg z b) (hc : CellsAt M ⟨k, o, none⟩ vs) (hM : MLe M (Hm c.M h))
    (hx : ev l x = some (pt k o')) (ho : o + f = o') (hv : (vs.drop f).take n = us) (hn : us.length = n) (hg : gg = true ∨ n = 1) : OpV c ⟨dst, .load t x, ty, pos, af, g⟩ l h (val gg us) := by
  subst ho
  refine ld ht hx ((CellsAt.sub (o := f) hc fun i v hi => ?_).mono hM) hn hg
  rw [← hv, List.getElem?_take] at hi
  split at hi
  · simpa [List.getElem?_drop] using hi
  · cases hi
/-- .. one cell; several. -/
theorem lm1 {x : Operand} {t : TypeId} {z : List Value} {b k o o' : Nat} (f : Nat) {vs : List Value} {v : Value} (ht : Ty c.P t 1 false z b) (hc : CellsAt M ⟨k, o, none⟩ vs) (hM : MLe M (Hm c.M h))
    (hx : ev l x = some (pt k o')) (ho : o + f = o') (hv : (vs.drop f).take 1 = [v]) : OpV c ⟨dst, .load t x, ty, pos, af, g⟩ l h v :=
  ldm (us := [v]) ht hc hM hx ho hv rfl (.inr rfl)
theorem lma {x : Operand} {t : TypeId} {n : Nat} {z : List Value} {b k o o' : Nat} (f : Nat) {vs us : List Value} (ht : Ty c.P t n true z b) (hc : CellsAt M ⟨k, o, none⟩ vs) (hM : MLe M (Hm c.M h))
    (hx : ev l x = some (pt k o')) (ho : o + f = o') (hv : (vs.drop f).take n = us) (hn : us.length = n) : OpV c ⟨dst, .load t x, ty, pos, af, g⟩ l h (.agg us.toArray) :=
  ldm ht hc hM hx ho hv hn (.inl rfl)
/-- A load of an own block's cells, the item at the front: one cell; several. -/
theorem lo1 {x : Operand} {t : TypeId} {z : List Value} {b k : Nat} {cs : List Value} {e : TypeId} {fz : Nat × Nat} {hs : List Own} {o : Nat} {v : Value} (ht : Ty c.P t 1 false z b)
    (hx : ev l x = some (.pointer (some ⟨k, o, none⟩))) (hv : (cs.drop o).take 1 = [v]) : OpV c ⟨dst, .load t x, ty, pos, af, g⟩ l ([(k, .cells cs.toArray e fz)] :: hs) v :=
  ldo (vs := [v]) ht hx hv rfl (.inr rfl)
theorem loa {x : Operand} {t : TypeId} {n : Nat} {z : List Value} {b k : Nat} {cs : List Value} {e : TypeId} {fz : Nat × Nat} {hs : List Own} {o : Nat} {vs : List Value} (ht : Ty c.P t n true z b)
    (hx : ev l x = some (.pointer (some ⟨k, o, none⟩))) (hv : (cs.drop o).take n = vs) (hn : vs.length = n) : OpV c ⟨dst, .load t x, ty, pos, af, g⟩ l ([(k, .cells cs.toArray e fz)] :: hs) (.agg vs.toArray) :=
  ldo ht hx hv hn (.inl rfl)
end steps

/-! ### The order of the items within a drawn region -/
section rot
variable {c : Cx} {o : Oper} {l : Env} {v : Value}
theorem rotV (pre : List Own) {a : Own} {post : List Own} (x : OpV c o l (a :: (pre ++ post)) v) : OpV c o l (pre ++ a :: post) v := by
  intro hx ac w e s next k
  have p : ((pre ++ a :: post) ++ hx).flatten.Perm ((a :: (pre ++ post)) ++ hx).flatten := by
    rw [show ((pre ++ a :: post) ++ hx).flatten = (pre ++ a :: post).flatten ++ hx.flatten from List.flatten_append, show ((a :: (pre ++ post)) ++ hx).flatten = (a :: (pre ++ post)).flatten ++ hx.flatten from List.flatten_append]
    exact List.Perm.append_right _ (fl_rot a pre post)
  exact x hx ac w e (s.perm p) next fun w' s' => k w' (s'.perm p.symm)
theorem w1 {a b : Own} {t : List Own} (x : OpV c o l (b :: a :: t) v) : OpV c o l (a :: b :: t) v := rotV [a] x
theorem w2 {a b d : Own} {t : List Own} (x : OpV c o l (d :: a :: b :: t) v) : OpV c o l (a :: b :: d :: t) v := rotV [a, b] x
theorem w3 {a b d e : Own} {t : List Own} (x : OpV c o l (e :: a :: b :: d :: t) v) : OpV c o l (a :: b :: d :: e :: t) v := rotV [a, b, d] x
theorem w4 {a b d e f : Own} {t : List Own} (x : OpV c o l (f :: a :: b :: d :: e :: t) v) : OpV c o l (a :: b :: d :: e :: f :: t) v := rotV [a, b, d, e] x
theorem w5 {a b d e f g : Own} {t : List Own} (x : OpV c o l (g :: a :: b :: d :: e :: f :: t) v) : OpV c o l (a :: b :: d :: e :: f :: g :: t) v := rotV [a, b, d, e, f] x
theorem w6 {a b d e f g i : Own} {t : List Own} (x : OpV c o l (i :: a :: b :: d :: e :: f :: g :: t) v) : OpV c o l (a :: b :: d :: e :: f :: g :: i :: t) v := rotV [a, b, d, e, f, g] x
theorem w7 {a b d e f g i j : Own} {t : List Own} (x : OpV c o l (j :: a :: b :: d :: e :: f :: g :: i :: t) v) : OpV c o l (a :: b :: d :: e :: f :: g :: i :: j :: t) v := rotV [a, b, d, e, f, g, i] x
end rot

/-! ### Loops and cuts over states of several parts -/
section loops
variable {c : Cx} {D : List Deferred} {Q : Exit → Act → World → Prop} {l : Env} {h : List Own} {α β γ δ : Type}
theorem lp1 {body : Code} (L : α → Env) (H : α → List Own) (J : α → Prop) (μ : α → Nat) (a0 : α) (h0 : J a0) (hl : Sub l (L a0)) (hh : ∀ w, HS c h w → HS c (H a0) w)
    (round : ∀ a, J a → G c D body (Exit.then (fun ac w => ∃ a', (J a' ∧ μ a' < μ a) ∧ EOk c.N D ac (L a') ∧ HS c (H a') w) Q) (L a) (H a)) : G c D (.loop body) Q l h := lp L H J μ a0 h0 hl hh round
theorem lp2 {body : Code} (L : α → β → Env) (H : α → β → List Own) (J : α → β → Prop) (μ : α → β → Nat) (a0 : α) (b0 : β) (h0 : J a0 b0) (hl : Sub l (L a0 b0)) (hh : ∀ w, HS c h w → HS c (H a0 b0) w)
    (round : ∀ a b, J a b → G c D body (Exit.then (fun ac w => ∃ a' b', (J a' b' ∧ μ a' b' < μ a b) ∧ EOk c.N D ac (L a' b') ∧ HS c (H a' b') w) Q) (L a b) (H a b)) : G c D (.loop body) Q l h :=
  lp (σ := α × β) (fun s => L s.1 s.2) (fun s => H s.1 s.2) (fun s => J s.1 s.2) (fun s => μ s.1 s.2) (a0, b0) h0 hl hh fun s hj a w e hs =>
    wpIn_mono (round s.1 s.2 hj a w e hs) fun ex a w hq => by cases ex <;> first | exact (let ⟨a', b', x⟩ := hq; ⟨(a', b'), x⟩) | exact hq
theorem lp3 {body : Code} (L : α → β → γ → Env) (H : α → β → γ → List Own) (J : α → β → γ → Prop) (μ : α → β → γ → Nat) (a0 : α) (b0 : β) (g0 : γ) (h0 : J a0 b0 g0) (hl : Sub l (L a0 b0 g0)) (hh : ∀ w, HS c h w → HS c (H a0 b0 g0) w)
    (round : ∀ a b g, J a b g → G c D body (Exit.then (fun ac w => ∃ a' b' g', (J a' b' g' ∧ μ a' b' g' < μ a b g) ∧ EOk c.N D ac (L a' b' g') ∧ HS c (H a' b' g') w) Q) (L a b g) (H a b g)) : G c D (.loop body) Q l h :=
  lp (σ := α × β × γ) (fun s => L s.1 s.2.1 s.2.2) (fun s => H s.1 s.2.1 s.2.2) (fun s => J s.1 s.2.1 s.2.2) (fun s => μ s.1 s.2.1 s.2.2) (a0, b0, g0) h0 hl hh fun s hj a w e hs =>
    wpIn_mono (round s.1 s.2.1 s.2.2 hj a w e hs) fun ex a w hq => by cases ex <;> first | exact (let ⟨a', b', g', x⟩ := hq; ⟨(a', b', g'), x⟩) | exact hq
theorem lp4 {body : Code} (L : α → β → γ → δ → Env) (H : α → β → γ → δ → List Own) (J : α → β → γ → δ → Prop) (μ : α → β → γ → δ → Nat) (a0 : α) (b0 : β) (g0 : γ) (d0 : δ) (h0 : J a0 b0 g0 d0) (hl : Sub l (L a0 b0 g0 d0)) (hh : ∀ w, HS c h w → HS c (H a0 b0 g0 d0) w)
    (round : ∀ a b g d, J a b g d → G c D body (Exit.then (fun ac w => ∃ a' b' g' d', (J a' b' g' d' ∧ μ a' b' g' d' < μ a b g d) ∧ EOk c.N D ac (L a' b' g' d') ∧ HS c (H a' b' g' d') w) Q) (L a b g d) (H a b g d)) : G c D (.loop body) Q l h :=
  lp (σ := α × β × γ × δ) (fun s => L s.1 s.2.1 s.2.2.1 s.2.2.2) (fun s => H s.1 s.2.1 s.2.2.1 s.2.2.2) (fun s => J s.1 s.2.1 s.2.2.1 s.2.2.2) (fun s => μ s.1 s.2.1 s.2.2.1 s.2.2.2) (a0, b0, g0, d0) h0 hl hh fun s hj a w e hs =>
    wpIn_mono (round s.1 s.2.1 s.2.2.1 s.2.2.2 hj a w e hs) fun ex a w hq => by cases ex <;> first | exact (let ⟨a', b', g', d', x⟩ := hq; ⟨(a', b', g', d'), x⟩) | exact hq

theorem le1 {L : α → Env} {H : α → List Own} {J : α → Prop} (a' : α) (hj : J a') (hl : Sub l (L a')) (hh : ∀ w, HS c h w → HS c (H a') w) :
    GE c D .normal (Exit.then (fun ac w => ∃ a', J a' ∧ EOk c.N D ac (L a') ∧ HS c (H a') w) Q) l h := fun a w e s => ⟨a', hj, e.sub hl, hh w s⟩
theorem le2 {L : α → β → Env} {H : α → β → List Own} {J : α → β → Prop} (a' : α) (b' : β) (hj : J a' b') (hl : Sub l (L a' b')) (hh : ∀ w, HS c h w → HS c (H a' b') w) :
    GE c D .normal (Exit.then (fun ac w => ∃ a' b', J a' b' ∧ EOk c.N D ac (L a' b') ∧ HS c (H a' b') w) Q) l h := fun a w e s => ⟨a', b', hj, e.sub hl, hh w s⟩
theorem le3 {L : α → β → γ → Env} {H : α → β → γ → List Own} {J : α → β → γ → Prop} (a' : α) (b' : β) (g' : γ) (hj : J a' b' g') (hl : Sub l (L a' b' g')) (hh : ∀ w, HS c h w → HS c (H a' b' g') w) :
    GE c D .normal (Exit.then (fun ac w => ∃ a' b' g', J a' b' g' ∧ EOk c.N D ac (L a' b' g') ∧ HS c (H a' b' g') w) Q) l h := fun a w e s => ⟨a', b', g', hj, e.sub hl, hh w s⟩
theorem le4 {L : α → β → γ → δ → Env} {H : α → β → γ → δ → List Own} {J : α → β → γ → δ → Prop} (a' : α) (b' : β) (g' : γ) (d' : δ) (hj : J a' b' g' d') (hl : Sub l (L a' b' g' d')) (hh : ∀ w, HS c h w → HS c (H a' b' g' d') w) :
    GE c D .normal (Exit.then (fun ac w => ∃ a' b' g' d', J a' b' g' d' ∧ EOk c.N D ac (L a' b' g' d') ∧ HS c (H a' b' g' d') w) Q) l h := fun a w e s => ⟨a', b', g', d', hj, e.sub hl, hh w s⟩

theorem sq1 {x y : Code} (L : α → Env) (H : α → List Own) (J : α → Prop) (hx : G c D x (Exit.then (fun ac w => ∃ a', J a' ∧ EOk c.N D ac (L a') ∧ HS c (H a') w) Q) l h) (hy : ∀ a, J a → G c D y Q (L a) (H a)) : G c D (.seq x y) Q l h := sqc L H J hx hy
theorem sq2 {x y : Code} (L : α → β → Env) (H : α → β → List Own) (J : α → β → Prop) (hx : G c D x (Exit.then (fun ac w => ∃ a' b', J a' b' ∧ EOk c.N D ac (L a' b') ∧ HS c (H a' b') w) Q) l h) (hy : ∀ a b, J a b → G c D y Q (L a b) (H a b)) : G c D (.seq x y) Q l h := by
  intro a w e s
  refine wpIn_seq (wpIn_mono (hx a w e s) fun ex a w hq => ?_)
  cases ex with
  | normal => obtain ⟨a', b', hj, e, hs⟩ := hq; exact hy a' b' hj a w e hs
  | _ => exact hq
theorem sq0 {x y : Code} (L : Env) (H : List Own) (hx : G c D x (Exit.then (fun ac w => EOk c.N D ac L ∧ HS c H w) Q) l h) (hy : G c D y Q L H) : G c D (.seq x y) Q l h := by
  intro a w e s
  refine wpIn_seq (wpIn_mono (hx a w e s) fun ex a w hq => ?_)
  cases ex with
  | normal => exact hy a w hq.1 hq.2
  | _ => exact hq
theorem sqk {x y : Code} (V : Env → Env) (C : Env) (hc : Sub l C) (hx : G c D x (Exit.then (fun ac w => EOk c.N D ac (V C) ∧ HS c h w) Q) l h) (hy : G c D y Q (V C) h) : G c D (.seq x y) Q l h := sq0 (V C) h hx hy
theorem sqh {x y : Code} (V : Env → Env) (C : Env) (H : List Own) (hc : Sub l C) (hx : G c D x (Exit.then (fun ac w => EOk c.N D ac (V C) ∧ HS c H w) Q) l h) (hy : G c D y Q (V C) H) : G c D (.seq x y) Q l h := sq0 (V C) H hx hy
theorem le0 {L : Env} {H : List Own} (hl : Sub l L) (hh : ∀ w, HS c h w → HS c H w) : GE c D .normal (Exit.then (fun ac w => EOk c.N D ac L ∧ HS c H w) Q) l h := fun a w e s => ⟨e.sub hl, hh w s⟩
end loops

/-! ### Loops with a part of the state that stays -/
section loopsc
variable {c : Cx} {D : List Deferred} {Q : Exit → Act → World → Prop} {l : Env} {h : List Own} {α β γ δ : Type}
theorem lpc1 {body : Code} (V : α → Env → Env) (C : Env) (HV : α → List Own → List Own) (HC : List Own) (J : α → Prop) (μ : α → Nat) (a0 : α) (h0 : J a0) (hl : Sub l (V a0 C)) (hh : ∀ w, HS c h w → HS c (HV a0 HC) w)
    (round : ∀ a, J a → G c D body (Exit.then (fun ac w => ∃ a', (J a' ∧ μ a' < μ a) ∧ EOk c.N D ac (V a' C) ∧ HS c (HV a' HC) w) Q) (V a C) (HV a HC)) : G c D (.loop body) Q l h :=
  lp1 (fun a => V a C) (fun a => HV a HC) J μ a0 h0 hl hh round
theorem lpc2 {body : Code} (V : α → β → Env → Env) (C : Env) (HV : α → β → List Own → List Own) (HC : List Own) (J : α → β → Prop) (μ : α → β → Nat) (a0 : α) (b0 : β) (h0 : J a0 b0) (hl : Sub l (V a0 b0 C)) (hh : ∀ w, HS c h w → HS c (HV a0 b0 HC) w)
    (round : ∀ a b, J a b → G c D body (Exit.then (fun ac w => ∃ a' b', (J a' b' ∧ μ a' b' < μ a b) ∧ EOk c.N D ac (V a' b' C) ∧ HS c (HV a' b' HC) w) Q) (V a b C) (HV a b HC)) : G c D (.loop body) Q l h :=
  lp2 (fun a b => V a b C) (fun a b => HV a b HC) J μ a0 b0 h0 hl hh round
theorem lpc3 {body : Code} (V : α → β → γ → Env → Env) (C : Env) (HV : α → β → γ → List Own → List Own) (HC : List Own) (J : α → β → γ → Prop) (μ : α → β → γ → Nat) (a0 : α) (b0 : β) (g0 : γ) (h0 : J a0 b0 g0) (hl : Sub l (V a0 b0 g0 C)) (hh : ∀ w, HS c h w → HS c (HV a0 b0 g0 HC) w)
    (round : ∀ a b g, J a b g → G c D body (Exit.then (fun ac w => ∃ a' b' g', (J a' b' g' ∧ μ a' b' g' < μ a b g) ∧ EOk c.N D ac (V a' b' g' C) ∧ HS c (HV a' b' g' HC) w) Q) (V a b g C) (HV a b g HC)) : G c D (.loop body) Q l h :=
  lp3 (fun a b g => V a b g C) (fun a b g => HV a b g HC) J μ a0 b0 g0 h0 hl hh round
theorem lpc4 {body : Code} (V : α → β → γ → δ → Env → Env) (C : Env) (HV : α → β → γ → δ → List Own → List Own) (HC : List Own) (J : α → β → γ → δ → Prop) (μ : α → β → γ → δ → Nat) (a0 : α) (b0 : β) (g0 : γ) (d0 : δ) (h0 : J a0 b0 g0 d0) (hl : Sub l (V a0 b0 g0 d0 C)) (hh : ∀ w, HS c h w → HS c (HV a0 b0 g0 d0 HC) w)
    (round : ∀ a b g d, J a b g d → G c D body (Exit.then (fun ac w => ∃ a' b' g' d', (J a' b' g' d' ∧ μ a' b' g' d' < μ a b g d) ∧ EOk c.N D ac (V a' b' g' d' C) ∧ HS c (HV a' b' g' d' HC) w) Q) (V a b g d C) (HV a b g d HC)) : G c D (.loop body) Q l h :=
  lp4 (fun a b g d => V a b g d C) (fun a b g d => HV a b g d HC) J μ a0 b0 g0 d0 h0 hl hh round
end loopsc

section small
variable {c : Cx} {D : List Deferred} {Q : Exit → Act → World → Prop} {l : Env} {code : Code} {ex : Exit}
theorem rotC (pre : List Own) {a : Own} {post : List Own} (x : G c D code Q l (a :: (pre ++ post))) : G c D code Q l (pre ++ a :: post) := fun ac w e s => x ac w e (s.perm (fl_rot a pre post))
theorem rotE (pre : List Own) {a : Own} {post : List Own} (x : GE c D ex Q l (a :: (pre ++ post))) : GE c D ex Q l (pre ++ a :: post) := fun ac w e s => x ac w e (s.perm (fl_rot a pre post))
theorem cvI {it it' : Own} {t : List Own} (e : it = it') (x : GE c D ex Q l (it' :: t)) : GE c D ex Q l (it :: t) := e ▸ x
theorem dropC {o : Own} {h : List Own} (x : G c D code Q l h) : G c D code Q l (o :: h) := fun ac w e s => x ac w e (s.dropIt (by simp))
theorem dropE {o : Own} {h : List Own} (x : GE c D ex Q l h) : GE c D ex Q l (o :: h) := fun ac w e s => x ac w e (s.dropIt (by simp))
theorem gR1 {a b : Own} {t : List Own} (y : G c D code Q l (b :: a :: t)) : G c D code Q l (a :: b :: t) := rotC [a] y
theorem gr1 {a b : Own} {t : List Own} (y : GE c D ex Q l (b :: a :: t)) : GE c D ex Q l (a :: b :: t) := rotE [a] y
theorem gR2 {a b d : Own} {t : List Own} (y : G c D code Q l (d :: a :: b :: t)) : G c D code Q l (a :: b :: d :: t) := rotC [a, b] y
theorem gr2 {a b d : Own} {t : List Own} (y : GE c D ex Q l (d :: a :: b :: t)) : GE c D ex Q l (a :: b :: d :: t) := rotE [a, b] y
theorem gR3 {a b d e : Own} {t : List Own} (y : G c D code Q l (e :: a :: b :: d :: t)) : G c D code Q l (a :: b :: d :: e :: t) := rotC [a, b, d] y
theorem gr3 {a b d e : Own} {t : List Own} (y : GE c D ex Q l (e :: a :: b :: d :: t)) : GE c D ex Q l (a :: b :: d :: e :: t) := rotE [a, b, d] y
theorem gR4 {a b d e f : Own} {t : List Own} (y : G c D code Q l (f :: a :: b :: d :: e :: t)) : G c D code Q l (a :: b :: d :: e :: f :: t) := rotC [a, b, d, e] y
theorem gr4 {a b d e f : Own} {t : List Own} (y : GE c D ex Q l (f :: a :: b :: d :: e :: t)) : GE c D ex Q l (a :: b :: d :: e :: f :: t) := rotE [a, b, d, e] y
theorem gR5 {a b d e f g : Own} {t : List Own} (y : G c D code Q l (g :: a :: b :: d :: e :: f :: t)) : G c D code Q l (a :: b :: d :: e :: f :: g :: t) := rotC [a, b, d, e, f] y
theorem gr5 {a b d e f g : Own} {t : List Own} (y : GE c D ex Q l (g :: a :: b :: d :: e :: f :: t)) : GE c D ex Q l (a :: b :: d :: e :: f :: g :: t) := rotE [a, b, d, e, f] y
theorem gR6 {a b d e f g i : Own} {t : List Own} (y : G c D code Q l (i :: a :: b :: d :: e :: f :: g :: t)) : G c D code Q l (a :: b :: d :: e :: f :: g :: i :: t) := rotC [a, b, d, e, f, g] y
theorem gr6 {a b d e f g i : Own} {t : List Own} (y : GE c D ex Q l (i :: a :: b :: d :: e :: f :: g :: t)) : GE c D ex Q l (a :: b :: d :: e :: f :: g :: i :: t) := rotE [a, b, d, e, f, g] y
theorem gR7 {a b d e f g i j : Own} {t : List Own} (y : G c D code Q l (j :: a :: b :: d :: e :: f :: g :: i :: t)) : G c D code Q l (a :: b :: d :: e :: f :: g :: i :: j :: t) := rotC [a, b, d, e, f, g, i] y
theorem gr7 {a b d e f g i j : Own} {t : List Own} (y : GE c D ex Q l (j :: a :: b :: d :: e :: f :: g :: i :: t)) : GE c D ex Q l (a :: b :: d :: e :: f :: g :: i :: j :: t) := rotE [a, b, d, e, f, g, i] y
theorem hK0 {z : Own} {t : List Own} : ∀ w, HS c (z :: t) w → HS c [] w := fun w s => s.dropIt (by simp)
theorem hK1 {a z : Own} {t : List Own} : ∀ w, HS c (a :: z :: t) w → HS c [a] w := fun w s => s.dropIt (by simp)
theorem hK2 {a b z : Own} {t : List Own} : ∀ w, HS c (a :: b :: z :: t) w → HS c [a, b] w := fun w s => s.dropIt (by simp)
theorem hK3 {a b d z : Own} {t : List Own} : ∀ w, HS c (a :: b :: d :: z :: t) w → HS c [a, b, d] w := fun w s => s.dropIt (by simp)
theorem hK4 {a b d e z : Own} {t : List Own} : ∀ w, HS c (a :: b :: d :: e :: z :: t) w → HS c [a, b, d, e] w := fun w s => s.dropIt (by simp)
theorem hK5 {a b d e f z : Own} {t : List Own} : ∀ w, HS c (a :: b :: d :: e :: f :: z :: t) w → HS c [a, b, d, e, f] w := fun w s => s.dropIt (by simp)
theorem hK6 {a b d e f g z : Own} {t : List Own} : ∀ w, HS c (a :: b :: d :: e :: f :: g :: z :: t) w → HS c [a, b, d, e, f, g] w := fun w s => s.dropIt (by simp)
end small

/-! ### Words for tests -/
theorem eqsT {a b : Bool} (h : (a && b) = true) : a = true ∧ b = true := by cases a <;> cases b <;> simp_all
theorem nTF {b : Bool} (h : (!b) = true) : b = false := by cases b <;> simp_all
theorem nFT {b : Bool} (h : (!b) = false) : b = true := by cases b <;> simp_all
theorem ne_of_beqF {α : Type} [BEq α] [LawfulBEq α] {a b : α} (h : (a == b) = false) : a ≠ b := beq_eq_false_iff_ne.1 h
theorem ne_of_bneT {α : Type} [BEq α] [LawfulBEq α] {a b : α} (h : (a != b) = true) : a ≠ b := bne_iff_ne.1 h
theorem eq_of_bneF {α : Type} [BEq α] [LawfulBEq α] {a b : α} (h : (a != b) = false) : a = b := by
  rw [bne, Bool.not_eq_false'] at h; exact eq_of_beq h
theorem dT {x : Option Value} {p : Prop} {_ : Decidable p} (e : x = some (.bool true)) (h : p) : x = some (.bool (decide p)) := by rw [e, decide_eq_true h]
theorem dF {x : Option Value} {p : Prop} {_ : Decidable p} (e : x = some (.bool false)) (h : ¬ p) : x = some (.bool (decide p)) := by rw [e, decide_eq_false h]
theorem bT {x : Option Value} {b : Bool} (e : x = some (.bool true)) (h : b = true) : x = some (.bool b) := by rw [e, h]
theorem bF {x : Option Value} {b : Bool} (e : x = some (.bool false)) (h : b = false) : x = some (.bool b) := by rw [e, h]
theorem bE {x : Option Value} {b b' : Bool} (e : x = some (.bool b')) (h : b' = b) : x = some (.bool b) := by rw [e, h]
theorem iE {x : Option Value} {k : IntKind} {a b : Int} (e : x = some (.int k a)) (h : a = b) : x = some (.int k b) := by rw [e, h]

section ops2
variable {c : Cx} {D : List Deferred} {l : Env} {h : List Own} {ty : TypeId} {pos : String} {af : Array Edge} {g : Option (Nat × Bool)} {dst : Option Tmp}
theorem max2 {x y : Operand} {tys : Array TypeId} {k k' : IntKind} {m n : Int} (hx : ev l x = some (.int k m)) (hy : ev l y = some (.int k' n)) : OpV c ⟨dst, .call { callee := .builtin .max, args := #[x, y], argTypes := tys }, ty, pos, af, g⟩ l h (.int k (max m n)) :=
  .of0 (fun _ => by simp) fun a w e _ => by
    simp [execOp, resolve, invoke, builtin, ev_eq e (x := x) (by simp [Op.operands, Call.operands]) hx, ev_eq e (x := y) (by simp [Op.operands, Call.operands]) hy, Builtin.max_, Builtin.max2]
    split <;> omega
theorem min2 {x y : Operand} {tys : Array TypeId} {k k' : IntKind} {m n : Int} (hx : ev l x = some (.int k m)) (hy : ev l y = some (.int k' n)) : OpV c ⟨dst, .call { callee := .builtin .min, args := #[x, y], argTypes := tys }, ty, pos, af, g⟩ l h (.int k (min m n)) :=
  .of0 (fun _ => by simp) fun a w e _ => by
    simp [execOp, resolve, invoke, builtin, ev_eq e (x := x) (by simp [Op.operands, Call.operands]) hx, ev_eq e (x := y) (by simp [Op.operands, Call.operands]) hy, Builtin.min_, Builtin.min2]
    split <;> omega

theorem OpR.of {op : Op} {v : Value} (hnd : ∀ cl, op ≠ .defer cl) (hr : ∀ (a : Act) (w : World), EOn op.operands a l → (execOp a.eval ⟨dst, op, ty, pos, af, g⟩).run c.P w = .ok (.value v) w) : OpR c ⟨dst, op, ty, pos, af, g⟩ l v := ⟨hnd, hr⟩
theorem mvR {x : Operand} {v : Value} (hx : ev l x = some v) : OpR c ⟨dst, .move x, ty, pos, af, g⟩ l v := .of (fun _ => by simp) fun a w e => by simp [execOp, ev_eq e (by simp [Op.operands]) hx]
theorem asR {x : Operand} {v : Value} (hx : ev l x = some v) : OpR c ⟨dst, .assign x, ty, pos, af, g⟩ l v := .of (fun _ => by simp) fun a w e => by simp [execOp, ev_eq e (by simp [Op.operands]) hx]
theorem pkTR {x y z : Operand} {v : Value} (hx : ev l x = some (.bool true)) (hy : ev l y = some v) : OpR c ⟨dst, .pick x y z, ty, pos, af, g⟩ l v :=
  .of (fun _ => by simp) fun a w e => by simp [execOp, ev_eq e (by simp [Op.operands]) hx, ev_eq e (by simp [Op.operands]) hy, asBool]
theorem pkFR {x y z : Operand} {v : Value} (hx : ev l x = some (.bool false)) (hz : ev l z = some v) : OpR c ⟨dst, .pick x y z, ty, pos, af, g⟩ l v :=
  .of (fun _ => by simp) fun a w e => by simp [execOp, ev_eq e (by simp [Op.operands]) hx, ev_eq e (by simp [Op.operands]) hz, asBool]
theorem xcR {x : Operand} {i : Nat} {vs : Array Value} {v : Value} (hx : ev l x = some (.tuple vs)) (hv : vs[i]? = some v) : OpR c ⟨dst, .extract x i, ty, pos, af, g⟩ l v :=
  .of (fun _ => by simp) fun a w e => by simp [execOp, ev_eq e (by simp [Op.operands]) hx, Instr.extract, hv]
theorem ntR {x : Operand} {t : TypeId} {b : Bool} (hx : ev l x = some (.bool b)) : OpR c ⟨dst, .unOp .not t x, ty, pos, af, g⟩ l (.bool !b) :=
  .of (fun _ => by simp) fun a w e => by simp [execOp, ev_eq e (by simp [Op.operands]) hx, Op.unary]

section fs
variable {ops : List Oper} {K : Act → World → Prop} {Ts : List Oper} {l1 : Env} {h1 : List Own} {i d : Nat} {rf : List Nat}
theorem fnil (k : GL c D ops.toArray K Ts l h) : GF c D ops K Ts l1 h1 [] l h := ⟨[], by simp, rfl, k⟩
end fs
end ops2
end Go.W
/- The plain data: dots, identifiers, runs, elements, operations; and how their cells read. No program is named here. -/
namespace Go.W
open Go

structure Dot where
  site : Int
  seq : Int
  deriving DecidableEq
structure ID where
  time : Int
  site : Int
  deriving DecidableEq
structure Run where
  id : ID
  count : Int
  deriving DecidableEq

@[reducible] def encDot (d : Dot) : List Value := [.int .i64 d.site, .int .i64 d.seq]
@[reducible] def encID (d : ID) : List Value := [.int .i64 d.time, .int .i64 d.site]
@[reducible] def encRun (d : Run) : List Value := [.int .i64 d.id.time, .int .i64 d.id.site, .int .i64 d.count]
def RDot (_ : Mem) (vs : List Value) (d : Dot) : Prop := vs = encDot d ∧ (-9223372036854775808 ≤ d.site ∧ d.site ≤ 9223372036854775807) ∧ (-9223372036854775808 ≤ d.seq ∧ d.seq ≤ 9223372036854775807)
def RID (_ : Mem) (vs : List Value) (d : ID) : Prop := vs = encID d ∧ (-9223372036854775808 ≤ d.time ∧ d.time ≤ 9223372036854775807) ∧ (-9223372036854775808 ≤ d.site ∧ d.site ≤ 9223372036854775807)
def RRun (_ : Mem) (vs : List Value) (d : Run) : Prop := vs = encRun d ∧ (-9223372036854775808 ≤ d.id.time ∧ d.id.time ≤ 9223372036854775807) ∧ (-9223372036854775808 ≤ d.id.site ∧ d.id.site ≤ 9223372036854775807) ∧
  (-9223372036854775808 ≤ d.count ∧ d.count ≤ 9223372036854775807)
theorem mDot : Mono RDot := fun _ _ _ _ _ h => h
theorem mID : Mono RID := fun _ _ _ _ _ h => h
theorem mRun : Mono RRun := fun _ _ _ _ _ h => h

/-! ### Vectors -/
def okD (d : Dot) : Prop := 1 ≤ d.site ∧ d.site ≤ 16 ∧ 1 ≤ d.seq ∧ d.seq ≤ 2147483647
instance (d : Dot) : Decidable (okD d) := by unfold okD; infer_instance
/-- What a list of Dots says of a site. -/
def says : List Dot → Nat → Int
  | [], _ => 0
  | d :: v, s => if okD d ∧ d.site = s then max d.seq (says v s) else says v s
theorem says_snoc (v : List Dot) (d : Dot) (s : Nat) : says (v ++ [d]) s = if okD d ∧ d.site = s then max (says v s) d.seq else says v s := by
  induction v with
  | nil => simp only [List.nil_append, says]; split <;> omega
  | cons x v ih => simp only [List.cons_append, says, ih]; split <;> split <;> omega
theorem says_nonneg (v : List Dot) (s : Nat) : 0 ≤ says v s := by
  induction v with
  | nil => simp [says]
  | cons x v ih => simp only [says]; split <;> omega
theorem says_le (v : List Dot) (s : Nat) : says v s ≤ 2147483647 := by
  induction v with
  | nil => simp [says]
  | cons x v ih => simp only [says]; split <;> rename_i h <;> (try (have := h.1.2.2.2)) <;> omega
def rowOf (f : Nat → Int) : List Value := (List.range 17).map fun s => .int .i64 (f s)
theorem rowOf_length (f : Nat → Int) : (rowOf f).length = 17 := by simp [rowOf]
theorem rowOf_at (f : Nat → Int) {i : Nat} (hi : i < 17) : ((rowOf f).drop i).take 1 = [.int .i64 (f i)] := by
  have h1 : (rowOf f)[i]? = some (.int .i64 (f i)) := by simp [rowOf, List.getElem?_range hi]
  rw [List.drop_eq_getElem_cons (by rw [rowOf_length]; exact hi)]
  have := (List.getElem?_eq_some_iff.1 h1).2
  simp [this]
theorem rowOf_set (f : Nat → Int) {i : Nat} (x : Int) : setL (rowOf f) i [.int .i64 x] = rowOf fun s => if s = i then x else f s := by
  simp only [setL]
  apply List.ext_getElem?
  intro j
  rw [List.getElem?_set]
  by_cases hj : j < 17
  · by_cases e : i = j
    · subst e; simp [rowOf, hj]
    · have e' : ¬ j = i := fun x => e x.symm
      simp [rowOf, List.getElem?_range hj, e, e']
  · have h1 : (rowOf f)[j]? = none := List.getElem?_eq_none (by rw [rowOf_length]; omega)
    have h2 : (rowOf fun s => if s = i then x else f s)[j]? = none := List.getElem?_eq_none (by rw [rowOf_length]; omega)
    rw [h1, h2]
    split
    · rename_i e; subst e; rw [rowOf_length]; simp [hj]
    · rfl
theorem rowOf_flat (f : Nat → Int) : (rowOf f).all flat = true := by simp [rowOf, flat]
theorem setL_whole : ∀ (vs mid pre post : List Value), mid.length = vs.length → setL (pre ++ (mid ++ post)) pre.length vs = pre ++ (vs ++ post) := by
  intro vs
  induction vs with
  | nil => intro mid pre post h; obtain rfl : mid = [] := List.eq_nil_of_length_eq_zero h; rfl
  | cons v vs ih =>
    intro mid pre post h
    cases mid with
    | nil => simp at h
    | cons x mid =>
      have h1 : (pre ++ (x :: mid ++ post)).set pre.length v = (pre ++ [v]) ++ (mid ++ post) := by
        rw [List.set_append_right _ _ (Nat.le_refl _)]; simp
      rw [setL, h1, show pre.length + 1 = (pre ++ [v]).length by simp, ih _ _ _ (by simpa using h)]
      simp
theorem rowOf_over {cs : List Value} (f : Nat → Int) (h : cs.length = 17 := by rfl) : setL cs 0 (rowOf f) = rowOf f := by
  simpa using setL_whole (rowOf f) cs [] [] (by rw [rowOf_length, h])
theorem rowOf_congr {f g : Nat → Int} (h : ∀ s, s < 17 → f s = g s) : rowOf f = rowOf g := by
  unfold rowOf
  apply List.map_congr_left
  intro s hs
  rw [h s (by simpa using hs)]
theorem toNat_succ {i : Int} (h : 0 ≤ i) : (i + 1).toNat = i.toNat + 1 := by omega
theorem take_snoc {α : Type} {l : List α} {i : Nat} {x : α} (h : l[i]? = some x) : l.take (i + 1) = l.take i ++ [x] := by
  rw [List.take_add_one, h]; rfl
theorem take_snoc' {α : Type} {l : List α} {i : Int} {x : α} (h0 : 0 ≤ i) (h : l[i.toNat]? = some x) : l.take (i + 1).toNat = l.take i.toNat ++ [x] := by
  rw [toNat_succ h0, take_snoc h]
theorem says_yes {v : List Dot} {i : Int} {y : Dot} (h0 : 0 ≤ i) (e : v[i.toNat]? = some y) (ok : 1 ≤ y.site ∧ y.site ≤ 16 ∧ 1 ≤ y.seq ∧ y.seq ≤ 2147483647) :
    rowOf (fun s => if s = 0 + y.site.toNat * 1 then max (says (v.take i.toNat) (0 + y.site.toNat * 1)) y.seq else says (v.take i.toNat) s) = rowOf (says (v.take (i + 1).toNat)) := by
  refine rowOf_congr fun s _ => ?_
  rw [take_snoc' h0 e, says_snoc]
  by_cases hs : y.site = s
  · have : s = 0 + y.site.toNat * 1 := by omega
    rw [if_pos this, if_pos ⟨ok, hs⟩, ← this]
  · have : ¬ s = 0 + y.site.toNat * 1 := by omega
    rw [if_neg this, if_neg (fun h => hs h.2)]
theorem says_no {v : List Dot} {i : Int} {y : Dot} (h0 : 0 ≤ i) (e : v[i.toNat]? = some y) (ok : ¬ (1 ≤ y.site ∧ y.site ≤ 16 ∧ 1 ≤ y.seq ∧ y.seq ≤ 2147483647)) :
    rowOf (says (v.take i.toNat)) = rowOf (says (v.take (i + 1).toNat)) := by
  refine rowOf_congr fun s _ => ?_
  rw [take_snoc' h0 e, says_snoc, if_neg (fun h => ok h.1)]
theorem says_all {v : List Dot} {i : Int} (h : ¬ i < v.length) : says (v.take i.toNat) = says v := by
  rw [List.take_of_length_le (by omega)]
theorem row_eq {b : Nat} {t : TypeId} {x y : List Value} (h : x = y) : ([(b, .cells x.toArray t (0, 0))] : Own) = [(b, .cells y.toArray t (0, 0))] := by rw [h]
def coversV (v u : List Dot) : Bool := (List.range 17).all fun s => max (says v s) (says u s) == says v s
def vecTo (f : Nat → Int) (n : Nat) : List Dot := (List.range n).filterMap fun s => if 0 < f s then some ⟨s, f s⟩ else none
def vecOf (f : Nat → Int) : List Dot := vecTo f 17
theorem vecTo_len (f : Nat → Int) (n : Nat) : (vecTo f n).length ≤ n := by
  have := List.length_filterMap_le (fun s : Nat => if 0 < f s then some (⟨s, f s⟩ : Dot) else none) (List.range n)
  rw [List.length_range] at this; exact this
theorem vecTo_yes {f : Nat → Int} {i : Int} (h : 0 < f i.toNat ∧ 0 ≤ i) : (vecTo f i.toNat).flatMap encDot ++ [.int .i64 i, .int .i64 (f i.toNat)] = (vecTo f (i.toNat + 1)).flatMap encDot := by
  have e : vecTo f (i.toNat + 1) = vecTo f i.toNat ++ [⟨i, f i.toNat⟩] := by
    unfold vecTo
    rw [List.range_succ, List.filterMap_append]
    have : ((i.toNat : Nat) : Int) = i := by omega
    simp [h.1, this]
  rw [e, List.flatMap_append]; rfl
theorem vecTo_no {f : Nat → Int} {i : Nat} (h : ¬ 0 < f i) : (vecTo f i).flatMap encDot = (vecTo f (i + 1)).flatMap encDot := by
  have e : vecTo f (i + 1) = vecTo f i := by
    unfold vecTo
    rw [List.range_succ, List.filterMap_append]
    simp [h]
  rw [e]
/-- Why a vector is none (0: it is one), the sites being above m. -/
def chkV (m : Int) : List Dot → Int
  | [] => 0
  | d :: r => if ¬ (1 ≤ d.site ∧ d.site ≤ 16) then 1 else if d.seq < 1 ∨ 2147483647 < d.seq then 6 else if d.site ≤ m then 9 else chkV d.site r
theorem chkV_at {v : List Dot} {i : Nat} {y : Dot} {m : Int} (e : v[i]? = some y) : chkV m (v.drop i) = if ¬ (1 ≤ y.site ∧ y.site ≤ 16) then 1 else if y.seq < 1 ∨ 2147483647 < y.seq then 6 else if y.site ≤ m then 9 else chkV y.site (v.drop (i + 1)) := by
  obtain ⟨h, rfl⟩ := List.getElem?_eq_some_iff.1 e
  rw [List.drop_eq_getElem_cons h]; rfl
theorem chkV_go {v : List Dot} {i : Nat} {y : Dot} {m : Int} (e : v[i]? = some y) (h : (1 ≤ y.site ∧ y.site ≤ 16) ∧ ¬ (y.seq < 1 ∨ 2147483647 < y.seq) ∧ ¬ y.site ≤ m) : chkV m (v.drop i) = chkV y.site (v.drop (i + 1)) := by
  rw [chkV_at e, if_neg (by simpa using h.1), if_neg h.2.1, if_neg h.2.2]
theorem chkV_1 {v : List Dot} {i : Nat} {y : Dot} {m : Int} (e : v[i]? = some y) (h : ¬ (1 ≤ y.site ∧ y.site ≤ 16)) : chkV m (v.drop i) = 1 := by rw [chkV_at e, if_pos h]
theorem chkV_6 {v : List Dot} {i : Nat} {y : Dot} {m : Int} (e : v[i]? = some y) (h : (1 ≤ y.site ∧ y.site ≤ 16) ∧ (y.seq < 1 ∨ 2147483647 < y.seq)) : chkV m (v.drop i) = 6 := by rw [chkV_at e, if_neg (by simpa using h.1), if_pos h.2]
theorem chkV_9 {v : List Dot} {i : Nat} {y : Dot} {m : Int} (e : v[i]? = some y) (h : (1 ≤ y.site ∧ y.site ≤ 16) ∧ ¬ (y.seq < 1 ∨ 2147483647 < y.seq) ∧ y.site ≤ m) : chkV m (v.drop i) = 9 := by rw [chkV_at e, if_neg (by simpa using h.1), if_neg h.2.1, if_pos h.2.2]
theorem chkV_end {v : List Dot} {i : Nat} {m : Int} (h : v.length ≤ i) : chkV m (v.drop i) = 0 := by rw [List.drop_eq_nil_of_le h]; rfl
def getV (v : List Dot) (s : Int) : Int := if 1 ≤ s ∧ s ≤ 16 then says v s.toNat else 0
theorem with_zero (v u : List Dot) : rowOf (fun s => if (s : Int) < 0 then max (says v s) (says u s) else says v s) = rowOf (says v) := rowOf_congr fun s _ => by rw [if_neg (by omega)]
theorem with_end {v u : List Dot} {i : Int} (h : 17 ≤ i) : rowOf (fun s => if (s : Int) < i then max (says v s) (says u s) else says v s) = rowOf fun s => max (says v s) (says u s) := rowOf_congr fun s _ => by rw [if_pos (by omega)]
theorem with_step {v u : List Dot} {i : Int} (h : 0 ≤ i) : rowOf (fun s => if s = 0 + i.toNat * 1 then max (if ((0 + i.toNat * 1 : Nat) : Int) < i then max (says v (0 + i.toNat * 1)) (says u (0 + i.toNat * 1)) else says v (0 + i.toNat * 1)) (says u (0 + i.toNat * 1)) else if (s : Int) < i then max (says v s) (says u s) else says v s) =
    rowOf fun s => if (s : Int) < i + 1 then max (says v s) (says u s) else says v s := by
  refine rowOf_congr fun s _ => ?_
  by_cases e : s = 0 + i.toNat * 1
  · rw [if_pos e, ← e, if_neg (by omega), if_pos (by omega)]
  · rw [if_neg e]
    by_cases e2 : (s : Int) < i
    · rw [if_pos e2, if_pos (by omega)]
    · rw [if_neg e2, if_neg (by omega)]
end Go.W
