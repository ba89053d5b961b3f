/- Lemmas for the walks of this program: The law's own functions: plain words. Walks. Written by a program of mine. Walks. Written by a program of mine. Walks. Written by a program of mine. The arguments' readings: what comes in as plain data reads as lists of dots, runs, numbers and operations; what the bound on the bulk gives. -/
import Derived.KernelRfl
import Derived.Test.YtcjnbfpkigadeaaGreatDoorRows
import Derived.OpenShut
import Derived.Lib.LaidTab
import Derived.Test.YtcjnbfpkigadeaaGreatDoorJ11
set_option linter.unusedVariables false
set_option linter.unusedSimpArgs false
/- The law's own functions: plain words. -/
namespace Go.W
open Go

/-! ### What is known -/
def rowK : List Op' := [
  { kind := 2, dot := ⟨1, 3⟩, deps := [⟨1, 2⟩], id := z0, ref := z0, text := ⟨#[]⟩, gone := [⟨⟨1, 1⟩, 1⟩], site := 0 },
  { kind := 1, dot := ⟨1, 2⟩, deps := [⟨1, 1⟩], id := ⟨1, 1⟩, ref := z0, text := ⟨#[97, 98]⟩, gone := [], site := 0 },
  { kind := 3, dot := ⟨1, 1⟩, deps := [], id := z0, ref := z0, text := ⟨#[]⟩, gone := [], site := 1 }]
theorem k_closed : closedE rowK = 0 := by kernel_rfl
theorem k_closed1 : closedE (rowK.take 1) = 20 := by kernel_rfl
theorem k_text : bytesN (shwL rowK) = [98] := by kernel_rfl
theorem k_mem : memL rowK = [1] := by kernel_rfl
theorem k_ord : (ordL rowK).length = 2 := by kernel_rfl
theorem k_nodesE : nodesE rowK [⟨1, 3⟩] = 0 := by kernel_rfl
theorem k_nodes : (nodesL rowK [⟨1, 3⟩]).map (·.state) = [3, 1] := by kernel_rfl
theorem k_upto : (uptoL [⟨1, 2⟩] rowK).length = 2 := by kernel_rfl
/-! ### Two rows are the same -/
def RIDx (_ : Mem) (vs : List Value) (d : ID) : Prop := vs = encID d
theorem mIDx : Mono RIDx := fun _ _ _ _ _ h => h
theorem ids_slx {o : Own} {e : Nat} {V : Value} {ns : List Nd} (h : OS o e 2 V (ns.flatMap fun n => encID n.id)) (hl : ns.length ≤ 100000000) : Sl (Im o) 2 RIDx V (ns.map (·.id)) := by
  have : (ns.flatMap fun n => encID n.id) = (ns.map (·.id)).flatMap encID := by rw [List.flatMap_map]
  rw [this] at h
  exact h.sl (by decide) (fun _ => rfl) (by rw [List.length_map]; omega) fun x hx => rfl
deriving instance DecidableEq for Nd
theorem eq_Nd (x y : Nd) : (((x.id.time == y.id.time) && ((x.id.site == y.id.site) && true)) && (((x.ref.time == y.ref.time) && ((x.ref.site == y.ref.site) && true)) && ((x.rune == y.rune) && ((x.state == y.state) && true)))) = decide (x = y) := by
  obtain ⟨⟨a, b⟩, ⟨c, d⟩, e, f⟩ := x; obtain ⟨⟨a', b'⟩, ⟨c', d'⟩, e', f'⟩ := y
  simp only [Bool.and_true, Nd.mk.injEq, ID.mk.injEq]
  rw [Bool.eq_iff_iff]; simp [and_assoc]
theorem same_step {α : Type} {a b : List α} {i : Int} {x y : α} (h0 : 0 ≤ i) (h : ∀ j : Nat, (j : Int) < i → a[j]? = b[j]?) (e1 : a[i.toNat]? = some x) (e2 : b[i.toNat]? = some y) (e : x = y) : ∀ j : Nat, (j : Int) < i + 1 → a[j]? = b[j]? := fun j hj => by
  by_cases q : (j : Int) < i
  · exact h j q
  · rw [show j = i.toNat by omega, e1, e2, e]
theorem same_end {α : Type} {a b : List α} {i : Int} (hl : a.length = b.length) (hi : ¬ i < a.length) (h : ∀ j : Nat, (j : Int) < i → a[j]? = b[j]?) : a = b := by
  apply List.ext_getElem?
  intro j
  by_cases q : j < a.length
  · exact h j (by omega)
  · rw [List.getElem?_eq_none (by omega), List.getElem?_eq_none (by omega)]
theorem diff_at {α : Type} {a b : List α} {i : Nat} {x y : α} (e1 : a[i]? = some x) (e2 : b[i]? = some y) (h : ¬ x = y) : ¬ a = b := fun q => by subst q; rw [e1] at e2; exact h (Option.some.inj e2)
/-! ### Another order -/
section
variable {c : Cx} {D : List Deferred} {ops : Array Oper} {K : Act → World → Prop} {rest : List Oper} {l : Env} {h : List Own}
  {ty : TypeId} {pos : String} {af : Array Edge} {g : Option (Nat × Bool)} {dst : Option Tmp}
theorem rmd {x y : Operand} {t t' : TypeId} {k : IntKind} {a b : Int} (hx : ev l x = some (.int k a)) (hy : ev l y = some (.int k b)) (hb : b ≠ 0) : OpV c ⟨dst, .binOp .rem t x y t', ty, pos, af, g⟩ l h (.int k (a.tmod b)) :=
  bi hx hy fun w => by simp [binOp, Op.intDiv, hb]
/-- s[:j] of a slice that is read. -/
theorem slK {α : Type} {M : Mem} {sz : Nat} {R : Mem → List Value → α → Prop} {V : Value} {xs : List α} {j : Nat} (hv : Sl M sz R V xs) (h0 : 0 < j) (hj : j ≤ xs.length) : ∃ V', Sl M sz R V' (xs.take j) ∧
    ∀ (c : Cx) (l : Env) (h : List Own) (dst : Option Tmp) (ty : TypeId) (pos : String) (af : Array Edge) (g : Option (Nat × Bool)) (t e' : TypeId) (gg : Bool) (z : List Value) (bb : Nat) (x i : Operand), c.P.underlying t = some (.slice e') → Ty c.P e' sz gg z bb → ev l x = some V → ev l i = some (.int .i64 (j : Int)) →
      OpV c ⟨dst, .slice t x none (some i) none, ty, pos, af, g⟩ l h V' := by
  obtain ⟨A, cp, rfl, h2, h3⟩ := hv
  obtain ⟨b, o, rfl, h4⟩ := h3 (by omega)
  refine ⟨.slice (some ⟨b, o, none⟩) j cp, ⟨_, cp, by rw [List.length_take, Nat.min_eq_left hj], by rw [List.length_take]; omega, fun _ => ⟨b, o, rfl, fun i x hx => ?_⟩⟩, ?_⟩
  · rw [List.getElem?_take] at hx
    split at hx
    · exact h4 i x hx
    · cases hx
  · intro c l h dst ty pos af g t e' gg z bb x i hu ht hx hi
    exact slH hu ht hx hi (by omega)
end
structure TurnI (M : Mem) (E : Nat) (l : List Op') (prs : List (List Value × Op')) (V : Value) (o : Own) : Prop where
  os : OS o E 11 V (prs.map (·.1)).flatten
  rows : ∀ e ∈ prs, ROp M e.1 e.2
  perm : (prs.map (·.2)).Perm l
theorem turn_len {M : Mem} {E : Nat} {l : List Op'} {prs : List (List Value × Op')} {V : Value} {o : Own} (h : TurnI M E l prs V o) : prs.length = l.length := by have := h.perm.length_eq; simpa using this
theorem row11 {M : Mem} {vs : List Value} {x : Op'} (h : ROp M vs x) : vs.length = 11 ∧ vs.all flat = true := h.flat
theorem turn_start {M : Mem} {E : Nat} {l : List Op'} {V : Value} {o : Own} {vss : List (List Value)} (h1 : vss.length = l.length) (h2 : ∀ (i : Nat) (x : Op') (vs : List Value), l[i]? = some x → vss[i]? = some vs → ROp M vs x) (hO : OS o E 11 V vss.flatten) : TurnI M E l (vss.zip l) V o := by
  have e1 : (vss.zip l).map (·.1) = vss := List.map_fst_zip (by omega)
  have e2 : (vss.zip l).map (·.2) = l := List.map_snd_zip (by omega)
  refine ⟨by rw [e1]; exact hO, fun e he => ?_, by rw [e2]⟩
  obtain ⟨i, hi⟩ := List.getElem?_of_mem he
  rw [List.getElem?_zip_eq_some] at hi
  exact h2 i _ _ hi.2 hi.1
theorem turn_pos {M : Mem} {E : Nat} {l : List Op'} {prs : List (List Value × Op')} {V : Value} {o : Own} (h : TurnI M E l prs V o) (hp : 0 < prs.length) : ∃ (k cap : Nat) (cs : List Value), o = [(k, .cells cs.toArray E (0, 0))] ∧ V = .slice (some ⟨k, 0, none⟩) l.length cap ∧ cap * 11 ≤ cs.length ∧ prs.length ≤ cap ∧ cs.take (prs.length * 11) = (prs.map (·.1)).flatten := by
  have hl : ∀ vs ∈ prs.map (·.1), vs.length = 11 := fun vs hv => by
    obtain ⟨e, he, rfl⟩ := List.mem_map.1 hv; exact (row11 (h.rows e he)).1
  have hfl := flat_len (prs.map (·.1)) 11 hl
  rw [List.length_map] at hfl
  rcases h.os with ⟨-, h2, -⟩ | ⟨k, n, cap, cs, rfl, rfl, h3, h4, h5, h6⟩
  · rw [h2] at hfl; simp at hfl; omega
  · have hn : n = prs.length := by
      have := congrArg List.length h4
      rw [hfl, List.length_take] at this
      have : n * 11 ≤ cap * 11 := Nat.mul_le_mul_right 11 h5
      omega
    subst hn
    exact ⟨k, cap, cs, rfl, by rw [turn_len h], h3, h5, h4.symm⟩
theorem row_at {prs : List (List Value × Op')} {cs : List Value} {n j : Nat} {e : List Value × Op'} (hl : ∀ e ∈ prs, e.1.length = 11) (h : cs.take (n * 11) = (prs.map (·.1)).flatten) (hn : n = prs.length) (he : prs[j]? = some e) : (cs.drop (j * 11)).take 11 = e.1 := by
  have hj := (List.getElem?_eq_some_iff.1 he).1
  have hl2 : ∀ vs ∈ prs.map (·.1), vs.length = 11 := fun vs hv => by obtain ⟨e, he, rfl⟩ := List.mem_map.1 hv; exact hl e he
  apply List.ext_getElem?
  intro i
  by_cases hi : i < 11
  · have hi2 : i < e.1.length := by rw [hl e (List.mem_of_getElem? he)]; exact hi
    have := flat_get (prs.map (·.1)) 11 j e.1 hl2 (by rw [List.getElem?_map, he]; rfl) i _ (List.getElem?_eq_getElem hi2)
    rw [← h, List.getElem?_take] at this
    split at this
    · rw [List.getElem?_take, if_pos hi, List.getElem?_drop, this, List.getElem?_eq_getElem hi2]
    · cases this
  · rw [List.getElem?_eq_none (by rw [List.length_take]; omega), List.getElem?_eq_none (by rw [hl e (List.mem_of_getElem? he)]; omega)]
theorem row_set {prs : List (List Value × Op')} {cs : List Value} {n j : Nat} {e : List Value × Op'} (hl : ∀ e ∈ prs, e.1.length = 11) (h : cs.take (n * 11) = (prs.map (·.1)).flatten) (hn : n = prs.length) (hc : n * 11 ≤ cs.length) (hj : j < n) (he : e.1.length = 11) :
    (setL cs (j * 11) e.1).take (n * 11) = ((prs.set j e).map (·.1)).flatten := by
  have hl2 : ∀ vs ∈ (prs.set j e).map (·.1), vs.length = 11 := fun vs hv => by
    obtain ⟨x, hx, rfl⟩ := List.mem_map.1 hv
    rcases List.mem_or_eq_of_mem_set hx with hx | hx
    · exact hl x hx
    · rw [hx]; exact he
  have hl1 : ∀ vs ∈ prs.map (·.1), vs.length = 11 := fun vs hv => by obtain ⟨e, he, rfl⟩ := List.mem_map.1 hv; exact hl e he
  have hj11 : j * 11 + 11 ≤ n * 11 := by omega
  rw [setL_at (by rw [he]; omega), he]
  have f1 := flat_len _ 11 hl2
  rw [List.length_map, List.length_set] at f1
  apply List.ext_getElem?
  intro i
  by_cases hi : i < n * 11
  · rw [List.getElem?_take, if_pos hi]
    have hq : i / 11 < prs.length := by omega
    have hr : i % 11 < 11 := by omega
    by_cases hij : i / 11 = j
    · have g1 := flat_get ((prs.set j e).map (·.1)) 11 j e.1 hl2 (by rw [List.getElem?_map, List.getElem?_set, if_pos rfl, if_pos (by omega)]; rfl) (i % 11) _ (List.getElem?_eq_getElem (by omega))
      rw [show j * 11 + i % 11 = i by omega] at g1
      rw [g1, List.append_assoc, List.getElem?_append_right (by rw [List.length_take]; omega), List.length_take, Nat.min_eq_left (by omega), List.getElem?_append_left (by omega), show i - j * 11 = i % 11 by omega, List.getElem?_eq_getElem (by omega)]
    · have g1 := flat_get ((prs.set j e).map (·.1)) 11 (i / 11) (prs[i / 11]).1 hl2 (by rw [List.getElem?_map, List.getElem?_set, if_neg (by omega), List.getElem?_eq_getElem hq]; rfl) (i % 11) _ (List.getElem?_eq_getElem (by rw [hl _ (List.getElem_mem hq)]; omega))
      have g2 := flat_get (prs.map (·.1)) 11 (i / 11) (prs[i / 11]).1 hl1 (by rw [List.getElem?_map, List.getElem?_eq_getElem hq]; rfl) (i % 11) _ (List.getElem?_eq_getElem (by rw [hl _ (List.getElem_mem hq)]; omega))
      rw [show i / 11 * 11 + i % 11 = i by omega] at g1 g2
      rw [g1]
      rw [← h, List.getElem?_take, if_pos hi] at g2
      by_cases hlt : i < j * 11
      · rw [List.append_assoc, List.getElem?_append_left (by rw [List.length_take]; omega), List.getElem?_take, if_pos hlt, g2]
      · rw [List.getElem?_append_right (by simp only [List.length_append, List.length_take, he]; omega), List.getElem?_drop]
        simp only [List.length_append, List.length_take, he]
        rw [show j * 11 + 11 + (i - (min (j * 11) cs.length + 11)) = i by omega, g2]
  · rw [List.getElem?_eq_none (by simp only [List.length_take]; omega), List.getElem?_eq_none (by rw [f1]; omega)]
theorem turn_swap {M : Mem} {E : Nat} {l : List Op'} {prs : List (List Value × Op')} {k cap j : Nat} {cs : List Value} {e0 ek : List Value × Op'} (h : TurnI M E l prs (.slice (some ⟨k, 0, none⟩) l.length cap) [(k, .cells cs.toArray E (0, 0))]) (h3 : cap * 11 ≤ cs.length) (h5 : prs.length ≤ cap) (h4 : cs.take (prs.length * 11) = (prs.map (·.1)).flatten)
    (he0 : prs[0]? = some e0) (hek : prs[j]? = some ek) : TurnI M E l ((prs.set 0 ek).set j e0) (.slice (some ⟨k, 0, none⟩) l.length cap) [(k, .cells (setL (setL cs 0 ek.1) (j * 11) e0.1).toArray E (0, 0))] := by
  have hl : ∀ e ∈ prs, e.1.length = 11 := fun e he => (row11 (h.rows e he)).1
  have hj := (List.getElem?_eq_some_iff.1 hek).1
  have m0 := List.mem_of_getElem? he0
  have mk := List.mem_of_getElem? hek
  have hc : prs.length * 11 ≤ cs.length := by have : prs.length * 11 ≤ cap * 11 := Nat.mul_le_mul_right 11 h5; omega
  have hsub : ∀ e ∈ (prs.set 0 ek).set j e0, e ∈ prs := fun e he => by
    rcases List.mem_or_eq_of_mem_set he with he | rfl
    · rcases List.mem_or_eq_of_mem_set he with he | rfl
      · exact he
      · exact mk
    · exact m0
  have s1 := row_set hl h4 rfl hc (j := 0) (by omega) (hl ek mk)
  rw [Nat.zero_mul] at s1
  have hl1 : ∀ e ∈ prs.set 0 ek, e.1.length = 11 := fun e he => by
    rcases List.mem_or_eq_of_mem_set he with he | rfl
    · exact hl e he
    · exact hl _ mk
  have s2 := row_set hl1 s1 (by rw [List.length_set]) (by rw [setL_length]; exact hc) (j := j) hj (hl e0 m0)
  refine ⟨.inr ⟨k, prs.length, cap, _, by rw [turn_len h], rfl, by rw [setL_length, setL_length]; exact h3, s2.symm, h5, ?_⟩, fun e he => h.rows e (hsub e he), ?_⟩
  · refine flat_rows fun vs hv => ?_
    obtain ⟨e, he, rfl⟩ := List.mem_map.1 hv
    exact (row11 (h.rows e (hsub e he))).2
  · refine List.Perm.trans (List.Perm.map _ ?_) h.perm
    obtain ⟨l0, e0'⟩ := List.getElem?_eq_some_iff.1 he0
    obtain ⟨lk, ek'⟩ := List.getElem?_eq_some_iff.1 hek
    rw [← e0', ← ek']
    exact List.set_set_perm l0 lk
theorem turn_end {M : Mem} {E : Nat} {l : List Op'} {prs : List (List Value × Op')} {V : Value} {o : Own} (h : TurnI M E l prs V o) (hb : l.length ≤ 100000) : ∃ m : List Op', m.Perm l ∧ Sl (MO M o) 11 ROp V m := by
  refine ⟨prs.map (·.2), h.perm, ?_⟩
  have hl : ∀ e ∈ prs, e.1.length = 11 := fun e he => (row11 (h.rows e he)).1
  have hpl := turn_len h
  by_cases hp : 0 < prs.length
  · obtain ⟨k, cap, cs, rfl, rfl, h3, h5, h4⟩ := turn_pos h hp
    refine ⟨_, cap, by rw [List.length_map, hpl], by rw [List.length_map]; omega, fun _ => ⟨k, 0, rfl, fun i x hx => ?_⟩⟩
    rw [List.getElem?_map] at hx
    cases he : prs[i]? with
    | none => rw [he] at hx; cases hx
    | some e =>
      rw [he] at hx; cases hx
      refine ⟨e.1, ⟨rfl, cs.toArray, E, (0, 0), .inr (by simp), fun j v hv => ?_⟩, hl e (List.mem_of_getElem? he), mOp _ _ _ _ (fun _ _ q => .inl q) (h.rows e (List.mem_of_getElem? he))⟩
      have := row_at hl h4 rfl he
      rw [← this, List.getElem?_take] at hv
      split at hv
      · rw [List.getElem?_drop] at hv
        rw [Nat.zero_add]
        simpa using hv
      · cases hv
  · have : prs = [] := List.eq_nil_of_length_eq_zero (by omega)
    subst this
    rcases h.os with ⟨rfl, -, -⟩ | ⟨k, n, cap, cs, rfl, rfl, h3, h4, h5, h6⟩
    · exact Sl.nil
    · have hn : n = 0 := by
        have := congrArg List.length h4
        simp only [List.map_nil, List.flatten_nil, List.length_nil, List.length_take] at this
        have : n * 11 ≤ cap * 11 := Nat.mul_le_mul_right 11 h5
        omega
      subst hn
      exact ⟨_, cap, rfl, by simp, fun q => by simp at q⟩
theorem tmod_bd {a b : Int} (h : 0 < b) : -b < a.tmod b ∧ a.tmod b < b := by
  have h1 := Int.tmod_lt_of_pos a h
  refine ⟨?_, h1⟩
  have h2 := Int.tmod_lt_of_pos (-a) h
  rw [Int.neg_tmod] at h2
  omega
theorem k_T : ∀ o ∈ rowK, o.text.size ≤ 100000 := by
  intro o ho
  simp only [rowK, List.mem_cons, List.not_mem_nil, or_false] at ho
  rcases ho with rfl | rfl | rfl <;> decide
theorem k_B : ∀ o ∈ rowK, o.deps.length ≤ 1000000 ∧ o.gone.length ≤ 1000000 := by
  intro o ho
  simp only [rowK, List.mem_cons, List.not_mem_nil, or_false] at ho
  rcases ho with rfl | rfl | rfl <;> exact ⟨by simp, by simp⟩
theorem memL_len (v : List Op') : (memL v).length ≤ 1000 := by
  unfold memL
  split
  · have := bitsOf_len (andNot (rollOf (rowL v)).1 (rollOf (rowL v)).2)
    unfold membersL; omega
  · simp
theorem turn_form {M : Mem} {E : Nat} {l : List Op'} {prs : List (List Value × Op')} {V : Value} {o : Own} (h : TurnI M E l prs V o) : ∃ A cp, V = .slice A l.length cp := by
  by_cases hp : 0 < prs.length
  · obtain ⟨k, cap, cs, -, h2, -⟩ := turn_pos h hp; exact ⟨_, _, h2⟩
  · have : prs = [] := List.eq_nil_of_length_eq_zero (by omega)
    subst this
    have hl0 : l.length = 0 := (turn_len h).symm
    rw [hl0]
    rcases h.os with ⟨rfl, -, -⟩ | ⟨k, n, cap, cs, rfl, rfl, h3, h4, h5, h6⟩
    · exact ⟨_, _, rfl⟩
    · have hn : n = 0 := by
        have := congrArg List.length h4
        simp only [List.map_nil, List.flatten_nil, List.length_nil, List.length_take] at this
        have : n * 11 ≤ cap * 11 := Nat.mul_le_mul_right 11 h5
        omega
      subst hn
      exact ⟨_, _, rfl⟩
theorem k_state {y : Nd} (h : (nodesL rowK [⟨1, 3⟩])[(0 : Int).toNat]? = some y) : y.state = 3 := by
  have h1 := congrArg (fun l : List Int => l[0]?) k_nodes
  simp only [List.getElem?_map] at h1
  have h2 : (nodesL rowK [⟨1, 3⟩])[0]? = some y := h
  rw [h2] at h1
  simpa using h1
theorem one_sl {α : Type} {R : Mem → List Value → α → Prop} {b T sz : Nat} {cs : List Value} {x : α} (hl : cs.length = sz) (hR : R (Im [(b, .cells cs.toArray T (0, 0))]) cs x) : Sl (Im [(b, .cells cs.toArray T (0, 0))]) sz R (.slice (some ⟨b, 0, none⟩) 1 1) [x] := by
  refine ⟨_, 1, rfl, by simp, fun _ => ⟨b, 0, rfl, fun i y hy => ?_⟩⟩
  match i with
  | 0 =>
    cases hy
    exact ⟨cs, by rw [Nat.zero_mul]; exact cellsI, hl, hR⟩
  | i + 1 => simp at hy
theorem dot1_sl (b T : Nat) {x y : Int} (hx : -9223372036854775808 ≤ x ∧ x ≤ 9223372036854775807) (hy : -9223372036854775808 ≤ y ∧ y ≤ 9223372036854775807) : Sl (Im [(b, .cells (List.toArray [.int .i64 x, .int .i64 y]) T (0, 0))]) 2 RDot (.slice (some ⟨b, 0, none⟩) 1 1) [⟨x, y⟩] :=
  one_sl rfl ⟨rfl, hx, hy⟩
theorem run1_sl (b T : Nat) {x y z : Int} (hx : -9223372036854775808 ≤ x ∧ x ≤ 9223372036854775807) (hy : -9223372036854775808 ≤ y ∧ y ≤ 9223372036854775807) (hz : -9223372036854775808 ≤ z ∧ z ≤ 9223372036854775807) : Sl (Im [(b, .cells (List.toArray [.int .i64 x, .int .i64 y, .int .i64 z]) T (0, 0))]) 3 RRun (.slice (some ⟨b, 0, none⟩) 1 1) [⟨⟨x, y⟩, z⟩] :=
  one_sl rfl ⟨rfl, hx, hy, hz⟩
theorem int1_sl (b T : Nat) (x : Int) : Sl (Im [(b, .cells (List.toArray [.int .i64 x]) T (0, 0))]) 1 RInt (.slice (some ⟨b, 0, none⟩) 1 1) [x] := one_sl rfl rfl
/-! ### A slice whose elements are all given -/
def idxP : Nat → List (List Value) → List (Nat × List Value)
  | _, [] => []
  | k, v :: r => (k, v) :: idxP (k + 1) r
theorem fills_go {n : Nat} : ∀ (vss : List (List Value)) (k : Nat) (pre zs : List Value), (∀ vs ∈ vss, vs.length = n) → pre.length = k * n → zs.length = vss.length * n → fills (fun i => some (i * n, n)) (pre ++ zs) (idxP k vss) = some (pre ++ vss.flatten) := by
  intro vss
  induction vss with
  | nil => intro k pre zs _ _ hz; have : zs = [] := List.eq_nil_of_length_eq_zero (by simpa using hz); subst this; simp [idxP, fills]
  | cons v r ih =>
    intro k pre zs hl hp hz
    have hv : v.length = n := hl v (by simp)
    rw [List.length_cons, Nat.succ_mul] at hz
    rw [idxP, fills]
    simp only
    rw [if_pos ⟨hv, by rw [List.length_append]; omega⟩]
    have e : pre ++ zs = pre ++ (zs.take n ++ zs.drop n) := by rw [List.take_append_drop]
    have h1 := setL_whole v (zs.take n) pre (zs.drop n) (by rw [List.length_take, hv]; omega)
    rw [e, ← hp, h1, ← List.append_assoc, ih (k + 1) (pre ++ v) (zs.drop n) (fun x hx => hl x (by simp [hx])) (by rw [List.length_append, hp, hv, Nat.succ_mul]) (by rw [List.length_drop]; omega)]
    simp
section
variable {c : Cx} {D : List Deferred} {ops : Array Oper} {K : Act → World → Prop} {rest : List Oper} {l : Env} {h : List Own} {ty : TypeId} {pos : String} {af : Array Edge} {d : Nat}
theorem bsF {t e' : TypeId} {n len b : Nat} {gg : Bool} {z : List Value} {parts : List (Nat × Operand)} (vss : List (List Value)) (hu : c.P.underlying t = some (.slice e')) (ht : Ty c.P e' n gg z b) (hz : (val gg z).cells = z.toArray)
    (hl : Nat.ble (len * n) 16777216 = true) (hzl : Nat.blt 0 z.length = true) (hlen : vss.length = len) (hvl : ∀ vs ∈ vss, vs.length = n) (hx : Parts l parts (idxP 0 vss))
    (hd : Nat.blt d c.N = true) (k : ∀ b, GL c D ops K rest ((d, .slice (some ⟨b, 0, none⟩) len len) :: l) ([(b, .cells vss.flatten.toArray e' (0, 0))] :: h)) : GL c D ops K (⟨some d, .buildSlice t len parts.toArray, ty, pos, af, none⟩ :: rest) l h :=
  bs ((List.range (len * n)).map (fun i => z.getD (i % z.length) undef)) (idxP 0 vss) hu ht hz hl rfl hzl hx (by
    have := fills_go vss 0 [] ((List.range (len * n)).map (fun i => z.getD (i % z.length) undef)) hvl (by simp) (by simp [hlen])
    simpa using this) hd k
end
end Go.W
/- Walks. Written by a program of mine. -/
namespace Go.W
open Go Go.Proofs.Tryz
theorem eqNd (x y : Nd) (w : World) : (Op.equalIn 10000 84 (.agg (List.toArray (encNd x))) (.agg (List.toArray (encNd y)))).run prog w = .ok (decide (x = y)) w := (E84 9997 _ _ _ _ _ _ _ _ _ _ _ _ w).trans (by rw [← eq_Nd])

set_option maxRecDepth 20000 in
theorem much_c {M : Mem} {w : World} {V W : Value} {v : List Op'} {u : List Dot} (hM : RO M [] w) (hv : Sl M 11 ROp V v) (hu : Sl M 2 RDot W u) : FnC prog 9 [V, W] w [] (fun x _ => ∃ b, x = .bool b ∧ (b = false → v.length ≤ 60 ∧ u.length ≤ 20000 ∧ ∀ o ∈ v, o.text.size ≤ 20000 ∧ o.deps.length ≤ 20000 ∧ o.gone.length ≤ 20000)) := by
  refine enter (code := _) func9 rfl 71 rfl rfl hM [] rfl [(0, _), (1, _)] ⟨rfl, rfl, trivial⟩ ?_
  have l_hv := hv.bound
  have l_hu := hu.bound
  refine sq ?_
  refine rg ?_
  refine st (asg rfl) rfl ?_
  refine nl ?_
  refine nS ?_
  refine sq ?_
  refine sq ?_
  refine rg ?_
  refine st (mv rfl) rfl ?_
  refine st (lnS U22 hv rfl) rfl ?_
  refine st (gt rfl rfl) rfl ?_
  refine st (mv rfl) rfl ?_
  refine spl (fun hb => ?_) (fun hb => ?_)
  · have h10 := (of_decide_eq_true hb)
    clear hb
    refine gF rfl rfl rfl rfl ?_
    refine gF rfl rfl rfl rfl ?_
    refine gF rfl rfl rfl rfl ?_
    refine st (pkT rfl rfl) rfl ?_
    refine nl ?_
    refine nS ?_
    refine cdT rfl ?_
    refine sq ?_
    refine rg ?_
    refine st (asg rfl) rfl ?_
    refine nl ?_
    refine nS ?_
    refine rt ?_
    refine rS ?_
    exact ret1 rfl rfl ⟨_, rfl, fun h => by cases h⟩ o0
  · have h10 := (of_decide_eq_false hb)
    clear hb
    refine gT rfl rfl ?_
    refine st (mv rfl) rfl ?_
    refine gT rfl rfl ?_
    refine st (lnS U24 hu rfl) rfl ?_
    refine gT rfl rfl ?_
    refine st (gt rfl rfl) rfl ?_
    refine st (pkF rfl rfl) rfl ?_
    refine nl ?_
    refine nS ?_
    refine cd rfl (fun hb => ?_) (fun hb => ?_)
    · have h14 := (of_decide_eq_true hb)
      clear hb
      refine sq ?_
      refine rg ?_
      refine st (asg rfl) rfl ?_
      refine nl ?_
      refine nS ?_
      refine rt ?_
      refine rS ?_
      exact ret1 rfl rfl ⟨_, rfl, fun h => by cases h⟩ o0
    · have h14 := (of_decide_eq_false hb)
      clear hb
      refine sk ?_
      refine nS ?_
      refine sq ?_
      refine rg ?_
      refine st (asg rfl) rfl ?_
      refine nl ?_
      refine nS ?_
      refine sq ?_
      refine sq ?_
      refine rg ?_
      refine st (asg rfl) rfl ?_
      refine nl ?_
      refine nS ?_
      refine bk ?_
      refine lpc2 (fun (i : Int) (n : Int) C => (6, .int .i64 i) :: (5, .int .i64 n) :: C) [(0, _)] (fun (i : Int) (n : Int) H => H) [] (fun (i : Int) (n : Int) => (0 ≤ i ∧ i ≤ v.length ∧ 0 ≤ n ∧ n ≤ i * 300000) ∧ ∀ o ∈ (v.take i.toNat), o.text.size ≤ 20000 ∧ o.deps.length ≤ 20000 ∧ o.gone.length ≤ 20000) (fun (i : Int) (n : Int) => ((v.length : Int) - i).toNat) 0 0 ?_ ⟨rfl, rfl, rfl, trivial⟩ hid ?_
      · exact ⟨⟨by omega, by omega, by omega, by omega⟩, by simp⟩
      intro i n hj
      obtain ⟨⟨j0, j1, jn0, jn1⟩, j2⟩ := hj
      refine sq ?_
      refine sq ?_
      refine rg ?_
      refine st (mv rfl) rfl ?_
      refine st (mv rfl) rfl ?_
      refine st (lnS U22 hv rfl) rfl ?_
      refine st (lt rfl rfl) rfl ?_
      refine nl ?_
      refine nS ?_
      refine cd rfl (fun hb => ?_) (fun hb => ?_)
      · have h18 := (of_decide_eq_true hb)
        clear hb
        refine sk ?_
        refine nS ?_
        refine sq ?_
        refine bk ?_
        refine sq ?_
        refine sq ?_
        refine rg ?_
        refine st (mv rfl) rfl ?_
        refine st (mv rfl) rfl ?_
        refine iaS U22 T62 hv rfl rfl (by omega) (by omega) rfl ?_; intro b7_2 p7_2 y7_2 u7_2 e7_2 c7_2 n7_2 q7_2
        obtain ⟨D7_2, G7_2, rfl, qd7_2, qg7_2, qo7_2⟩ := q7_2
        clear n7_2
        refine st (fa (o3 := p7_2 + 8) F62_5 rfl rfl) rfl ?_
        refine st (lm1 8 T9 c7_2 Hm.m rfl rfl rfl) rfl ?_
        refine st (lns U9 rfl) rfl ?_
        refine st (gt rfl rfl) rfl ?_
        refine st (mv rfl) rfl ?_
        refine spl (fun hb => ?_) (fun hb => ?_)
        · have h28 := (of_decide_eq_true hb)
          clear hb
          refine gF rfl rfl rfl rfl ?_
          refine gF rfl rfl rfl rfl ?_
          refine gF rfl rfl rfl rfl ?_
          refine gF rfl rfl rfl rfl ?_
          refine gF rfl rfl rfl rfl ?_
          refine gF rfl rfl rfl rfl ?_
          refine gF rfl rfl rfl rfl ?_
          refine st (pkT rfl rfl) rfl ?_
          refine st (mv rfl) rfl ?_
          refine gF rfl rfl rfl rfl ?_
          refine gF rfl rfl rfl rfl ?_
          refine gF rfl rfl rfl rfl ?_
          refine gF rfl rfl rfl rfl ?_
          refine gF rfl rfl rfl rfl ?_
          refine gF rfl rfl rfl rfl ?_
          refine gF rfl rfl rfl rfl ?_
          refine st (pkT rfl rfl) rfl ?_
          refine nl ?_
          refine nS ?_
          refine cdT rfl ?_
          refine sq ?_
          refine rg ?_
          refine st (asg rfl) rfl ?_
          refine nl ?_
          refine nS ?_
          refine rt ?_
          refine rS ?_
          refine rB ?_
          refine rS ?_
          refine rS ?_
          refine rB ?_
          refine rS ?_
          exact ret1 rfl rfl ⟨_, rfl, fun h => by cases h⟩ o0
        · have h28 := (of_decide_eq_false hb)
          clear hb
          refine gT rfl rfl ?_
          refine st (mv rfl) rfl ?_
          refine gT rfl rfl ?_
          refine st (mv rfl) rfl ?_
          refine gT rfl rfl ?_
          refine iaS U22 T62 hv rfl rfl (by omega) (by omega) rfl ?_; intro b7_10 p7_10 y7_10 u7_10 e7_10 c7_10 n7_10 q7_10
          obtain ⟨D7_10, G7_10, rfl, qd7_10, qg7_10, qo7_10⟩ := q7_10
          clear n7_10
          refine gT rfl rfl ?_
          refine st (fa (o3 := p7_10 + 2) F62_1 rfl rfl) rfl ?_
          refine gT rfl rfl ?_
          refine st (lm1 2 T24 c7_10 Hm.m rfl rfl rfl) rfl ?_
          refine gT rfl rfl ?_
          refine st (lnS U24 qd7_10 rfl) rfl ?_
          refine gT rfl rfl ?_
          refine st (gt rfl rfl) rfl ?_
          refine st (pkF rfl rfl) rfl ?_
          refine st (mv rfl) rfl ?_
          refine spl (fun hb => ?_) (fun hb => ?_)
          · have h37 := (of_decide_eq_true hb)
            clear hb
            refine gF rfl rfl rfl rfl ?_
            refine gF rfl rfl rfl rfl ?_
            refine gF rfl rfl rfl rfl ?_
            refine gF rfl rfl rfl rfl ?_
            refine gF rfl rfl rfl rfl ?_
            refine gF rfl rfl rfl rfl ?_
            refine gF rfl rfl rfl rfl ?_
            refine st (pkT rfl rfl) rfl ?_
            refine nl ?_
            refine nS ?_
            refine cdT rfl ?_
            refine sq ?_
            refine rg ?_
            refine st (asg rfl) rfl ?_
            refine nl ?_
            refine nS ?_
            refine rt ?_
            refine rS ?_
            refine rB ?_
            refine rS ?_
            refine rS ?_
            refine rB ?_
            refine rS ?_
            exact ret1 rfl rfl ⟨_, rfl, fun h => by cases h⟩ o0
          · have h37 := (of_decide_eq_false hb)
            clear hb
            refine gT rfl rfl ?_
            refine st (mv rfl) rfl ?_
            refine gT rfl rfl ?_
            refine st (mv rfl) rfl ?_
            refine gT rfl rfl ?_
            refine iaS U22 T62 hv rfl rfl (by omega) (by omega) rfl ?_; intro b7_19 p7_19 y7_19 u7_19 e7_19 c7_19 n7_19 q7_19
            obtain ⟨D7_19, G7_19, rfl, qd7_19, qg7_19, qo7_19⟩ := q7_19
            clear n7_19
            refine gT rfl rfl ?_
            refine st (fa (o3 := p7_19 + 9) F62_6 rfl rfl) rfl ?_
            refine gT rfl rfl ?_
            refine st (lm1 9 T60 c7_19 Hm.m rfl rfl rfl) rfl ?_
            refine gT rfl rfl ?_
            refine st (lnS U60 qg7_19 rfl) rfl ?_
            refine gT rfl rfl ?_
            refine st (gt rfl rfl) rfl ?_
            refine st (pkF rfl rfl) rfl ?_
            refine nl ?_
            refine nS ?_
            refine cd rfl (fun hb => ?_) (fun hb => ?_)
            · have h45 := (of_decide_eq_true hb)
              clear hb
              refine sq ?_
              refine rg ?_
              refine st (asg rfl) rfl ?_
              refine nl ?_
              refine nS ?_
              refine rt ?_
              refine rS ?_
              refine rB ?_
              refine rS ?_
              refine rS ?_
              refine rB ?_
              refine rS ?_
              exact ret1 rfl rfl ⟨_, rfl, fun h => by cases h⟩ o0
            · have h45 := (of_decide_eq_false hb)
              clear hb
              refine sk ?_
              refine nS ?_
              refine rgd rfl [0, 1, 2, 3, 4, 5, 6, 7, 8, 9, 10, 11, 12, 13, 14, 15, 16, 17, 18, 19, 20, 21, 22, 23] [] [] [] (by kernel_rfl) ?_
              have z7_10 : y7_10 = y7_2 := Option.some.inj (e7_10.symm.trans e7_2)
              have z7_19 : y7_19 = y7_2 := Option.some.inj (e7_19.symm.trans e7_2)
              have hbd : y7_2.text.size ≤ 20000 ∧ y7_2.deps.length ≤ 20000 ∧ y7_2.gone.length ≤ 20000 := ⟨by omega, by rw [← z7_10]; omega, by rw [← z7_19]; omega⟩
              refine dst rfl rfl (mv rfl) rfl ?_
              refine dst rfl rfl (mv rfl) rfl ?_
              refine dst rfl rfl (mv rfl) rfl ?_
              refine diaS rfl rfl U22 T62 hv rfl rfl (by omega) (by omega) rfl ?_; intro b9_3 p9_3 y9_3 u9_3 e9_3 c9_3 n9_3 q9_3
              obtain ⟨D9_3, G9_3, rfl, qd9_3, qg9_3, qo9_3⟩ := q9_3
              clear n9_3
              have z9_3 : y9_3 = y7_2 := Option.some.inj (e9_3.symm.trans e7_2)
              have zb9_3 : y9_3.text.size ≤ 20000 ∧ y9_3.deps.length ≤ 20000 ∧ y9_3.gone.length ≤ 20000 := by rw [z9_3]; exact hbd
              refine dst rfl rfl (fa (o3 := p9_3 + 8) F62_5 rfl rfl) rfl ?_
              refine dst rfl rfl (lm1 8 T9 c9_3 Hm.m rfl rfl rfl) rfl ?_
              refine dst rfl rfl (lns U9 rfl) rfl ?_
              refine dst rfl rfl (ad rfl rfl (by omega)) rfl ?_
              refine dst rfl rfl (mv rfl) rfl ?_
              refine dst rfl rfl (mv rfl) rfl ?_
              refine diaS rfl rfl U22 T62 hv rfl rfl (by omega) (by omega) rfl ?_; intro b9_10 p9_10 y9_10 u9_10 e9_10 c9_10 n9_10 q9_10
              obtain ⟨D9_10, G9_10, rfl, qd9_10, qg9_10, qo9_10⟩ := q9_10
              clear n9_10
              have z9_10 : y9_10 = y7_2 := Option.some.inj (e9_10.symm.trans e7_2)
              have zb9_10 : y9_10.text.size ≤ 20000 ∧ y9_10.deps.length ≤ 20000 ∧ y9_10.gone.length ≤ 20000 := by rw [z9_10]; exact hbd
              refine dst rfl rfl (fa (o3 := p9_10 + 2) F62_1 rfl rfl) rfl ?_
              refine dst rfl rfl (lm1 2 T24 c9_10 Hm.m rfl rfl rfl) rfl ?_
              refine dst rfl rfl (lnS U24 qd9_10 rfl) rfl ?_
              refine dst rfl rfl (ad rfl rfl (by omega)) rfl ?_
              refine dst rfl rfl (mv rfl) rfl ?_
              refine dst rfl rfl (mv rfl) rfl ?_
              refine diaS rfl rfl U22 T62 hv rfl rfl (by omega) (by omega) rfl ?_; intro b9_17 p9_17 y9_17 u9_17 e9_17 c9_17 n9_17 q9_17
              obtain ⟨D9_17, G9_17, rfl, qd9_17, qg9_17, qo9_17⟩ := q9_17
              clear n9_17
              have z9_17 : y9_17 = y7_2 := Option.some.inj (e9_17.symm.trans e7_2)
              have zb9_17 : y9_17.text.size ≤ 20000 ∧ y9_17.deps.length ≤ 20000 ∧ y9_17.gone.length ≤ 20000 := by rw [z9_17]; exact hbd
              refine dst rfl rfl (fa (o3 := p9_17 + 9) F62_6 rfl rfl) rfl ?_
              refine dst rfl rfl (lm1 9 T60 c9_17 Hm.m rfl rfl rfl) rfl ?_
              refine dst rfl rfl (lnS U60 qg9_17 rfl) rfl ?_
              refine dst rfl rfl (ml rfl rfl (by omega)) rfl ?_
              refine dst rfl rfl (ad rfl rfl (by omega)) rfl ?_
              refine dst rfl rfl (asg rfl) rfl ?_
              refine dend rfl ?_
              refine nl ?_
              refine nB ?_
              refine nS ?_
              refine rg ?_
              refine st (mv rfl) rfl ?_
              refine st (ad rfl rfl (by omega)) rfl ?_
              refine st (asg rfl) rfl ?_
              refine nl ?_
              exact le2 (i + 1) _ ⟨⟨⟨by omega, by omega, by omega, by omega⟩, forall_take j0 e7_2 j2 hbd⟩, by omega⟩ ⟨rfl, rfl, rfl, trivial⟩ hid
      · have h18 := (of_decide_eq_false hb)
        clear hb
        refine xt ?_
        refine xS ?_
        refine xS ?_
        refine xB ?_
        refine nS ?_
        refine sq ?_
        refine rg ?_
        refine st (mv rfl) rfl ?_
        refine st (gt rfl rfl) rfl ?_
        refine st (asg rfl) rfl ?_
        refine nl ?_
        refine nS ?_
        refine rt ?_
        exact ret1 rfl rfl ⟨_, rfl, fun h => ⟨by omega, by omega, by rw [take_all h18] at j2; exact j2⟩⟩ o0

set_option maxRecDepth 20000 in
theorem Lids_c {M : Mem} {w : World} {V W : Value} {a b : List ID} (hM : RO M [] w) (ha : Sl M 2 RIDx V a) (hb : Sl M 2 RIDx W b) : FnC prog 21 [V, W] w [] (fun u _ => u = .bool (decide (a = b))) := by
  refine enter (code := _) func21 rfl 26 rfl rfl hM [] rfl [(0, _), (1, _)] ⟨rfl, rfl, trivial⟩ ?_
  have l_ha := ha.bound
  have l_hb := hb.bound
  refine sq ?_
  refine rg ?_
  refine st (asg rfl) rfl ?_
  refine nl ?_
  refine nS ?_
  refine sq ?_
  refine sq ?_
  refine rg ?_
  refine st (mv rfl) rfl ?_
  refine st (lnS U39 ha rfl) rfl ?_
  refine st (mv rfl) rfl ?_
  refine st (lnS U39 hb rfl) rfl ?_
  refine st (ne rfl rfl) rfl ?_
  refine nl ?_
  refine nS ?_
  refine cd rfl (fun hb => ?_) (fun hb => ?_)
  · have h10 := (ne_of_bneT hb)
    clear hb
    refine sq ?_
    refine rg ?_
    refine st (asg rfl) rfl ?_
    refine nl ?_
    refine nS ?_
    refine rt ?_
    refine rS ?_
    exact ret1 rfl rfl (by show Value.bool _ = _; rw [decide_eq_false (fun q => h10 (by rw [q]))]) o0
  · have h10 := (eq_of_bneF hb)
    clear hb
    refine sk ?_
    refine nS ?_
    refine sq ?_
    refine sq ?_
    refine rg ?_
    refine st (asg rfl) rfl ?_
    refine nl ?_
    refine nS ?_
    refine bk ?_
    refine lpc1 (fun (i : Int) C => (5, .int .i64 i) :: C) [(0, _), (1, _)] (fun (i : Int) H => H) [] (fun (i : Int) => 0 ≤ i ∧ i ≤ a.length ∧ ∀ j : Nat, (j : Int) < i → a[j]? = b[j]?) (fun (i : Int) => ((a.length : Int) - i).toNat) 0 ?_ ⟨rfl, rfl, rfl, trivial⟩ hid ?_
    · exact ⟨by omega, by omega, fun j h => by omega⟩
    intro i hj
    obtain ⟨j0, j1, j2⟩ := hj
    refine sq ?_
    refine sq ?_
    refine rg ?_
    refine st (mv rfl) rfl ?_
    refine st (mv rfl) rfl ?_
    refine st (lnS U39 ha rfl) rfl ?_
    refine st (lt rfl rfl) rfl ?_
    refine nl ?_
    refine nS ?_
    refine cd rfl (fun hb => ?_) (fun hb => ?_)
    · have h14 := (of_decide_eq_true hb)
      clear hb
      refine sk ?_
      refine nS ?_
      refine sq ?_
      refine bk ?_
      refine sq ?_
      refine rgd rfl [0, 1, 2, 3, 4, 5, 6, 7, 8] [] [] [] (by kernel_rfl) ?_
      refine dst rfl rfl (mv rfl) rfl ?_
      refine dst rfl rfl (mv rfl) rfl ?_
      refine diaS rfl rfl U39 T59 ha rfl rfl (by omega) (by omega) rfl ?_; intro b6_2 p6_2 y6_2 u6_2 e6_2 c6_2 n6_2 q6_2
      obtain rfl := q6_2
      clear n6_2
      refine dst rfl rfl (lma (us := [_, _]) 0 T59 c6_2 Hm.m rfl rfl rfl rfl) rfl ?_
      refine dst rfl rfl (mv rfl) rfl ?_
      refine dst rfl rfl (mv rfl) rfl ?_
      refine diaS rfl rfl U39 T59 hb rfl rfl (by omega) (by omega) rfl ?_; intro b6_6 p6_6 y6_6 u6_6 e6_6 c6_6 n6_6 q6_6
      obtain rfl := q6_6
      clear n6_6
      refine dst rfl rfl (lma (us := [_, _]) 0 T59 c6_6 Hm.m rfl rfl rfl rfl) rfl ?_
      refine dst rfl rfl (nes rfl rfl G59 (fun w => eqID y6_2 y6_6 w)) rfl ?_
      refine dend rfl ?_
      refine nl ?_
      refine nS ?_
      refine cd rfl (fun hb => ?_) (fun hb => ?_)
      · have h25 := (of_decide_eq_false (nTF hb))
        clear hb
        refine sq ?_
        refine rg ?_
        refine st (asg rfl) rfl ?_
        refine nl ?_
        refine nS ?_
        refine rt ?_
        refine rB ?_
        refine rS ?_
        refine rS ?_
        refine rB ?_
        refine rS ?_
        exact ret1 rfl rfl (by show Value.bool _ = _; rw [decide_eq_false (diff_at e6_2 e6_6 h25)]) o0
      · have h25 := (of_decide_eq_true (nFT hb))
        clear hb
        refine sk ?_
        refine nB ?_
        refine nS ?_
        refine rg ?_
        refine st (mv rfl) rfl ?_
        refine st (ad rfl rfl (by omega)) rfl ?_
        refine st (asg rfl) rfl ?_
        refine nl ?_
        exact le1 (i + 1) ⟨⟨by omega, by omega, same_step j0 j2 e6_2 e6_6 h25⟩, by omega⟩ ⟨rfl, rfl, rfl, trivial⟩ hid
    · have h14 := (of_decide_eq_false hb)
      clear hb
      refine xt ?_
      refine xS ?_
      refine xS ?_
      refine xB ?_
      refine nS ?_
      refine sq ?_
      refine rg ?_
      refine st (asg rfl) rfl ?_
      refine nl ?_
      refine nS ?_
      refine rt ?_
      exact ret1 rfl rfl (by show Value.bool _ = _; rw [decide_eq_true (same_end (by omega) h14 j2)]) o0

set_option maxRecDepth 20000 in
theorem Lnodes_c {M : Mem} {w : World} {V W : Value} {a b : List Nd} (hM : RO M [] w) (ha : Sl M 6 RNd V a) (hb : Sl M 6 RNd W b) : FnC prog 27 [V, W] w [] (fun u _ => u = .bool (decide (a = b))) := by
  refine enter (code := _) func27 rfl 26 rfl rfl hM [] rfl [(0, _), (1, _)] ⟨rfl, rfl, trivial⟩ ?_
  have l_ha := ha.bound
  have l_hb := hb.bound
  refine sq ?_
  refine rg ?_
  refine st (asg rfl) rfl ?_
  refine nl ?_
  refine nS ?_
  refine sq ?_
  refine sq ?_
  refine rg ?_
  refine st (mv rfl) rfl ?_
  refine st (lnS U51 ha rfl) rfl ?_
  refine st (mv rfl) rfl ?_
  refine st (lnS U51 hb rfl) rfl ?_
  refine st (ne rfl rfl) rfl ?_
  refine nl ?_
  refine nS ?_
  refine cd rfl (fun hb => ?_) (fun hb => ?_)
  · have h10 := (ne_of_bneT hb)
    clear hb
    refine sq ?_
    refine rg ?_
    refine st (asg rfl) rfl ?_
    refine nl ?_
    refine nS ?_
    refine rt ?_
    refine rS ?_
    exact ret1 rfl rfl (by show Value.bool _ = _; rw [decide_eq_false (fun q => h10 (by rw [q]))]) o0
  · have h10 := (eq_of_bneF hb)
    clear hb
    refine sk ?_
    refine nS ?_
    refine sq ?_
    refine sq ?_
    refine rg ?_
    refine st (asg rfl) rfl ?_
    refine nl ?_
    refine nS ?_
    refine bk ?_
    refine lpc1 (fun (i : Int) C => (5, .int .i64 i) :: C) [(0, _), (1, _)] (fun (i : Int) H => H) [] (fun (i : Int) => 0 ≤ i ∧ i ≤ a.length ∧ ∀ j : Nat, (j : Int) < i → a[j]? = b[j]?) (fun (i : Int) => ((a.length : Int) - i).toNat) 0 ?_ ⟨rfl, rfl, rfl, trivial⟩ hid ?_
    · exact ⟨by omega, by omega, fun j h => by omega⟩
    intro i hj
    obtain ⟨j0, j1, j2⟩ := hj
    refine sq ?_
    refine sq ?_
    refine rg ?_
    refine st (mv rfl) rfl ?_
    refine st (mv rfl) rfl ?_
    refine st (lnS U51 ha rfl) rfl ?_
    refine st (lt rfl rfl) rfl ?_
    refine nl ?_
    refine nS ?_
    refine cd rfl (fun hb => ?_) (fun hb => ?_)
    · have h14 := (of_decide_eq_true hb)
      clear hb
      refine sk ?_
      refine nS ?_
      refine sq ?_
      refine bk ?_
      refine sq ?_
      refine rgd rfl [0, 1, 2, 3, 4, 5, 6, 7, 8] [] [] [] (by kernel_rfl) ?_
      refine dst rfl rfl (mv rfl) rfl ?_
      refine dst rfl rfl (mv rfl) rfl ?_
      refine diaS rfl rfl U51 T84 ha rfl rfl (by omega) (by omega) rfl ?_; intro b6_2 p6_2 y6_2 u6_2 e6_2 c6_2 n6_2 q6_2
      obtain rfl := q6_2
      clear n6_2
      refine dst rfl rfl (lma (us := [_, _, _, _, _, _]) 0 T84 c6_2 Hm.m rfl rfl rfl rfl) rfl ?_
      refine dst rfl rfl (mv rfl) rfl ?_
      refine dst rfl rfl (mv rfl) rfl ?_
      refine diaS rfl rfl U51 T84 hb rfl rfl (by omega) (by omega) rfl ?_; intro b6_6 p6_6 y6_6 u6_6 e6_6 c6_6 n6_6 q6_6
      obtain rfl := q6_6
      clear n6_6
      refine dst rfl rfl (lma (us := [_, _, _, _, _, _]) 0 T84 c6_6 Hm.m rfl rfl rfl rfl) rfl ?_
      refine dst rfl rfl (nes rfl rfl G84 (fun w => eqNd y6_2 y6_6 w)) rfl ?_
      refine dend rfl ?_
      refine nl ?_
      refine nS ?_
      refine cd rfl (fun hb => ?_) (fun hb => ?_)
      · have h25 := (of_decide_eq_false (nTF hb))
        clear hb
        refine sq ?_
        refine rg ?_
        refine st (asg rfl) rfl ?_
        refine nl ?_
        refine nS ?_
        refine rt ?_
        refine rB ?_
        refine rS ?_
        refine rS ?_
        refine rB ?_
        refine rS ?_
        exact ret1 rfl rfl (by show Value.bool _ = _; rw [decide_eq_false (diff_at e6_2 e6_6 h25)]) o0
      · have h25 := (of_decide_eq_true (nFT hb))
        clear hb
        refine sk ?_
        refine nB ?_
        refine nS ?_
        refine rg ?_
        refine st (mv rfl) rfl ?_
        refine st (ad rfl rfl (by omega)) rfl ?_
        refine st (asg rfl) rfl ?_
        refine nl ?_
        exact le1 (i + 1) ⟨⟨by omega, by omega, same_step j0 j2 e6_2 e6_6 h25⟩, by omega⟩ ⟨rfl, rfl, rfl, trivial⟩ hid
    · have h14 := (of_decide_eq_false hb)
      clear hb
      refine xt ?_
      refine xS ?_
      refine xS ?_
      refine xB ?_
      refine nS ?_
      refine sq ?_
      refine rg ?_
      refine st (asg rfl) rfl ?_
      refine nl ?_
      refine nS ?_
      refine rt ?_
      exact ret1 rfl rfl (by show Value.bool _ = _; rw [decide_eq_true (same_end (by omega) h14 j2)]) o0

set_option maxRecDepth 20000 in
theorem Lints_c {M : Mem} {w : World} {V W : Value} {a b : List Int} (hM : RO M [] w) (ha : Sl M 1 RInt V a) (hb : Sl M 1 RInt W b) : FnC prog 24 [V, W] w [] (fun u _ => u = .bool (decide (a = b))) := by
  refine enter (code := _) func24 rfl 26 rfl rfl hM [] rfl [(0, _), (1, _)] ⟨rfl, rfl, trivial⟩ ?_
  have l_ha := ha.bound
  have l_hb := hb.bound
  refine sq ?_
  refine rg ?_
  refine st (asg rfl) rfl ?_
  refine nl ?_
  refine nS ?_
  refine sq ?_
  refine sq ?_
  refine rg ?_
  refine st (mv rfl) rfl ?_
  refine st (lnS U45 ha rfl) rfl ?_
  refine st (mv rfl) rfl ?_
  refine st (lnS U45 hb rfl) rfl ?_
  refine st (ne rfl rfl) rfl ?_
  refine nl ?_
  refine nS ?_
  refine cd rfl (fun hb => ?_) (fun hb => ?_)
  · have h10 := (ne_of_bneT hb)
    clear hb
    refine sq ?_
    refine rg ?_
    refine st (asg rfl) rfl ?_
    refine nl ?_
    refine nS ?_
    refine rt ?_
    refine rS ?_
    exact ret1 rfl rfl (by show Value.bool _ = _; rw [decide_eq_false (fun q => h10 (by rw [q]))]) o0
  · have h10 := (eq_of_bneF hb)
    clear hb
    refine sk ?_
    refine nS ?_
    refine sq ?_
    refine sq ?_
    refine rg ?_
    refine st (asg rfl) rfl ?_
    refine nl ?_
    refine nS ?_
    refine bk ?_
    refine lpc1 (fun (i : Int) C => (5, .int .i64 i) :: C) [(0, _), (1, _)] (fun (i : Int) H => H) [] (fun (i : Int) => 0 ≤ i ∧ i ≤ a.length ∧ ∀ j : Nat, (j : Int) < i → a[j]? = b[j]?) (fun (i : Int) => ((a.length : Int) - i).toNat) 0 ?_ ⟨rfl, rfl, rfl, trivial⟩ hid ?_
    · exact ⟨by omega, by omega, fun j h => by omega⟩
    intro i hj
    obtain ⟨j0, j1, j2⟩ := hj
    refine sq ?_
    refine sq ?_
    refine rg ?_
    refine st (mv rfl) rfl ?_
    refine st (mv rfl) rfl ?_
    refine st (lnS U45 ha rfl) rfl ?_
    refine st (lt rfl rfl) rfl ?_
    refine nl ?_
    refine nS ?_
    refine cd rfl (fun hb => ?_) (fun hb => ?_)
    · have h14 := (of_decide_eq_true hb)
      clear hb
      refine sk ?_
      refine nS ?_
      refine sq ?_
      refine bk ?_
      refine sq ?_
      refine rgd rfl [0, 1, 2, 3, 4, 5, 6, 7, 8] [] [] [] (by kernel_rfl) ?_
      refine dst rfl rfl (mv rfl) rfl ?_
      refine dst rfl rfl (mv rfl) rfl ?_
      refine diaS rfl rfl U45 T3 ha rfl rfl (by omega) (by omega) rfl ?_; intro b6_2 p6_2 y6_2 u6_2 e6_2 c6_2 n6_2 q6_2
      obtain rfl := q6_2
      clear n6_2
      refine dst rfl rfl (lm1 0 T3 c6_2 Hm.m rfl rfl rfl) rfl ?_
      refine dst rfl rfl (mv rfl) rfl ?_
      refine dst rfl rfl (mv rfl) rfl ?_
      refine diaS rfl rfl U45 T3 hb rfl rfl (by omega) (by omega) rfl ?_; intro b6_6 p6_6 y6_6 u6_6 e6_6 c6_6 n6_6 q6_6
      obtain rfl := q6_6
      clear n6_6
      refine dst rfl rfl (lm1 0 T3 c6_6 Hm.m rfl rfl rfl) rfl ?_
      refine dst rfl rfl (ne rfl rfl) rfl ?_
      refine dend rfl ?_
      refine nl ?_
      refine nS ?_
      refine cd rfl (fun hb => ?_) (fun hb => ?_)
      · have h25 := (ne_of_bneT hb)
        clear hb
        refine sq ?_
        refine rg ?_
        refine st (asg rfl) rfl ?_
        refine nl ?_
        refine nS ?_
        refine rt ?_
        refine rB ?_
        refine rS ?_
        refine rS ?_
        refine rB ?_
        refine rS ?_
        exact ret1 rfl rfl (by show Value.bool _ = _; rw [decide_eq_false (diff_at e6_2 e6_6 h25)]) o0
      · have h25 := (eq_of_bneF hb)
        clear hb
        refine sk ?_
        refine nB ?_
        refine nS ?_
        refine rg ?_
        refine st (mv rfl) rfl ?_
        refine st (ad rfl rfl (by omega)) rfl ?_
        refine st (asg rfl) rfl ?_
        refine nl ?_
        exact le1 (i + 1) ⟨⟨by omega, by omega, same_step j0 j2 e6_2 e6_6 h25⟩, by omega⟩ ⟨rfl, rfl, rfl, trivial⟩ hid
    · have h14 := (of_decide_eq_false hb)
      clear hb
      refine xt ?_
      refine xS ?_
      refine xS ?_
      refine xB ?_
      refine nS ?_
      refine sq ?_
      refine rg ?_
      refine st (asg rfl) rfl ?_
      refine nl ?_
      refine nS ?_
      refine rt ?_
      exact ret1 rfl rfl (by show Value.bool _ = _; rw [decide_eq_true (same_end (by omega) h14 j2)]) o0

set_option maxRecDepth 20000 in
set_option maxHeartbeats 1000000 in
theorem turned_c {M : Mem} {w : World} {V W : Value} {v : List Op'} {ts : List Int} (hM : RO M [] w) (hv : Sl M 11 ROp V v) (ht : Sl M 1 RInt W ts) (hl : v.length ≤ 60) (htb : ∀ t ∈ ts, -9223372036854775808 ≤ t ∧ t ≤ 9223372036854775807) : FnC prog 30 [V, W] w [] (fun u o => ∃ m : List Op', m.Perm v ∧ Sl (MO M o) 11 ROp u m) := by
  refine enter (code := _) func30 rfl 50 rfl rfl hM [] rfl [(0, _), (1, _)] ⟨rfl, rfl, trivial⟩ ?_
  have l_hv := hv.bound
  have l_ht := ht.bound
  refine sq ?_
  refine rg ?_
  refine st (asg rfl) rfl ?_
  refine nl ?_
  refine nS ?_
  refine sq ?_
  refine rg ?_
  refine st (asg rfl) rfl ?_
  refine nl ?_
  refine nS ?_
  refine sq ?_
  refine rg ?_
  refine st (mv rfl) rfl ?_
  refine st (mv rfl) rfl ?_
  obtain ⟨vss, hvs1, hvs2, hvs3, hvs4⟩ := hv.rows (by decide) hM.fn
  refine ni ?_
  refine ap U22 U22 T62 rfl rfl rfl rfl rfl rfl (OS.nil _ _) (hvs4.mono Hm.m) (flat_rows (fun vs hx => by obtain ⟨i, hi⟩ := List.getElem?_of_mem hx; exact (row11 (hvs3 i _ vs (List.getElem?_eq_getElem (by have := (List.getElem?_eq_some_iff.1 hi).1; omega)) hi)).2)) (by rw [flat_len vss 11 hvs2]; simp; omega) rfl ?_; intro V2 o2_ q2
  refine st (asg rfl) rfl ?_
  refine nl ?_
  refine nS ?_
  refine sq ?_
  refine sq ?_
  refine rg ?_
  obtain ⟨AA, cpp, rfl⟩ := turn_form (turn_start hvs1 hvs3 (q2.cast (by simp)))
  refine st (asg rfl) rfl ?_
  refine nl ?_
  refine nS ?_
  refine bk ?_
  refine lpc2 (fun (i : Int) (q : Own × List (List Value × Op')) C => (6, .int .i64 i) :: C) [(1, _), (5, _)] (fun (i : Int) (q : Own × List (List Value × Op')) H => q.1 :: H) [] (fun (i : Int) (q : Own × List (List Value × Op')) => (0 ≤ i ∧ i ≤ ts.length) ∧ TurnI M 62 v q.2 (.slice AA v.length cpp) q.1) (fun (i : Int) (q : Own × List (List Value × Op')) => ((ts.length : Int) - i).toNat) 0 (_, vss.zip v) ?_ ⟨rfl, rfl, rfl, trivial⟩ hid ?_
  · exact ⟨by omega, turn_start hvs1 hvs3 (q2.cast (by simp))⟩
  intro i q hj
  obtain ⟨⟨j0, j1⟩, jt⟩ := hj
  obtain ⟨ov, prs⟩ := q
  simp only at jt
  have hpl := turn_len jt
  refine sq ?_
  refine sq ?_
  refine rg ?_
  refine st (mv rfl) rfl ?_
  refine st (mv rfl) rfl ?_
  refine st (lnS U45 ht rfl) rfl ?_
  refine st (lt rfl rfl) rfl ?_
  refine st (mv rfl) rfl ?_
  refine spl (fun hb => ?_) (fun hb => ?_)
  · have h16 := (of_decide_eq_true hb)
    clear hb
    refine gT rfl rfl ?_
    refine st (mv rfl) rfl ?_
    refine gT rfl rfl ?_
    refine st (ln U22 rfl) rfl ?_
    refine gT rfl rfl ?_
    refine st (gt rfl rfl) rfl ?_
    refine st (pkT rfl rfl) rfl ?_
    refine nl ?_
    refine nS ?_
    refine cd rfl (fun hb => ?_) (fun hb => ?_)
    · have h20 := (of_decide_eq_true hb)
      clear hb
      refine sk ?_
      refine nS ?_
      refine sq ?_
      refine bk ?_
      refine sq ?_
      refine rg ?_
      obtain ⟨kk, cap, cs, rfl, hV2, h3, h5, h4⟩ := turn_pos jt (by omega)
      cases hV2
      have hll : ∀ e ∈ prs, e.1.length = 11 := fun e he => (row11 (jt.rows e he)).1
      have hc5 : prs.length * 11 ≤ cpp * 11 := Nat.mul_le_mul_right 11 h5
      refine st (mv rfl) rfl ?_
      refine st (mv rfl) rfl ?_
      refine iaS U45 T3 ht rfl rfl (by omega) (by omega) rfl ?_; intro b6_2 p6_2 y6_2 u6_2 e6_2 c6_2 n6_2 q6_2
      obtain rfl := q6_2
      clear n6_2
      refine st (lm1 0 T3 c6_2 Hm.m rfl rfl rfl) rfl ?_
      refine st (mv rfl) rfl ?_
      refine st (ln U22 rfl) rfl ?_
      refine st (rmd rfl rfl (by omega)) rfl ?_
      obtain ⟨kq, hkq⟩ : ∃ kq : Int, y6_2.tmod (v.length : Int) = kq := ⟨_, rfl⟩
      have hkb := tmod_bd (a := y6_2) (b := (v.length : Int)) (by omega)
      rw [hkq] at hkb
      refine cv (u := .int .i64 kq) (by rw [hkq]) ?_
      refine st (asg rfl) rfl ?_
      refine nl ?_
      refine nS ?_
      refine sq ?_
      refine sq ?_
      refine rg ?_
      refine st (mv rfl) rfl ?_
      refine st (lt rfl rfl) rfl ?_
      refine nl ?_
      refine nS ?_
      refine cd rfl (fun hb => ?_) (fun hb => ?_)
      · have h31 := (of_decide_eq_true hb)
        clear hb
        refine rg ?_
        refine st (mv rfl) rfl ?_
        refine st (mv rfl) rfl ?_
        refine st (ln U22 rfl) rfl ?_
        refine st (ad rfl rfl (by omega)) rfl ?_
        refine st (asg rfl) rfl ?_
        refine nl ?_
        refine nS ?_
        refine sq ?_
        refine rg ?_
        obtain ⟨j, hjk⟩ : ∃ j : Nat, kq + (v.length : Int) = (j : Int) := ⟨(kq + (v.length : Int)).toNat, by omega⟩
        obtain ⟨e0, he0⟩ : ∃ e, prs[0]? = some e := ⟨_, List.getElem?_eq_getElem (by omega)⟩
        obtain ⟨ek, hek⟩ : ∃ e, prs[j]? = some e := ⟨_, List.getElem?_eq_getElem (by omega)⟩
        have hr0 := row_at hll h4 rfl he0
        have hrk := row_at hll h4 rfl hek
        have hl0 := row11 (jt.rows e0 (List.mem_of_getElem? he0))
        have hlk := row11 (jt.rows ek (List.mem_of_getElem? hek))
        have hjl := (List.getElem?_eq_some_iff.1 hek).1
        refine st (mv rfl) rfl ?_
        refine st (ia U22 T62 rfl rfl (by omega) (by omega)) rfl ?_
        refine cv (u := pt kk 0) (v_pt (by omega)) ?_
        refine st (loa (vs := e0.1) T62 rfl (by simpa using hr0) hl0.1) rfl ?_
        refine al T62 rfl rfl ?_; intro b9_3
        refine sto (cs' := e0.1) (vs := e0.1) T62 rfl rfl rfl hl0.1 hl0.2 (by show 0 + 11 ≤ List.length [_, _, _, _, _, _, _, _, _, _, _]; decide) (setL_all hl0.1.symm) ?_
        refine nl ?_
        refine nS ?_
        refine sq ?_
        refine rg ?_
        refine st (mv rfl) rfl ?_
        refine st (mv rfl) rfl ?_
        refine st (mv rfl) rfl ?_
        refine st (ia U22 T62 rfl rfl (by omega) (by omega)) rfl ?_
        refine cv (u := pt kk (j * 11)) (v_pt (by omega)) ?_
        refine st (w1 (loa (vs := ek.1) T62 rfl hrk hlk.1)) rfl ?_
        refine st (ia U22 T62 rfl rfl (by omega) (by omega)) rfl ?_
        refine cv (u := pt kk 0) (v_pt (by omega)) ?_
        refine r1 ?_
        refine sto (cs' := setL cs 0 ek.1) (vs := ek.1) T62 rfl rfl rfl hlk.1 hlk.2 (by omega) rfl ?_
        refine nl ?_
        refine nS ?_
        refine rg ?_
        refine st (mv rfl) rfl ?_
        refine st (mv rfl) rfl ?_
        refine st (w1 (loa (vs := e0.1) T62 rfl (by rw [List.drop_zero, List.take_of_length_le (by rw [hl0.1]; exact Nat.le_refl _)]) hl0.1)) rfl ?_
        refine st (ia U22 T62 rfl rfl (by omega) (by omega)) rfl ?_
        refine cv (u := pt kk (j * 11)) (v_pt (by omega)) ?_
        refine sto (cs' := setL (setL cs 0 ek.1) (j * 11) e0.1) (vs := e0.1) T62 rfl rfl rfl hl0.1 hl0.2 (by rw [setL_length]; omega) rfl ?_
        refine nl ?_
        refine nB ?_
        refine nS ?_
        refine rg ?_
        refine st (mv rfl) rfl ?_
        refine st (ad rfl rfl (by omega)) rfl ?_
        refine st (asg rfl) rfl ?_
        refine nl ?_
        exact le2 (i + 1) (_, (prs.set 0 ek).set j e0) ⟨⟨by omega, turn_swap jt h3 h5 h4 he0 hek⟩, by omega⟩ ⟨rfl, rfl, rfl, trivial⟩ hK1
      · have h31 := (of_decide_eq_false hb)
        clear hb
        refine sk ?_
        refine nS ?_
        refine sq ?_
        refine rg ?_
        obtain ⟨j, hjk⟩ : ∃ j : Nat, kq = (j : Int) := ⟨(kq).toNat, by omega⟩
        obtain ⟨e0, he0⟩ : ∃ e, prs[0]? = some e := ⟨_, List.getElem?_eq_getElem (by omega)⟩
        obtain ⟨ek, hek⟩ : ∃ e, prs[j]? = some e := ⟨_, List.getElem?_eq_getElem (by omega)⟩
        have hr0 := row_at hll h4 rfl he0
        have hrk := row_at hll h4 rfl hek
        have hl0 := row11 (jt.rows e0 (List.mem_of_getElem? he0))
        have hlk := row11 (jt.rows ek (List.mem_of_getElem? hek))
        have hjl := (List.getElem?_eq_some_iff.1 hek).1
        refine st (mv rfl) rfl ?_
        refine st (ia U22 T62 rfl rfl (by omega) (by omega)) rfl ?_
        refine cv (u := pt kk 0) (v_pt (by omega)) ?_
        refine st (loa (vs := e0.1) T62 rfl (by simpa using hr0) hl0.1) rfl ?_
        refine al T62 rfl rfl ?_; intro b9_3
        refine sto (cs' := e0.1) (vs := e0.1) T62 rfl rfl rfl hl0.1 hl0.2 (by show 0 + 11 ≤ List.length [_, _, _, _, _, _, _, _, _, _, _]; decide) (setL_all hl0.1.symm) ?_
        refine nl ?_
        refine nS ?_
        refine sq ?_
        refine rg ?_
        refine st (mv rfl) rfl ?_
        refine st (mv rfl) rfl ?_
        refine st (mv rfl) rfl ?_
        refine st (ia U22 T62 rfl rfl (by omega) (by omega)) rfl ?_
        refine cv (u := pt kk (j * 11)) (v_pt (by omega)) ?_
        refine st (w1 (loa (vs := ek.1) T62 rfl hrk hlk.1)) rfl ?_
        refine st (ia U22 T62 rfl rfl (by omega) (by omega)) rfl ?_
        refine cv (u := pt kk 0) (v_pt (by omega)) ?_
        refine r1 ?_
        refine sto (cs' := setL cs 0 ek.1) (vs := ek.1) T62 rfl rfl rfl hlk.1 hlk.2 (by omega) rfl ?_
        refine nl ?_
        refine nS ?_
        refine rg ?_
        refine st (mv rfl) rfl ?_
        refine st (mv rfl) rfl ?_
        refine st (w1 (loa (vs := e0.1) T62 rfl (by rw [List.drop_zero, List.take_of_length_le (by rw [hl0.1]; exact Nat.le_refl _)]) hl0.1)) rfl ?_
        refine st (ia U22 T62 rfl rfl (by omega) (by omega)) rfl ?_
        refine cv (u := pt kk (j * 11)) (v_pt (by omega)) ?_
        refine sto (cs' := setL (setL cs 0 ek.1) (j * 11) e0.1) (vs := e0.1) T62 rfl rfl rfl hl0.1 hl0.2 (by rw [setL_length]; omega) rfl ?_
        refine nl ?_
        refine nB ?_
        refine nS ?_
        refine rg ?_
        refine st (mv rfl) rfl ?_
        refine st (ad rfl rfl (by omega)) rfl ?_
        refine st (asg rfl) rfl ?_
        refine nl ?_
        exact le2 (i + 1) (_, (prs.set 0 ek).set j e0) ⟨⟨by omega, turn_swap jt h3 h5 h4 he0 hek⟩, by omega⟩ ⟨rfl, rfl, rfl, trivial⟩ hK1
    · have h20 := (of_decide_eq_false hb)
      clear hb
      refine xt ?_
      refine xS ?_
      refine xS ?_
      refine xB ?_
      refine nS ?_
      refine sq ?_
      refine rg ?_
      refine st (mv rfl) rfl ?_
      refine st (asg rfl) rfl ?_
      refine nl ?_
      refine nS ?_
      refine rt ?_
      exact ret1 rfl rfl (turn_end jt (by omega)) o1
  · have h16 := (of_decide_eq_false hb)
    clear hb
    refine gF rfl rfl rfl rfl ?_
    refine gF rfl rfl rfl rfl ?_
    refine gF rfl rfl rfl rfl ?_
    refine st (pkF rfl rfl) rfl ?_
    refine nl ?_
    refine nS ?_
    refine cdF rfl ?_
    refine xt ?_
    refine xS ?_
    refine xS ?_
    refine xB ?_
    refine nS ?_
    refine sq ?_
    refine rg ?_
    refine st (mv rfl) rfl ?_
    refine st (asg rfl) rfl ?_
    refine nl ?_
    refine nS ?_
    refine rt ?_
    exact ret1 rfl rfl (turn_end jt (by omega)) o1
end Go.W
/- Walks. Written by a program of mine. -/
namespace Go.W
open Go Go.Proofs.Tryz
theorem rowK_sl (b1_2 b1_5 b1_9 b1_14 : Nat) : Sl (Im ([(b1_14, .cells (List.toArray (List.flatten [[.int .i64 1, .int .i64 3, .slice (some ⟨b1_2, 0, none⟩) 1 1, .int .i64 2, .int .i64 0, .int .i64 0, .int .i64 0, .int .i64 0, .string ⟨#[]⟩, .slice (some ⟨b1_5, 0, none⟩) 1 1, .int .i64 0], [.int .i64 1, .int .i64 2, .slice (some ⟨b1_9, 0, none⟩) 1 1, .int .i64 1, .int .i64 1, .int .i64 1, .int .i64 0, .int .i64 0, .string ⟨#[97, 98]⟩, .slice none 0 0, .int .i64 0], [.int .i64 1, .int .i64 1, .slice none 0 0, .int .i64 3, .int .i64 0, .int .i64 0, .int .i64 0, .int .i64 0, .string ⟨#[]⟩, .slice none 0 0, .int .i64 1]])) 62 (0, 0))] ++ ([(b1_2, .cells (List.toArray [.int .i64 1, .int .i64 2]) 29 (0, 0))] ++ ([(b1_5, .cells (List.toArray [.int .i64 1, .int .i64 1, .int .i64 1]) 89 (0, 0))] ++ [(b1_9, .cells (List.toArray [.int .i64 1, .int .i64 1]) 29 (0, 0))])))) 11 ROp (.slice (some ⟨b1_14, 0, none⟩) 3 3) rowK := by
  have w1 : OS [(b1_14, .cells (List.toArray (List.flatten [[.int .i64 1, .int .i64 3, .slice (some ⟨b1_2, 0, none⟩) 1 1, .int .i64 2, .int .i64 0, .int .i64 0, .int .i64 0, .int .i64 0, .string ⟨#[]⟩, .slice (some ⟨b1_5, 0, none⟩) 1 1, .int .i64 0], [.int .i64 1, .int .i64 2, .slice (some ⟨b1_9, 0, none⟩) 1 1, .int .i64 1, .int .i64 1, .int .i64 1, .int .i64 0, .int .i64 0, .string ⟨#[97, 98]⟩, .slice none 0 0, .int .i64 0], [.int .i64 1, .int .i64 1, .slice none 0 0, .int .i64 3, .int .i64 0, .int .i64 0, .int .i64 0, .int .i64 0, .string ⟨#[]⟩, .slice none 0 0, .int .i64 1]])) 62 (0, 0))] 62 11 (.slice (some ⟨b1_14, 0, none⟩) 3 3) (List.flatten [[.int .i64 1, .int .i64 3, .slice (some ⟨b1_2, 0, none⟩) 1 1, .int .i64 2, .int .i64 0, .int .i64 0, .int .i64 0, .int .i64 0, .string ⟨#[]⟩, .slice (some ⟨b1_5, 0, none⟩) 1 1, .int .i64 0], [.int .i64 1, .int .i64 2, .slice (some ⟨b1_9, 0, none⟩) 1 1, .int .i64 1, .int .i64 1, .int .i64 1, .int .i64 0, .int .i64 0, .string ⟨#[97, 98]⟩, .slice none 0 0, .int .i64 0], [.int .i64 1, .int .i64 1, .slice none 0 0, .int .i64 3, .int .i64 0, .int .i64 0, .int .i64 0, .int .i64 0, .string ⟨#[]⟩, .slice none 0 0, .int .i64 1]]) := OS.whole (n := 3) rfl rfl
  refine w1.rows (by decide) (by simp) (by simp [rowK]) mOp ⟨rfl, fun i vs x h1 h2 => ?_⟩
  match i with
  | 0 =>
    cases h1; cases h2
    refine ⟨.slice (some ⟨b1_2, 0, none⟩) 1 1, .slice (some ⟨b1_5, 0, none⟩) 1 1, rfl, ?_, ?_, by unfold wfOp; decide⟩
    · exact (dot1_sl b1_2 _ (by decide) (by decide)).mono mDot (Im.sub fun y hy => List.mem_append_left _ hy)
    · exact (run1_sl b1_5 _ (by decide) (by decide) (by decide)).mono mRun (Im.sub fun y hy => List.mem_append_right _ (List.mem_append_left _ hy))
  | 1 =>
    cases h1; cases h2
    refine ⟨.slice (some ⟨b1_9, 0, none⟩) 1 1, .slice none 0 0, rfl, ?_, Sl.nil, by unfold wfOp; decide⟩
    exact (dot1_sl b1_9 _ (by decide) (by decide)).mono mDot (Im.sub fun y hy => List.mem_append_right _ (List.mem_append_right _ hy))
  | 2 =>
    cases h1; cases h2
    exact ⟨.slice none 0 0, .slice none 0 0, rfl, Sl.nil, Sl.nil, by unfold wfOp; decide⟩
  | i + 3 => simp at h1

set_option maxRecDepth 20000 in
set_option maxHeartbeats 1000000 in
theorem lrow_c {M : Mem} {w : World} (hM : RO M [] w) : FnC prog 41 [] w [] (fun u o => Sl (Im o) 11 ROp u rowK) := by
  refine enter (code := _) func41 rfl 16 rfl rfl hM [] rfl [] trivial ?_
  refine sq ?_
  refine rg ?_
  refine st (asg rfl) rfl ?_
  refine nl ?_
  refine nS ?_
  refine sq ?_
  refine rg ?_
  refine st (bd (cs := [_, _]) [(0, [_]), (1, [_])] T29 Pl29 ⟨rfl, ⟨_, rfl, rfl⟩, ⟨rfl, ⟨_, rfl, rfl⟩, trivial⟩⟩ rfl) rfl ?_
  refine st (bd (cs := [_, _]) [(0, [_]), (1, [_])] T29 Pl29 ⟨rfl, ⟨_, rfl, rfl⟩, ⟨rfl, ⟨_, rfl, rfl⟩, trivial⟩⟩ rfl) rfl ?_
  refine bs (parts := [_]) (cs := [_, _]) [_, _] [(0, [_, _])] U24 T29 rfl rfl rfl rfl ⟨rfl, ⟨_, rfl, rfl⟩, trivial⟩ rfl rfl ?_; intro b1_2
  refine st (bd (cs := [_, _]) [(0, [_]), (1, [_])] T59 Pl59 ⟨rfl, ⟨_, rfl, rfl⟩, ⟨rfl, ⟨_, rfl, rfl⟩, trivial⟩⟩ rfl) rfl ?_
  refine st (bd (cs := [_, _, _]) [(0, [_, _]), (1, [_])] T89 Pl89 ⟨rfl, ⟨_, rfl, rfl⟩, ⟨rfl, ⟨_, rfl, rfl⟩, trivial⟩⟩ rfl) rfl ?_
  refine bs (parts := [_]) (cs := [_, _, _]) [_, _, _] [(0, [_, _, _])] U60 T89 rfl rfl rfl rfl ⟨rfl, ⟨_, rfl, rfl⟩, trivial⟩ rfl rfl ?_; intro b1_5
  refine st (bd (cs := [_, _, _, _, _, _, _, _, _, _, _]) [(2, [_]), (0, [_, _]), (1, [_]), (6, [_])] T62 Pl62 ⟨rfl, ⟨_, rfl, rfl⟩, ⟨rfl, ⟨_, rfl, rfl⟩, ⟨rfl, ⟨_, rfl, rfl⟩, ⟨rfl, ⟨_, rfl, rfl⟩, trivial⟩⟩⟩⟩ rfl) rfl ?_
  refine st (bd (cs := [_, _]) [(0, [_]), (1, [_])] T29 Pl29 ⟨rfl, ⟨_, rfl, rfl⟩, ⟨rfl, ⟨_, rfl, rfl⟩, trivial⟩⟩ rfl) rfl ?_
  refine st (bd (cs := [_, _]) [(0, [_]), (1, [_])] T29 Pl29 ⟨rfl, ⟨_, rfl, rfl⟩, ⟨rfl, ⟨_, rfl, rfl⟩, trivial⟩⟩ rfl) rfl ?_
  refine bs (parts := [_]) (cs := [_, _]) [_, _] [(0, [_, _])] U24 T29 rfl rfl rfl rfl ⟨rfl, ⟨_, rfl, rfl⟩, trivial⟩ rfl rfl ?_; intro b1_9
  refine st (bd (cs := [_, _]) [(0, [_]), (1, [_])] T59 Pl59 ⟨rfl, ⟨_, rfl, rfl⟩, ⟨rfl, ⟨_, rfl, rfl⟩, trivial⟩⟩ rfl) rfl ?_
  refine st (bd (cs := [_, _, _, _, _, _, _, _, _, _, _]) [(2, [_]), (0, [_, _]), (1, [_]), (3, [_, _]), (5, [_])] T62 Pl62 ⟨rfl, ⟨_, rfl, rfl⟩, ⟨rfl, ⟨_, rfl, rfl⟩, ⟨rfl, ⟨_, rfl, rfl⟩, ⟨rfl, ⟨_, rfl, rfl⟩, ⟨rfl, ⟨_, rfl, rfl⟩, trivial⟩⟩⟩⟩⟩ rfl) rfl ?_
  refine st (bd (cs := [_, _]) [(0, [_]), (1, [_])] T29 Pl29 ⟨rfl, ⟨_, rfl, rfl⟩, ⟨rfl, ⟨_, rfl, rfl⟩, trivial⟩⟩ rfl) rfl ?_
  refine st (bd (cs := [_, _, _, _, _, _, _, _, _, _, _]) [(2, [_]), (0, [_, _]), (7, [_])] T62 Pl62 ⟨rfl, ⟨_, rfl, rfl⟩, ⟨rfl, ⟨_, rfl, rfl⟩, ⟨rfl, ⟨_, rfl, rfl⟩, trivial⟩⟩⟩ rfl) rfl ?_
  refine bsF (parts := [_, _, _]) [[.int .i64 1, .int .i64 3, .slice (some ⟨b1_2, 0, none⟩) 1 1, .int .i64 2, .int .i64 0, .int .i64 0, .int .i64 0, .int .i64 0, .string ⟨#[]⟩, .slice (some ⟨b1_5, 0, none⟩) 1 1, .int .i64 0], [.int .i64 1, .int .i64 2, .slice (some ⟨b1_9, 0, none⟩) 1 1, .int .i64 1, .int .i64 1, .int .i64 1, .int .i64 0, .int .i64 0, .string ⟨#[97, 98]⟩, .slice none 0 0, .int .i64 0], [.int .i64 1, .int .i64 1, .slice none 0 0, .int .i64 3, .int .i64 0, .int .i64 0, .int .i64 0, .int .i64 0, .string ⟨#[]⟩, .slice none 0 0, .int .i64 1]] U22 T62 rfl rfl rfl rfl (by simp) ⟨rfl, ⟨_, rfl, rfl⟩, ⟨rfl, ⟨_, rfl, rfl⟩, ⟨rfl, ⟨_, rfl, rfl⟩, trivial⟩⟩⟩ rfl ?_; intro b1_14
  refine st (asg rfl) rfl ?_
  refine nl ?_
  refine nS ?_
  refine rt ?_
  exact ret1 rfl rfl (rowK_sl b1_2 b1_5 b1_9 b1_14) (oSP (h' := [_, _, _, _]) (.cons_cons _ (.cons_cons _ (.cons_cons _ (.cons_cons _ .slnil)))) (perm_ct fun x => by simp only [List.flatten_cons, List.flatten_nil, ct_app, ct_nil]; omega))

set_option maxRecDepth 20000 in
set_option maxHeartbeats 2000000 in
theorem known_c {M : Mem} {w : World} (hM : RO M [] w) (hg : CellsAt M ⟨0, 0, none⟩ (tzT.map fun n : Nat => Value.int .u8 (n : Int))) : FnC prog 10 [] w [] (fun u _ => u = .bool true) := by
  refine enter (code := _) func10 rfl 92 rfl rfl hM [] rfl [] trivial ?_
  refine sq ?_
  refine rg ?_
  refine st (asg rfl) rfl ?_
  refine nl ?_
  refine nS ?_
  refine sq ?_
  refine rg ?_
  refine ni ?_
  refine cl C41 (fnc _) rfl (fun _ hw => lrow_c hw) rfl ?_; intro vr orow hr
  refine st (asg rfl) rfl ?_
  refine nl ?_
  refine nS ?_
  refine sq ?_
  refine rg ?_
  refine st (mv rfl) rfl ?_
  refine st (cl0 C17 (fnc _) rfl (fun _ hw => PText_c hw (hr.mono mOp Hm.i0) k_T (by simp [rowK]))) rfl ?_
  refine st (mv rfl) rfl ?_
  refine st (xc rfl rfl) rfl ?_
  refine st (xc rfl rfl) rfl ?_
  refine st (asg rfl) rfl ?_
  refine st (asg rfl) rfl ?_
  refine nl ?_
  refine nS ?_
  refine sq ?_
  refine rg ?_
  refine st (mv rfl) rfl ?_
  refine ni ?_
  refine cl C22 (fnc _) rfl (fun _ hw => Members_c hw (hr.mono mOp Hm.i0) (hg.mono Hm.m)) rfl ?_; intro vm om ⟨um, q1, q2⟩
  subst q1
  have hmem : Sl (Im om) 1 RInt um (memL rowK) := ints_sl q2 (memL_len _)
  refine st (mv rfl) rfl ?_
  refine st (xc rfl rfl) rfl ?_
  refine st (xc rfl rfl) rfl ?_
  refine st (asg rfl) rfl ?_
  refine st (asg rfl) rfl ?_
  refine nl ?_
  refine nS ?_
  refine sq ?_
  refine rg ?_
  refine st (mv rfl) rfl ?_
  refine ni ?_
  refine cl C19 (fnc _) rfl (fun _ hw => POrder_c hw (hr.mono mOp Hm.i1) k_T (by simp [rowK])) rfl ?_; intro vo oo ⟨uo, q3, q4, q5⟩
  subst q3
  have hord := ids_slx q4 q5
  refine st (mv rfl) rfl ?_
  refine st (xc rfl rfl) rfl ?_
  refine st (xc rfl rfl) rfl ?_
  refine st (asg rfl) rfl ?_
  refine st (asg rfl) rfl ?_
  refine nl ?_
  refine nS ?_
  refine sq ?_
  refine rg ?_
  refine st (mv rfl) rfl ?_
  refine st (bd (cs := [_, _]) [(0, [_]), (1, [_])] T29 Pl29 ⟨rfl, ⟨_, rfl, rfl⟩, ⟨rfl, ⟨_, rfl, rfl⟩, trivial⟩⟩ rfl) rfl ?_
  refine bs (parts := [_]) (cs := [_, _]) [_, _] [(0, [_, _])] U24 T29 rfl rfl rfl rfl ⟨rfl, ⟨_, rfl, rfl⟩, trivial⟩ rfl rfl ?_; intro b5_2
  refine ni ?_
  refine cl C25 (fnc _) rfl (fun _ hw => PNodes_c (b := [⟨1, 3⟩]) hw (hr.mono mOp Hm.i3) k_T (by simp [rowK]) ((dot1_sl b5_2 _ (by decide) (by decide)).mono mDot Hm.i0) k_B) rfl ?_; intro vn on ⟨un, q6, q7, q8⟩
  subst q6
  have hnod := nds_sl q7 q8
  refine st (mv rfl) rfl ?_
  refine st (xc rfl rfl) rfl ?_
  refine st (xc rfl rfl) rfl ?_
  refine st (asg rfl) rfl ?_
  refine st (asg rfl) rfl ?_
  refine nl ?_
  refine nS ?_
  refine sq ?_
  refine rg ?_
  refine st (mv rfl) rfl ?_
  refine st (cl0 C12 (fnc _) rfl (fun _ hw => Closed_c hw (hr.mono mOp Hm.i4))) rfl ?_
  refine st (eq rfl rfl) rfl ?_
  refine cv (u := .bool true) (by rw [k_closed]; rfl) ?_
  refine st (mv rfl) rfl ?_
  refine gT rfl rfl ?_
  refine st (mv rfl) rfl ?_
  refine gT rfl rfl ?_
  obtain ⟨vr1, hr1, hop1⟩ := slK (j := 1) hr (by decide) (by simp [rowK])
  refine st (hop1 _ _ _ _ _ _ _ _ _ _ _ _ _ _ _ U22 T62 rfl rfl) rfl ?_
  refine gT rfl rfl ?_
  refine st (cl0 C12 (fnc _) rfl (fun _ hw => Closed_c hw (hr1.mono mOp Hm.i4))) rfl ?_
  refine gT rfl rfl ?_
  refine st (eq rfl rfl) rfl ?_
  refine cv (u := .bool true) (by rw [k_closed1]; rfl) ?_
  refine st (pkT rfl rfl) rfl ?_
  refine st (mv rfl) rfl ?_
  refine gT rfl rfl ?_
  refine st (mv rfl) rfl ?_
  refine gT rfl rfl ?_
  refine st (eq rfl rfl) rfl ?_
  refine cv (u := .bool true) (by rw [k_closed]; rfl) ?_
  refine st (pkT rfl rfl) rfl ?_
  refine st (mv rfl) rfl ?_
  refine gT rfl rfl ?_
  refine st (mv rfl) rfl ?_
  refine gT rfl rfl ?_
  refine st (seq_ rfl rfl) rfl ?_
  refine cv (u := .bool true) (by rw [k_text]; exact congrArg Value.bool (beq_self_eq_true _)) ?_
  refine st (pkT rfl rfl) rfl ?_
  refine st (mv rfl) rfl ?_
  refine gT rfl rfl ?_
  refine st (mv rfl) rfl ?_
  refine gT rfl rfl ?_
  refine st (eq rfl rfl) rfl ?_
  refine cv (u := .bool true) (by rw [k_closed]; rfl) ?_
  refine st (pkT rfl rfl) rfl ?_
  refine st (mv rfl) rfl ?_
  refine gT rfl rfl ?_
  refine st (mv rfl) rfl ?_
  refine gT rfl rfl ?_
  refine bs (parts := [_]) (cs := [_]) [_] [(0, [_])] U45 T3 rfl rfl rfl rfl ⟨rfl, ⟨_, rfl, rfl⟩, trivial⟩ rfl rfl ?_; intro b6_23
  refine gT rfl rfl ?_
  refine st (cl0 C24 (fnc _) rfl (fun _ hw => Lints_c (a := memL rowK) (b := [1]) hw (hmem.mono mInt Hm.i4) ((int1_sl b6_23 _ _).mono mInt Hm.i0))) rfl ?_
  refine cv (u := .bool true) (by rw [decide_eq_true k_mem]) ?_
  refine st (pkT rfl rfl) rfl ?_
  refine st (mv rfl) rfl ?_
  refine gT rfl rfl ?_
  refine st (mv rfl) rfl ?_
  refine gT rfl rfl ?_
  refine st (eq rfl rfl) rfl ?_
  refine cv (u := .bool true) (by rw [k_closed]; rfl) ?_
  refine st (pkT rfl rfl) rfl ?_
  refine st (mv rfl) rfl ?_
  refine gT rfl rfl ?_
  refine st (mv rfl) rfl ?_
  refine gT rfl rfl ?_
  refine st (lnS U39 hord rfl) rfl ?_
  refine gT rfl rfl ?_
  refine st (eq rfl rfl) rfl ?_
  refine cv (u := .bool true) (by rw [List.length_map, k_ord]; rfl) ?_
  refine st (pkT rfl rfl) rfl ?_
  refine st (mv rfl) rfl ?_
  refine gT rfl rfl ?_
  refine st (mv rfl) rfl ?_
  refine gT rfl rfl ?_
  refine st (eq rfl rfl) rfl ?_
  refine cv (u := .bool true) (by rw [k_nodesE]; rfl) ?_
  refine st (pkT rfl rfl) rfl ?_
  refine st (mv rfl) rfl ?_
  refine gT rfl rfl ?_
  refine st (mv rfl) rfl ?_
  refine gT rfl rfl ?_
  refine st (lnS U51 hnod rfl) rfl ?_
  refine gT rfl rfl ?_
  have knl : (nodesL rowK [⟨1, 3⟩]).length = 2 := by have := congrArg List.length k_nodes; simpa using this
  refine st (eq rfl rfl) rfl ?_
  refine cv (u := .bool true) (by rw [knl]; rfl) ?_
  refine st (pkT rfl rfl) rfl ?_
  refine st (mv rfl) rfl ?_
  refine gT rfl rfl ?_
  refine st (mv rfl) rfl ?_
  refine gT rfl rfl ?_
  refine iaS U51 T84 hnod rfl rfl (Int.le_refl 0) (by omega) rfl ?_; intro b6_46 p6_46 y6_46 u6_46 e6_46 c6_46 n6_46 q6_46
  obtain rfl := q6_46
  clear n6_46
  refine gT rfl rfl ?_
  refine st (fa (o3 := p6_46 + 5) F84_3 rfl rfl) rfl ?_
  refine gT rfl rfl ?_
  refine st (lm1 5 T3 c6_46 Hm.i1 rfl rfl rfl) rfl ?_
  refine gT rfl rfl ?_
  refine st (eq rfl rfl) rfl ?_
  refine cv (u := .bool true) (by rw [k_state e6_46]; rfl) ?_
  refine st (pkT rfl rfl) rfl ?_
  refine st (mv rfl) rfl ?_
  refine gT rfl rfl ?_
  refine st (mv rfl) rfl ?_
  refine gT rfl rfl ?_
  refine st (bd (cs := [_, _]) [(0, [_]), (1, [_])] T29 Pl29 ⟨rfl, ⟨_, rfl, rfl⟩, ⟨rfl, ⟨_, rfl, rfl⟩, trivial⟩⟩ rfl) rfl ?_
  refine gT rfl rfl ?_
  refine bs (parts := [_]) (cs := [_, _]) [_, _] [(0, [_, _])] U24 T29 rfl rfl rfl rfl ⟨rfl, ⟨_, rfl, rfl⟩, trivial⟩ rfl rfl ?_; intro b6_54
  refine gT rfl rfl ?_
  refine ni ?_
  refine cl C15 (fnc _) rfl (fun _ hw => Upto_c (u := [⟨1, 2⟩]) hw (hr.mono mOp Hm.i6) ((dot1_sl b6_54 _ (by decide) (by decide)).mono mDot Hm.i0) k_B (by simp [rowK])) rfl ?_; intro vu ou hup
  refine gT rfl rfl ?_
  refine st (lnS U22 hup rfl) rfl ?_
  refine gT rfl rfl ?_
  refine st (eq rfl rfl) rfl ?_
  refine cv (u := .bool true) (by rw [k_upto]; rfl) ?_
  refine st (pkT rfl rfl) rfl ?_
  refine st (asg rfl) rfl ?_
  refine nl ?_
  refine nS ?_
  refine rt ?_
  exact ret1 rfl rfl rfl o0
end Go.W
/- Walks. Written by a program of mine. -/
namespace Go.W
open Go Go.Proofs.Tryz
set_option maxRecDepth 20000 in
set_option maxHeartbeats 2000000 in
theorem PastOrder_c {M : Mem} {w : World} {V W U : Value} {v : List Op'} {ts : List Int} {u : List Dot} (hM : RO M [] w) (hv : Sl M 11 ROp V v) (ht : Sl M 1 RInt W ts) (hu : Sl M 2 RDot U u) (htb : ∀ t ∈ ts, -9223372036854775808 ≤ t ∧ t ≤ 9223372036854775807) (hg : CellsAt M ⟨0, 0, none⟩ (tzT.map fun n : Nat => Value.int .u8 (n : Int))) : FnC prog 5 [V, W, U] w [] (fun x _ => x = .bool true) := by
  refine enter (code := _) func5 rfl 130 rfl rfl hM [] rfl [(0, _), (1, _), (2, _)] ⟨rfl, rfl, rfl, trivial⟩ ?_
  have l_hv := hv.bound
  have l_ht := ht.bound
  have l_hu := hu.bound
  refine sq ?_
  refine rg ?_
  refine st (asg rfl) rfl ?_
  refine nl ?_
  refine nS ?_
  refine sq ?_
  refine sq ?_
  refine rg ?_
  refine st (mv rfl) rfl ?_
  refine st (mv rfl) rfl ?_
  refine ni ?_
  refine cl C9 (fnc _) rfl (fun _ hw => much_c hw (hv.mono mOp Hm.m) (hu.mono mDot Hm.m)) rfl ?_; intro v1_2 O1_2 q1_2
  obtain ⟨bb1_2, rfl, hmu1_2⟩ := q1_2
  refine dr ?_
  refine st (mv rfl) rfl ?_
  refine spl (fun hb => ?_) (fun hb => ?_)
  · have h23 := hb
    clear hb
    refine gF rfl rfl rfl rfl ?_
    refine gF rfl rfl rfl rfl ?_
    refine gF rfl rfl rfl rfl ?_
    refine st (pkT rfl rfl) rfl ?_
    refine nl ?_
    refine nS ?_
    refine cdT rfl ?_
    refine sq ?_
    refine rg ?_
    refine st (cl0 C10 (fnc _) rfl (fun _ hw => known_c hw (hg.mono Hm.m))) rfl ?_
    refine st (asg rfl) rfl ?_
    refine nl ?_
    refine nS ?_
    refine rt ?_
    refine rS ?_
    exact ret1 rfl rfl rfl o0
  · have h23 := hb
    clear hb
    refine gT rfl rfl ?_
    refine st (mv rfl) rfl ?_
    refine gT rfl rfl ?_
    refine st (lnS U45 ht rfl) rfl ?_
    refine gT rfl rfl ?_
    refine st (gt rfl rfl) rfl ?_
    refine st (pkF rfl rfl) rfl ?_
    refine nl ?_
    refine nS ?_
    refine cd rfl (fun hb => ?_) (fun hb => ?_)
    · have h27 := (of_decide_eq_true hb)
      clear hb
      refine sq ?_
      refine rg ?_
      refine st (cl0 C10 (fnc _) rfl (fun _ hw => known_c hw (hg.mono Hm.m))) rfl ?_
      refine st (asg rfl) rfl ?_
      refine nl ?_
      refine nS ?_
      refine rt ?_
      refine rS ?_
      exact ret1 rfl rfl rfl o0
    · have h27 := (of_decide_eq_false hb)
      clear hb
      refine sk ?_
      refine nS ?_
      refine sq ?_
      refine rg ?_
      obtain ⟨hlen, hul, hbd⟩ := hmu1_2 h23
      have hT : ∀ o ∈ v, o.text.size ≤ 100000 := fun o ho => by have := (hbd o ho).1; omega
      have hB : ∀ o ∈ v, o.deps.length ≤ 1000000 ∧ o.gone.length ≤ 1000000 := fun o ho => by have := (hbd o ho).2; omega
      refine st (mv rfl) rfl ?_
      refine st (mv rfl) rfl ?_
      refine ni ?_
      refine cl C30 (fnc _) rfl (fun _ hw => turned_c hw (hv.mono mOp Hm.m) (ht.mono mInt Hm.m) (by omega) htb) rfl ?_; intro vt ot_ ⟨m, hp, hm⟩
      have hlenm : m.length ≤ 60 := by rw [hp.length_eq]; exact hlen
      have hTm : ∀ o ∈ m, o.text.size ≤ 100000 := fun o ho => hT o (hp.mem_iff.1 ho)
      have hBm : ∀ o ∈ m, o.deps.length ≤ 1000000 ∧ o.gone.length ≤ 1000000 := fun o ho => hB o (hp.mem_iff.1 ho)
      have hp2 := hp.symm
      refine st (asg rfl) rfl ?_
      refine nl ?_
      refine nS ?_
      refine sq ?_
      refine sq ?_
      refine rg ?_
      refine st (mv rfl) rfl ?_
      refine st (cl0 C12 (fnc _) rfl (fun _ hw => Closed_c hw (hv.mono mOp Hm.m))) rfl ?_
      refine st (mv rfl) rfl ?_
      refine st (cl0 C12 (fnc _) rfl (fun _ hw => Closed_c hw (hm.mono mOp (MO.hm2 hm_nil Hm.i0)))) rfl ?_
      refine st (ne rfl rfl) rfl ?_
      refine cv (u := .bool false) (by rw [closed_perm hp2]; simp) ?_
      refine st (mv rfl) rfl ?_
      refine gT rfl rfl ?_
      refine st (mv rfl) rfl ?_
      refine gT rfl rfl ?_
      refine st (mv rfl) rfl ?_
      refine gT rfl rfl ?_
      refine ni ?_
      refine cl C15 (fnc _) rfl (fun _ hw => Upto_c hw (hv.mono mOp Hm.m) (hu.mono mDot Hm.m) hB (by omega)) rfl ?_; intro vuL ouL_ quL
      have hupL := quL
      refine gT rfl rfl ?_
      refine st (lnS U22 hupL rfl) rfl ?_
      refine gT rfl rfl ?_
      refine st (mv rfl) rfl ?_
      refine gT rfl rfl ?_
      refine st (mv rfl) rfl ?_
      refine gT rfl rfl ?_
      refine ni ?_
      refine cl C15 (fnc _) rfl (fun _ hw => Upto_c hw (hm.mono mOp (MO.hm2 hm_nil Hm.i1)) (hu.mono mDot Hm.m) hBm (by omega)) rfl ?_; intro vuM ouM_ quM
      have hupM := quM
      refine gT rfl rfl ?_
      refine st (lnS U22 hupM rfl) rfl ?_
      refine gT rfl rfl ?_
      refine st (ne rfl rfl) rfl ?_
      refine cv (u := .bool false) (by rw [(upto_perm hp2 u).length_eq]; simp) ?_
      refine st (pkF rfl rfl) rfl ?_
      refine nl ?_
      refine nS ?_
      refine cdF rfl ?_
      refine sk ?_
      refine nS ?_
      refine sq ?_
      refine rg ?_
      refine st (mv rfl) rfl ?_
      refine st (cl0 C17 (fnc _) rfl (fun _ hw => PText_c hw (hv.mono mOp Hm.m) hT (by omega))) rfl ?_
      refine st (mv rfl) rfl ?_
      refine st (xc rfl rfl) rfl ?_
      refine st (xc rfl rfl) rfl ?_
      refine st (asg rfl) rfl ?_
      refine st (asg rfl) rfl ?_
      refine nl ?_
      refine nS ?_
      refine sq ?_
      refine rg ?_
      refine st (mv rfl) rfl ?_
      refine st (cl0 C17 (fnc _) rfl (fun _ hw => PText_c hw (hm.mono mOp (MO.hm2 hm_nil Hm.i2)) hTm (by omega))) rfl ?_
      refine st (mv rfl) rfl ?_
      refine st (xc rfl rfl) rfl ?_
      refine st (xc rfl rfl) rfl ?_
      refine st (asg rfl) rfl ?_
      refine st (asg rfl) rfl ?_
      refine nl ?_
      refine nS ?_
      refine sq ?_
      refine rg ?_
      refine st (mv rfl) rfl ?_
      refine ni ?_
      refine cl C19 (fnc _) rfl (fun _ hw => POrder_c hw (hv.mono mOp Hm.m) hT (by omega)) rfl ?_; intro voL ooL_ qoL
      obtain ⟨uoL, rfl, qaL, qbL⟩ := qoL
      have hodL := ids_slx qaL qbL
      refine st (mv rfl) rfl ?_
      refine st (xc rfl rfl) rfl ?_
      refine st (xc rfl rfl) rfl ?_
      refine st (asg rfl) rfl ?_
      refine st (asg rfl) rfl ?_
      refine nl ?_
      refine nS ?_
      refine sq ?_
      refine rg ?_
      refine st (mv rfl) rfl ?_
      refine ni ?_
      refine cl C19 (fnc _) rfl (fun _ hw => POrder_c hw (hm.mono mOp (MO.hm2 hm_nil Hm.i3)) hTm (by omega)) rfl ?_; intro voM ooM_ qoM
      obtain ⟨uoM, rfl, qaM, qbM⟩ := qoM
      have hodM := ids_slx qaM qbM
      refine st (mv rfl) rfl ?_
      refine st (xc rfl rfl) rfl ?_
      refine st (xc rfl rfl) rfl ?_
      refine st (asg rfl) rfl ?_
      refine st (asg rfl) rfl ?_
      refine nl ?_
      refine nS ?_
      refine sq ?_
      refine sq ?_
      refine rg ?_
      refine st (mv rfl) rfl ?_
      refine st (mv rfl) rfl ?_
      refine st (sne rfl rfl) rfl ?_
      refine cv (u := .bool false) (by rw [shw_perm hp2]; simp) ?_
      refine st (mv rfl) rfl ?_
      refine gT rfl rfl ?_
      refine st (mv rfl) rfl ?_
      refine gT rfl rfl ?_
      refine st (mv rfl) rfl ?_
      refine gT rfl rfl ?_
      refine st (ne rfl rfl) rfl ?_
      refine cv (u := .bool false) (by rw [closed_perm hp2]; simp) ?_
      refine st (pkF rfl rfl) rfl ?_
      refine st (mv rfl) rfl ?_
      refine gT rfl rfl ?_
      refine st (mv rfl) rfl ?_
      refine gT rfl rfl ?_
      refine st (mv rfl) rfl ?_
      refine gT rfl rfl ?_
      refine st (cl0 C21 (fnc _) rfl (fun _ hw => Lids_c hw (hodL.mono mIDx Hm.i1) (hodM.mono mIDx Hm.i0))) rfl ?_
      refine cv (u := .bool true) (by rw [decide_eq_true (by rw [ord_perm hp2])]) ?_
      refine gT rfl rfl ?_
      refine st (nt rfl) rfl ?_
      refine st (pkF rfl rfl) rfl ?_
      refine st (mv rfl) rfl ?_
      refine gT rfl rfl ?_
      refine st (mv rfl) rfl ?_
      refine gT rfl rfl ?_
      refine st (mv rfl) rfl ?_
      refine gT rfl rfl ?_
      refine st (ne rfl rfl) rfl ?_
      refine cv (u := .bool false) (by rw [closed_perm hp2]; simp) ?_
      refine st (pkF rfl rfl) rfl ?_
      refine nl ?_
      refine nS ?_
      refine cdF rfl ?_
      refine sk ?_
      refine nS ?_
      refine sq ?_
      refine rg ?_
      refine st (mv rfl) rfl ?_
      refine ni ?_
      refine cl C22 (fnc _) rfl (fun _ hw => Members_c hw (hv.mono mOp Hm.m) (hg.mono Hm.m)) rfl ?_; intro vmL omL_ qmL
      obtain ⟨umL, rfl, qcL⟩ := qmL
      have hmeL : Sl (Im omL_) 1 RInt umL (memL v) := ints_sl qcL (memL_len _)
      refine st (mv rfl) rfl ?_
      refine st (xc rfl rfl) rfl ?_
      refine st (xc rfl rfl) rfl ?_
      refine st (asg rfl) rfl ?_
      refine st (asg rfl) rfl ?_
      refine nl ?_
      refine nS ?_
      refine sq ?_
      refine rg ?_
      refine st (mv rfl) rfl ?_
      refine ni ?_
      refine cl C22 (fnc _) rfl (fun _ hw => Members_c hw (hm.mono mOp (MO.hm2 hm_nil Hm.i5)) (hg.mono Hm.m)) rfl ?_; intro vmM omM_ qmM
      obtain ⟨umM, rfl, qcM⟩ := qmM
      have hmeM : Sl (Im omM_) 1 RInt umM (memL m) := ints_sl qcM (memL_len _)
      refine st (mv rfl) rfl ?_
      refine st (xc rfl rfl) rfl ?_
      refine st (xc rfl rfl) rfl ?_
      refine st (asg rfl) rfl ?_
      refine st (asg rfl) rfl ?_
      refine nl ?_
      refine nS ?_
      refine sq ?_
      refine rg ?_
      refine st (mv rfl) rfl ?_
      refine st (mv rfl) rfl ?_
      refine ni ?_
      refine cl C25 (fnc _) rfl (fun _ hw => PNodes_c hw (hv.mono mOp Hm.m) hT (by omega) (hu.mono mDot Hm.m) hB) rfl ?_; intro vnL onL_ qnL
      obtain ⟨unL, rfl, qdL, qeL⟩ := qnL
      have hnoL := nds_sl qdL qeL
      refine st (mv rfl) rfl ?_
      refine st (xc rfl rfl) rfl ?_
      refine st (xc rfl rfl) rfl ?_
      refine st (asg rfl) rfl ?_
      refine st (asg rfl) rfl ?_
      refine nl ?_
      refine nS ?_
      refine sq ?_
      refine rg ?_
      refine st (mv rfl) rfl ?_
      refine st (mv rfl) rfl ?_
      refine ni ?_
      refine cl C25 (fnc _) rfl (fun _ hw => PNodes_c hw (hm.mono mOp (MO.hm2 hm_nil Hm.i7)) hTm (by omega) (hu.mono mDot Hm.m) hBm) rfl ?_; intro vnM onM_ qnM
      obtain ⟨unM, rfl, qdM, qeM⟩ := qnM
      have hnoM := nds_sl qdM qeM
      refine st (mv rfl) rfl ?_
      refine st (xc rfl rfl) rfl ?_
      refine st (xc rfl rfl) rfl ?_
      refine st (asg rfl) rfl ?_
      refine st (asg rfl) rfl ?_
      refine nl ?_
      refine nS ?_
      refine sq ?_
      refine rg ?_
      refine st (mv rfl) rfl ?_
      refine st (mv rfl) rfl ?_
      refine st (cl0 C24 (fnc _) rfl (fun _ hw => Lints_c hw (hmeL.mono mInt Hm.i3) (hmeM.mono mInt Hm.i2))) rfl ?_
      refine cv (u := .bool true) (by rw [decide_eq_true (mem_perm hp2)]) ?_
      refine st (mv rfl) rfl ?_
      refine gT rfl rfl ?_
      refine st (mv rfl) rfl ?_
      refine gT rfl rfl ?_
      refine st (mv rfl) rfl ?_
      refine gT rfl rfl ?_
      refine st (eq rfl rfl) rfl ?_
      refine cv (u := .bool true) (by rw [closed_perm hp2]; simp) ?_
      refine st (pkT rfl rfl) rfl ?_
      refine st (mv rfl) rfl ?_
      refine gT rfl rfl ?_
      refine st (mv rfl) rfl ?_
      refine gT rfl rfl ?_
      refine st (mv rfl) rfl ?_
      refine gT rfl rfl ?_
      refine st (cl0 C27 (fnc _) rfl (fun _ hw => Lnodes_c hw (hnoL.mono mNd Hm.i1) (hnoM.mono mNd Hm.i0))) rfl ?_
      refine cv (u := .bool true) (by rw [decide_eq_true (nodesL_perm hp2 u)]) ?_
      refine st (pkT rfl rfl) rfl ?_
      refine st (mv rfl) rfl ?_
      refine gT rfl rfl ?_
      refine st (mv rfl) rfl ?_
      refine gT rfl rfl ?_
      refine st (mv rfl) rfl ?_
      refine gT rfl rfl ?_
      refine st (eq rfl rfl) rfl ?_
      refine cv (u := .bool true) (by rw [nodesE_perm hp2]; simp) ?_
      refine st (pkT rfl rfl) rfl ?_
      refine st (mv rfl) rfl ?_
      refine gT rfl rfl ?_
      refine st (cl0 C10 (fnc _) rfl (fun _ hw => known_c hw (hg.mono Hm.m))) rfl ?_
      refine st (pkT rfl rfl) rfl ?_
      refine st (asg rfl) rfl ?_
      refine nl ?_
      refine nS ?_
      refine rt ?_
      exact ret1 rfl rfl rfl o0
end Go.W
/- The arguments' readings: what comes in as plain data reads as lists of dots, runs, numbers and operations; what the bound on the bulk gives. -/
namespace Go.W
open Go Go.Proofs.YtcjnbfpkigadeaaGreatDoor Go.ChangeShapes Go.WideShapes

/-! ### Bulk -/
section bulk
variable {H : Type}
theorem bulk_mem {d : DataW H} {l : List (DataW H)} (h : d ∈ l) : Rows.uptoBulk d ≤ Rows.uptoBulkAll l := by
  induction l with
  | nil => cases h
  | cons x r ih =>
    simp only [Rows.uptoBulkAll]
    rcases List.mem_cons.1 h with e | e
    · subst e; omega
    · have := ih e; omega
theorem bulk_one (d : DataW H) : 1 ≤ Rows.uptoBulk d := by
  cases d with
  | lit l => cases l <;> simp [Rows.uptoBulk]
  | _ => simp [Rows.uptoBulk]
theorem bulk_len (l : List (DataW H)) : l.length ≤ Rows.uptoBulkAll l := by
  induction l with
  | nil => simp [Rows.uptoBulkAll]
  | cons x r ih => have := bulk_one x; simp only [Rows.uptoBulkAll, List.length_cons]; omega
theorem bulk_agg {d : DataW H} {l : List (DataW H)} (h : d ∈ l) : Rows.uptoBulk d ≤ Rows.uptoBulk (.agg l) := by
  have := bulk_mem h
  simp only [Rows.uptoBulk]; omega
end bulk

/-! ### Cells and slices -/
theorem cellq {w : World} {a : Addr} {v : Value} (h : w.cell? a = some v) : a.spot = none ∧ ∃ cs e fz, w.heap[a.block]? = some (.cells cs e fz) ∧ cs[a.off]? = some v := by
  unfold World.cell? at h
  split at h
  · rename_i c t fz hb
    split at h
    · cases h
    · rename_i hs
      exact ⟨by simpa using hs, c, t, fz, hb, h⟩
  · cases h
theorem cells_at {w : World} {b o : Nat} {vs : List Value} (h0 : 0 < vs.length) (h : ∀ i, i < vs.length → w.cell? ⟨b, o + i, none⟩ = vs[i]?) : CellsAt (Wm w) ⟨b, o, none⟩ vs := by
  obtain ⟨v0, hv0⟩ : ∃ v, vs[0]? = some v := ⟨vs[0], List.getElem?_eq_getElem h0⟩
  obtain ⟨_, cs, e, fz, hb, _⟩ := cellq ((h 0 h0).trans hv0)
  refine ⟨rfl, cs, e, fz, hb, fun i v hv => ?_⟩
  have hi : i < vs.length := (List.getElem?_eq_some_iff.1 hv).1
  obtain ⟨_, cs', e', fz', hb', hc⟩ := cellq ((h i hi).trans hv)
  have := hb.symm.trans hb'
  simp only [Option.some.injEq, Obj.cells.injEq] at this
  obtain ⟨rfl, rfl, rfl⟩ := this
  exact hc
theorem list_of {α : Type} {Q : Nat → α → Prop} : ∀ (n : Nat), (∀ i, i < n → ∃ x, Q i x) → ∃ xs : List α, xs.length = n ∧ ∀ i x, xs[i]? = some x → Q i x
  | 0, _ => ⟨[], rfl, fun i x h => by simp at h⟩
  | n + 1, h => by
    obtain ⟨xs, h1, h2⟩ := list_of n fun i hi => h i (by omega)
    obtain ⟨y, hy⟩ := h n (by omega)
    refine ⟨xs ++ [y], by simp [h1], fun i x hx => ?_⟩
    by_cases hi : i < n
    · rw [List.getElem?_append_left (by omega)] at hx; exact h2 i x hx
    · have hi' : i = n := by have := (List.getElem?_eq_some_iff.1 hx).1; simp at this; omega
      subst hi'
      rw [List.getElem?_append_right (by omega), h1, Nat.sub_self] at hx
      simp at hx
      exact hx ▸ hy

section rd
variable {H : Type} {enc : TypeId × Value → H} {P : Program} {w : World} {base : Nat} {spare : Nat → Bool} {held : Bool}

theorem rd_sl {α : Type} {sz : Nat} {R : Mem → List Value → α → Prop} {fuel : Nat} {V : Value} {t e : TypeId} {x : DataW H × List MemPlace} (ht : P.underlying t = some (.slice e)) (hc : P.cellsOf e = sz) (h0 : 0 < sz)
    (hel : ∀ fuel cs y, cs.length = sz → DataW.trod enc P w base spare held fuel e cs = some y → Rows.uptoBulk y.1 ≤ 1048576 → ∃ z, R (Wm w) cs z)
    (h : DataW.trod enc P w base spare held fuel t [V] = some x) (hb : Rows.uptoBulk x.1 ≤ 1048576) : ∃ xs, Sl (Wm w) sz R V xs := by
  rcases DataW.trod_slice ht h with ⟨hcs, _⟩ | ⟨a, len, cap, elems, rest, n, _, hcs, rfl, _, hl, hm, hz, hcell, _, _⟩
  · simp only [List.cons.injEq, and_true] at hcs
    subst hcs
    exact ⟨[], Sl.nil⟩
  · simp only [List.cons.injEq, and_true] at hcs
    subst hcs
    have hbk : Rows.uptoBulkAll (elems.map (·.1)) ≤ 1048576 := by simp only [Rows.uptoBulk] at hb; omega
    have hlen : len ≤ 1048576 := by have := bulk_len (elems.map (·.1)); simp only [List.length_map] at this; omega
    have hel' : ∀ i, i < len → ∃ vs z, vs.length = sz ∧ (∀ j, j < sz → w.cell? ((a.add (i * sz)).add j) = vs[j]?) ∧ R (Wm w) vs z := fun i hi => by
      have hy := hcell i hi
      rw [List.getElem?_eq_getElem (by omega : i < elems.length)] at hy
      obtain ⟨vs, hv, hy⟩ := Option.bind_eq_some_iff.1 hy
      rw [hc] at hv
      obtain ⟨_, e2, e3⟩ := World.cells?_some hv
      have hmem : (elems[i]'(by omega)).1 ∈ elems.map (·.1) := List.mem_map_of_mem (List.getElem_mem _)
      obtain ⟨z, hz⟩ := hel _ _ _ e2 hy (by have := bulk_mem hmem; omega)
      exact ⟨vs, z, e2, e3, hz⟩
    by_cases hl0 : 0 < len
    · obtain ⟨vs, z, e2, e3, _⟩ := hel' 0 hl0
      have e30 := e3 0 h0
      rw [List.getElem?_eq_getElem (by omega : 0 < vs.length)] at e30
      have hs := (cellq e30).1
      obtain ⟨b, o, spot⟩ := a
      have hsp : spot = none := by simpa [Addr.add] using hs
      subst hsp
      obtain ⟨xs, hx1, hx2⟩ := list_of (Q := fun i z => ∃ vs, CellsAt (Wm w) ⟨b, o + i * sz, none⟩ vs ∧ vs.length = sz ∧ R (Wm w) vs z) len fun i hi => by
        obtain ⟨vs, z, a1, a2, a3⟩ := hel' i hi
        exact ⟨z, vs, cells_at (by omega) fun j hj => by have := a2 j (by omega); rwa [add_plain, add_plain] at this, a1, a3⟩
      exact ⟨xs, some ⟨b, o, none⟩, cap, by rw [hx1], ⟨by omega, by omega⟩, fun _ => ⟨b, o, rfl, hx2⟩⟩
    · have : len = 0 := by omega
      subst this
      exact ⟨[], some a, cap, rfl, ⟨by simp, by simp⟩, fun h => by simp at h⟩

theorem rd_int {fuel : Nat} {cs : List Value} {t : TypeId} {x : DataW H × List MemPlace} (ht : P.underlying t = some (.int .i64)) (h : DataW.trod enc P w base spare held fuel t cs = some x) :
    ∃ n : Int, cs = [.int .i64 n] ∧ (-9223372036854775808 ≤ n ∧ n ≤ 9223372036854775807) := by
  obtain ⟨n, rfl, _, hw⟩ := DataW.trod_int ht h
  refine ⟨n, rfl, ?_⟩
  simp only [Lit.wf, Bool.and_eq_true, decide_eq_true_eq] at hw
  exact hw
end rd

theorem Sl.imp {α : Type} {M : Mem} {sz : Nat} {R R' : Mem → List Value → α → Prop} {V : Value} {xs : List α} (h : Sl M sz R V xs) (hi : ∀ vs x, R M vs x → R' M vs x) : Sl M sz R' V xs := by
  obtain ⟨A, c, h1, h2, h3⟩ := h
  refine ⟨A, c, h1, h2, fun hn => ?_⟩
  obtain ⟨b, o, h4, h5⟩ := h3 hn
  exact ⟨b, o, h4, fun i x hx => let ⟨vs, a1, a2, a3⟩ := h5 i x hx; ⟨vs, a1, a2, hi _ _ a3⟩⟩
theorem Sl.all {α : Type} {M : Mem} {sz : Nat} {R : Mem → List Value → α → Prop} {V : Value} {xs : List α} (h : Sl M sz R V xs) {x : α} (hx : x ∈ xs) : ∃ vs, R M vs x := by
  obtain ⟨A, c, h1, h2, h3⟩ := h
  obtain ⟨i, hi, rfl⟩ := List.getElem_of_mem hx
  obtain ⟨b, o, h4, h5⟩ := h3 (by omega)
  obtain ⟨vs, _, _, a3⟩ := h5 i _ (List.getElem?_eq_getElem hi)
  exact ⟨vs, a3⟩

theorem ex2 {α : Type} {l : List α} (h : l.length = 2) : ∃ a0 a1, l = [a0, a1] := by
  match l, h with
  | [a0, a1], _ => exact ⟨a0, a1, rfl⟩
theorem ex3 {α : Type} {l : List α} (h : l.length = 3) : ∃ a0 a1 a2, l = [a0, a1, a2] := by
  match l, h with
  | [a0, a1, a2], _ => exact ⟨a0, a1, a2, rfl⟩
theorem ex8 {α : Type} {l : List α} (h : l.length = 8) : ∃ a0 a1 a2 a3 a4 a5 a6 a7, l = [a0, a1, a2, a3, a4, a5, a6, a7] := by
  match l, h with
  | [a0, a1, a2, a3, a4, a5, a6, a7], _ => exact ⟨a0, a1, a2, a3, a4, a5, a6, a7, rfl⟩
theorem ex11 {α : Type} {l : List α} (h : l.length = 11) : ∃ a0 a1 a2 a3 a4 a5 a6 a7 a8 a9 a10, l = [a0, a1, a2, a3, a4, a5, a6, a7, a8, a9, a10] := by
  match l, h with
  | [a0, a1, a2, a3, a4, a5, a6, a7, a8, a9, a10], _ => exact ⟨a0, a1, a2, a3, a4, a5, a6, a7, a8, a9, a10, rfl⟩

/-! ### This program's types -/
section tys
open Go.Proofs
variable {H : Type} {enc : TypeId × Value → H} {w : World} {base : Nat} {spare : Nat → Bool} {held : Bool} {fuel : Nat} {cs : List Value} {x : DataW H × List MemPlace}
theorem cI : Tryz.prog.cellsOf 3 = 1 := by kernel_rfl
theorem cS : Tryz.prog.cellsOf 9 = 1 := by kernel_rfl
theorem cDot : Tryz.prog.cellsOf 29 = 2 := by kernel_rfl
theorem cID : Tryz.prog.cellsOf 59 = 2 := by kernel_rfl
theorem cRun : Tryz.prog.cellsOf 89 = 3 := by kernel_rfl
theorem cOp : Tryz.prog.cellsOf 62 = 11 := by kernel_rfl
theorem cVec : Tryz.prog.cellsOf 24 = 1 := by kernel_rfl
theorem cRuns : Tryz.prog.cellsOf 60 = 1 := by kernel_rfl

theorem fld {P : Program} {n t o k : Nat} {f : Field} {y : Option (DataW H × List MemPlace)} (hf : DataW.trod enc P w base spare held n f.type (List.take (P.cellsOf f.type) (List.drop f.offset cs)) = y) (ht : f.type = t) (ho : f.offset = o) (hc : P.cellsOf t = k) : DataW.trod enc P w base spare held n t (List.take k (List.drop o cs)) = y := by
  subst ht ho hc; exact hf
theorem rd_dot (hl : cs.length = 2) (h : DataW.trod enc Tryz.prog w base spare held fuel 29 cs = some x) : ∃ d, RDot (Wm w) cs d := by
  obtain ⟨xs, n, _, rfl, _, hs, hf⟩ := DataW.trod_struct Tryz.underlying29 h
  obtain ⟨a, b, rfl⟩ := ex2 hl
  obtain ⟨y0, y1, rfl⟩ := ex2 (hs.trans rfl)
  have f0 := fld (hf 0 _ rfl) (t := 3) (o := 0) rfl rfl cI
  have f1 := fld (hf 1 _ rfl) (t := 3) (o := 1) rfl rfl cI
  obtain ⟨i, ei, hi⟩ := rd_int Tryz.underlying3 f0
  obtain ⟨j, ej, hj⟩ := rd_int Tryz.underlying3 f1
  simp at ei ej
  subst ei ej
  exact ⟨⟨i, j⟩, rfl, hi, hj⟩
theorem rd_id (hl : cs.length = 2) (h : DataW.trod enc Tryz.prog w base spare held fuel 59 cs = some x) : ∃ d, RID (Wm w) cs d := by
  obtain ⟨xs, n, _, rfl, _, hs, hf⟩ := DataW.trod_struct Tryz.underlying59 h
  obtain ⟨a, b, rfl⟩ := ex2 hl
  obtain ⟨y0, y1, rfl⟩ := ex2 (hs.trans rfl)
  have f0 := fld (hf 0 _ rfl) (t := 3) (o := 0) rfl rfl cI
  have f1 := fld (hf 1 _ rfl) (t := 3) (o := 1) rfl rfl cI
  obtain ⟨i, ei, hi⟩ := rd_int Tryz.underlying3 f0
  obtain ⟨j, ej, hj⟩ := rd_int Tryz.underlying3 f1
  simp at ei ej
  subst ei ej
  exact ⟨⟨i, j⟩, rfl, hi, hj⟩
theorem rd_run (hl : cs.length = 3) (h : DataW.trod enc Tryz.prog w base spare held fuel 89 cs = some x) : ∃ d, RRun (Wm w) cs d := by
  obtain ⟨xs, n, _, rfl, _, hs, hf⟩ := DataW.trod_struct Tryz.underlying89 h
  obtain ⟨a, b, c, rfl⟩ := ex3 hl
  obtain ⟨y0, y1, rfl⟩ := ex2 (hs.trans rfl)
  have f0 := fld (hf 0 _ rfl) (t := 59) (o := 0) rfl rfl cID
  have f1 := fld (hf 1 _ rfl) (t := 3) (o := 2) rfl rfl cI
  obtain ⟨d, ed, h1, h2⟩ := rd_id (by simp) f0
  obtain ⟨j, ej, hj⟩ := rd_int Tryz.underlying3 f1
  simp at ed ej
  obtain ⟨rfl, rfl⟩ := ed
  subst ej
  exact ⟨⟨d, j⟩, rfl, h1, h2, hj⟩
theorem rd_vec {V : Value} (h : DataW.trod enc Tryz.prog w base spare held fuel 24 [V] = some x) (hb : Rows.uptoBulk x.1 ≤ 1048576) : ∃ xs, Sl (Wm w) 2 RDot V xs :=
  rd_sl Tryz.underlying24 cDot (by decide) (fun _ _ _ hl hy _ => rd_dot hl hy) h hb
theorem rd_runs {V : Value} (h : DataW.trod enc Tryz.prog w base spare held fuel 60 [V] = some x) (hb : Rows.uptoBulk x.1 ≤ 1048576) : ∃ xs, Sl (Wm w) 3 RRun V xs :=
  rd_sl Tryz.underlying60 cRun (by decide) (fun _ _ _ hl hy _ => rd_run hl hy) h hb
theorem rd_op (hl : cs.length = 11) (h : DataW.trod enc Tryz.prog w base spare held fuel 62 cs = some x) (hb : Rows.uptoBulk x.1 ≤ 1048576) : ∃ d, ROp (Wm w) cs d := by
  obtain ⟨xs, n, _, rfl, _, hs, hf⟩ := DataW.trod_struct Tryz.underlying62 h
  obtain ⟨c0, c1, c2, c3, c4, c5, c6, c7, c8, c9, c10, rfl⟩ := ex11 hl
  obtain ⟨y0, y1, y2, y3, y4, y5, y6, y7, rfl⟩ := ex8 (hs.trans rfl)
  have f0 := fld (hf 0 _ rfl) (t := 29) (o := 0) rfl rfl cDot
  have f1 := fld (hf 1 _ rfl) (t := 24) (o := 2) rfl rfl cVec
  have f2 := fld (hf 2 _ rfl) (t := 3) (o := 3) rfl rfl cI
  have f3 := fld (hf 3 _ rfl) (t := 59) (o := 4) rfl rfl cID
  have f4 := fld (hf 4 _ rfl) (t := 59) (o := 6) rfl rfl cID
  have f5 := fld (hf 5 _ rfl) (t := 9) (o := 8) rfl rfl cS
  have f6 := fld (hf 6 _ rfl) (t := 60) (o := 9) rfl rfl cRuns
  have f7 := fld (hf 7 _ rfl) (t := 3) (o := 10) rfl rfl cI
  have hb' : Rows.uptoBulk (.agg [y0.1, y1.1, y2.1, y3.1, y4.1, y5.1, y6.1, y7.1]) ≤ 1048576 := hb
  clear hb
  have b1 : Rows.uptoBulk y1.1 ≤ 1048576 := Nat.le_trans (bulk_agg (.tail _ (.head _))) hb'
  have b5 : Rows.uptoBulk y5.1 ≤ 1048576 := Nat.le_trans (bulk_agg (.tail _ (.tail _ (.tail _ (.tail _ (.tail _ (.head _))))))) hb'
  have b6 : Rows.uptoBulk y6.1 ≤ 1048576 := Nat.le_trans (bulk_agg (.tail _ (.tail _ (.tail _ (.tail _ (.tail _ (.tail _ (.head _)))))))) hb'
  obtain ⟨d, ed, h1, h2⟩ := rd_dot (by simp) f0
  obtain ⟨vs, hvs⟩ := rd_vec f1 b1
  obtain ⟨k, ek, hk⟩ := rd_int Tryz.underlying3 f2
  obtain ⟨id, eid, h3, h4⟩ := rd_id (by simp) f3
  obtain ⟨rf, erf, h5, h6⟩ := rd_id (by simp) f4
  obtain ⟨s, es, es2, hs⟩ := DataW.trod_string Tryz.underlying9 f5
  obtain ⟨gs, hgs⟩ := rd_runs f6 b6
  obtain ⟨si, esi, hsi⟩ := rd_int Tryz.underlying3 f7
  simp at ed ek eid erf es esi
  obtain ⟨rfl, rfl⟩ := ed
  obtain ⟨rfl, rfl⟩ := eid
  obtain ⟨rfl, rfl⟩ := erf
  subst ek es esi
  have hs' : s.size ≤ 1152921504606846975 := by
    rw [es2] at b5
    simp only [Rows.uptoBulk] at b5
    have : s.data.toList.length = s.size := Array.length_toList
    omega
  exact ⟨⟨d, vs, k, id, rf, s, gs, si⟩, _, _, rfl, hvs, hgs, ⟨h1, h2, hk, hsi⟩, ⟨⟨h3, h4⟩, ⟨h5, h6⟩⟩, hs'⟩
theorem rd_ops {V : Value} (h : DataW.trod enc Tryz.prog w base spare held fuel 22 [V] = some x) (hb : Rows.uptoBulk x.1 ≤ 1048576) : ∃ xs, Sl (Wm w) 11 ROp V xs :=
  rd_sl Tryz.underlying22 cOp (by decide) (fun _ _ _ hl hy hb => rd_op hl hy hb) h hb
theorem rd_ints {V : Value} (h : DataW.trod enc Tryz.prog w base spare held fuel 45 [V] = some x) (hb : Rows.uptoBulk x.1 ≤ 1048576) : ∃ xs : List Int, Sl (Wm w) 1 RInt V xs ∧ ∀ t ∈ xs, -9223372036854775808 ≤ t ∧ t ≤ 9223372036854775807 := by
  obtain ⟨xs, hxs⟩ := rd_sl (R := fun _ vs (n : Int) => vs = [Value.int .i64 n] ∧ (-9223372036854775808 ≤ n ∧ n ≤ 9223372036854775807)) Tryz.underlying45 cI (by decide) (fun _ _ _ hl hy _ => rd_int Tryz.underlying3 hy) h hb
  exact ⟨xs, hxs.imp fun _ _ h => h.1, fun t ht => let ⟨_, _, h⟩ := hxs.all ht; h⟩

/-! ### The table -/
theorem gTab : Tryz.prog.globalNamed "math/bits.deBruijn32tab" = some 0 := by kernel_rfl
end tys
end Go.W
