/- Lemmas for the walks of this program: Forgetting settled elements: plain words. Walks. Written by a program of mine. The document of a set of operations: plain words; function values in maps. Walks. Written by a program of mine. What is told of a set of operations: plain words. Walks. Written by a program of mine. The order of operations does not matter: plain words. -/
import Derived.Test.YtcjnbfpkigadeaaGreatDoorJ10
set_option linter.unusedVariables false
set_option linter.unusedSimpArgs false
/- Forgetting settled elements: plain words. -/
namespace Go.W
open Go Go.Proofs.Tryz

def remN (l : List Nd) (k : ID) : List Nd := l.filter fun n => decide (n.id ≠ k)
def colStep (l : List Nd) (k : ID) : List Nd := if (ndOf l k).state = 3 ∧ kidsOf l k = [] then remN l k else l
def colN (l : List Nd) : List Nd := (allL l).reverse.foldl colStep l
def bwE (xs : List ID) : List (Int × ID) := (enumI xs 0).reverse

theorem mem_remN {l : List Nd} {k : ID} {n : Nd} : n ∈ remN l k ↔ n ∈ l ∧ n.id ≠ k := by unfold remN; simp
theorem ids_remN (l : List Nd) (k : ID) : (remN l k).map (·.id) = (l.map (·.id)).filter fun x => decide (x ≠ k) := by
  unfold remN; induction l with
  | nil => rfl
  | cons n l ih =>
    by_cases h : n.id = k
    · rw [List.filter_cons_of_neg (by simp [h]), List.map_cons, List.filter_cons_of_neg (by simp [h]), ih]
    · rw [List.filter_cons_of_pos (by simp [h]), List.map_cons, List.map_cons, List.filter_cons_of_pos (by simp [h]), ih]
theorem kids_remN {l : List Nd} (h : Tr l) {k : ID} (r : ID) : kidsOf (remN l k) r = (kidsOf l r).filter fun x => decide (x ≠ k) := by
  have hn2 : ((remN l k).map (·.id)).Nodup := by rw [ids_remN]; exact h.nodup.filter _
  refine eq_of_above (kidsOf_sorted hn2) ((kidsOf_sorted h.nodup).filter _) fun x => ?_
  rw [mem_kidsOf, List.mem_filter, mem_kidsOf]
  constructor
  · rintro ⟨n, hn, rfl, rfl⟩
    obtain ⟨h1, h2⟩ := mem_remN.1 hn
    exact ⟨⟨n, h1, rfl, rfl⟩, by simpa using h2⟩
  · rintro ⟨⟨n, hn, rfl, rfl⟩, h2⟩
    exact ⟨n, mem_remN.2 ⟨hn, by simpa using h2⟩, rfl, rfl⟩
theorem mem_col {n : Nd} : ∀ (ks : List ID) (l : List Nd), n ∈ l → n.id ∉ ks → n ∈ ks.foldl colStep l := by
  intro ks
  induction ks with
  | nil => intro l h _; exact h
  | cons k ks ih =>
    intro l h hk
    simp only [List.mem_cons, not_or] at hk
    refine ih _ ?_ hk.2
    unfold colStep
    split
    · exact mem_remN.2 ⟨h, hk.1⟩
    · exact h
theorem enum_rev_snd : ∀ (p : List ID) (k : Int), ((enumI p k).map (·.2)) = p := by
  intro p
  induction p with
  | nil => intro k; rfl
  | cons y p ih => intro k; simp [enumI, ih]
theorem bwE_snd (xs : List ID) : (bwE xs).map (·.2) = xs.reverse := by unfold bwE; rw [List.map_reverse, enum_rev_snd]
theorem bwE_split {xs : List ID} {i : Nat} {x : ID} (h : xs[i]? = some x) : bwE xs = (enumI (xs.drop (i + 1)) ((i : Int) + 1)).reverse ++ ((i : Int), x) :: (enumI (xs.take i) 0).reverse := by
  obtain ⟨hi, rfl⟩ := List.getElem?_eq_some_iff.1 h
  have e : xs = xs.take i ++ xs[i] :: xs.drop (i + 1) := by rw [List.getElem_cons_drop, List.take_append_drop]
  unfold bwE
  conv => lhs; rw [e]
  rw [enum_split, List.reverse_append, List.reverse_cons, List.length_take, Nat.min_eq_left (by omega), Int.zero_add, List.append_assoc]
  rfl
theorem bw_step {xs : List ID} {i : Nat} {x : ID} (h : xs[i]? = some x) : (enumI (xs.drop i) (i : Int)).reverse = (enumI (xs.drop (i + 1)) ((i : Int) + 1)).reverse ++ [((i : Int), x)] := by
  obtain ⟨hi, rfl⟩ := List.getElem?_eq_some_iff.1 h
  rw [List.drop_eq_getElem_cons hi, enumI, List.reverse_cons]

/-- Where the list lies that stands behind r. -/
def TD.lb (d : TD) (r : ID) : Nat := if r = z0 then d.T else d.ad r
def lo6 (r : ID) : Nat := if r = z0 then 0 else 6
/-- One list gone over into another one. -/
def TD.setv (d : TD) (r : ID) (V : Value) (ov : Own) : TD := { d with vs := fun x => if x = r then V else d.vs x, os := fun x => if x = r then ov else d.os x }
theorem setv_same (d : TD) (r : ID) : d.setv r (d.vs r) (d.os r) = d := by
  unfold TD.setv
  have h1 : (fun x => if x = r then d.vs r else d.vs x) = d.vs := by funext x; split; · rename_i h; rw [h]
                                                                     · rfl
  have h2 : (fun x => if x = r then d.os r else d.os x) = d.os := by funext x; split; · rename_i h; rw [h]
                                                                     · rfl
  rw [h1, h2]
/-- The block that holds a list's value, its blocks, and the rest. -/
theorem par_lay {d : TD} (hnd : d.ids.Nodup) (hz : z0 ∉ d.ids) {r : ID} (hr : r = z0 ∨ r ∈ d.ids) : ∃ (E : Nat) (pre post : List Value) (rst : Own), pre.length = lo6 r ∧
    ∀ V ov, (d.setv r V ov).lay.Perm ([(d.lb r, .cells (pre ++ V :: post).toArray E (0, 0))] ++ (ov ++ rst)) := by
  by_cases h0 : r = z0
  · subst h0
    refine ⟨187, [], [Value.map (d.byv.map Prod.fst)], d.byv.toList ++ d.nds.flatMap d.blk, by simp [lo6], fun V ov => ?_⟩
    rw [TD.lay_eq]
    have e1 : (d.setv z0 V ov).nds.flatMap (d.setv z0 V ov).blk = d.nds.flatMap d.blk := flatMap_congr' fun n hn => by
      have : n.id ≠ z0 := fun e => hz (e ▸ List.mem_map_of_mem hn)
      show [(d.ad n.id, Obj.cells (encNd n ++ [if n.id = z0 then V else d.vs n.id]).toArray _ (0, 0))] ++ (if n.id = z0 then ov else d.os n.id) = _
      rw [if_neg this, if_neg this]; rfl
    have e2 : (d.setv z0 V ov).os z0 = ov := by show (if z0 = z0 then ov else d.os z0) = ov; exact if_pos rfl
    have e3 : (d.setv z0 V ov).top = [(d.T, .cells ([] ++ V :: [Value.map (d.byv.map Prod.fst)]).toArray 187 (0, 0))] := by
      show [(d.T, Obj.cells [if z0 = z0 then V else d.vs z0, _].toArray _ (0, 0))] = _
      rw [if_pos rfl]; rfl
    have e4 : d.lb z0 = d.T := if_pos rfl
    rw [e1, e2, e3, e4]
    exact perm_ct fun x => by
      simp only [ct_app]
      rw [show (d.setv z0 V ov).byv = d.byv from rfl]; omega
  · have hri := hr.resolve_left h0
    obtain ⟨m, hm, rfl⟩ := List.mem_map.1 hri
    obtain ⟨pre, post, hs⟩ := List.append_of_mem hm
    have hn0 : (pre.map (·.id) ++ m.id :: post.map (·.id)).Nodup := by have := hnd; unfold TD.ids at this; rw [hs] at this; simpa using this
    rw [List.nodup_append, List.nodup_cons] at hn0
    refine ⟨163, encNd m, [], d.top ++ (d.byv.toList ++ (d.os z0 ++ (pre.flatMap d.blk ++ post.flatMap d.blk))), by unfold lo6; rw [if_neg h0]; rfl, fun V ov => ?_⟩
    have hz0 : ¬ z0 = m.id := fun e => h0 e.symm
    have hb : ∀ n ∈ d.nds, n.id ≠ m.id → (d.setv m.id V ov).blk n = d.blk n := fun n _ hne => by
      show [(d.ad n.id, Obj.cells (encNd n ++ [if n.id = m.id then V else d.vs n.id]).toArray _ (0, 0))] ++ (if n.id = m.id then ov else d.os n.id) = _
      rw [if_neg hne, if_neg hne]; rfl
    have hbm : (d.setv m.id V ov).blk m = [(d.ad m.id, .cells (encNd m ++ V :: []).toArray 163 (0, 0))] ++ ov := by
      show [(d.ad m.id, Obj.cells (encNd m ++ [if m.id = m.id then V else d.vs m.id]).toArray _ (0, 0))] ++ (if m.id = m.id then ov else d.os m.id) = _
      rw [if_pos rfl, if_pos rfl]
    have e2 : (d.setv m.id V ov).os z0 = d.os z0 := by show (if z0 = m.id then ov else d.os z0) = _; exact if_neg hz0
    have e3 : (d.setv m.id V ov).top = d.top := by
      show [(d.T, Obj.cells [if z0 = m.id then V else d.vs z0, _].toArray _ (0, 0))] = _
      rw [if_neg hz0]; rfl
    have e4 : d.lb m.id = d.ad m.id := if_neg h0
    rw [TD.lay_eq, show (d.setv m.id V ov).nds = pre ++ m :: post from hs, List.flatMap_append, List.flatMap_cons, hbm, e2, e3, e4,
      flatMap_congr' (f := (d.setv m.id V ov).blk) (g := d.blk) fun n hn => hb n (by rw [hs]; simp [hn]) fun e => hn0.2.2 n.id (List.mem_map_of_mem hn) m.id (by simp) e,
      flatMap_congr' (l := post) (f := (d.setv m.id V ov).blk) (g := d.blk) fun n hn => hb n (by rw [hs]; simp [hn]) fun e => hn0.2.1.1 (by rw [← e]; exact List.mem_map_of_mem hn)]
    exact perm_ct fun x => by
      simp only [ct_app]
      rw [show (d.setv m.id V ov).byv = d.byv from rfl]; omega
/-- The map's block. -/
theorem map_lay {d : TD} {mp : Nat × Obj} (h : d.byv = some mp) : ∃ rst : Own, d.lay.Perm ([mp] ++ rst) ∧ ∀ ob' k, ∃ g : Own, ([(mp.1, ob')] ++ rst).Perm (({ d with byv := some (mp.1, ob'), nds := remN d.nds k } : TD).lay ++ g) := by
  refine ⟨d.top ++ (d.os z0 ++ d.nds.flatMap d.blk), ?_, fun ob' k => ?_⟩
  · rw [TD.lay_eq, h]
    exact perm_ct fun x => by simp only [Option.toList_some, ct_app]; omega
  · have hsub : ∀ l : List Nd, ∃ g : Own, (l.flatMap d.blk).Perm ((remN l k).flatMap d.blk ++ g) := by
      intro l
      induction l with
      | nil => exact ⟨[], by simp [remN]⟩
      | cons n l ih =>
        obtain ⟨g, hg⟩ := ih
        by_cases e : n.id = k
        · refine ⟨d.blk n ++ g, ?_⟩
          have : remN (n :: l) k = remN l k := by unfold remN; rw [List.filter_cons_of_neg (by simp [e])]
          rw [this, List.flatMap_cons]
          refine (List.Perm.append_left _ hg).trans ?_
          exact perm_ct fun x => by simp only [ct_app]; omega
        · refine ⟨g, ?_⟩
          have : remN (n :: l) k = n :: remN l k := by unfold remN; rw [List.filter_cons_of_pos (by simp [e])]
          rw [this, List.flatMap_cons, List.flatMap_cons, List.append_assoc]
          exact List.Perm.append_left _ hg
    obtain ⟨g, hg⟩ := hsub d.nds
    refine ⟨g, ?_⟩
    have e1 : ({ d with byv := some (mp.1, ob'), nds := remN d.nds k } : TD).lay = d.top ++ ([(mp.1, ob')] ++ (d.os z0 ++ (remN d.nds k).flatMap d.blk)) := by
      rw [TD.lay_eq]
      have : ({ d with byv := some (mp.1, ob'), nds := remN d.nds k } : TD).top = d.top := by
        unfold TD.top; rw [h]; rfl
      rw [this]; rfl
    rw [e1]
    refine (List.Perm.append_left _ (List.Perm.append_left _ (List.Perm.append_left _ hg))).trans ?_
    exact perm_ct fun x => by simp only [ct_app]; omega
/-- An element without any behind it goes. -/
theorem rem_ok {d : TD} (hok : d.Ok) {n : Nd} (hn : n ∈ d.nds) (hk : d.kids n.id = []) {mp : Nat × Obj} (hb : d.byv = some mp) {ob' : Obj} {V : Value} {ov : Own} (hm : Mp encI ob' (delK (d.nds.map fun n => (n.id, pt (d.ad n.id) 0)) n.id))
    (hv : OS ov 160 1 V (((d.kids n.ref).filter fun x => decide (x ≠ n.id)).map fun k => pt (d.ad k) 0)) :
    ({ d.setv n.ref V ov with byv := some (mp.1, ob'), nds := remN d.nds n.id } : TD).Ok := by
  have hids : ({ d.setv n.ref V ov with byv := some (mp.1, ob'), nds := remN d.nds n.id } : TD).ids = d.ids.filter fun x => decide (x ≠ n.id) := ids_remN d.nds n.id
  refine ⟨by rw [hids]; exact hok.nodup.filter _, by rw [hids]; exact fun h => hok.nz (List.mem_filter.1 h).1, ?_, fun r hr => ?_, fun m hm' => ?_, fun m hm' => ?_, ?_, fun m hm' => ?_⟩
  · show Mp encI ob' ((remN d.nds n.id).map fun m => (m.id, pt (d.ad m.id) 0))
    have : (remN d.nds n.id).map (fun m => (m.id, pt (d.ad m.id) 0)) = delK (d.nds.map fun n => (n.id, pt (d.ad n.id) 0)) n.id := by
      unfold remN delK
      generalize d.nds = l
      induction l with
      | nil => rfl
      | cons m l ih =>
        by_cases e : m.id = n.id
        · rw [List.filter_cons_of_neg (by simp [e]), List.map_cons, List.filter_cons_of_neg (by simp [e]), ih]
        · rw [List.filter_cons_of_pos (by simp [e]), List.map_cons, List.map_cons, List.filter_cons_of_pos (by simp [e]), ih]
    rw [this]; exact hm
  · rw [hids] at hr
    show OS (if r = n.ref then ov else d.os r) _ 1 (if r = n.ref then V else d.vs r) ((kidsOf (remN d.nds n.id) r).map fun k => pt (d.ad k) 0)
    rw [kids_remN hok.tr]
    by_cases e : r = n.ref
    · subst e; rw [if_pos rfl, if_pos rfl]; exact hv
    · rw [if_neg e, if_neg e]
      have h1 : (kidsOf d.nds r).filter (fun x => decide (x ≠ n.id)) = d.kids r := by
        refine List.filter_eq_self.2 fun x hx => ?_
        obtain ⟨m, hm', e1, e2⟩ := mem_kidsOf.1 hx
        simp only [decide_eq_true_eq]
        intro e3
        have := nd_of_id hok.nodup hm' hn (e1.trans e3)
        subst this
        exact e e2.symm
      rw [h1]
      refine hok.sl r ?_
      rcases hr with hr | hr
      · exact .inl hr
      · exact .inr (List.mem_filter.1 hr).1
  · obtain ⟨h1, h2⟩ := mem_remN.1 hm'
    rw [hids]
    rcases hok.up m h1 with h3 | h3
    · exact .inl h3
    · refine .inr (List.mem_filter.2 ⟨h3, ?_⟩)
      simp only [decide_eq_true_eq]
      intro e
      have : m.id ∈ d.kids n.id := mem_kidsOf.2 ⟨m, h1, rfl, e⟩
      rw [hk] at this; cases this
  · exact hok.low m (mem_remN.1 hm').1
  · have := List.length_filter_le (fun m : Nd => decide (m.id ≠ n.id)) d.nds
    show (remN d.nds n.id).length ≤ _
    unfold remN; have := hok.few; omega
  · exact hok.rng m (mem_remN.1 hm').1
theorem filter_ne {ks : List ID} (h : ks.Nodup) {i : Nat} {k : ID} (hi : ks[i]? = some k) : ks.filter (fun x => decide (x ≠ k)) = ks.take i ++ ks.drop (i + 1) := by
  obtain ⟨hl, hk⟩ := List.getElem?_eq_some_iff.1 hi
  have e : ks = ks.take i ++ k :: ks.drop (i + 1) := by rw [← hk, List.getElem_cons_drop, List.take_append_drop]
  have hn := h
  rw [e, List.nodup_append, List.nodup_cons] at hn
  conv => lhs; rw [e]
  have h1 : (ks.take i).filter (fun x => decide (x ≠ k)) = ks.take i := List.filter_eq_self.2 fun x hx => by
    simp only [decide_eq_true_eq]; exact fun e => hn.2.2 x hx k (by simp) e
  have h2 : (ks.drop (i + 1)).filter (fun x => decide (x ≠ k)) = ks.drop (i + 1) := List.filter_eq_self.2 fun x hx => by
    simp only [decide_eq_true_eq]; exact fun e => hn.2.1.1 (e ▸ hx)
  rw [List.filter_append, List.filter_cons_of_neg (by simp), h1, h2]
section
variable {c : Cx} {D : List Deferred} {ops : Array Oper} {K : Act → World → Prop} {rest : List Oper} {l : Env} {h : List Own}
  {ty : TypeId} {pos : String} {af : Array Edge} {d : Nat}
/-- clear of one cell of an own block, at the front. -/
theorem clr1 {x : Operand} {t e' : TypeId} {b k o cp : Nat} {gg : Bool} {z1 : Value} {cs cs' : List Value} {e2 : TypeId} {hs : List Own} (hu : c.P.underlying t = some (.slice e')) (ht : Ty c.P e' 1 gg [z1] b) (hz : (val gg [z1]).cells = [z1].toArray)
    (hx : ev l x = some (.slice (some ⟨k, o, none⟩) 1 cp)) (hl : o < cs.length) (hf : flat z1 = true) (hc : setL cs o [z1] = cs') (kk : GL c D ops K rest l ([(k, .cells cs'.toArray e2 (0, 0))] :: hs)) :
    GL c D ops K (⟨none, .call { callee := .builtin .clear, args := #[x], argTypes := #[t] }, ty, pos, af, none⟩ :: rest) l ([(k, .cells cs.toArray e2 (0, 0))] :: hs) := by
  intro a w e s
  simp only [wpL, wanted_none, if_true]
  have h1 := ev_eq (e.on _) (x := x) (xs := (Op.call { callee := .builtin .clear, args := #[x], argTypes := #[t] }).operands) (by simp [Op.operands, Call.operands]) hx
  obtain ⟨w', r, a1, a2, a3, a4, a5, a6⟩ := run_storeCells (P := c.P) [z1] w o 0 cs (s.chg.own (k, .cells cs.toArray e2 (0, 0)) (by simp)) (by simp; omega) (by simp [hf])
  have hzc : (Builtin.zeroCells [z1].toArray 1).toList = [z1] := by simp [Builtin.zeroCells]
  have hrun : (execOp a.eval ⟨none, .call { callee := .builtin .clear, args := #[x], argTypes := #[t] }, ty, pos, af, none⟩).run c.P w = .ok (.value (.tuple #[])) w' := by
    have hr2 : (Builtin.clear_ #[t] ty #[.slice (some ⟨k, o, none⟩) 1 cp]).run c.P w = .ok (.tuple #[]) w' := by
      unfold Builtin.clear_
      show (do
        match ← underlying t, Value.slice (some ⟨k, o, none⟩) 1 cp with
        | _, .map none | _, .slice none _ _ | _, .slice _ 0 _ => pure ()
        | _, .map (some r) =>
          let .map _ clock ← getObj r | stuck "clear: map expected"
          setObj r (.map #[] clock)
        | .slice elem, .slice (some a) n _ => storeCells a (Builtin.zeroCells (← zeroValue elem).cells n).toList
        | _, _ => stuck "clear: map or slice expected"
        pure (Value.tuple #[]) : Sem Value).run c.P w = _
      simp [run_und hu, ht.zero, hz, hzc, r]
    simp [execOp, resolve, invoke, builtin, h1, hr2]
  subst hc
  exact opW.of (by simp) hrun (fun _ _ q => by cases q) (kk _ _ e (s.set a1 a2 a3 a4 a5 (by simpa using a6)))
end
theorem FnC.nd {P : Program} {f : FuncId} {args : List Value} {w : World} {o : Own} {R : Value → Own → Prop} (h : (o.map Prod.fst).Nodup → FnC P f args w o R) : FnC P f args w o R := fun a b => h b a b
theorem TD.inj {d : TD} (h : (d.lay.map Prod.fst).Nodup) {a b : ID} (ha : a ∈ d.ids) (hb : b ∈ d.ids) (e : d.ad a = d.ad b) : a = b := by
  obtain ⟨n, hn, rfl⟩ := List.mem_map.1 ha
  obtain ⟨m, hm, rfl⟩ := List.mem_map.1 hb
  by_cases hne : n.id = m.id
  · exact hne
  exfalso
  have key : ∀ l : List Nd, n ∈ l → m ∈ l → ¬ ((l.flatMap d.blk).map Prod.fst).Nodup := by
    intro l
    induction l with
    | nil => intro h; cases h
    | cons x l ih =>
      intro h1 h2 h3
      rw [List.flatMap_cons, List.map_append, List.nodup_append] at h3
      have hin : ∀ y ∈ l, d.ad y.id ∈ (l.flatMap d.blk).map Prod.fst := fun y hy => List.mem_map.2 ⟨(d.ad y.id, .cells (encNd y ++ [d.vs y.id]).toArray 163 (0, 0)), List.mem_flatMap.2 ⟨y, hy, by simp [TD.blk, TD.el]⟩, rfl⟩
      have hx : d.ad x.id ∈ (d.blk x).map Prod.fst := by simp [TD.blk, TD.el]
      rcases List.mem_cons.1 h1 with q1 | q1
      · subst q1
        rcases List.mem_cons.1 h2 with q2 | q2
        · exact hne (by rw [q2])
        · exact h3.2.2 _ hx _ (hin m q2) e
      · rcases List.mem_cons.1 h2 with q2 | q2
        · subst q2; exact h3.2.2 _ hx _ (hin n q1) e.symm
        · exact ih q1 q2 h3.2.1
  rw [TD.lay_eq, List.map_append, List.map_append, List.map_append, List.nodup_append, List.nodup_append, List.nodup_append] at h
  exact key d.nds hn hm h.2.1.2.1.2.1
abbrev ColS := Option (Nat × Obj) × List Nd × (ID → Value) × (ID → Own) × Int
def TD.wi (d : TD) (s : ColS) : TD := { d with byv := s.1, nds := s.2.1, vs := s.2.2.1, os := s.2.2.2.1 }
theorem TD.In.l {d : TD} {M : Mem} (h : d.In M) {r : ID} (hr : r = z0 ∨ r ∈ d.ids) : CellsAt M ⟨d.lb r, lo6 r, none⟩ [d.vs r] := by
  by_cases h0 : r = z0
  · subst h0
    rw [show d.lb z0 = d.T from if_pos rfl, show lo6 z0 = 0 from if_pos rfl]
    exact CellsAt.sub (o := 0) h.t fun i v hv => by
      match i with
      | 0 => exact hv
      | i + 1 => simp at hv
  · obtain ⟨n, hn, rfl⟩ := List.mem_map.1 (hr.resolve_left h0)
    rw [show d.lb n.id = d.ad n.id from if_neg h0, show lo6 n.id = 6 from if_neg h0]
    exact CellsAt.sub (o := 6) (h.e hn) fun i v hv => by
      match i with
      | 0 => exact hv
      | i + 1 => simp at hv
theorem list_c {M : Mem} {w : World} {d : TD} {r : ID} {W : Value} (hM : RO M [] w) (hok : d.Ok) (hr : r = z0 ∨ r ∈ d.ids) (ht : CellsAt M ⟨d.T, 0, none⟩ [W, .map (d.byv.map (·.1))]) (hm : d.Map M) :
    FnC prog 112 [pt d.T 0, .agg #[.int .i64 r.time, .int .i64 r.site]] w [] (fun u _ => u = pt (d.lb r) (lo6 r)) := by
  by_cases h0 : r = z0
  · subst h0
    refine (list0_c (T := d.T) hM).mono fun v o hv => ?_
    rw [hv, show d.lb z0 = d.T from if_pos rfl, show lo6 z0 = 0 from if_pos rfl]
  · have hri := hr.resolve_left h0
    cases hb : d.byv with
    | none =>
      have h1 : d.nds = [] := by have := hok.map; rw [hb] at this; exact this
      rw [TD.ids, h1] at hri; cases hri
    | some mp =>
      have hmap : Mp encI mp.2 (d.nds.map fun n => (n.id, pt (d.ad n.id) 0)) := by have := hok.map; rw [hb] at this; exact this
      rw [hb] at ht
      refine (list1_c (d := d) hM ht (hm mp hb) hmap hri h0).mono fun v o hv => ?_
      rw [hv, show d.lb r = d.ad r from if_neg h0, show lo6 r = 6 from if_neg h0]
theorem par_at {pre post : List Value} {V : Value} {o : Nat} (h : pre.length = o) : ((pre ++ V :: post).drop o).take 1 = [V] := by
  rw [List.drop_left' h]; rfl
theorem par_set {pre post : List Value} {V V2 : Value} {o : Nat} (h : pre.length = o) : setL (pre ++ V :: post) o [V2] = pre ++ V2 :: post := by
  subst h
  have := setL_whole [V2] [V] pre post rfl
  simpa using this
section
variable {c : Cx} {D : List Deferred} {ops : Array Oper} {K : Act → World → Prop} {rest : List Oper} {l : Env} {h : List Own}
theorem jnI3 {o o1 o2 o3 : Own} (p : o.Perm (o1 ++ (o2 ++ o3))) (k : GL c D ops K rest l (o :: h)) : GL c D ops K rest l (o1 :: o2 :: o3 :: h) := fun a w e s => k a w e (s.perm (by
  simp only [List.flatten_cons]
  have := (p.append_right h.flatten).symm
  simpa [List.append_assoc] using this))
end
theorem col_rem {kv : List Value} {i n : Nat} {cs : List Value} (hn : i < n) (hl : n ≤ cs.length) (h : kv = cs.take n) (z : Value) : (setL (setL cs i ((cs.drop (i + 1)).take (n - 1 - i))) (n - 1) [z]).take (n - 1) = kv.take i ++ kv.drop (i + 1) := by
  subst h
  have l1 : ((cs.drop (i + 1)).take (n - 1 - i)).length = n - 1 - i := by simp; omega
  rw [setL_at (cs := cs) (by rw [l1]; omega), l1]
  have l2 : (cs.take i ++ (cs.drop (i + 1)).take (n - 1 - i)).length = n - 1 := by simp; omega
  rw [show i + (n - 1 - i) = n - 1 by omega]
  rw [setL_at (by simp only [List.length_append, l1, List.length_take, List.length_drop, List.length_cons, List.length_nil]; omega)]
  rw [List.take_left' l2, List.append_assoc, List.take_left' l2]
  congr 1
  · rw [List.take_take, Nat.min_eq_left (by omega)]
  · rw [List.drop_take, show n - (i + 1) = n - 1 - i by omega]
theorem colStep_yes {l : List Nd} (h : (l.map (·.id)).Nodup) {n : Nd} (hn : n ∈ l) (hs : n.state = 3) (hk : kidsOf l n.id = []) : colStep l n.id = remN l n.id := by
  unfold colStep; rw [ndOf_eq h hn, if_pos ⟨hs, hk⟩]
theorem colStep_no {l : List Nd} (h : (l.map (·.id)).Nodup) {n : Nd} (hn : n ∈ l) (hs : ¬ (n.state = 3 ∧ kidsOf l n.id = [])) : colStep l n.id = l := by
  unfold colStep; rw [ndOf_eq h hn, if_neg hs]
theorem col_cur {d : TD} (hok : d.Ok) {p q : List (Int × ID)} {x : Int × ID} (hx : bwE (allL d.nds) = p ++ x :: q) : ∃ n ∈ (p.map (·.2)).foldl colStep d.nds, n.id = x.2 ∧ n ∈ d.nds := by
  have h1 : (allL d.nds).reverse = p.map (·.2) ++ x.2 :: q.map (·.2) := by rw [← bwE_snd, hx]; simp
  have hnd : (allL d.nds).reverse.Nodup := (List.reverse_perm _).nodup_iff.2 ((all_perm hok.tr).nodup_iff.2 hok.nodup)
  have hm : x.2 ∈ d.nds.map (·.id) := (all_mem hok.tr).1 (List.mem_reverse.1 (by rw [h1]; simp))
  obtain ⟨n, hn, e⟩ := List.mem_map.1 hm
  refine ⟨n, mem_col _ _ hn ?_, e, hn⟩
  rw [e]
  rw [h1, List.nodup_append] at hnd
  exact fun hmm => hnd.2.2 _ hmm x.2 (by simp) rfl
theorem col_fold (l : List Nd) (p : List (Int × ID)) (x : Int × ID) : ((p ++ [x]).map (·.2)).foldl colStep l = colStep ((p.map (·.2)).foldl colStep l) x.2 := by simp
theorem col_end {d : TD} : ((bwE (allL d.nds)).map (·.2)).foldl colStep d.nds = colN d.nds := by rw [bwE_snd]; rfl
theorem bw_len (xs : List ID) : (bwE xs).length = xs.length := by unfold bwE; rw [List.length_reverse, enum_len]
theorem ix_step {ks : List ID} {k y : ID} {i : Int} (h0 : 0 ≤ i) (h : ∀ j : Nat, (j : Int) < i → ¬ ks[j]? = some k) (e : ks[i.toNat]? = some y) (hn : ¬ y = k) : ∀ j : Nat, (j : Int) < i + 1 → ¬ ks[j]? = some k := fun j hj => by
  by_cases q : (j : Int) < i
  · exact h j q
  · rw [show j = i.toNat by omega, e]
    intro q2; exact hn (Option.some.inj q2)
theorem col_sub {n : Nd} : ∀ (ks : List ID) (l : List Nd), n ∈ ks.foldl colStep l → n ∈ l := by
  intro ks
  induction ks with
  | nil => intro l h; exact h
  | cons k ks ih =>
    intro l h
    have := ih _ h
    unfold colStep at this
    split at this
    · exact (mem_remN.1 this).1
    · exact this
theorem el_blk2 {d : TD} {M : Mem} {y : ID} (hy : y ∈ d.ids) (hM : MLe (Im d.lay) M) : ∃ cs e, M (d.ad y) (.cells cs e (0, 0)) := by
  obtain ⟨n, hn, rfl⟩ := List.mem_map.1 hy
  refine ⟨_, _, hM (d.ad n.id) (.cells (encNd n ++ [d.vs n.id]).toArray 163 (0, 0)) ?_⟩
  show (_, _) ∈ d.lay
  rw [TD.lay_eq]
  exact List.mem_append_right _ (List.mem_append_right _ (List.mem_append_right _ (List.mem_flatMap.2 ⟨n, hn, by simp [TD.blk, TD.el]⟩)))
theorem src_tail {k o cap m : Nat} {cs : List Value} {e : TypeId} {fz : Nat × Nat} {M : Mem} (hM : M k (.cells cs.toArray e fz)) (hl : o + m ≤ cs.length) (hc : m = 0 ∨ o < cap) {x : Nat} : Src M 1 (.slice (if cap = o then some ⟨k, 0, none⟩ else (some ⟨k, 0, none⟩ : Option Addr).map (·.add (o * 1))) m x) m ((cs.drop o).take m) := by
  refine ⟨_, x, rfl, by simp; omega, fun h0 => ?_⟩
  have hne : ¬ cap = o := by omega
  rw [if_neg hne]
  refine ⟨⟨k, o, none⟩, by simp [add_mk], rfl, _, _, _, hM, fun i v hv => ?_⟩
  rw [List.getElem?_take] at hv
  split at hv
  · rw [List.getElem?_drop] at hv; simpa using hv
  · cases hv
theorem col_flat {kv cs : List Value} {n o m : Nat} (hf : kv.all flat = true) (h : kv = cs.take n) (hm : m = n - o := by omega) : ((cs.drop o).take m).all flat = true := by
  subst h hm
  rw [← List.drop_take, List.all_eq_true]
  rw [List.all_eq_true] at hf
  exact fun v hv => hf v (List.mem_of_mem_drop hv)
theorem col_os {ov : Own} {E kk nn cap ix : Nat} {cs kv : List Value} (ho : ov = [(kk, .cells (List.toArray (setL (setL cs (0 + ix * 1) ((cs.drop (ix + 1)).take (nn - 1 - ix))) (nn - 1) [Value.pointer none])) E (0, 0))]) (h3 : cap ≤ cs.length) (h5 : nn ≤ cap) (hi : ix < nn) (h4 : kv = cs.take nn) (h6 : kv.all flat = true) :
    OS ov E 1 (.slice (some ⟨kk, 0, none⟩) (nn - 1) cap) (kv.take ix ++ kv.drop (ix + 1)) := by
  rw [Nat.zero_add, Nat.mul_one] at ho
  refine .inr ⟨kk, nn - 1, cap, _, rfl, ho, by rw [setL_length, setL_length, Nat.mul_one]; exact h3, by rw [Nat.mul_one, col_rem hi (by omega) h4], by omega, ?_⟩
  rw [List.all_eq_true] at h6 ⊢
  intro v hv
  rcases List.mem_append.1 hv with hv | hv
  · exact h6 v (List.mem_of_mem_take hv)
  · exact h6 v (List.mem_of_mem_drop hv)
end Go.W
/- Walks. Written by a program of mine. -/
namespace Go.W
open Go Go.Proofs.Tryz
set_option maxRecDepth 20000 in
theorem AppSeq_c {M : Mem} {w : World} {tv : Value} {adr : ID → Nat} {nd : ID → Nd} {xs : List ID} {b1 : Nat} (hM : RO M [] w) (hT : RT M tv adr nd xs) (k1 : CellsAt M ⟨b1, 0, none⟩ [tv]) : FnC prog 151 [.slice none 0 0, .func (.func 140) #[] #[pt b1 0]] w [] (fun u o => OS o 160 1 u (xs.map fun k => pt (adr k) 0)) := by
  have hlen := hT.len
  refine enterM (code := _) func151 rfl 13 rfl rfl hM [] rfl [(0, _), (1, _)] ⟨rfl, rfl, trivial⟩ ?_
  refine sq ?_
  refine rg ?_
  refine bx (z := [_]) rfl rfl rfl ?_; intro b0_0
  refine st (asg rfl) rfl ?_
  refine nl ?_
  refine nS ?_
  refine sq ?_
  refine sq ?_
  refine rg ?_
  refine st (mv rfl) rfl ?_
  refine nl ?_
  refine nS ?_
  refine bk ?_
  refine niC ?_
  refine gR1 ?_
  refine rf (σ := (Value × Own)) (ps := [7]) (fun x : ID => [pt (adr x) 0]) (xs) [] (fun s => [[(b0_0, .cells (List.toArray [s.1]) 161 (0, 0))], s.2]) [] (fun p s => OS s.2 160 1 s.1 (p.map fun k => pt (adr k) 0)) (.slice none 0 0, []) rfl (show Callee1 _ _ _ [] [pt b1 0] from rfl) C140 ?_ rfl (fun _ => rfl) hidE ?_ ?_ ?_
  · exact OS.nil _ _
  · intro lp wi S oc hro hS hSp hY
    exact hT.it Hm.m hro (k1.mono Hm.m) hS hY
  · intro p x q s hx hj lp wr or_ rec_ hst hpn
    show G _ _ _ _ ((7, _) :: _) [_, _, _]
    have hxl := congrArg List.length hx
    simp only [List.length_append, List.length_cons] at hxl
    refine rg ?_
    refine st (asg rfl) rfl ?_
    refine nl ?_
    refine nR (h := [_, _]) rfl hst ?_
    show G _ _ _ _ _ [_, _, _]
    refine bk ?_
    refine rg ?_
    refine st (lo1 T161 rfl rfl) rfl ?_
    refine st (mv rfl) rfl ?_
    refine bs (parts := [_]) (cs := [_]) [_] [(0, [_])] U161 T160 rfl rfl rfl rfl ⟨rfl, ⟨_, rfl, rfl⟩, trivial⟩ rfl rfl ?_; intro b3_2
    refine r2 ?_
    refine ap U161 U161 T160 rfl rfl rfl rfl rfl rfl hj ((srcI rfl).mono Hm.i1) rfl (by simp only [List.length_map, List.length_cons, List.length_nil]; omega) rfl ?_; intro v3_3 o3_3 q3_3
    refine r2 ?_
    refine sto (cs' := [_]) (vs := [_]) T161 rfl rfl q3_3.cells rfl (allc q3_3.isSl rfl) (Nat.le_of_ble_eq_true rfl) rfl ?_
    refine nl ?_
    refine nB ?_
    refine gr2 ?_
    refine dropE ?_
    refine gr1 ?_
    refine gr1 ?_
    exact eR (h := [_, _]) hst hpn (_, _) (q3_3.cast (by rw [List.map_append]; rfl)) hid
  intro s rd hj
  show GE _ _ _ _ _ [_, _, _]
  refine nB ?_
  refine nS ?_
  refine sq ?_
  refine rg ?_
  refine st (lo1 T161 rfl rfl) rfl ?_
  refine st (asg rfl) rfl ?_
  refine nl ?_
  refine nS ?_
  refine rt ?_
  refine postM1 (h := [_, _]) (.inl rfl) ?_
  exact ret1 rfl rfl hj o2

set_option maxRecDepth 20000 in
theorem Collect_c {M : Mem} {w : World} {tv : Value} {adr : ID → Nat} {nd : ID → Nd} {xs : List ID} {b1 : Nat} (hM : RO M [] w) (hT : RT M tv adr nd xs) (k1 : CellsAt M ⟨b1, 0, none⟩ [tv]) : FnC prog 111 [.func (.func 140) #[] #[pt b1 0]] w [] (fun u o => OS o 160 1 u (xs.map fun k => pt (adr k) 0)) := by
  refine enter (code := _) func111 rfl 5 rfl rfl hM [] rfl [(0, _)] ⟨rfl, trivial⟩ ?_
  refine sq ?_
  refine rg ?_
  refine st (asg rfl) rfl ?_
  refine nl ?_
  refine nS ?_
  refine sq ?_
  refine rg ?_
  refine st (mv rfl) rfl ?_
  refine ni ?_
  refine cl C151 (fnc _) rfl (fun _ hw => AppSeq_c hw (hT.mono Hm.m) (k1.mono Hm.m)) rfl ?_; intro v1 oA q1
  refine st (asg rfl) rfl ?_
  refine nl ?_
  refine nS ?_
  refine rt ?_
  exact ret1 rfl rfl q1 o1

set_option maxRecDepth 20000 in
theorem Backw_c {M : Mem} {w : World} {V : Value} (hM : RO M [] w) (htc : V.cells = [V].toArray) : FnC prog 110 [V] w [] (fun u o => ∃ b, u = .func (.func 150) #[] #[pt b 0] ∧ o = [(b, .cells (List.toArray [V]) 161 (0, 0))]) := by
  refine enter (code := _) func110 rfl 4 rfl rfl hM [] rfl [(0, _)] ⟨rfl, trivial⟩ ?_
  refine sq ?_
  refine rg ?_
  refine bx (z := [_]) rfl htc rfl ?_; intro b0_0
  refine st (asg rfl) rfl ?_
  refine nl ?_
  refine nS ?_
  refine sq ?_
  refine rg ?_
  refine st (mkf (vs := []) (us := [_]) rfl rfl) rfl ?_
  refine st (asg rfl) rfl ?_
  refine nl ?_
  refine nS ?_
  refine rt ?_
  exact ret1 rfl rfl ⟨_, rfl, rfl⟩ o1

set_option maxRecDepth 20000 in
theorem BackIt_c {M : Mem} {w : World} {b1 lp : Nat} {V : Value} {adr : ID → Nat} {xs : List ID} {oc : Own} {S : List (Int × ID) → Own → Prop} (hM : RO M oc w) (k1 : CellsAt M ⟨b1, 0, none⟩ [V]) (hv : Sl M 1 (RPt adr) V xs) (hS : S [] oc) (hY : ∀ p x q, bwE xs = p ++ x :: q → ∀ oc w, RO M oc w → S p oc → Yld prog lp [.int .i64 x.1, pt (adr x.2) 0] w oc (S (p ++ [x]))) : FnC prog 150 [.func (.yield lp) #[] #[], pt b1 0] w oc (fun _ o => S (bwE xs) o) := by
  have hvb := hv.bound
  refine enter (code := _) func150 rfl 19 rfl rfl hM [oc] (by simp) [(0, _), (1, _)] ⟨rfl, rfl, trivial⟩ ?_
  refine sq ?_
  refine rg ?_
  refine st (lm1 0 T161 k1 Hm.m rfl rfl rfl) rfl ?_
  refine st (lnS U161 hv rfl) rfl ?_
  refine st (sb rfl rfl (by omega)) rfl ?_
  refine st (asg rfl) rfl ?_
  refine nl ?_
  refine nS ?_
  refine bk ?_
  refine lpc2 (fun (i : Int) (oc : Own) C => (3, .int .i64 i) :: C) [(0, _), (1, _)] (fun (i : Int) (oc : Own) H => oc :: H) [] (fun (i : Int) (oc : Own) => -1 ≤ i ∧ i < xs.length ∧ S (enumI (xs.drop (i + 1).toNat) (i + 1)).reverse oc) (fun (i : Int) (oc : Own) => (i + 1).toNat) ((xs.length : Int) - 1) _ ?_ ⟨rfl, rfl, rfl, trivial⟩ hid ?_
  · exact ⟨by omega, by omega, by rw [show ((xs.length : Int) - 1 + 1).toNat = xs.length by omega, List.drop_length]; exact hS⟩
  intro i oc hj
  obtain ⟨j0, j1, j2⟩ := hj
  refine sq ?_
  refine sq ?_
  refine rg ?_
  refine st (mv rfl) rfl ?_
  refine st (gq rfl rfl) rfl ?_
  refine nl ?_
  refine nS ?_
  refine cd rfl (fun hb => ?_) (fun hb => ?_)
  · have h8 := (of_decide_eq_true hb)
    clear hb
    refine sk ?_
    refine nS ?_
    refine sq ?_
    refine bk ?_
    refine sq ?_
    refine rg ?_
    refine st (mv rfl) rfl ?_
    refine st (mv rfl) rfl ?_
    refine st (lm1 0 T161 k1 Hm.m rfl rfl rfl) rfl ?_
    refine st (mv rfl) rfl ?_
    refine iaS U161 T160 hv rfl rfl (by omega) (by omega) rfl ?_; intro b3_4 p3_4 y3_4 u3_4 e3_4 c3_4 n3_4 q3_4
    obtain rfl := q3_4
    clear n3_4
    refine st (lm1 0 T160 c3_4 Hm.m rfl rfl rfl) rfl ?_
    have hsp := bwE_split e3_4
    have hst := bw_step e3_4
    rw [show ((i.toNat : Nat) : Int) = i by omega] at hsp hst
    rw [show (i + 1).toNat = i.toNat + 1 by omega] at j2
    refine ylv rfl rfl (fun w hw => hY _ (i, y3_4) _ hsp _ _ (hw.le Hm.m) j2) rfl ?_; intro oc2 hS2
    rw [← hst] at hS2
    have hS3 : S (enumI (xs.drop (i - 1 + 1).toNat) (i - 1 + 1)).reverse oc2 := by rw [show i - 1 + 1 = i by omega]; exact hS2
    refine st (nt rfl) rfl ?_
    refine nl ?_
    refine nS ?_
    refine cdF rfl ?_
    refine sk ?_
    refine nB ?_
    refine nS ?_
    refine rg ?_
    refine st (mv rfl) rfl ?_
    refine st (sb rfl rfl (by omega)) rfl ?_
    refine st (asg rfl) rfl ?_
    refine nl ?_
    exact le2 (i - 1) _ ⟨⟨by omega, by omega, hS3⟩, by omega⟩ ⟨rfl, rfl, rfl, trivial⟩ hid
  · have h8 := (of_decide_eq_false hb)
    clear hb
    refine xt ?_
    refine xS ?_
    refine xS ?_
    refine xB ?_
    exact ret0 (.inr rfl) rfl (by rw [show i = -1 by omega] at j2; exact j2) o1

set_option maxRecDepth 20000 in
theorem Index_c {M : Mem} {w : World} {V : Value} {adr : ID → Nat} {ks : List ID} {k : ID} (hM : RO M [] w) (hv : Sl M 1 (RPt adr) V ks) (hb : ∀ y ∈ ks, ∃ cs e, M (adr y) (.cells cs e (0, 0))) (hinj : ∀ y ∈ ks, adr y = adr k → y = k) (hk : k ∈ ks) : FnC prog 113 [V, pt (adr k) 0] w [] (fun u _ => ∃ i : Nat, ks[i]? = some k ∧ u = .int .i64 (i : Int)) := by
  obtain ⟨csk, ek, hbk⟩ := hb k hk
  refine enter (code := _) func113 rfl 19 rfl rfl hM [] rfl [(0, _), (1, _)] ⟨rfl, rfl, trivial⟩ ?_
  have l_hv := hv.bound
  refine sq ?_
  refine rg ?_
  refine st (asg rfl) rfl ?_
  refine nl ?_
  refine nS ?_
  refine sq ?_
  refine sq ?_
  refine rg ?_
  refine st (mv rfl) rfl ?_
  refine st (lnS U161 hv rfl) rfl ?_
  refine st (mv rfl) rfl ?_
  refine nl ?_
  refine nS ?_
  refine bk ?_
  refine lpc1 (fun (i : Int) C => (8, .int .i64 i) :: C) [(0, _), (1, _), (7, _)] (fun (i : Int) H => H) [] (fun (i : Int) => 0 ≤ i ∧ i ≤ ks.length ∧ ∀ j : Nat, (j : Int) < i → ¬ ks[j]? = some k) (fun (i : Int) => ((ks.length : Int) - i).toNat) 0 ?_ ⟨rfl, rfl, rfl, rfl, trivial⟩ hid ?_
  · exact ⟨by omega, by omega, fun j h => by omega⟩
  intro i hj
  obtain ⟨j0, j1, j2⟩ := hj
  refine sq ?_
  refine rg ?_
  refine st (lt rfl rfl) rfl ?_
  refine nl ?_
  refine nS ?_
  refine sq ?_
  refine cd rfl (fun hb => ?_) (fun hb => ?_)
  · have h9 := (of_decide_eq_true hb)
    clear hb
    refine sk ?_
    refine nS ?_
    refine sq ?_
    refine bk ?_
    refine sq ?_
    refine rg ?_
    refine st (mv rfl) rfl ?_
    refine st (asg rfl) rfl ?_
    refine nl ?_
    refine nS ?_
    refine sq ?_
    refine rg ?_
    refine st (mv rfl) rfl ?_
    refine st (mv rfl) rfl ?_
    refine st (mv rfl) rfl ?_
    refine iaS U161 T160 hv rfl rfl (by omega) (by omega) rfl ?_; intro b4_3 p4_3 y4_3 u4_3 e4_3 c4_3 n4_3 q4_3
    obtain rfl := q4_3
    clear n4_3
    obtain ⟨csy, ey, hby⟩ := hb _ (List.mem_of_getElem? e4_3)
    refine st (lm1 0 T160 c4_3 Hm.m rfl rfl rfl) rfl ?_
    refine st (eqpp U160 T163 (by decide) rfl rfl (Hm.m _ _ hbk) (Hm.m _ _ hby)) rfl ?_
    refine cv (u := .bool (decide (adr k = adr y4_3))) (by simp) ?_
    refine nl ?_
    refine nS ?_
    refine cd rfl (fun hb => ?_) (fun hb => ?_)
    · have h16 := (of_decide_eq_true hb)
      clear hb
      refine sq ?_
      refine rg ?_
      refine st (mv rfl) rfl ?_
      refine st (asg rfl) rfl ?_
      refine nl ?_
      refine nS ?_
      refine rt ?_
      refine rB ?_
      refine rS ?_
      refine rS ?_
      refine rB ?_
      refine rS ?_
      exact ret1 rfl rfl ⟨i.toNat, by rw [e4_3, hinj _ (List.mem_of_getElem? e4_3) h16.symm], by show Value.int _ _ = _; rw [show ((i.toNat : Nat) : Int) = i by omega]⟩ o0
    · have h16 := (of_decide_eq_false hb)
      clear hb
      refine sk ?_
      refine nB ?_
      refine nS ?_
      refine rg ?_
      refine st (ad rfl rfl (by omega)) rfl ?_
      refine st (mv rfl) rfl ?_
      refine nl ?_
      exact le1 (i + 1) ⟨⟨by omega, by omega, ix_step j0 j2 e4_3 (fun q => h16 (by rw [q]))⟩, by omega⟩ ⟨rfl, rfl, rfl, rfl, trivial⟩ hid
  · have h9 := (of_decide_eq_false hb)
    clear hb
    refine xt ?_
    refine xS ?_
    refine xS ?_
    refine xB ?_
    refine nS ?_
    refine sq ?_
    refine rg ?_
    refine st (asg rfl) rfl ?_
    refine nl ?_
    refine nS ?_
    refine rt ?_
    exact ret1 rfl rfl (absurd (List.getElem?_of_mem hk) (fun ⟨j, hj⟩ => j2 j (by have := (List.getElem?_eq_some_iff.1 hj).1; omega) hj)) o0

set_option maxRecDepth 20000 in
set_option maxHeartbeats 600000 in
theorem TreeCol0_c {M : Mem} {w : World} {d : TD} (hM : RO M d.lay w) (hok : d.Ok) (hnd : (d.lay.map Prod.fst).Nodup) : FnC prog 65 [pt d.T 0] w d.lay (fun _ o => ∃ d2 : TD, o = d2.lay ∧ d2.Ok ∧ d2.T = d.T ∧ d2.nds = colN d.nds) := by
  have hal : (allL d.nds).length ≤ 100000000 := by rw [all_len hok.tr]; exact hok.few
  refine enterM (code := _) func65 rfl 81 rfl rfl hM [d.lay] (by simp) [(0, _)] ⟨rfl, trivial⟩ ?_
  refine sq ?_
  refine rg ?_
  refine bx (z := [_]) rfl rfl rfl ?_; intro b0_0
  refine st (asg rfl) rfl ?_
  refine nl ?_
  refine nS ?_
  refine sq ?_
  refine rg ?_
  refine al T3 rfl rfl ?_; intro b1_0
  refine sto (cs' := [_]) (vs := [_]) T3 rfl rfl rfl rfl rfl (Nat.le_of_ble_eq_true rfl) rfl ?_
  refine nl ?_
  refine nS ?_
  refine sq ?_
  refine sq ?_
  refine rg ?_
  refine st (w1 (lo1 T102 rfl rfl)) rfl ?_
  refine ni ?_
  refine cl C99 (fnc _) rfl (fun _ hw => all_c (tv := pt d.T 0) hw rfl) rfl ?_; intro v2_1 O2_1 q2_1
  obtain ⟨b2_1, rfl, rfl⟩ := q2_1
  refine ni ?_
  refine cl C111 (fnc _) rfl (fun _ hw => Collect_c hw (TD.rt hok (TD.In.im.mono Hm.i3)) (cellsI.mono Hm.i0)) rfl ?_; intro V2 O2_2 q2_2
  have hsl : Sl (Im O2_2) 1 (RPt d.ad) V2 (allL d.nds) := by have q := q2_2; rw [map_flat] at q; exact q.sl (by decide) (fun _ => rfl) (by omega) (fun _ _ => rfl)
  refine ni ?_
  refine cl C110 (fnc _) rfl (fun _ hw => Backw_c hw q2_2.cells) rfl ?_; intro v2_3 O2_3 q2_3
  obtain ⟨b2_3, rfl, rfl⟩ := q2_3
  refine nl ?_
  refine nS ?_
  refine bk ?_
  refine gR3 ?_
  refine gR5 ?_
  refine rf (σ := (ColS)) (ps := [13, 14]) (fun x : Int × ID => [.int .i64 x.1, pt (d.ad x.2) 0]) (bwE (allL d.nds)) [] (fun s => [(d.wi s).lay, [(b1_0, .cells (List.toArray [.int .i64 s.2.2.2.2]) 3 (0, 0))]]) [_, _, _, _] (fun p s => (d.wi s).Ok ∧ (d.wi s).nds = (p.map (·.2)).foldl colStep d.nds ∧ 0 ≤ s.2.2.2.2 ∧ s.2.2.2.2 ≤ (p.length : Nat)) (d.byv, d.nds, d.vs, d.os, 0) rfl (show Callee1 _ _ _ [] [pt b2_3 0] from rfl) C150 ?_ rfl (fun _ => rfl) hidE ?_ ?_ ?_
  · exact ⟨hok, rfl, by simp, by simp⟩
  · intro lp wi S oc hro hS hSp hY
    exact BackIt_c (xs := allL d.nds) hro (cellsI.mono Hm.i0) (hsl.mono mPt Hm.i1) hS hY
  · intro p x q s hx hj lp wr or_ rec_ hst hpn
    show G _ _ _ _ ((14, _) :: (13, _) :: _) [_, _, _]
    obtain ⟨hok2, hj2, hj3⟩ := hj
    obtain ⟨xi, xk⟩ := x
    obtain ⟨n, hn2, hnx, hn⟩ := col_cur hok hx
    simp only at hnx
    subst hnx
    rw [← hj2] at hn2
    have hcx : CellsAt (Im (d.wi s).lay) ⟨d.ad n.id, 0, none⟩ (encNd n ++ [(d.wi s).vs n.id]) := (TD.In.im (d := d.wi s)).e (n := n) hn2
    have hyi : n.id ∈ (d.wi s).ids := List.mem_map_of_mem hn2
    have hrf := hok2.up n hn2
    have hxl := congrArg List.length hx
    simp only [List.length_append, List.length_cons, bw_len] at hxl
    have hixm : n.id ∈ (d.wi s).kids n.ref := mem_kidsOf.2 ⟨n, hn2, rfl, rfl⟩
    have hsubi : ∀ y ∈ (d.wi s).ids, y ∈ d.ids := fun y hy => by obtain ⟨m, hm, rfl⟩ := List.mem_map.1 hy; rw [hj2] at hm; exact List.mem_map_of_mem (col_sub _ _ hm)
    refine rg ?_
    refine st (asg rfl) rfl ?_
    refine nl ?_
    refine nR (h := [_, _]) rfl hst ?_
    show G _ _ _ _ _ [_, _, _]
    refine bk ?_
    refine sq ?_
    refine sq ?_
    refine rg ?_
    refine st (mv rfl) rfl ?_
    refine st (nk rfl) rfl ?_
    refine st (fa (o3 := 0) F163_0 rfl rfl) rfl ?_
    refine st (fa (o3 := 0 + 5) F84_3 rfl rfl) rfl ?_
    refine st (lm1 5 T3 hcx Hm.i0 rfl rfl rfl) rfl ?_
    refine st (ne rfl rfl) rfl ?_
    refine st (mv rfl) rfl ?_
    refine spl (fun hb => ?_) (fun hb => ?_)
    · have h21 := (ne_of_bneT hb)
      clear hb
      refine gF rfl rfl rfl rfl ?_
      refine gF rfl rfl rfl rfl ?_
      refine gF rfl rfl rfl rfl ?_
      refine gF rfl rfl rfl rfl ?_
      refine gF rfl rfl rfl rfl ?_
      refine gF rfl rfl rfl rfl ?_
      refine st (pkT rfl rfl) rfl ?_
      refine nl ?_
      refine nS ?_
      refine cdT rfl ?_
      refine xt ?_
      refine xS ?_
      refine xB ?_
      refine gr1 ?_
      refine gr1 ?_
      exact eR (h := [_, _]) hst hpn s ⟨hok2, by rw [col_fold, ← hj2]; exact (colStep_no hok2.nodup hn2 (fun q => h21 q.1)).symm, hj3.1, by have := hj3.2; simp; omega⟩ hid
    · have h21 := (eq_of_bneF hb)
      clear hb
      refine gT rfl rfl ?_
      refine st (mv rfl) rfl ?_
      refine gT rfl rfl ?_
      refine st (nk rfl) rfl ?_
      refine gT rfl rfl ?_
      refine st (fa (o3 := 0 + 6) F163_1 rfl rfl) rfl ?_
      refine gT rfl rfl ?_
      refine st (lm1 6 T161 hcx Hm.i0 rfl rfl rfl) rfl ?_
      refine gT rfl rfl ?_
      refine st (lnS U161 (hok2.sl' (.inr hyi) (hok2.kids_len _)) rfl) rfl ?_
      refine gT rfl rfl ?_
      refine st (gt rfl rfl) rfl ?_
      refine st (pkF rfl rfl) rfl ?_
      refine nl ?_
      refine nS ?_
      refine cd rfl (fun hb => ?_) (fun hb => ?_)
      · have h28 := (of_decide_eq_true hb)
        clear hb
        refine xt ?_
        refine xS ?_
        refine xB ?_
        refine gr1 ?_
        refine gr1 ?_
        exact eR (h := [_, _]) hst hpn s ⟨hok2, by rw [col_fold, ← hj2]; exact (colStep_no hok2.nodup hn2 (fun q => by have := congrArg List.length q.2; simp only [List.length_nil] at this; have h28b : 0 < (((d.wi s).kids n.id).length : Int) := h28; unfold TD.kids at h28b; omega)).symm, hj3.1, by have := hj3.2; simp; omega⟩ hid
      · have h28 := (of_decide_eq_false hb)
        clear hb
        refine sk ?_
        refine nS ?_
        refine sq ?_
        refine rgd rfl [0, 1, 2, 3, 4, 5, 6, 7] [] [] [] (by kernel_rfl) ?_
        have hkn : (d.wi s).kids n.id = [] := List.eq_nil_of_length_eq_zero (by omega)
        refine dst rfl rfl (lm1 0 T102 cellsI (Hm.i3.trans Hm.m) rfl rfl rfl) rfl ?_
        refine dst rfl rfl (mv rfl) rfl ?_
        refine dst rfl rfl (nk rfl) rfl ?_
        refine dst rfl rfl (fa (o3 := 0) F163_0 rfl rfl) rfl ?_
        refine dst rfl rfl (fa (o3 := 0 + 2) F84_1 rfl rfl) rfl ?_
        refine dst rfl rfl (lma (us := [_, _]) 2 T59 hcx Hm.i0 rfl rfl rfl rfl) rfl ?_
        refine dst rfl rfl (cl0 C112 (fnc _) rfl (fun _ hw => list_c (d := d.wi s) hw hok2 hrf (TD.In.im.t.mono Hm.i0) (TD.In.im.map.mono Hm.i0))) rfl ?_
        refine dst rfl rfl (asg rfl) rfl ?_
        refine dend rfl ?_
        refine nl ?_
        refine nS ?_
        refine sq ?_
        refine rg ?_
        refine st (mv rfl) rfl ?_
        refine st (nk rfl) rfl ?_
        refine st (lm1 0 T161 (TD.In.im.l hrf) Hm.i0 rfl rfl rfl) rfl ?_
        refine st (mv rfl) rfl ?_
        refine ni ?_
        refine cl C113 (fnc _) rfl (fun _ hw => Index_c (adr := d.ad) (ks := (d.wi s).kids n.ref) (k := n.id) hw ((hok2.sl' hrf (hok2.kids_len _)).mono mPt ((TD.In.im.o hrf).trans Hm.i0)) (fun y hy => el_blk2 (d := d.wi s) (hok2.kid_ids hy) Hm.i0) (fun y hy e => TD.inj hnd (hsubi _ (hok2.kid_ids hy)) (hsubi _ hyi) e) hixm) rfl ?_; intro v64 o64 q64
        obtain ⟨ix, hix, rfl⟩ := q64
        refine dr ?_
        refine st (asg rfl) rfl ?_
        obtain ⟨EP, prP, poP, rst, hpre, hpar⟩ := par_lay (d := d.wi s) hok2.nodup hok2.nz hrf
        have hkl := (List.getElem?_eq_some_iff.1 hix).1
        have hnb := hok2.kids_len n.ref
        rcases hok2.sl n.ref hrf with ⟨hz1, hz2, -⟩ | ⟨kk, nn, cap, cs, hV, hov, h3, h4, h5, h6⟩
        · have := congrArg List.length hz2
          rw [List.length_map] at this
          simp only [List.length_nil] at this
          omega
        rw [Nat.mul_one] at h3 h4
        have hnn : nn = ((d.wi s).kids n.ref).length := by have := congrArg List.length h4; rw [List.length_map, List.length_take] at this; omega
        have hp0 : (d.wi s).lay.Perm ([((d.wi s).lb n.ref, .cells (List.toArray (prP ++ Value.slice (some ⟨kk, 0, none⟩) nn cap :: poP)) EP (0, 0))] ++ ([(kk, .cells cs.toArray 160 (0, 0))] ++ rst)) := by
          have := hpar ((d.wi s).vs n.ref) ((d.wi s).os n.ref)
          rw [setv_same, hV, hov] at this
          exact this
        refine spI hp0 ?_
        refine r1 ?_
        refine pt2 ?_
        refine nl ?_
        refine nS ?_
        refine sq ?_
        refine rgd rfl [0, 1, 2, 3, 4, 5, 6, 7, 8, 9, 10] [] [11, 12] [] (by kernel_rfl) ?_
        refine dst rfl rfl (mv rfl) rfl ?_
        refine dst rfl rfl (nk rfl) rfl ?_
        refine dst rfl rfl (w2 (lo1 T161 rfl (par_at hpre))) rfl ?_
        refine dst rfl rfl (mv rfl) rfl ?_
        refine dst rfl rfl (slL U161 T160 rfl rfl (by omega) (by omega)) rfl ?_
        refine dst rfl rfl (mv rfl) rfl ?_
        refine dst rfl rfl (nk rfl) rfl ?_
        refine dst rfl rfl (w2 (lo1 T161 rfl (par_at hpre))) rfl ?_
        refine dst rfl rfl (mv rfl) rfl ?_
        refine dst rfl rfl (ad rfl rfl (by omega)) rfl ?_
        refine dcv (u := .int .i64 ((ix + 1 : Nat) : Int)) (congrArg (Value.int .i64) (by omega)) ?_
        refine dst rfl rfl (slAny U161 T160 rfl rfl (by omega)) rfl ?_
        refine dend rfl ?_
        refine cpy (mn := nn - 1 - ix) (ys := (cs.drop (ix + 1)).take (nn - 1 - ix)) U161 T160 rfl rfl (by omega) (src_tail (Hm.i0 _ _ imS) (by omega) (by omega)) (by simp; omega) (col_flat h6 h4) rfl rfl ?_
        refine st (asg rfl) rfl ?_
        refine nl ?_
        refine nS ?_
        refine sq ?_
        refine rg ?_
        refine st (mv rfl) rfl ?_
        refine st (nk rfl) rfl ?_
        refine st (w2 (lo1 T161 rfl (par_at hpre))) rfl ?_
        refine st (mv rfl) rfl ?_
        refine st (mv rfl) rfl ?_
        refine st (ad rfl rfl (by omega)) rfl ?_
        refine cv (u := .int .i64 ((nn - 1 : Nat) : Int)) (congrArg (Value.int .i64) (by omega)) ?_
        refine st (slL U161 T160 rfl rfl (by omega) (by omega)) rfl ?_
        refine cv (u := .slice (some ⟨kk, nn - 1, none⟩) 1 (cap - (nn - 1))) (by rw [show nn - (nn - 1) = 1 by omega, Nat.mul_one, Nat.zero_add]) ?_
        refine clr1 (o := nn - 1) U161 T160 rfl rfl (by rw [setL_length]; omega) rfl rfl ?_
        refine nl ?_
        refine nS ?_
        refine sq ?_
        refine rg ?_
        refine st (mv rfl) rfl ?_
        refine st (mv rfl) rfl ?_
        refine st (nk rfl) rfl ?_
        refine st (w2 (lo1 T161 rfl (par_at hpre))) rfl ?_
        refine st (mv rfl) rfl ?_
        refine st (mv rfl) rfl ?_
        refine st (ad rfl rfl (by omega)) rfl ?_
        refine cv (u := .int .i64 ((nn - 1 : Nat) : Int)) (congrArg (Value.int .i64) (by omega)) ?_
        refine st (slH U161 T160 rfl rfl (by omega)) rfl ?_
        refine st (nk rfl) rfl ?_
        refine r2 ?_
        refine sto (cs' := prP ++ Value.slice (some ⟨kk, 0, none⟩) (nn - 1) cap :: poP) (vs := [_]) T161 rfl rfl rfl rfl rfl (by simp [hpre]) (by rw [par_set hpre]) ?_
        refine r2 ?_
        refine r2 ?_
        refine r2 ?_
        obtain ⟨ov2, hov2⟩ : ∃ o : Own, o = [(kk, .cells (List.toArray (setL (setL cs (0 + ix * 1) ((cs.drop (ix + 1)).take (nn - 1 - ix))) (nn - 1) [Value.pointer none])) 160 (0, 0))] := ⟨_, rfl⟩
        rw [← hov2]
        refine jnI3 (hpar (Value.slice (some ⟨kk, 0, none⟩) (nn - 1) cap) ov2) ?_
        have hOS2 : OS ov2 160 1 (Value.slice (some ⟨kk, 0, none⟩) (nn - 1) cap) ((((d.wi s).kids n.ref).filter fun x => decide (x ≠ n.id)).map fun k => pt (d.ad k) 0) := by
          rw [filter_ne (above_nodup (hok2.srt n.ref)) hix, List.map_append, List.map_take, List.map_drop]
          exact col_os hov2 h3 h5 (by omega) h4 h6
        obtain ⟨D1, hD1⟩ : ∃ D1 : TD, D1 = (d.wi s).setv n.ref (Value.slice (some ⟨kk, 0, none⟩) (nn - 1) cap) ov2 := ⟨_, rfl⟩
        rw [← hD1]
        have htop1 : CellsAt (Im D1.lay) ⟨d.T, 0, none⟩ [D1.vs z0, .map (D1.byv.map (·.1))] := by have := (TD.In.im (d := D1)).t; rw [hD1] at this ⊢; exact this
        have hcx2 : CellsAt (Im D1.lay) ⟨d.ad n.id, 0, none⟩ (encNd n ++ [D1.vs n.id]) := by have := (TD.In.im (d := D1)).e (n := n) (by rw [hD1]; exact hn2); rw [hD1] at this ⊢; exact this
        obtain ⟨mp, hmp⟩ : ∃ mp, (d.wi s).byv = some mp := by
          have hm0 := hok2.map
          cases hb : (d.wi s).byv with
          | none => rw [hb] at hm0; simp only at hm0; rw [hm0] at hn2; cases hn2
          | some mp => exact ⟨mp, rfl⟩
        have hmap2 : Mp encI mp.2 ((d.wi s).nds.map fun n => (n.id, pt (d.ad n.id) 0)) := by have hm0 := hok2.map; rw [hmp] at hm0; exact hm0
        have hD1b : D1.byv = some mp := by rw [hD1]; exact hmp
        refine nl ?_
        refine nS ?_
        refine sq ?_
        refine rgd rfl [0, 1, 2, 3, 4, 5, 6, 7, 8] [] [9] [] (by kernel_rfl) ?_
        refine dst rfl rfl (lm1 0 T102 cellsI (Hm.i3.trans Hm.m) rfl rfl rfl) rfl ?_
        refine dst rfl rfl (nk rfl) rfl ?_
        refine dst rfl rfl (fa (o3 := 0 + 1) F187_1 rfl rfl) rfl ?_
        refine dst rfl rfl (lm1 1 T185 htop1 Hm.i0 rfl rfl rfl) rfl ?_
        refine dcv (u := .map (some mp.1)) (by rw [hD1b]; rfl) ?_
        refine dst rfl rfl (mv rfl) rfl ?_
        refine dst rfl rfl (nk rfl) rfl ?_
        refine dst rfl rfl (fa (o3 := 0) F163_0 rfl rfl) rfl ?_
        refine dst rfl rfl (fa (o3 := 0) F84_0 rfl rfl) rfl ?_
        refine dst rfl rfl (lma (us := [_, _]) 0 T59 hcx2 Hm.i0 rfl rfl rfl rfl) rfl ?_
        refine dend rfl ?_
        obtain ⟨rst2, hq1, hq2⟩ := map_lay (d := D1) hD1b
        refine spI hq1 ?_
        refine dl U185 K59 hmap2 rfl rfl rfl ?_; intro ob2 hob2
        obtain ⟨gb, hgb⟩ := hq2 ob2 n.id
        refine jnI hgb.symm ?_
        refine pt2 ?_
        refine r1 ?_
        refine dr ?_
        subst hD1
        refine nl ?_
        refine nS ?_
        refine rg ?_
        refine st (w1 (lo1 T3 rfl rfl)) rfl ?_
        refine st (ad rfl rfl (by omega)) rfl ?_
        refine r1 ?_
        refine sto (cs' := [_]) (vs := [_]) T3 rfl rfl rfl rfl rfl (Nat.le_of_ble_eq_true rfl) rfl ?_
        refine nl ?_
        refine nB ?_
        refine gr1 ?_
        exact eR (h := [_, _]) hst hpn (some (mp.1, ob2), remN (d.wi s).nds n.id, ((d.wi s).setv n.ref (Value.slice (some ⟨kk, 0, none⟩) (nn - 1) cap) ov2).vs, ((d.wi s).setv n.ref (Value.slice (some ⟨kk, 0, none⟩) (nn - 1) cap) ov2).os, s.2.2.2.2 + 1) ⟨rem_ok hok2 hn2 hkn hmp hob2 hOS2, by rw [col_fold, ← hj2]; exact (colStep_yes hok2.nodup hn2 h21 hkn).symm, by show 0 ≤ s.2.2.2.2 + 1; omega, by show s.2.2.2.2 + 1 ≤ ((p ++ [_]).length : Nat); simp; omega⟩ hid
  intro s rd hj
  show GE _ _ _ _ _ [_, _, _, _, _, _, _]
  obtain ⟨hok2, hj2, hj3⟩ := hj
  refine nB ?_
  refine nS ?_
  refine sq ?_
  refine rg ?_
  refine st (w1 (lo1 T3 rfl rfl)) rfl ?_
  refine st (asg rfl) rfl ?_
  refine nl ?_
  refine nS ?_
  refine rt ?_
  refine postM1 (h := [_, _, _, _, _, _]) (.inl rfl) ?_
  exact ret1 rfl rfl ⟨d.wi s, rfl, hok2, rfl, by rw [hj2, col_end]⟩ o1

theorem TreeCol_c {M : Mem} {w : World} {d : TD} (hM : RO M d.lay w) (hok : d.Ok) : FnC prog 65 [pt d.T 0] w d.lay (fun _ o => ∃ d2 : TD, o = d2.lay ∧ d2.Ok ∧ d2.T = d.T ∧ d2.nds = colN d.nds) := FnC.nd fun hnd => TreeCol0_c hM hok hnd
end Go.W
/- The document of a set of operations: plain words; function values in maps. -/
namespace Go.W
open Go Go.Proofs.Tryz

def docStep (l : List Nd) (o : Op') : List Nd := if o.kind = 1 then insN l o.id o.ref o.text else if o.kind = 2 then l.map (turn1 o.gone 1 2) else l
def docN (v : List Op') : List Nd := (rowL v).foldl docStep []
theorem putR_len : ∀ (rs : List (Nat × Nat)) (l : List Nd) (id ref : ID), (putR l id ref rs).length = l.length + rs.length := by
  intro rs
  induction rs with
  | nil => intro l id ref; rfl
  | cons c rs ih => intro l id ref; rw [putR, ih]; simp; omega
theorem insN_len (l : List Nd) (id ref : ID) (s : ByteArray) : (insN l id ref s).length ≤ l.length + s.size := by
  unfold insN
  split
  · rw [putR_len]; have := decS_len s 0; omega
  · omega
theorem docStep_len (l : List Nd) (o : Op') (h : o.text.size ≤ 100000) : (docStep l o).length ≤ l.length + 100000 := by
  unfold docStep
  split
  · have := insN_len l o.id o.ref o.text; omega
  · split
    · rw [List.length_map]; omega
    · omega
def newTD (b : Nat) : TD := { T := b, byv := none, nds := [], ad := fun _ => 0, vs := fun _ => .slice none 0 0, os := fun _ => [] }
theorem new_ok (b : Nat) : (newTD b).Ok :=
  ⟨by simp [TD.ids, newTD], by simp [TD.ids, newTD], rfl, fun r _ => OS.nil _ _, by simp [newTD], by simp [newTD], by simp [newTD], by simp [newTD]⟩
theorem new_lay (b : Nat) : (newTD b).lay = [(b, .cells (List.toArray [.slice none 0 0, .map none]) 187 (0, 0))] := by
  rw [TD.lay_eq]; rfl
theorem rowF_len (l : List Op') : ∀ (n : Nat) (lf : Int → Int) (gone : List Dot), (rowF l n lf gone).length ≤ n := by
  intro n
  induction n with
  | zero => intro lf gone; simp [rowF]
  | succ n ih =>
    intro lf gone
    rw [rowF]
    split
    · simp
    · split
      · simp
      · have := ih (stepF l lf ‹_›) (goneF gone ‹_›)
        simp only [List.length_cons]; omega
theorem rowL_len (l : List Op') : (rowL l).length ≤ l.length := rowF_len l _ _ _
/-- What is done for a kind. -/
def doesV (f1 f2 : FuncId) (b : Nat) (k : Int) : Value := if k = 1 then .func (.func f1) #[] #[pt b 0] else if k = 2 then .func (.func f2) #[] #[pt b 0] else .nilFunc
theorem does_look (f1 f2 : FuncId) (b : Nat) (k : Int) : (lookK [((1 : Int), Value.func (.func f1) #[] #[pt b 0]), (2, .func (.func f2) #[] #[pt b 0])] k).getD (val false [.nilFunc]) = doesV f1 f2 b k := by
  unfold doesV lookK
  by_cases h1 : k = 1
  · subst h1; rfl
  · have h1' : ¬ (1 : Int) = k := fun e => h1 e.symm
    rw [if_neg h1, if_neg h1', lookK]
    by_cases h2 : k = 2
    · subst h2; rfl
    · have h2' : ¬ (2 : Int) = k := fun e => h2 e.symm
      rw [if_neg h2, if_neg h2', lookK]; rfl
def isFn : Value → Bool
  | .func _ _ _ => true
  | _ => false
theorem does_fn (f1 f2 : FuncId) (b : Nat) (k : Int) : isFn (doesV f1 f2 b k) = decide (k = 1 ∨ k = 2) := by
  unfold doesV
  by_cases h1 : k = 1
  · rw [if_pos h1, decide_eq_true (.inl h1)]; rfl
  · rw [if_neg h1]
    by_cases h2 : k = 2
    · rw [if_pos h2, decide_eq_true (.inr h2)]; rfl
    · rw [if_neg h2, decide_eq_false (by rintro (a | a); exact h1 a; exact h2 a)]; rfl
theorem does_form (f1 f2 : FuncId) (b : Nat) (k : Int) : doesV f1 f2 b k = .nilFunc ∨ ∃ f x y, doesV f1 f2 b k = .func f x y := by
  unfold doesV
  split
  · exact .inr ⟨_, _, _, rfl⟩
  · split
    · exact .inr ⟨_, _, _, rfl⟩
    · exact .inl rfl
section
variable {c : Cx} {D : List Deferred} {ops : Array Oper} {K : Act → World → Prop} {rest : List Oper} {l : Env} {h : List Own}
  {ty : TypeId} {pos : String} {af : Array Edge} {g : Option (Nat × Bool)} {dst : Option Tmp} {d : Nat} {xs : Array Operand} {tys : Array TypeId}
theorem nefn {x y : Operand} {t t' : TypeId} {ps rs : Array TypeId} {va : Bool} {V : Value} (hu : c.P.underlying t = some (.func ps rs va)) (hx : ev l x = some V) (hy : ev l y = some .nilFunc) (hV : V = .nilFunc ∨ ∃ f a b, V = .func f a b) :
    OpV c ⟨dst, .binOp .neq t x y t', ty, pos, af, g⟩ l h (.bool (isFn V)) := by
  rcases hV with rfl | ⟨f, a, b, rfl⟩
  · exact nev hx hy rfl gd_nf (fun w => eq_nf hu w)
  · exact nev hx hy rfl gd_fn (fun w => eq_fn hu f a b w)
/-- A call of a function value that is one of several. -/
theorem clV {x : Operand} {V : Value} {vs : List Value} {o : Own} {hr : List Own} {R : Value → Own → Prop} (hv : ev l x = some V) (hx : evs l xs.toList = some vs)
    (hc : ∃ f pre post, V = .func (.func f) (List.toArray pre) (List.toArray post) ∧ Cl c.P f ∧ ∀ w, RO (Hm c.M hr) o w → FnC c.P f (pre ++ vs ++ post) w o R) (hd : Nat.blt d c.N = true) (k : ∀ v o', R v o' → GL c D ops K rest ((d, v) :: l) (o' :: hr)) :
    GL c D ops K (⟨some d, .call { callee := .value x, args := xs, argTypes := tys }, ty, pos, af, none⟩ :: rest) l (o :: hr) := by
  obtain ⟨f, pre, post, rfl, hC, hF⟩ := hc
  exact cl hC hv hx hF hd k
/-- m[k] = v in a literal. -/
theorem mui {κ : Type} [DecidableEq κ] {m x y : Operand} {t kt et : TypeId} {enc : κ → Value} {r : Nat} {ob : Obj} {kvs : List (κ × Value)} {hs : List Own} {u : κ} {ku v : Value} (hu : c.P.underlying t = some (.map kt et)) (hk : KeyT c.P kt enc) (hm : Mp enc ob kvs)
    (hx : ev l m = some (.map (some r))) (hy : ev l x = some ku) (hku : enc u = ku) (hv : ev l y = some v) (k : ∀ ob', Mp enc ob' (setK kvs u v) → GL c D ops K rest l ([(r, ob')] :: hs)) :
    GL c D ops K (⟨none, .insert t m x y, ty, pos, af, none⟩ :: rest) l ([(r, ob)] :: hs) := by
  intro a w e s
  simp only [wpL, wanted_none, if_true]
  have hr : w.heap[r]? = some ob := s.chg.own (r, ob) (by simp)
  subst hku
  obtain ⟨ob', h1, h2⟩ := run_mapUpdate hu hk hm hr u v
  have hrun : (execOp a.eval ⟨none, .insert t m x y, ty, pos, af, none⟩).run c.P w = .ok .skip { w with heap := w.heap.setIfInBounds r ob' } := by
    have e1 := e.on (Op.insert t m x y).operands
    simp [execOp, ev_eq e1 (x := m) (by simp [Op.operands]) hx, ev_eq e1 (x := x) (by simp [Op.operands]) hy, ev_eq e1 (x := y) (by simp [Op.operands]) hv, h2]
  refine opW.of (by simp) hrun (fun _ _ q => by cases q) (k ob' h1 _ _ e (s.set rfl rfl rfl (by simp) (fun j hj => ?_) ?_))
  · show (w.heap.setIfInBounds r ob')[j]? = _
    simp [Array.getElem?_setIfInBounds, Ne.symm hj]
  · show (w.heap.setIfInBounds r ob')[r]? = _
    simp [Array.getElem?_setIfInBounds, lt_of_heap hr]
end
theorem doc_snoc (p : List Op') (x : Op') : (p ++ [x]).foldl docStep [] = docStep (p.foldl docStep []) x := by simp
theorem doc_other {l : List Nd} {x : Op'} (h : ¬ (x.kind = 1 ∨ x.kind = 2)) : docStep l x = l := by
  unfold docStep; rw [if_neg fun q => h (.inl q), if_neg fun q => h (.inr q)]
theorem len_more {n : Nat} {p : List Op'} {x : Op'} (h : n ≤ p.length * 100000) : n ≤ (p ++ [x]).length * 100000 := Nat.le_trans h (Nat.mul_le_mul_right _ (by simp))
end Go.W
/- Walks. Written by a program of mine. -/
namespace Go.W
open Go Go.Proofs.Tryz
theorem Ufn : prog.underlying 141 = some (.func #[62] #[] false) := by kernel_rfl

set_option maxRecDepth 20000 in
theorem TreeNew_c {M : Mem} {w : World} (hM : RO M [] w) : FnC prog 86 [] w [] (fun u o => ∃ b, u = pt b 0 ∧ o = (newTD b).lay) := by
  refine enter (code := _) func86 rfl 3 rfl rfl hM [] rfl [] trivial ?_
  refine sq ?_
  refine rg ?_
  refine st (asg rfl) rfl ?_
  refine nl ?_
  refine nS ?_
  refine sq ?_
  refine rg ?_
  refine st (bd (cs := [_, _]) [] T187 Pl187 trivial rfl) rfl ?_
  refine bx (z := [_, _]) rfl rfl rfl ?_; intro b1_1
  refine st (asg rfl) rfl ?_
  refine nl ?_
  refine nS ?_
  refine rt ?_
  exact ret1 rfl rfl ⟨b1_1, rfl, (new_lay _).symm⟩ o1

set_option maxRecDepth 20000 in
theorem does1_c {M : Mem} {w : World} {d : TD} {x : Op'} {D G : Value} {b : Nat} (hM : RO M d.lay w) (hc : CellsAt M ⟨b, 0, none⟩ [pt d.T 0]) (hok : d.Ok) (hf : d.nds.length + x.text.size ≤ 100000000) (hD : Sl M 2 RDot D x.deps) (hG : Sl M 3 RRun G x.gone) (hk : x.kind = 1) : FnC prog 87 [.agg (List.toArray (encOp x D G)), pt b 0] w d.lay (fun _ o => ∃ d2 : TD, o = d2.lay ∧ d2.Ok ∧ d2.T = d.T ∧ d2.nds = docStep d.nds x) := by
  refine enter (code := _) func87 rfl 11 rfl rfl hM [d.lay] (by simp) [(0, _), (1, _)] ⟨rfl, rfl, trivial⟩ ?_
  refine sq ?_
  refine rg ?_
  refine bx (z := [_, _, _, _, _, _, _, _, _, _, _]) rfl rfl rfl ?_; intro b0_0
  refine nl ?_
  refine nS ?_
  refine rg ?_
  refine st (lm1 0 T102 hc Hm.m rfl rfl rfl) rfl ?_
  refine st (fa (o3 := 4) F62_3 rfl rfl) rfl ?_
  refine st (loa (vs := [_, _]) T59 rfl rfl rfl) rfl ?_
  refine st (fa (o3 := 6) F62_4 rfl rfl) rfl ?_
  refine st (loa (vs := [_, _]) T59 rfl rfl rfl) rfl ?_
  refine st (fa (o3 := 8) F62_5 rfl rfl) rfl ?_
  refine st (lo1 T9 rfl rfl) rfl ?_
  refine r1 ?_
  refine cl C88 (fnc _) rfl (fun _ hw => Insert_c (d := d) hw hok hf) rfl ?_; intro v1 o1_ q1
  obtain ⟨-, d2, rfl, q2, q3, q4⟩ := q1
  refine nl ?_
  exact ret0 (.inr rfl) rfl ⟨d2, rfl, q2, q3, by rw [q4, docStep, if_pos hk]⟩ o1

set_option maxRecDepth 20000 in
theorem does2_c {M : Mem} {w : World} {d : TD} {x : Op'} {D G : Value} {b : Nat} (hM : RO M d.lay w) (hc : CellsAt M ⟨b, 0, none⟩ [pt d.T 0]) (hok : d.Ok) (hf : d.nds.length + x.text.size ≤ 100000000) (hD : Sl M 2 RDot D x.deps) (hG : Sl M 3 RRun G x.gone) (hk : x.kind = 2) : FnC prog 89 [.agg (List.toArray (encOp x D G)), pt b 0] w d.lay (fun _ o => ∃ d2 : TD, o = d2.lay ∧ d2.Ok ∧ d2.T = d.T ∧ d2.nds = docStep d.nds x) := by
  refine enter (code := _) func89 rfl 7 rfl rfl hM [d.lay] (by simp) [(0, _), (1, _)] ⟨rfl, rfl, trivial⟩ ?_
  refine sq ?_
  refine rg ?_
  refine bx (z := [_, _, _, _, _, _, _, _, _, _, _]) rfl rfl rfl ?_; intro b0_0
  refine nl ?_
  refine nS ?_
  refine rg ?_
  refine st (lm1 0 T102 hc Hm.m rfl rfl rfl) rfl ?_
  refine st (fa (o3 := 9) F62_6 rfl rfl) rfl ?_
  refine st (lo1 T60 rfl rfl) rfl ?_
  refine r1 ?_
  refine cl C90 (fnc _) rfl (fun _ hw => TreeDelete_c (d := d) hw hok (hG.mono mRun Hm.m)) rfl ?_; intro v1 o1_ q1
  obtain ⟨-, rfl⟩ := q1
  refine nl ?_
  exact ret0 (.inr rfl) rfl ⟨_, rfl, mapN_ok (keep_turn _ _ _) hok, rfl, by rw [docStep, if_neg (by omega), if_pos hk]; rfl⟩ o1

set_option maxRecDepth 20000 in
set_option maxHeartbeats 1000000 in
theorem doc_c {M : Mem} {w : World} {V : Value} {v : List Op'} (hM : RO M [] w) (hv : Sl M 11 ROp V v) (hT : ∀ o ∈ v, o.text.size ≤ 100000) (hl : v.length ≤ 900) : FnC prog 53 [V] w [] (fun x o => ∃ u, x = .tuple #[u, .int .i64 (closedE v)] ∧ (closedE v = 0 → ∃ d : TD, u = pt d.T 0 ∧ o = d.lay ∧ d.Ok ∧ d.nds = docN v) ∧ (closedE v ≠ 0 → u = .pointer none ∧ o = [])) := by
  refine enterM (code := _) func53 rfl 36 rfl rfl hM [] rfl [(0, _)] ⟨rfl, trivial⟩ ?_
  have l_hv := hv.bound
  refine sq ?_
  refine rg ?_
  refine st (asg rfl) rfl ?_
  refine st (asg rfl) rfl ?_
  refine nl ?_
  refine nS ?_
  refine sq ?_
  refine rg ?_
  refine st (mv rfl) rfl ?_
  refine ni ?_
  refine cl C42 (fnc _) rfl (fun _ hw => set_c hw (hv.mono mOp Hm.m)) rfl ?_; intro v1_1 O1_1 q1_1
  obtain ⟨m1, rfl, qa, qb⟩ := q1_1
  refine st (mv rfl) rfl ?_
  refine st (xc rfl rfl) rfl ?_
  refine st (xc rfl rfl) rfl ?_
  refine st (asg rfl) rfl ?_
  refine st (asg rfl) rfl ?_
  refine nl ?_
  refine nS ?_
  refine sq ?_
  refine sq ?_
  refine rg ?_
  refine st (mv rfl) rfl ?_
  refine st (ne rfl rfl) rfl ?_
  refine nl ?_
  refine nS ?_
  refine cd rfl (fun hb => ?_) (fun hb => ?_)
  · have h16 := (ne_of_bneT hb)
    clear hb
    refine sq ?_
    refine rg ?_
    refine st (mv rfl) rfl ?_
    refine st (asg rfl) rfl ?_
    refine st (asg rfl) rfl ?_
    refine nl ?_
    refine nS ?_
    refine rt ?_
    refine rS ?_
    refine postM0 (.inl rfl) ?_
    exact ret2 rfl rfl rfl ⟨_, rfl, fun h => absurd h h16, fun _ => ⟨rfl, rfl⟩⟩ o0
  · have h16 := (eq_of_bneF hb)
    clear hb
    refine sk ?_
    refine nS ?_
    refine sq ?_
    refine rg ?_
    have hE : closedE v = 0 := h16
    obtain ⟨mb, mob, kvs, rfl, rfl, kp, ko0⟩ := qa hE
    have ko : HOps M kvs v := ko0.mono hm_nil
    refine ni ?_
    refine cl C86 (fnc _) rfl (fun _ hw => TreeNew_c hw) rfl ?_; intro v4 o4_ q4
    obtain ⟨bT, rfl, rfl⟩ := q4
    refine al T102 rfl rfl ?_; intro b4_1
    refine sto (cs' := [_]) (vs := [_]) T102 rfl rfl rfl rfl rfl (Nat.le_of_ble_eq_true rfl) rfl ?_
    refine nl ?_
    refine nS ?_
    refine sq ?_
    refine rg ?_
    refine mm rfl ?_; intro dm
    refine st (mkf (vs := []) (us := [_]) rfl rfl) rfl ?_
    refine mui (u := (1 : Int)) U142 (keyInt U3) (Mp.nil _ 0) rfl rfl rfl rfl ?_; intro ob1 hm1
    refine st (mkf (vs := []) (us := [_]) rfl rfl) rfl ?_
    refine mui (u := (2 : Int)) U142 (keyInt U3) hm1 rfl rfl rfl rfl ?_; intro ob2 hm2
    have hm3 : Mp encN ob2 [((1 : Int), Value.func (.func 87) #[] #[pt b4_1 0]), (2, Value.func (.func 89) #[] #[pt b4_1 0])] := hm2
    refine st (mv rfl) rfl ?_
    refine al T142 rfl rfl ?_; intro b5_6
    refine sto (cs' := [_]) (vs := [_]) T142 rfl rfl rfl rfl rfl (Nat.le_of_ble_eq_true rfl) rfl ?_
    refine nl ?_
    refine nS ?_
    refine sq ?_
    refine sq ?_
    refine rg ?_
    refine st (mv rfl) rfl ?_
    refine ni ?_
    refine cl C59 (fnc _) rfl (fun _ hw => row_c hw) rfl ?_; intro v6 o6_ q6
    obtain ⟨b6, rfl, rfl⟩ := q6
    refine nl ?_
    refine nS ?_
    refine bk ?_
    refine gR4 ?_
    refine rf (σ := (TD)) (ps := [25]) (encO kvs) (rowL v) [] (fun dp => [dp.lay]) [_, _, _, _, _] (fun p dp => dp.Ok ∧ dp.T = bT ∧ dp.nds = p.foldl docStep [] ∧ dp.nds.length ≤ p.length * 100000) (newTD bT) rfl (show Callee1 _ _ _ [] [pt b6 0] from rfl) C101 ?_ rfl (fun _ => rfl) hidE ?_ ?_ ?_
    · exact ⟨new_ok bT, rfl, rfl, by simp [newTD]⟩
    · intro lp wi S oc hro hS hSp hY
      exact rowIt_c hro (cellsI.mono Hm.i0) (Hm.i4 _ _ imS) kp (ko.mono Hm.m) (closed_dots hE) rfl hS hY
    · intro p x q dp hx hj lp wr or_ rec_ hst hpn
      show G _ _ _ _ ((25, _) :: _) [_, _]
      obtain ⟨jok, jT, jn, jl⟩ := hj
      obtain ⟨DD, GG, hval, hD, hG, hwf, hxm⟩ := row_val ko hx
      rw [hval]
      have hxl := congrArg List.length hx
      have hrl := rowL_len v
      simp only [List.length_append, List.length_cons] at hxl
      refine rg ?_
      refine al T62 rfl rfl ?_; intro b7_0
      refine sto (cs' := [_, _, _, _, _, _, _, _, _, _, _]) (vs := [_, _, _, _, _, _, _, _, _, _, _]) T62 rfl rfl rfl rfl (allc rfl (allc rfl (allc hD.isSl (allc rfl (allc rfl (allc rfl (allc rfl (allc rfl (allc rfl (allc hG.isSl (allc rfl rfl))))))))))) (Nat.le_of_ble_eq_true rfl) rfl ?_
      refine nl ?_
      refine nR (h := [_, _]) rfl hst ?_
      show G _ _ _ _ _ [_, _, _]
      refine bk ?_
      refine sq ?_
      refine rg ?_
      refine st (lm1 0 T142 cellsI (Hm.i1.trans Hm.m) rfl rfl rfl) rfl ?_
      refine st (fa (o3 := 3) F62_2 rfl rfl) rfl ?_
      refine st (lo1 T3 rfl rfl) rfl ?_
      refine st (lkr1 (y := x.kind) (kvs := [((1 : Int), Value.func (.func 87) #[] #[pt b4_1 0]), (2, Value.func (.func 89) #[] #[pt b4_1 0])]) U142 (keyInt U3) T141 hm3 ((Hm.i2.trans Hm.m) _ _ imS) rfl rfl rfl) rfl ?_
      refine cv (u := doesV 87 89 b4_1 x.kind) (does_look _ _ _ _) ?_
      refine st (asg rfl) rfl ?_
      refine nl ?_
      refine nS ?_
      refine sq ?_
      refine rg ?_
      refine st (mv rfl) rfl ?_
      refine st (nefn Ufn rfl rfl (does_form _ _ _ _)) rfl ?_
      refine cv (u := .bool (decide (x.kind = 1 ∨ x.kind = 2))) (by rw [does_fn]) ?_
      refine nl ?_
      refine nS ?_
      refine cd rfl (fun hb => ?_) (fun hb => ?_)
      · have h31 := (of_decide_eq_true hb)
        clear hb
        refine rg ?_
        refine st (mv rfl) rfl ?_
        refine st (loa (vs := [_, _, _, _, _, _, _, _, _, _, _]) T62 rfl rfl rfl) rfl ?_
        refine r1 ?_
        refine clV (V := doesV 87 89 b4_1 x.kind) (R := fun _ o => ∃ d2 : TD, o = d2.lay ∧ d2.Ok ∧ d2.T = bT ∧ d2.nds = docStep dp.nds x) rfl rfl ?_ rfl ?_
        · have hcT : CellsAt (Im [(b4_1, .cells (List.toArray [pt bT 0]) 102 (0, 0))]) ⟨b4_1, 0, none⟩ [pt dp.T 0] := by rw [jT]; exact cellsI
          have hf : dp.nds.length + x.text.size ≤ 100000000 := by have := hT x hxm; omega
          rcases h31 with hk | hk
          · refine ⟨87, [], [pt b4_1 0], by rw [doesV, if_pos hk], C87, fun w hw => ?_⟩
            have := does1_c (d := dp) (D := DD) (G := GG) hw (hcT.mono (Hm.i3.trans Hm.m)) jok hf (hD.mono mDot (Hm.m.trans Hm.m)) (hG.mono mRun (Hm.m.trans Hm.m)) hk
            rw [jT] at this; exact this
          · refine ⟨89, [], [pt b4_1 0], by rw [doesV, if_neg (by omega), if_pos hk], C89, fun w hw => ?_⟩
            have := does2_c (d := dp) (D := DD) (G := GG) hw (hcT.mono (Hm.i3.trans Hm.m)) jok hf (hD.mono mDot (Hm.m.trans Hm.m)) (hG.mono mRun (Hm.m.trans Hm.m)) hk
            rw [jT] at this; exact this
        intro v10 o10_ ⟨d2, q1, q2, q3, q4⟩
        subst q1
        refine nl ?_
        refine nB ?_
        refine gr1 ?_
        refine dropE ?_
        exact eR (h := [_]) hst hpn d2 ⟨q2, q3, by rw [q4, jn, doc_snoc], by rw [q4]; have := docStep_len dp.nds x (hT x hxm); simp only [List.length_append, List.length_cons, List.length_nil]; omega⟩ hid
      · have h31 := (of_decide_eq_false hb)
        clear hb
        refine sk ?_
        refine nB ?_
        refine dropE ?_
        exact eR (h := [_]) hst hpn dp ⟨jok, jT, by rw [doc_snoc, doc_other h31, jn], (len_more jl)⟩ hid
    intro dp rd hj
    show GE _ _ _ _ _ [_, _, _, _, _, _, _]
    obtain ⟨jok, jT, jn, jl⟩ := hj
    refine nB ?_
    refine nS ?_
    refine sq ?_
    refine rg ?_
    refine st (w4 (lo1 T102 rfl rfl)) rfl ?_
    refine st (asg rfl) rfl ?_
    refine st (asg rfl) rfl ?_
    refine nl ?_
    refine nS ?_
    refine rt ?_
    refine postM1 (h := [_, _, _, _, _, _]) (.inl rfl) ?_
    exact ret2 rfl rfl rfl ⟨_, (by show Value.tuple #[_, _] = Value.tuple #[_, _]; rw [hE]), fun _ => ⟨dp, by rw [jT], rfl, jok, jn⟩, fun h => absurd hE h⟩ o1
end Go.W
/- What is told of a set of operations: plain words. -/
namespace Go.W
open Go Go.Proofs.Tryz

def ordL (v : List Op') : List Nd := if closedE v = 0 then ordN (docN v) else []
def shwL (v : List Op') : List Nd := if closedE v = 0 then shN (ndOf (docN v)) (allL (docN v)) else []
theorem doc_rt {v : List Op'} {u : Value} {o : Own} (h1 : closedE v = 0 → ∃ d : TD, u = pt d.T 0 ∧ o = d.lay ∧ d.Ok ∧ d.nds = docN v) (h2 : closedE v ≠ 0 → u = .pointer none ∧ o = []) :
    ∃ adr nd xs, RT (Im o) u adr nd xs ∧ xs.map nd = ordL v ∧ shN nd xs = shwL v := by
  by_cases h : closedE v = 0
  · obtain ⟨d, rfl, rfl, hok, hn⟩ := h1 h
    refine ⟨d.ad, ndOf d.nds, allL d.nds, TD.rt hok TD.In.im, ?_, ?_⟩
    · rw [hn, ordL, if_pos h]; rfl
    · rw [hn, shwL, if_pos h]
  · obtain ⟨rfl, rfl⟩ := h2 h
    exact ⟨fun _ => 0, ndOf [], [], RT.none, by rw [ordL, if_neg h]; rfl, by rw [shwL, if_neg h]; rfl⟩
/-! ### Nodes -/
def stStep (l : List Nd) (o : Op') : List Nd := if o.kind = 2 then l.map (turn1 o.gone 2 3) else l
def nodesE (v : List Op') (b : List Dot) : Int :=
  if closedE v ≠ 0 then closedE v else if chkV 0 b ≠ 0 then chkV 0 b else if ¬ hasP (v.map (·.dot)) b ∨ closedE (uptoL b v) ≠ 0 then 20 else 0
def nodesL (v : List Op') (b : List Dot) : List Nd := if nodesE v b = 0 then ordN (colN ((uptoL b v).foldl stStep (docN v))) else []
theorem nodes_1 {v : List Op'} {b : List Dot} (h : closedE v ≠ 0) : nodesE v b = closedE v := if_pos h
theorem nodes_2 {v : List Op'} {b : List Dot} (h : closedE v = 0) (h2 : chkV 0 b ≠ 0) : nodesE v b = chkV 0 b := by rw [nodesE, if_neg (by simp [h]), if_pos h2]
theorem nodes_3 {v : List Op'} {b : List Dot} (h : closedE v = 0) (h2 : chkV 0 b = 0) (h3 : ¬ hasP (v.map (·.dot)) b ∨ closedE (uptoL b v) ≠ 0) : nodesE v b = 20 := by rw [nodesE, if_neg (by simp [h]), if_neg (by simp [h2]), if_pos h3]
theorem nodes_0 {v : List Op'} {b : List Dot} (h : closedE v = 0) (h2 : chkV 0 b = 0) (h3 : hasP (v.map (·.dot)) b) (h4 : closedE (uptoL b v) = 0) : nodesE v b = 0 := by
  rw [nodesE, if_neg (by simp [h]), if_neg (by simp [h2]), if_neg]
  rintro (a | a)
  · exact a h3
  · exact a h4
theorem nodesL_no {v : List Op'} {b : List Dot} (h : nodesE v b ≠ 0) : nodesL v b = [] := if_neg h
theorem st_snoc (l : List Nd) (p : List Op') (x : Op') : (p ++ [x]).foldl stStep l = stStep (p.foldl stStep l) x := by simp
theorem keep_st {d : TD} {o : Op'} (hok : d.Ok) (hk : o.kind = 2) : (d.mapN (turn1 o.gone 2 3)).Ok ∧ (d.mapN (turn1 o.gone 2 3)).nds = stStep d.nds o := ⟨mapN_ok (keep_turn _ _ _) hok, by rw [stStep, if_pos hk]; rfl⟩
theorem st_no {l : List Nd} {o : Op'} (hk : ¬ o.kind = 2) : stStep l o = l := if_neg hk
end Go.W
/- Walks. Written by a program of mine. -/
namespace Go.W
open Go Go.Proofs.Tryz
set_option maxRecDepth 20000 in
theorem PText_c {M : Mem} {w : World} {V : Value} {v : List Op'} (hM : RO M [] w) (hv : Sl M 11 ROp V v) (hT : ∀ o ∈ v, o.text.size ≤ 100000) (hl : v.length ≤ 900) : FnC prog 17 [V] w [] (fun x _ => x = .tuple #[.string ⟨(bytesN (shwL v)).toArray⟩, .int .i64 (closedE v)]) := by
  refine enter (code := _) func17 rfl 14 rfl rfl hM [] rfl [(0, _)] ⟨rfl, trivial⟩ ?_
  have l_hv := hv.bound
  refine sq ?_
  refine rg ?_
  refine st (asg rfl) rfl ?_
  refine st (asg rfl) rfl ?_
  refine nl ?_
  refine nS ?_
  refine sq ?_
  refine rg ?_
  refine st (mv rfl) rfl ?_
  refine ni ?_
  refine cl C53 (fnc _) rfl (fun _ hw => doc_c hw (hv.mono mOp Hm.m) hT hl) rfl ?_; intro v1_1 OT q1_1
  obtain ⟨ut, rfl, qd1, qd2⟩ := q1_1
  refine st (mv rfl) rfl ?_
  refine st (xc rfl rfl) rfl ?_
  refine st (xc rfl rfl) rfl ?_
  refine st (asg rfl) rfl ?_
  refine st (asg rfl) rfl ?_
  refine nl ?_
  refine nS ?_
  refine sq ?_
  refine rg ?_
  obtain ⟨adr, nd, xs, hRT, hx1, hx2⟩ := doc_rt qd1 qd2
  refine st (mv rfl) rfl ?_
  refine st (cl0 C54 (fnc _) rfl (fun _ hw => TreeText_c hw (hRT.mono Hm.i0))) rfl ?_
  refine st (mv rfl) rfl ?_
  refine st (asg rfl) rfl ?_
  refine st (asg rfl) rfl ?_
  refine nl ?_
  refine nS ?_
  refine rt ?_
  exact ret2 rfl rfl rfl (by show Value.tuple #[_, _] = _; rw [hx2]; rfl) o0

set_option maxRecDepth 20000 in
theorem POrder_c {M : Mem} {w : World} {V : Value} {v : List Op'} (hM : RO M [] w) (hv : Sl M 11 ROp V v) (hT : ∀ o ∈ v, o.text.size ≤ 100000) (hl : v.length ≤ 900) : FnC prog 19 [V] w [] (fun x o => ∃ u, x = .tuple #[u, .int .i64 (closedE v)] ∧ OS o 59 2 u ((ordL v).flatMap (fun n : Nd => encID n.id)) ∧ (ordL v).length ≤ 100000000) := by
  refine enter (code := _) func19 rfl 29 rfl rfl hM [] rfl [(0, _)] ⟨rfl, trivial⟩ ?_
  have l_hv := hv.bound
  refine sq ?_
  refine rg ?_
  refine st (asg rfl) rfl ?_
  refine st (asg rfl) rfl ?_
  refine nl ?_
  refine nS ?_
  refine sq ?_
  refine rg ?_
  refine st (mv rfl) rfl ?_
  refine ni ?_
  refine cl C53 (fnc _) rfl (fun _ hw => doc_c hw (hv.mono mOp Hm.m) hT hl) rfl ?_; intro v1_1 OT q1_1
  obtain ⟨ut, rfl, qd1, qd2⟩ := q1_1
  refine st (mv rfl) rfl ?_
  refine st (xc rfl rfl) rfl ?_
  refine st (xc rfl rfl) rfl ?_
  refine st (asg rfl) rfl ?_
  refine st (asg rfl) rfl ?_
  refine nl ?_
  refine nS ?_
  refine sq ?_
  refine rg ?_
  obtain ⟨adr, nd, xs, hRT, hx1, hx2⟩ := doc_rt qd1 qd2
  have hxl := hRT.len
  have hol : (ordL v).length = xs.length := by rw [← hx1]; simp
  refine st (asg rfl) rfl ?_
  refine nl ?_
  refine nS ?_
  refine sq ?_
  refine sq ?_
  refine rg ?_
  refine st (mv rfl) rfl ?_
  refine ni ?_
  refine cl C57 (fnc _) rfl (fun _ hw => TreeNodes_c hw (hRT.mono Hm.i0)) rfl ?_; intro v3 o3_ q3
  rw [hx1] at q3
  have hns := nds_sl q3 (by omega)
  refine st (lnS U51 hns rfl) rfl ?_
  refine st (mv rfl) rfl ?_
  refine nl ?_
  refine nS ?_
  refine bk ?_
  refine niC ?_
  refine gR2 ?_
  refine gR2 ?_
  refine gR2 ?_
  refine lpc3 (fun (i : Int) (x : Value) (o : Own) C => (17, .int .i64 i) :: (6, x) :: C) [(5, _), (15, _), (16, _)] (fun (i : Int) (x : Value) (o : Own) H => o :: H) [_, _] (fun (i : Int) (x : Value) (o : Own) => (0 ≤ i ∧ i ≤ (ordL v).length) ∧ OS o 59 2 x (((ordL v).take i.toNat).flatMap (fun n : Nd => encID n.id))) (fun (i : Int) (x : Value) (o : Own) => (((ordL v).length : Int) - i).toNat) 0 _ _ ?_ ⟨rfl, rfl, rfl, rfl, rfl, trivial⟩ hid ?_
  · exact ⟨by omega, OS.nil _ _⟩
  intro i x o hj
  obtain ⟨⟨j0, j1⟩, j2⟩ := hj
  refine sq ?_
  refine rg ?_
  refine st (lt rfl rfl) rfl ?_
  refine nl ?_
  refine nS ?_
  refine sq ?_
  refine cd rfl (fun hb => ?_) (fun hb => ?_)
  · have h18 := (of_decide_eq_true hb)
    clear hb
    refine sk ?_
    refine nS ?_
    refine sq ?_
    refine bk ?_
    refine sq ?_
    refine rg ?_
    refine iaS U51 T84 hns rfl rfl (by omega) (by omega) rfl ?_; intro b5_0 p5_0 y5_0 u5_0 e5_0 c5_0 n5_0 q5_0
    obtain rfl := q5_0
    clear n5_0
    refine st (lma (us := [_, _, _, _, _, _]) 0 T84 c5_0 Hm.i1 rfl rfl rfl rfl) rfl ?_
    refine al T84 rfl rfl ?_; intro b5_2
    refine sto (cs' := [_, _, _, _, _, _]) (vs := [_, _, _, _, _, _]) T84 rfl rfl rfl rfl rfl (Nat.le_of_ble_eq_true rfl) rfl ?_
    refine nl ?_
    refine nS ?_
    refine rg ?_
    refine st (mv rfl) rfl ?_
    refine st (fa (o3 := 0) F84_0 rfl rfl) rfl ?_
    refine st (loa (vs := [_, _]) T59 rfl rfl rfl) rfl ?_
    refine bs (parts := [_]) (cs := [_, _]) [_, _] [(0, [_, _])] U39 T59 rfl rfl rfl rfl ⟨rfl, ⟨_, rfl, rfl⟩, trivial⟩ rfl rfl ?_; intro b6_3
    refine r2 ?_
    refine ap U39 U39 T59 rfl rfl rfl rfl rfl rfl j2 ((srcI rfl).mono Hm.i1) rfl (by rw [flatMap_length (enc := (fun n : Nd => encID n.id)) (sz := 2) (fun _ => rfl), List.length_take]; simp only [List.length_cons, List.length_nil]; omega) rfl ?_; intro v6_4 o6_4 q6_4
    refine st (asg rfl) rfl ?_
    refine nl ?_
    refine nB ?_
    refine nS ?_
    refine rg ?_
    refine st (ad rfl rfl (by omega)) rfl ?_
    refine st (mv rfl) rfl ?_
    refine nl ?_
    refine gr4 ?_
    refine gr4 ?_
    refine gr2 ?_
    refine gr2 ?_
    refine gr2 ?_
    refine gr2 ?_
    exact le3 (i + 1) _ _ ⟨⟨by omega, q6_4.cast (by rw [take_snoc' j0 e5_0, List.flatMap_append]; rfl)⟩, by omega⟩ ⟨rfl, rfl, rfl, rfl, rfl, trivial⟩ hK3
  · have h18 := (of_decide_eq_false hb)
    clear hb
    refine xt ?_
    refine xS ?_
    refine xS ?_
    refine xB ?_
    refine nS ?_
    refine sq ?_
    refine rg ?_
    refine st (mv rfl) rfl ?_
    refine st (mv rfl) rfl ?_
    refine st (asg rfl) rfl ?_
    refine st (asg rfl) rfl ?_
    refine nl ?_
    refine nS ?_
    refine rt ?_
    exact ret2 rfl rfl rfl ⟨_, rfl, (by rw [take_all h18] at j2; exact j2), by omega⟩ o1

set_option maxRecDepth 20000 in
set_option maxHeartbeats 2000000 in
theorem PNodes_c {M : Mem} {w : World} {V B : Value} {v : List Op'} {b : List Dot} (hM : RO M [] w) (hv : Sl M 11 ROp V v) (hT : ∀ o ∈ v, o.text.size ≤ 100000) (hl : v.length ≤ 900) (hb : Sl M 2 RDot B b) (hB : ∀ o ∈ v, o.deps.length ≤ 1000000 ∧ o.gone.length ≤ 1000000) : FnC prog 25 [V, B] w [] (fun x o => ∃ u, x = .tuple #[u, .int .i64 (nodesE v b)] ∧ OS o 84 6 u ((nodesL v b).flatMap encNd) ∧ (nodesL v b).length ≤ 100000000) := by
  refine enter (code := _) func25 rfl 62 rfl rfl hM [] rfl [(0, _), (1, _)] ⟨rfl, rfl, trivial⟩ ?_
  have l_hv := hv.bound
  have l_hb := hb.bound
  refine sq ?_
  refine rg ?_
  refine st (asg rfl) rfl ?_
  refine st (asg rfl) rfl ?_
  refine nl ?_
  refine nS ?_
  refine sq ?_
  refine rg ?_
  refine st (mv rfl) rfl ?_
  refine ni ?_
  refine cl C42 (fnc _) rfl (fun _ hw => set_c hw (hv.mono mOp Hm.m)) rfl ?_; intro v1_1 O1_1 q1_1
  obtain ⟨m1, rfl, qa, qb⟩ := q1_1
  refine st (mv rfl) rfl ?_
  refine st (xc rfl rfl) rfl ?_
  refine st (xc rfl rfl) rfl ?_
  refine st (asg rfl) rfl ?_
  refine st (asg rfl) rfl ?_
  refine nl ?_
  refine nS ?_
  refine sq ?_
  refine sq ?_
  refine rg ?_
  refine st (mv rfl) rfl ?_
  refine st (ne rfl rfl) rfl ?_
  refine nl ?_
  refine nS ?_
  refine cd rfl (fun hb => ?_) (fun hb => ?_)
  · have h20 := (ne_of_bneT hb)
    clear hb
    refine sq ?_
    refine rg ?_
    refine st (mv rfl) rfl ?_
    refine st (asg rfl) rfl ?_
    refine st (asg rfl) rfl ?_
    refine nl ?_
    refine nS ?_
    refine rt ?_
    refine rS ?_
    exact ret2 rfl rfl rfl ⟨_, (by show Value.tuple #[_, _] = Value.tuple #[_, _]; rw [nodes_1 h20]; try rfl), by rw [nodesL_no (by rw [nodes_1 h20]; exact h20)]; exact ⟨OS.nil _ _, by simp⟩⟩ o0
  · have h20 := (eq_of_bneF hb)
    clear hb
    refine sk ?_
    refine nS ?_
    refine sq ?_
    refine sq ?_
    refine rg ?_
    have hE : closedE v = 0 := h20
    obtain ⟨mb, mob, kvs, rfl, rfl, kp, ko0⟩ := qa hE
    have ko : HOps M kvs v := ko0.mono hm_nil
    refine st (mv rfl) rfl ?_
    refine st (cl0 C47 (fnc _) rfl (fun _ hw => Check_c hw (hb.mono mDot Hm.m))) rfl ?_
    refine st (asg rfl) rfl ?_
    refine nl ?_
    refine nS ?_
    refine sq ?_
    refine rg ?_
    refine st (mv rfl) rfl ?_
    refine st (ne rfl rfl) rfl ?_
    refine nl ?_
    refine nS ?_
    refine cd rfl (fun hb => ?_) (fun hb => ?_)
    · have h25 := (ne_of_bneT hb)
      clear hb
      refine sq ?_
      refine rg ?_
      refine st (mv rfl) rfl ?_
      refine st (asg rfl) rfl ?_
      refine st (asg rfl) rfl ?_
      refine nl ?_
      refine nS ?_
      refine rt ?_
      refine rS ?_
      exact ret2 rfl rfl rfl ⟨_, (by show Value.tuple #[_, _] = Value.tuple #[_, _]; rw [nodes_2 hE h25]; try rfl), by rw [nodesL_no (by rw [nodes_2 hE h25]; exact h25)]; exact ⟨OS.nil _ _, by simp⟩⟩ o0
    · have h25 := (eq_of_bneF hb)
      clear hb
      refine sk ?_
      refine nS ?_
      refine sq ?_
      refine rg ?_
      refine st (mv rfl) rfl ?_
      refine st (mv rfl) rfl ?_
      refine ni ?_
      refine cl C15 (fnc _) rfl (fun _ hw => Upto_c hw (hv.mono mOp Hm.m) (hb.mono mDot Hm.m) hB (by omega)) rfl ?_; intro v7 O7 hlow
      refine st (asg rfl) rfl ?_
      refine nl ?_
      refine nS ?_
      refine sq ?_
      refine sq ?_
      refine rg ?_
      refine st (mv rfl) rfl ?_
      refine st (mv rfl) rfl ?_
      refine st (cl0 C63 (fnc _) rfl (fun _ hw => has_c hw kp (Hm.i1 _ _ imS) ko.vs (hb.mono mDot Hm.m))) rfl ?_
      refine cv (u := .bool (decide (hasP (v.map (·.dot)) b))) (by rw [ko.1]) ?_
      refine st (nt rfl) rfl ?_
      refine st (mv rfl) rfl ?_
      refine spl (fun hb => ?_) (fun hb => ?_)
      · have h34 := (of_decide_eq_false (nTF hb))
        clear hb
        refine gF rfl rfl rfl rfl ?_
        refine gF rfl rfl rfl rfl ?_
        refine gF rfl rfl rfl rfl ?_
        refine st (pkT rfl rfl) rfl ?_
        refine nl ?_
        refine nS ?_
        refine cdT rfl ?_
        refine sq ?_
        refine rg ?_
        refine st (asg rfl) rfl ?_
        refine st (asg rfl) rfl ?_
        refine nl ?_
        refine nS ?_
        refine rt ?_
        refine rS ?_
        exact ret2 rfl rfl rfl ⟨_, (by show Value.tuple #[_, _] = Value.tuple #[_, _]; rw [nodes_3 hE h25 (by first | exact .inl h34 | exact .inr h38)]; try rfl), by rw [nodesL_no (by rw [nodes_3 hE h25 (by first | exact .inl h34 | exact .inr h38)]; decide)]; exact ⟨OS.nil _ _, by simp⟩⟩ o0
      · have h34 := (of_decide_eq_true (nFT hb))
        clear hb
        refine gT rfl rfl ?_
        refine st (mv rfl) rfl ?_
        refine gT rfl rfl ?_
        refine st (cl0 C12 (fnc _) rfl (fun _ hw => Closed_c hw (hlow.mono mOp Hm.i0))) rfl ?_
        refine gT rfl rfl ?_
        refine st (ne rfl rfl) rfl ?_
        refine st (pkF rfl rfl) rfl ?_
        refine nl ?_
        refine nS ?_
        refine cd rfl (fun hb => ?_) (fun hb => ?_)
        · have h38 := (ne_of_bneT hb)
          clear hb
          refine sq ?_
          refine rg ?_
          refine st (asg rfl) rfl ?_
          refine st (asg rfl) rfl ?_
          refine nl ?_
          refine nS ?_
          refine rt ?_
          refine rS ?_
          exact ret2 rfl rfl rfl ⟨_, (by show Value.tuple #[_, _] = Value.tuple #[_, _]; rw [nodes_3 hE h25 (by first | exact .inl h34 | exact .inr h38)]; try rfl), by rw [nodesL_no (by rw [nodes_3 hE h25 (by first | exact .inl h34 | exact .inr h38)]; decide)]; exact ⟨OS.nil _ _, by simp⟩⟩ o0
        · have h38 := (eq_of_bneF hb)
          clear hb
          refine sk ?_
          refine nS ?_
          refine sq ?_
          refine rg ?_
          refine st (mv rfl) rfl ?_
          refine ni ?_
          refine cl C53 (fnc _) rfl (fun _ hw => doc_c hw (hv.mono mOp Hm.m) hT hl) rfl ?_; intro v10_1 OT q10_1
          obtain ⟨ut, rfl, qd1, qd2⟩ := q10_1
          refine st (mv rfl) rfl ?_
          refine st (xc rfl rfl) rfl ?_
          refine st (xc rfl rfl) rfl ?_
          refine st (asg rfl) rfl ?_
          refine st (asg rfl) rfl ?_
          refine nl ?_
          refine nS ?_
          refine sq ?_
          refine sq ?_
          refine rg ?_
          have h0E := nodes_0 hE h25 h34 h38
          obtain ⟨d, rfl, rfl, hdok, hdn0⟩ := qd1 hE
          have hlb := hlow.bound
          refine st (mv rfl) rfl ?_
          refine st (lnS U22 hlow rfl) rfl ?_
          refine st (mv rfl) rfl ?_
          refine nl ?_
          refine nS ?_
          refine bk ?_
          refine gR2 ?_
          refine gR2 ?_
          refine gR2 ?_
          refine lpc2 (fun (i : Int) (dp : TD) C => (46, .int .i64 i) :: C) [(10, _), (44, _), (45, _)] (fun (i : Int) (dp : TD) H => dp.lay :: H) [_, _] (fun (i : Int) (dp : TD) => (0 ≤ i ∧ i ≤ (uptoL b v).length) ∧ dp.Ok ∧ dp.T = d.T ∧ dp.nds = ((uptoL b v).take i.toNat).foldl stStep (docN v)) (fun (i : Int) (dp : TD) => (((uptoL b v).length : Int) - i).toNat) 0 d ?_ ⟨rfl, rfl, rfl, rfl, trivial⟩ hid ?_
          · exact ⟨by omega, hdok, rfl, hdn0⟩
          intro i dp hj
          obtain ⟨⟨j0, j1⟩, j2, j3, j4⟩ := hj
          refine sq ?_
          refine rg ?_
          refine st (lt rfl rfl) rfl ?_
          refine nl ?_
          refine nS ?_
          refine sq ?_
          refine cd rfl (fun hb => ?_) (fun hb => ?_)
          · have h47 := (of_decide_eq_true hb)
            clear hb
            refine sk ?_
            refine nS ?_
            refine sq ?_
            refine bk ?_
            refine sq ?_
            refine rg ?_
            refine iaS U22 T62 hlow rfl rfl (by omega) (by omega) rfl ?_; intro b13_0 p13_0 y13_0 u13_0 e13_0 c13_0 n13_0 q13_0
            obtain ⟨D13_0, G13_0, rfl, qd13_0, qg13_0, qo13_0⟩ := q13_0
            clear n13_0
            refine st (lma (us := [_, _, _, _, _, _, _, _, _, _, _]) 0 T62 c13_0 Hm.i1 rfl rfl rfl rfl) rfl ?_
            refine al T62 rfl rfl ?_; intro b13_2
            refine sto (cs' := [_, _, _, _, _, _, _, _, _, _, _]) (vs := [_, _, _, _, _, _, _, _, _, _, _]) T62 rfl rfl rfl rfl (allc rfl (allc rfl (allc qd13_0.isSl (allc rfl (allc rfl (allc rfl (allc rfl (allc rfl (allc rfl (allc qg13_0.isSl (allc rfl rfl))))))))))) (Nat.le_of_ble_eq_true rfl) rfl ?_
            refine nl ?_
            refine nS ?_
            refine sq ?_
            refine rg ?_
            refine st (fa (o3 := 3) F62_2 rfl rfl) rfl ?_
            refine st (lo1 T3 rfl rfl) rfl ?_
            refine st (eq rfl rfl) rfl ?_
            refine nl ?_
            refine nS ?_
            refine cd rfl (fun hb => ?_) (fun hb => ?_)
            · have h52 := (eq_of_beq hb)
              clear hb
              refine rg ?_
              refine st (mv rfl) rfl ?_
              refine st (fa (o3 := 9) F62_6 rfl rfl) rfl ?_
              refine st (lo1 T60 rfl rfl) rfl ?_
              refine r1 ?_
              refine cl C64 (fnc _) rfl (fun _ hw => by have := TreeSettle_c (d := dp) (v := y13_0.gone) hw j2 (qg13_0.mono mRun Hm.i1); rw [j3] at this; exact this) rfl ?_; intro v15 o15_ q15
              obtain ⟨-, rfl⟩ := q15
              obtain ⟨hk1, hk2⟩ := keep_st j2 h52
              refine nl ?_
              refine nB ?_
              refine nS ?_
              refine rg ?_
              refine st (ad rfl rfl (by omega)) rfl ?_
              refine st (mv rfl) rfl ?_
              refine nl ?_
              refine gr3 ?_
              refine gr3 ?_
              refine gr2 ?_
              refine gr2 ?_
              refine gr2 ?_
              refine gr2 ?_
              exact le2 (i + 1) (dp.mapN (turn1 y13_0.gone 2 3)) ⟨⟨by omega, hk1, j3, by rw [hk2, j4, take_snoc' j0 e13_0, st_snoc]⟩, by omega⟩ ⟨rfl, rfl, rfl, rfl, trivial⟩ hK3
            · have h52 := (ne_of_beqF hb)
              clear hb
              refine sk ?_
              refine nB ?_
              refine nS ?_
              refine rg ?_
              refine st (ad rfl rfl (by omega)) rfl ?_
              refine st (mv rfl) rfl ?_
              refine nl ?_
              refine gr3 ?_
              refine gr3 ?_
              refine gr3 ?_
              refine gr2 ?_
              refine gr2 ?_
              refine gr2 ?_
              exact le2 (i + 1) dp ⟨⟨by omega, j2, j3, by rw [j4, take_snoc' j0 e13_0, st_snoc, st_no h52]⟩, by omega⟩ ⟨rfl, rfl, rfl, rfl, trivial⟩ hK3
          · have h47 := (of_decide_eq_false hb)
            clear hb
            refine xt ?_
            refine xS ?_
            refine xS ?_
            refine xB ?_
            refine nS ?_
            refine sq ?_
            refine rg ?_
            refine st (mv rfl) rfl ?_
            refine cl C65 (fnc _) rfl (fun _ hw => by have := TreeCol_c (d := dp) hw j2; rw [j3] at this; exact this) rfl ?_; intro v17 o17_ q17
            obtain ⟨dq, rfl, hdq, hdT, hdn⟩ := q17
            refine nl ?_
            refine nS ?_
            refine sq ?_
            refine rg ?_
            refine st (mv rfl) rfl ?_
            refine ni ?_
            refine cl C57 (fnc _) rfl (fun _ hw => by have := TreeNodes_c hw (TD.rt hdq (TD.In.im.mono Hm.i0)); rw [hdT] at this; exact this) rfl ?_; intro v18 o18_ q18
            have hdn2 : (allL dq.nds).map (ndOf dq.nds) = ordN (colN dp.nds) := by rw [hdn]; rfl
            rw [take_all h47] at j4
            refine st (asg rfl) rfl ?_
            refine st (asg rfl) rfl ?_
            refine nl ?_
            refine nS ?_
            refine rt ?_
            exact ret2 rfl rfl rfl ⟨_, (by show Value.tuple #[_, _] = Value.tuple #[_, _]; rw [h0E]; try rfl), by rw [nodesL, if_pos h0E]; rw [hdn2, j4] at q18; refine ⟨q18, ?_⟩; rw [← j4, ← hdn2, List.length_map, all_len hdq.tr]; exact hdq.few⟩ o1
end Go.W
/- The order of operations does not matter: plain words. -/
namespace Go.W
open Go

theorem ite_cong {p q : Prop} [Decidable p] [Decidable q] {α : Type} {a a' b b' : α} (h : p ↔ q) (ha : a = a') (hb : b = b') : (if p then a else b) = if q then a' else b' := by
  subst ha hb
  by_cases hp : p
  · rw [if_pos hp, if_pos (h.1 hp)]
  · rw [if_neg hp, if_neg (fun x => hp (h.2 x))]
theorem closed_perm {l m : List Op'} (h : l.Perm m) : closedE l = closedE m := by
  have hm : ∀ {o}, o ∈ l ↔ o ∈ m := fun {o} => h.mem_iff
  have hd : ∀ {d}, d ∈ l.map (·.dot) ↔ d ∈ m.map (·.dot) := fun {d} => (h.map _).mem_iff
  have h1 : (∀ o ∈ l, chkOp o = 0) ↔ ∀ o ∈ m, chkOp o = 0 := ⟨fun x o ho => x o (hm.2 ho), fun x o ho => x o (hm.1 ho)⟩
  have h2 : (l.map (·.dot)).Nodup ↔ (m.map (·.dot)).Nodup := (h.map _).nodup_iff
  have h4 : ∀ v, hasP (l.map (·.dot)) v ↔ hasP (m.map (·.dot)) v := fun v => ⟨fun x d hd' k hk => hd.1 (x d hd' k hk), fun x d hd' k hk => hd.2 (x d hd' k hk)⟩
  have h3 : (∀ o ∈ l, hasP (l.map (·.dot)) o.deps) ↔ ∀ o ∈ m, hasP (m.map (·.dot)) o.deps := ⟨fun x o ho => (h4 _).1 (x o (hm.2 ho)), fun x o ho => (h4 _).2 (x o (hm.1 ho))⟩
  unfold closedE
  exact ite_cong (not_congr h1) rfl (ite_cong (not_congr h2) rfl (ite_cong (not_congr h3) rfl rfl))
theorem closed_nodup {v : List Op'} (h : closedE v = 0) : (v.map (·.dot)).Nodup := by
  unfold closedE at h
  split at h
  · cases h
  · split at h
    · cases h
    · rename_i h2; exact Classical.not_not.1 h2
theorem getL_iff {l : List Op'} (h : (l.map (·.dot)).Nodup) {d : Dot} {o : Op'} : getL l d = some o ↔ o ∈ l ∧ o.dot = d := by
  constructor
  · exact getL_mem
  · rintro ⟨ho, rfl⟩
    cases hg : getL l o.dot with
    | none =>
      unfold getL at hg
      have := List.find?_eq_none.1 hg o ho
      simp at this
    | some x =>
      obtain ⟨hx, he⟩ := getL_mem hg
      congr 1
      obtain ⟨i, hi⟩ := List.getElem?_of_mem hx
      obtain ⟨j, hj⟩ := List.getElem?_of_mem ho
      obtain ⟨li, ei⟩ := List.getElem?_eq_some_iff.1 hi
      obtain ⟨lj, ej⟩ := List.getElem?_eq_some_iff.1 hj
      have h2 : (l.map (·.dot))[i]'(by simpa using li) = (l.map (·.dot))[j]'(by simpa using lj) := by rw [List.getElem_map, List.getElem_map, ei, ej, he]
      have h3 := (List.getElem_inj h).1 h2
      subst h3
      rw [← ei, ← ej]
theorem getL_perm {l m : List Op'} (h : l.Perm m) (hn : (l.map (·.dot)).Nodup) : getL l = getL m := by
  funext d
  have hn2 := (h.map (·.dot)).nodup_iff.1 hn
  cases hg : getL l d with
  | none =>
    cases hg2 : getL m d with
    | none => rfl
    | some o =>
      obtain ⟨a, b⟩ := (getL_iff hn2).1 hg2
      rw [(getL_iff hn).2 ⟨h.mem_iff.2 a, b⟩] at hg; cases hg
  | some o =>
    obtain ⟨a, b⟩ := (getL_iff hn).1 hg
    exact ((getL_iff hn2).2 ⟨h.mem_iff.1 a, b⟩).symm
theorem wait_congr {l m : List Op'} (h : getL l = getL m) (gone : List Dot) (d : Dot) : waitB l gone d = waitB m gone d := by unfold waitB; rw [h]
theorem first_congr {l m : List Op'} (h : getL l = getL m) (gone : List Dot) (lf : Int → Int) : ∀ ss, firstF l gone lf ss = firstF m gone lf ss := by
  intro ss
  induction ss with
  | nil => rfl
  | cons s r ih => rw [firstF, firstF, wait_congr h, ih]
theorem step_congr {l m : List Op'} (h : getL l = getL m) (lf : Int → Int) (d : Dot) : stepF l lf d = stepF m lf d := by unfold stepF; rw [h]
theorem row_congr {l m : List Op'} (h : getL l = getL m) : ∀ (n : Nat) (lf : Int → Int) (gone : List Dot), rowF l n lf gone = rowF m n lf gone := by
  intro n
  induction n with
  | zero => intro lf gone; rfl
  | succ n ih =>
    intro lf gone
    rw [rowF, rowF, first_congr h]
    cases firstF m gone lf (sitesF lf) with
    | none => rfl
    | some d =>
      dsimp only
      rw [h]
      cases getL m d with
      | none => rfl
      | some o => dsimp only; rw [ih, step_congr h]
theorem rowL_perm {l m : List Op'} (h : l.Perm m) (hn : (l.map (·.dot)).Nodup) : rowL l = rowL m := by
  unfold rowL
  have hl : left0 l = left0 m := by
    funext s
    unfold left0
    have := (h.map (·.dot.site)).mem_iff (a := s)
    by_cases q : s ∈ l.map (·.dot.site)
    · rw [if_pos q, if_pos (this.1 q)]
    · rw [if_neg q, if_neg (fun x => q (this.2 x))]
  rw [h.length_eq, hl]
  exact row_congr (getL_perm h hn) _ _ _
theorem doc_perm {l m : List Op'} (h : l.Perm m) (hc : closedE l = 0) : docN l = docN m := by unfold docN; rw [rowL_perm h (closed_nodup hc)]
theorem ord_perm {l m : List Op'} (h : l.Perm m) : ordL l = ordL m := by
  unfold ordL
  rw [← closed_perm h]
  by_cases hc : closedE l = 0
  · rw [if_pos hc, if_pos hc, doc_perm h hc]
  · rw [if_neg hc, if_neg hc]
theorem shw_perm {l m : List Op'} (h : l.Perm m) : shwL l = shwL m := by
  unfold shwL
  rw [← closed_perm h]
  by_cases hc : closedE l = 0
  · rw [if_pos hc, if_pos hc, doc_perm h hc]
  · rw [if_neg hc, if_neg hc]
def memL (v : List Op') : List Int := if closedE v = 0 then membersL v else []
theorem mem_perm {l m : List Op'} (h : l.Perm m) : memL l = memL m := by
  unfold memL
  rw [← closed_perm h]
  by_cases hc : closedE l = 0
  · rw [if_pos hc, if_pos hc]; unfold membersL; rw [rowL_perm h (closed_nodup hc)]
  · rw [if_neg hc, if_neg hc]
theorem upto_perm {l m : List Op'} (h : l.Perm m) (b : List Dot) : (uptoL b l).Perm (uptoL b m) := by
  unfold uptoL
  split
  · exact h.filter _
  · exact List.Perm.refl _
theorem turn_comm (a b : List Run) (n : Nd) : turn1 a 2 3 (turn1 b 2 3 n) = turn1 b 2 3 (turn1 a 2 3 n) := by
  by_cases hs : n.state = 2
  · by_cases ha : namesB a n.id = true
    · by_cases hb : namesB b n.id = true
      · rw [turn1_yes hs ha, turn1_yes hs hb]; rw [turn1_no (fun q => by have := q.1; simp at this), turn1_no (fun q => by have := q.1; simp at this)]
      · rw [turn1_no (rs := b) (fun q => hb q.2), turn1_yes hs ha, turn1_no (fun q => by have := q.1; simp at this)]
    · rw [turn1_no (rs := a) (n := n) (fun q => ha q.2)]
      by_cases hb : namesB b n.id = true
      · rw [turn1_yes hs hb, turn1_no (fun q => by have := q.1; simp at this)]
      · rw [turn1_no (rs := b) (fun q => hb q.2), turn1_no (rs := a) (fun q => ha q.2)]
  · rw [turn1_no (rs := a) (n := n) (fun q => hs q.1), turn1_no (rs := b) (fun q => hs q.1), turn1_no (rs := a) (fun q => hs q.1)]
theorem st_comm (l : List Nd) (x y : Op') : stStep (stStep l x) y = stStep (stStep l y) x := by
  unfold stStep
  by_cases hx : x.kind = 2
  · by_cases hy : y.kind = 2
    · rw [if_pos hx, if_pos hy, if_pos hy, if_pos hx, List.map_map, List.map_map]
      exact List.map_congr_left fun n _ => turn_comm _ _ _
    · rw [if_pos hx, if_neg hy, if_neg hy, if_pos hx]
  · by_cases hy : y.kind = 2
    · rw [if_neg hx, if_pos hy, if_neg hx]
    · rw [if_neg hx, if_neg hy, if_neg hx]
theorem nodesE_perm {l m : List Op'} (h : l.Perm m) (b : List Dot) : nodesE l b = nodesE m b := by
  unfold nodesE
  have hd : ∀ {d}, d ∈ l.map (·.dot) ↔ d ∈ m.map (·.dot) := fun {d} => (h.map _).mem_iff
  have h4 : hasP (l.map (·.dot)) b ↔ hasP (m.map (·.dot)) b := ⟨fun x d hd' k hk => hd.1 (x d hd' k hk), fun x d hd' k hk => hd.2 (x d hd' k hk)⟩
  rw [← closed_perm h, ← closed_perm (upto_perm h b)]
  exact ite_cong Iff.rfl rfl (ite_cong Iff.rfl rfl (ite_cong (or_congr (not_congr h4) Iff.rfl) rfl rfl))
theorem nodesL_perm {l m : List Op'} (h : l.Perm m) (b : List Dot) : nodesL l b = nodesL m b := by
  unfold nodesL
  rw [← nodesE_perm h]
  by_cases q : nodesE l b = 0
  · rw [if_pos q, if_pos q]
    have hc : closedE l = 0 := by
      unfold nodesE at q
      split at q
      · rename_i h1; exact absurd q h1
      · rename_i h1; exact Classical.not_not.1 h1
    rw [doc_perm h hc, (upto_perm h b).foldl_eq' fun x _ y _ z => st_comm z x y]
  · rw [if_neg q, if_neg q]
end Go.W
