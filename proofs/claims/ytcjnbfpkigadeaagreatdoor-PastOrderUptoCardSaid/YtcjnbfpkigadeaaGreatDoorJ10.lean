/- Lemmas for the walks of this program: Walks. Written by a program of mine. strings.Builder's parts: append of a string, the pointer that goes through unsafe.Pointer, the string at the end. No program is named here. Turning elements' states: plain words. Walks. Written by a program of mine. A tree that is read. Walks. Written by a program of mine. Walks. Written by a program of mine. -/
import Derived.Lib.Builder
import Derived.LaidEql
import Derived.Lib.UnsafeStr
import Derived.Lib.AppendStr
import Derived.Test.YtcjnbfpkigadeaaGreatDoorJ9
set_option linter.unusedVariables false
set_option linter.unusedSimpArgs false
/- Walks. Written by a program of mine. -/
namespace Go.W
open Go Go.Proofs.Tryz
set_option maxRecDepth 20000 in
set_option maxHeartbeats 1000000 in
theorem allIt_c {M : Mem} {w : World} {d : TD} {b1 lp : Nat} {oc : Own} {S : List ID → Own → Prop} {xs : List ID} (hM : RO M oc w) (k1 : CellsAt M ⟨b1, 0, none⟩ [pt d.T 0]) (hok : d.Ok) (hw : Wal d.kids [d.kids z0] xs) (hlen : xs.length ≤ 100000000) (hst : ∀ p o, S p o → d.Str (MO M o)) (hS : S [] oc) (hY : ∀ p x q, xs = p ++ x :: q → ∀ oc w, RO M oc w → S p oc → Yld prog lp [pt (d.ad x) 0] w oc (S (p ++ [x]))) : FnC prog 140 [.func (.yield lp) #[] #[], pt b1 0] w oc (fun _ o => S xs o) := by
  obtain ⟨Wt, htop⟩ := (hst _ _ hS).top
  have hsl0 := hok.sl z0 (.inl rfl)
  refine enter (code := _) func140 rfl 59 rfl rfl hM [oc] (by simp) [(0, _), (1, _)] ⟨rfl, rfl, trivial⟩ ?_
  refine sq ?_
  refine sq ?_
  refine rg ?_
  refine st (lm1 0 T102 k1 Hm.m rfl rfl rfl) rfl ?_
  refine st (eqv rfl rfl rfl gd_ptr (fun w => eq_ptr U102 _ w)) rfl ?_
  refine nl ?_
  refine nS ?_
  refine cdF rfl ?_
  refine sk ?_
  refine nS ?_
  refine sq ?_
  refine rg ?_
  refine st (lm1 0 T102 k1 Hm.m rfl rfl rfl) rfl ?_
  refine st (nk rfl) rfl ?_
  refine st (fa (o3 := 0) F187_0 rfl rfl) rfl ?_
  refine st (lm1 0 T161 htop (MO.hm Hm.i0) rfl rfl rfl) rfl ?_
  refine bs (parts := [_]) (cs := [_]) [_] [(0, [_])] U215 T161 rfl rfl rfl rfl ⟨rfl, ⟨_, rfl, hsl0.cells⟩, trivial⟩ rfl rfl ?_; intro b1_4
  refine st (asg rfl) rfl ?_
  refine nl ?_
  refine nS ?_
  refine bk ?_
  refine gR1 ?_
  refine gR1 ?_
  refine lpc4 (fun (V : Value) (o : Own) (oc : Own) (q : List ID × List ID × List (Value × List ID)) C => (3, V) :: C) [(0, _)] (fun (V : Value) (o : Own) (oc : Own) (q : List ID × List ID × List (Value × List ID)) H => o :: oc :: H) [] (fun (V : Value) (o : Own) (oc : Own) (q : List ID × List ID × List (Value × List ID)) => OS o 161 1 V (q.2.2.map (·.1)) ∧ StkI d S xs oc q.1 q.2.1 q.2.2) (fun (V : Value) (o : Own) (oc : Own) (q : List ID × List ID × List (Value × List ID)) => 2 * q.2.1.length + q.2.2.length) _ _ _ ([], xs, [(d.vs z0, d.kids z0)]) ?_ ⟨rfl, rfl, trivial⟩ hid ?_
  · exact ⟨OS.whole (n := 1) rfl (allc hsl0.isSl rfl), StkI.start hok hw hS⟩
  intro V o oc q hj
  obtain ⟨p, rest, sts⟩ := q
  obtain ⟨jO, jI⟩ := hj
  simp only at jO jI
  obtain ⟨AA, cpp, hVeq, -⟩ := OS.len (enc := fun e : Value × List ID => [e.1]) (xs := sts) (by rw [← map_flat]; exact jO) (by decide) (fun _ => rfl)
  refine sq ?_
  refine sq ?_
  refine rg ?_
  refine st (mv rfl) rfl ?_
  refine st (ln U215 (by rw [← hVeq]; rfl)) rfl ?_
  refine st (gt rfl rfl) rfl ?_
  refine nl ?_
  refine nS ?_
  refine cd rfl (fun hb => ?_) (fun hb => ?_)
  · have h15 := (of_decide_eq_true hb)
    clear hb
    refine sk ?_
    refine nS ?_
    refine bk ?_
    refine sq ?_
    refine rg ?_
    obtain ⟨st0, v, ks, kk, cap, cs, rfl, rfl, rfl, kc, kn, kt, kv, kf, kfv⟩ := stk_pos jO (by omega)
    obtain ⟨r, hr, hv, hks⟩ := jI.ent (v, ks) (by simp)
    simp only at hv hks
    have hstr := hst _ _ jI.S
    have e1 := jI.len
    have e2 := congrArg List.length jI.xs
    simp only [List.length_append, List.length_cons, List.length_nil] at e1 e2
    refine st (mv rfl) rfl ?_
    refine st (mv rfl) rfl ?_
    refine st (ln U215 rfl) rfl ?_
    refine st (sb rfl rfl (by omega)) rfl ?_
    refine st (ia U215 T161 rfl rfl (by omega) (by omega)) rfl ?_
    refine cv (u := pt kk st0.length) (v_pt (by omega)) ?_
    refine st (asg rfl) rfl ?_
    refine nl ?_
    refine nS ?_
    refine sq ?_
    refine sq ?_
    refine rg ?_
    refine st (mv rfl) rfl ?_
    refine st (nk rfl) rfl ?_
    refine st (lo1 T161 rfl kv) rfl ?_
    refine st (lnS U161 hv rfl) rfl ?_
    refine st (eq rfl rfl) rfl ?_
    refine nl ?_
    refine nS ?_
    refine cd rfl (fun hb => ?_) (fun hb => ?_)
    · have h25 := (eq_of_beq hb)
      clear hb
      refine sq ?_
      refine rg ?_
      refine st (mv rfl) rfl ?_
      refine st (mv rfl) rfl ?_
      refine st (ln U215 rfl) rfl ?_
      refine st (sb rfl rfl (by omega)) rfl ?_
      refine cv (u := .int .i64 ((st0.length : Nat) : Int)) (congrArg (Value.int .i64) (by omega)) ?_
      refine st (slH U215 T161 rfl rfl (by omega)) rfl ?_
      refine st (asg rfl) rfl ?_
      refine nl ?_
      refine nS ?_
      refine xt ?_
      refine xS ?_
      refine xB ?_
      refine gr1 ?_
      refine gr1 ?_
      refine gr1 ?_
      refine gr1 ?_
      exact le4 _ _ _ (p, rest, st0) ⟨⟨stk_os kc (by dsimp only; omega) kt kf, jI.pop (List.eq_nil_of_length_eq_zero (by omega))⟩, by simp⟩ ⟨rfl, rfl, trivial⟩ hid
    · have h25 := (ne_of_beqF hb)
      clear hb
      refine sk ?_
      refine nS ?_
      refine sq ?_
      refine rg ?_
      refine st (mv rfl) rfl ?_
      refine st (nk rfl) rfl ?_
      refine st (lo1 T161 rfl kv) rfl ?_
      refine iaS U161 T160 hv rfl rfl (Int.le_refl 0) (by omega) rfl ?_; intro b6_3 p6_3 y6_3 u6_3 e6_3 c6_3 n6_3 q6_3
      obtain rfl := q6_3
      clear n6_3
      refine st (lm1 0 T160 c6_3 ((hstr.os r hr).trans (MO.hm Hm.i1)) rfl rfl rfl) rfl ?_
      refine st (asg rfl) rfl ?_
      refine nl ?_
      refine nS ?_
      refine sq ?_
      refine rg ?_
      refine st (mv rfl) rfl ?_
      refine st (mv rfl) rfl ?_
      refine st (nk rfl) rfl ?_
      refine st (lo1 T161 rfl kv) rfl ?_
      obtain ⟨V2, hV2, hop⟩ := slT (j := 1) (ik := .i64) U161 T160 hv (by omega)
      refine st (hop _ _ _ _ _ _ _ _ _ _ rfl rfl rfl) rfl ?_
      refine st (nk rfl) rfl ?_
      refine sto (cs' := setL cs st0.length [V2]) (vs := [V2]) T161 rfl rfl hV2.cells rfl (allc hV2.isSl' rfl) (by omega) rfl ?_
      have hO2 := stk_set (E := 161) (ks' := ks.drop 1) (v2 := V2) (k := kk) kc kn kt kf hV2.isSl'
      refine nl ?_
      refine nS ?_
      refine sq ?_
      refine sq ?_
      refine rg ?_
      refine st (mv rfl) rfl ?_
      refine st (mv rfl) rfl ?_
      obtain ⟨rest2, hre, hwk⟩ := jI.cur e6_3
      refine r1 ?_
      refine ylv rfl rfl (fun w hw => hY p y6_3 rest2 (by rw [jI.xs, hre]) _ _ (hw.le Hm.m) jI.S) rfl ?_; intro oc2 hS2
      have hyi : y6_3 ∈ d.ids := hks _ (List.mem_of_getElem? e6_3)
      have hstr2 := hst _ _ hS2
      obtain ⟨n2, hel2⟩ := hstr2.el _ hyi
      refine st (nt rfl) rfl ?_
      refine nl ?_
      refine nS ?_
      refine cdF rfl ?_
      refine sk ?_
      refine nS ?_
      refine sq ?_
      refine rg ?_
      refine st (mv rfl) rfl ?_
      refine st (nk rfl) rfl ?_
      refine st (fa (o3 := 0 + 6) F163_1 rfl rfl) rfl ?_
      refine st (lm1 6 T161 hel2 (MO.hm Hm.i0) rfl rfl rfl) rfl ?_
      refine st (lnS U161 (hok.sl' (.inr hyi) (hok.kids_len _)) rfl) rfl ?_
      refine st (gt rfl rfl) rfl ?_
      refine nl ?_
      refine nS ?_
      refine cd rfl (fun hb => ?_) (fun hb => ?_)
      · have h51 := (of_decide_eq_true hb)
        clear hb
        refine rg ?_
        refine st (mv rfl) rfl ?_
        refine st (mv rfl) rfl ?_
        refine st (nk rfl) rfl ?_
        refine st (fa (o3 := 0 + 6) F163_1 rfl rfl) rfl ?_
        refine st (lm1 6 T161 hel2 (MO.hm Hm.i0) rfl rfl rfl) rfl ?_
        refine bs (parts := [_]) (cs := [_]) [_] [(0, [_])] U215 T161 rfl rfl rfl rfl ⟨rfl, ⟨_, rfl, (hok.sl _ (.inr hyi)).cells⟩, trivial⟩ rfl rfl ?_; intro b10_5
        refine r2 ?_
        refine ap U215 U215 T161 rfl rfl rfl rfl rfl rfl hO2 ((srcI rfl).mono Hm.i1) (allc (hok.sl _ (.inr hyi)).isSl rfl) (by simp; omega) rfl ?_; intro V3 o3 q3
        refine st (asg rfl) rfl ?_
        refine nl ?_
        refine nB ?_
        refine gr2 ?_
        refine gr1 ?_
        refine gr1 ?_
        refine gr1 ?_
        exact le4 _ _ _ (p ++ [y6_3], rest2, st0 ++ [(V2, ks.drop 1)] ++ [(d.vs y6_3, d.kids y6_3)]) ⟨⟨q3.cast (by simp), jI.go2 hre hwk (Ent.tail hr hV2 hks) hS2 (hok.ent (.inr hyi))⟩, by rw [hre]; simp <;> omega⟩ ⟨rfl, rfl, trivial⟩ hK2
      · have h51 := (of_decide_eq_false hb)
        clear hb
        refine sk ?_
        refine nB ?_
        refine gr1 ?_
        refine gr1 ?_
        refine gr1 ?_
        exact le4 _ _ _ (p ++ [y6_3], rest2, st0 ++ [(V2, ks.drop 1)]) ⟨⟨by simpa using hO2, jI.go hre hwk (Ent.tail hr hV2 hks) hS2 (List.eq_nil_of_length_eq_zero (by omega))⟩, by rw [hre]; simp <;> omega⟩ ⟨rfl, rfl, trivial⟩ hid
  · have h15 := (of_decide_eq_false hb)
    clear hb
    refine xt ?_
    refine xS ?_
    refine xS ?_
    refine xB ?_
    exact ret0 (.inr rfl) rfl (jI.done (List.eq_nil_of_length_eq_zero (by omega))) o2

set_option maxRecDepth 20000 in
theorem all_c {M : Mem} {w : World} {tv : Value} (hM : RO M [] w) (htc : tv.cells = [tv].toArray) : FnC prog 99 [tv] w [] (fun u o => ∃ b, u = .func (.func 140) #[] #[pt b 0] ∧ o = [(b, .cells (List.toArray [tv]) 102 (0, 0))]) := by
  refine enter (code := _) func99 rfl 4 rfl rfl hM [] rfl [(0, _)] ⟨rfl, trivial⟩ ?_
  refine sq ?_
  refine rg ?_
  refine bx (z := [_]) rfl htc rfl ?_; intro b0_0
  refine st (asg rfl) rfl ?_
  refine nl ?_
  refine nS ?_
  refine sq ?_
  refine rg ?_
  refine st (mkf (vs := []) (us := [_]) rfl rfl) rfl ?_
  refine st (asg rfl) rfl ?_
  refine nl ?_
  refine nS ?_
  refine rt ?_
  exact ret1 rfl rfl ⟨_, rfl, rfl⟩ o1

set_option maxRecDepth 20000 in
theorem allItN_c {M : Mem} {w : World} {b1 lp : Nat} {oc : Own} {S : List ID → Own → Prop} (hM : RO M oc w) (k1 : CellsAt M ⟨b1, 0, none⟩ [.pointer none]) (hS : S [] oc) : FnC prog 140 [.func (.yield lp) #[] #[], pt b1 0] w oc (fun _ o => S [] o) := by
  refine enter (code := _) func140 rfl 59 rfl rfl hM [oc] (by simp) [(0, _), (1, _)] ⟨rfl, rfl, trivial⟩ ?_
  refine sq ?_
  refine sq ?_
  refine rg ?_
  refine st (lm1 0 T102 k1 Hm.m rfl rfl rfl) rfl ?_
  refine st (eqv rfl rfl rfl gd_ptr (fun w => eq_ptr U102 _ w)) rfl ?_
  refine nl ?_
  refine nS ?_
  refine cdT rfl ?_
  refine rt ?_
  refine rS ?_
  exact ret0 (.inl rfl) rfl hS o1
end Go.W
/- strings.Builder's parts: append of a string, the pointer that goes through unsafe.Pointer, the string at the end. No program is named here. -/
namespace Go.W
open Go
theorem strC_flat (s : ByteArray) : (Lib.strCells s).all flat = true := by
  unfold Lib.strCells
  rw [List.all_eq_true]
  intro v hv
  obtain ⟨b, -, rfl⟩ := List.mem_map.1 hv
  rfl
theorem run_aps_room {P : Program} {t t2 e' : TypeId} {sz b : Nat} {gg : Bool} {z : List Value} {k n cap : Nat} {s : ByteArray} (hu : P.underlying t = some (.slice e')) (h2 : P.underlying t2 = some .string) (ht : Ty P e' sz gg z b) (w w' : World) (ty : TypeId) {ys : List Value}
    (hroom : n + s.size ≤ cap) (hy : (Builtin.firstCells sz s.size (.string s)).run P w = .ok ys.toArray w) (hs : (storeCells ⟨k, n * sz, none⟩ ys).run P w = .ok () w') :
    (Builtin.append_ #[t, t2] ty #[.slice (some ⟨k, 0, none⟩) n cap, .string s]).run P w = .ok (.slice (some ⟨k, 0, none⟩) (n + s.size) cap) w' := by
  unfold Builtin.append_
  simp only [(app_idx _ _).1, (app_idx _ _).2, Sem.run_bind, run_und hu, Result.andThen_ok, ht.size, run_und h2, Sem.run_pure]
  simp only [Bool.false_eq_true, if_false, Bool.not_false, if_true, Builtin.lenOf, pure_bind, hroom, Sem.run_bind, hy, Result.andThen_ok, add_mk, Nat.zero_add, hs, Sem.run_pure]

theorem run_aps_none {P : Program} {t t2 e' : TypeId} {sz b : Nat} {gg : Bool} {z : List Value} {s : ByteArray} (hu : P.underlying t = some (.slice e')) (h2 : P.underlying t2 = some .string) (ht : Ty P e' sz gg z b) (w : World) (ty : TypeId) {ys : List Value} (h0 : s.size = 0)
    (hy : (Builtin.firstCells sz s.size (.string s)).run P w = .ok ys.toArray w) :
    (Builtin.append_ #[t, t2] ty #[.slice none 0 0, .string s]).run P w = .ok (.slice none 0 0) w := by
  unfold Builtin.append_
  simp only [(app_idx _ _).1, (app_idx _ _).2, Sem.run_bind, run_und hu, Result.andThen_ok, ht.size, run_und h2, Sem.run_pure]
  rw [h0] at hy
  simp only [Bool.false_eq_true, if_false, Bool.not_false, if_true, Builtin.lenOf, pure_bind, Nat.add_zero, Nat.le_refl, Sem.run_bind, h0, hy, Result.andThen_ok, Sem.run_pure]

theorem run_aps_grow {P : Program} {t t2 e' : TypeId} {sz b : Nat} {gg : Bool} {z : List Value} {A : Option Addr} {n cap : Nat} {s : ByteArray} (hu : P.underlying t = some (.slice e')) (h2 : P.underlying t2 = some .string) (ht : Ty P e' sz gg z b) (w : World) (ty : TypeId) {xs ys : List Value}
    (hroom : ¬ n + s.size ≤ cap) (hb : n + s.size ≤ 4294967296) (hb2 : Nat.ble b 4096 = true) (hx : ∀ w', w'.heap = w.heap → (Builtin.firstCells sz n (.slice A n cap)).run P w' = .ok xs.toArray w') (hy : ∀ w', w'.heap = w.heap → (Builtin.firstCells sz s.size (.string s)).run P w' = .ok ys.toArray w') :
    ∃ nc dr, n + s.size ≤ nc ∧ (Builtin.append_ #[t, t2] ty #[.slice A n cap, .string s]).run P w =
      .ok (.slice (some ⟨w.heap.size, 0, none⟩) (n + s.size) nc) (({ w with drawn := dr } : World).alloc (.cells (xs.toArray ++ ys.toArray ++ Builtin.zeroCells (val gg z).cells (nc - (n + s.size))) e')) := by
  have hb2' : b ≤ 4096 := by simpa using hb2
  have hcap := nextslicecap_le (n + s.size) cap (by omega)
  have h3 : ¬ (((n + s.size : Nat) : Int) > IntKind.i64.max) := by
    have : IntKind.i64.max = 9223372036854775807 := by decide
    rw [this]; omega
  have h4 : ¬ Builtin.nextslicecap (n + s.size) cap * b > 2 ^ 48 := by
    have : Builtin.nextslicecap (n + s.size) cap * b ≤ (2 * 4294967296 + 512) * 4096 := Nat.mul_le_mul (by omega) hb2'
    omega
  let nc := (Question.appendCap (n + s.size) cap e').cut (w.tape w.drawn (.appendCap (n + s.size) cap e'))
  refine ⟨nc, w.drawn + 1, Nat.le_add_right _ _, ?_⟩
  unfold Builtin.append_
  obtain ⟨i, hi, hi1, hi2, hi3⟩ := ht.i
  simp only [(app_idx _ _).1, (app_idx _ _).2, Sem.run_bind, run_und hu, Result.andThen_ok, ht.size, run_und h2, Sem.run_pure]
  simp only [Bool.false_eq_true, if_false, Bool.not_false, if_true, Builtin.lenOf, pure_bind, hroom, Sem.run_bind, run_typeInfo' hi, Result.andThen_ok, h3, false_and, hi3, h4]
  have hch : (choose (.appendCap (n + s.size) cap e')).run P w = .ok nc { w with drawn := w.drawn + 1 } := by
    simp [choose, Sem.run, Question.forced, nc]
  simp only [hch, Result.andThen_ok]
  have hroom2 : (askRoom (nc * b)).run P { w with drawn := w.drawn + 1 } = .ok () { w with drawn := w.drawn + 1 } := by
    unfold askRoom; split <;> rfl
  simp only [hroom2, Result.andThen_ok, hx { w with drawn := w.drawn + 1 } rfl, hy { w with drawn := w.drawn + 1 } rfl, ht.zero, run_newRow, Sem.run_pure]

section
variable {c : Cx} {D : List Deferred} {ops : Array Oper} {K : Act → World → Prop} {rest : List Oper} {l : Env} {h : List Own}
  {ty : TypeId} {pos : String} {af : Array Edge} {g : Option (Nat × Bool)} {dst : Option Tmp} {d : Nat}
/-- append onto a slice of one's own, which is the item at the front. -/
theorem aps {x y : Operand} {t t2 e' : TypeId} {sz b : Nat} {gg : Bool} {z : List Value} {V : Value} {s0 : ByteArray} {o : Own} {cells : List Value} (hu : c.P.underlying t = some (.slice e')) (h2 : c.P.underlying t2 = some .string) (ht : Ty c.P e' sz gg z b)
    (hz : (val gg z).cells = z.toArray) (hzl : Nat.beq z.length sz = true) (hsz : Nat.blt 0 sz = true) (hb : Nat.ble b 4096 = true)
    (hx : ev l x = some V) (hy : ev l y = some (.string s0)) (hO : OS o e' sz V cells) (hsz1 : sz = 1) (hn : cells.length + s0.size ≤ 4294967296) (hd : Nat.blt d c.N = true)
    (k : ∀ v' o', OS o' e' sz v' (cells ++ Lib.strCells s0) → GL c D ops K rest ((d, v') :: l) (o' :: h)) :
    GL c D ops K (⟨some d, .call { callee := .builtin .append, args := #[x, y], argTypes := #[t, t2] }, ty, pos, af, none⟩ :: rest) l (o :: h) := by
  intro a w e s
  simp only [wpL, wanted_none, if_true]
  have hsz' : 0 < sz := by simpa using hsz
  have hM : MLe (Hm c.M (o :: h)) (Wm w) := (HS.nil_app s).le
  obtain ⟨ys, hys⟩ : ∃ ys, ys = Lib.strCells s0 := ⟨_, rfl⟩
  have hf : ys.all flat = true := by rw [hys]; exact strC_flat s0
  have hyl : ys.length = s0.size * sz := by rw [hys, Lib.strCells_length, hsz1, Nat.mul_one]
  have hrun : ∀ w' : World, (Builtin.firstCells sz s0.size (.string s0)).run c.P w' = .ok ys.toArray w' := fun w' => by rw [hys]; exact Lib.run_firstCells_string w' sz s0
  rw [← hys] at k
  rw [show s0.size = ys.length by rw [hys, Lib.strCells_length]] at hn
  have run : ∀ {v' : Value} {w' : World}, (Builtin.append_ #[t, t2] ty #[V, .string s0]).run c.P w = .ok v' w' →
      (execOp a.eval ⟨some d, .call { callee := .builtin .append, args := #[x, y], argTypes := #[t, t2] }, ty, pos, af, none⟩).run c.P w = .ok (.value v') w' := by
    intro v' w' hr
    have h1 := ev_eq (e.on _) (x := x) (xs := (Op.call { callee := .builtin .append, args := #[x, y], argTypes := #[t, t2] }).operands) (by simp [Op.operands, Call.operands]) hx
    have h3 := ev_eq (e.on _) (x := y) (xs := (Op.call { callee := .builtin .append, args := #[x, y], argTypes := #[t, t2] }).operands) (by simp [Op.operands, Call.operands]) hy
    simp [execOp, resolve, invoke, builtin, h1, h3, hr]
  have hm : s0.size ≤ 4294967296 := by
    have : s0.size * 1 ≤ s0.size * sz := Nat.mul_le_mul_left s0.size hsz'
    omega
  have growT : ∀ {A : Option Addr} {n cap : Nat} {xs : List Value}, V = .slice A n cap → ¬ n + s0.size ≤ cap → n + s0.size ≤ 4294967296 → xs = cells → xs.length = n * sz → cells.all flat = true →
      (∀ w', w'.heap = w.heap → (Builtin.firstCells sz n (.slice A n cap)).run c.P w' = .ok xs.toArray w') → opW c ⟨some d, .call { callee := .builtin .append, args := #[x, y], argTypes := #[t, t2] }, ty, pos, af, none⟩ (wpL c ops K rest) a w := by
    intro A n cap xs hV hroom hnm hxs hxl hcf hfirst
    subst hV hxs
    have hyr : ∀ w', w'.heap = w.heap → (Builtin.firstCells sz s0.size (.string s0)).run c.P w' = .ok ys.toArray w' := fun w' _ => hrun w'
    obtain ⟨nc, dr, hnc, hr⟩ := run_aps_grow hu h2 ht w ty hroom hnm hb hfirst hyr
    refine opW.of (by simp) (run hr) (fun _ _ q => by cases q) ?_
    have hsize : z.length = sz := Nat.eq_of_beq_eq_true hzl
    refine k _ [(w.heap.size, .cells (xs ++ ys ++ (Builtin.zeroCells z.toArray (nc - (n + s0.size))).toList).toArray e' (0, 0))] ?_ _ _ (e.put hd _) ?_
    · refine .inr ⟨w.heap.size, n + s0.size, nc, _, rfl, rfl, ?_, ?_, hnc, ?_⟩
      · refine Nat.le_of_eq (Eq.symm ?_)
        simp only [List.length_append, hxl, hyl, Builtin.zeroCells, Array.length_toList, Array.size_map, Array.size_range, List.size_toArray, hsize]
        rw [← Nat.add_mul, ← Nat.add_mul]; congr 1; omega
      · rw [List.take_left' (by simp [hxl, hyl, Nat.add_mul])]
      · rw [List.all_append, hcf, hf]; rfl
    · have s1 : HS c h w := s.dropIt (by simp)
      have := (s1.drawn dr).alloc (.cells (xs ++ ys ++ (Builtin.zeroCells z.toArray (nc - (n + s0.size))).toList).toArray e' (0, 0))
      rw [hz]
      have e1 : xs.toArray ++ ys.toArray ++ Builtin.zeroCells z.toArray (nc - (n + s0.size)) = (xs ++ ys ++ (Builtin.zeroCells z.toArray (nc - (n + s0.size))).toList).toArray := by
        apply Array.ext'; simp
      rw [e1]
      exact this
  rcases hO with ⟨rfl, rfl, rfl⟩ | ⟨kk, n, cap, cs, rfl, rfl, hcl, rfl, hncap, hcf⟩
  · by_cases h0 : s0.size = 0
    · have hys0 : ys = [] := List.eq_nil_of_length_eq_zero (by rw [hyl, h0, Nat.zero_mul])
      have hr := run_aps_none (s := s0) hu h2 ht w ty h0 (hrun w)
      refine opW.of (by simp) (run hr) (fun _ _ q => by cases q) ?_
      exact k _ [] (.inl ⟨rfl, by rw [hys0]; rfl, rfl⟩) _ _ (e.put hd _) s
    · exact growT rfl (by omega) (by omega) rfl (by simp) rfl (fun w' _ => rfl)
  · have hnl : (cs.take (n * sz)).length = n * sz := by
      rw [List.length_take]
      have : n * sz ≤ cap * sz := Nat.mul_le_mul_right sz hncap
      omega
    have hn' : n ≤ 4294967296 := by
      have : n * 1 ≤ n * sz := Nat.mul_le_mul_left n hsz'
      omega
    have hnm : n + s0.size ≤ 4294967296 := by
      have : (n + s0.size) * 1 ≤ (n + s0.size) * sz := Nat.mul_le_mul_left (n + s0.size) hsz'
      have h5 : (n + s0.size) * sz = n * sz + s0.size * sz := Nat.add_mul n s0.size sz
      omega
    by_cases hroom : n + s0.size ≤ cap
    · have hle : (n + s0.size) * sz ≤ cap * sz := Nat.mul_le_mul_right sz hroom
      rw [Nat.add_mul] at hle
      obtain ⟨w', r, a1, a2, a3, a4, a5, a6⟩ := run_storeCells (P := c.P) ys w (n * sz) 0 cs (s.chg.own (kk, .cells cs.toArray e' (0, 0)) (by simp)) (by omega) (flat_all hf)
      have hr := run_aps_room hu h2 ht w w' ty hroom (hrun w) r
      refine opW.of (by simp) (run hr) (fun _ _ q => by cases q) ?_
      rw [Nat.add_zero] at a6
      refine k _ [(kk, .cells (setL cs (n * sz) ys).toArray e' (0, 0))] (.inr ⟨kk, n + s0.size, cap, _, rfl, rfl, by rw [setL_length]; exact hcl, ?_, hroom, by rw [List.all_append, hcf, hf]; rfl⟩) _ _ (e.put hd _) (s.set a1 a2 a3 a4 a5 a6)
      rw [Nat.add_mul, ← hyl]
      exact (take_setL (by omega)).symm
    · refine growT rfl hroom hnm rfl hnl hcf fun w' hw' => ?_
      have hsrc : Src (Hm c.M ([(kk, .cells cs.toArray e' (0, 0))] :: h)) sz (.slice (some ⟨kk, 0, none⟩) n cap) n (cs.take (n * sz)) :=
        ⟨_, _, rfl, hnl, fun _ => ⟨_, rfl, atI fun i v hv => by
          rw [List.getElem?_take] at hv
          split at hv
          · simpa using hv
          · cases hv⟩⟩
      refine run_firstCells (M := Hm c.M ([(kk, .cells cs.toArray e' (0, 0))] :: h)) (fun q ob hq => ?_) hsrc
      show w'.heap[q]? = some ob
      rw [hw']; exact hM q ob hq

end
section
variable {c : Cx} {D : List Deferred} {ops : Array Oper} {K : Act → World → Prop} {rest : List Oper} {l : Env} {h : List Own}
  {ty : TypeId} {pos : String} {af : Array Edge} {g : Option (Nat × Bool)} {dst : Option Tmp} {d : Nat}
theorem shape_of {w : World} {b : Nat} {cs : Array Value} {e : TypeId} {fz : Nat × Nat} (h : w.heap[b]? = some (.cells cs e fz)) : w.shape? b = some (e, cs.size) := by simp [World.shape?, h]
theorem info_of {P : Program} {t : TypeId} {n b : Nat} {gg : Bool} {z : List Value} (h : Ty P t n gg z b) (h0 : n ≠ 0) : ∃ i, P.info? t = some i ∧ i.size ≠ 0 := by
  obtain ⟨i, h1, h2, -⟩ := h.i; exact ⟨i, h1, by rw [h2]; exact h0⟩
/-- *T to unsafe.Pointer and back, at the head of a block of one's own. -/
theorem cvU {x : Operand} {t1 t2 T : TypeId} {n b k : Nat} {gg : Bool} {z : List Value} {cs : Array Value} {e : TypeId} {fz : Nat × Nat} (h1 : c.P.underlying t1 = some (.pointer T)) (h2 : c.P.underlying t2 = some .unsafePointer) (hT : Ty c.P T n gg z b) (h0 : n ≠ 0)
    (hk : Hm c.M h k (.cells cs e fz)) (hc : 0 < cs.size) (hx : ev l x = some (pt k 0)) : OpV c ⟨dst, .convert t1 t2 x, ty, pos, af, g⟩ l h (pt k 0) :=
  .of0 (fun _ => by simp) fun a w en ⟨hx', s⟩ => by
    obtain ⟨i, hi, hs⟩ := info_of hT h0
    have := Lib.run_to_unsafe w ⟨k, 0, none⟩ h1 h2 hi hs (shape_of (s.le _ _ hk)) hc
    simp [execOp, ev_eq en (x := x) (by simp [Op.operands]) hx, this]
theorem cvP {x : Operand} {t1 t2 T : TypeId} {n b k : Nat} {gg : Bool} {z : List Value} {cs : Array Value} {e : TypeId} {fz : Nat × Nat} (h1 : c.P.underlying t1 = some .unsafePointer) (h2 : c.P.underlying t2 = some (.pointer T)) (hT : Ty c.P T n gg z b) (h0 : n ≠ 0)
    (hk : Hm c.M h k (.cells cs e fz)) (hl : liesAt c.P c.P.depth e (cs.size / c.P.cellsOf e) 0 T 1 = true) (hx : ev l x = some (pt k 0)) : OpV c ⟨dst, .convert t1 t2 x, ty, pos, af, g⟩ l h (pt k 0) :=
  .of0 (fun _ => by simp) fun a w en ⟨hx', s⟩ => by
    obtain ⟨i, hi, hs⟩ := info_of hT h0
    have := Lib.run_from_unsafe w ⟨k, 0, none⟩ h1 h2 hi (shape_of (s.le _ _ hk)) hl
    simp [execOp, ev_eq en (x := x) (by simp [Op.operands]) hx, this]
/-- abi.NoEscape. -/
theorem noe {f : FuncId} {x : Operand} {tys : Array TypeId} {v : Value} (hrun : ∀ (args : Array Value) (w : World), (callFunc f args).run c.P w = ((Extern.AbiNoEscape.same args).run c.P w).andThen fun v w' => .ok (.value v) w') (hx : ev l x = some v) :
    OpV c ⟨dst, .call { callee := .value (.func f), args := #[x], argTypes := tys }, ty, pos, af, g⟩ l h v :=
  .of0 (fun _ => by simp) fun a w e ⟨hx', s⟩ => by
    have h2 : a.eval (.func f) = .func (.func f) #[] #[] := rfl
    simp [execOp, resolve, ev_eq e (x := x) (by simp [Op.operands, Call.operands]) hx, h2, Deferred.ofValue, invoke, hrun, Lib.run_noEscape]
/-- == and != of two pointers into blocks. -/
theorem run_eqpp {P : Program} {t e : TypeId} {n b : Nat} {gg : Bool} {z : List Value} {w : World} {ka oa kb ob : Nat} {ca cb : Array Value} {ta tb : TypeId} (hu : P.underlying t = some (.pointer e)) (hT : Ty P e n gg z b) (h0 : n ≠ 0) (ha : w.heap[ka]? = some (.cells ca ta (0, 0))) (hb : w.heap[kb]? = some (.cells cb tb (0, 0))) :
    (Op.equal t (pt ka oa) (pt kb ob)).run P w = .ok (decide (ka = kb ∧ oa = ob)) w := by
  have h1 : (Op.equal t (pt ka oa) (pt kb ob)).run P w = (sameAddr ⟨ka, oa, none⟩ ⟨kb, ob, none⟩).run P w := by
    show (Op.equalIn (9999 + 1) t _ _).run P w = _
    rw [Op.equalIn]
    simp [run_und hu, hT.size, h0]
  rw [h1]
  by_cases hq : ka = kb ∧ oa = ob
  · obtain ⟨rfl, rfl⟩ := hq
    rw [decide_eq_true ⟨rfl, rfl⟩]
    exact run_sameAddr_same (P := P) w _
  · rw [decide_eq_false hq]
    refine run_sameAddr_other (P := P) w (a := ⟨ka, oa, none⟩) (b := ⟨kb, ob, none⟩) (fun q => hq ?_) ha hb
    simp at q; exact q
theorem eqpp {x y : Operand} {t t' e : TypeId} {n b : Nat} {gg : Bool} {z : List Value} {ka oa kb ob : Nat} {ca cb : Array Value} {ta tb : TypeId} (hu : c.P.underlying t = some (.pointer e)) (hT : Ty c.P e n gg z b) (h0 : n ≠ 0) (hx : ev l x = some (pt ka oa)) (hy : ev l y = some (pt kb ob))
    (ha : Hm c.M h ka (.cells ca ta (0, 0))) (hb : Hm c.M h kb (.cells cb tb (0, 0))) : OpV c ⟨dst, .binOp .eql t x y t', ty, pos, af, g⟩ l h (.bool (decide (ka = kb ∧ oa = ob))) :=
  .of0 (fun _ => by simp) fun a w en ⟨hx', s⟩ => by
    have h2 : (binOp .eql t (pt ka oa) (pt kb ob)).run c.P w = .ok (.bool (decide (ka = kb ∧ oa = ob))) w := by
      show (do pure (Value.bool (← Op.equal t (pt ka oa) (pt kb ob)))).run c.P w = _
      simp [run_eqpp hu hT h0 (s.le _ _ ha) (s.le _ _ hb)]
    simp only [execOp, ev_eq en (x := x) (by simp [Op.operands]) hx, ev_eq en (x := y) (by simp [Op.operands]) hy, Sem.run_bind, gd_ptr, Result.andThen_ok, h2, Sem.run_pure]
theorem nepp {x y : Operand} {t t' e : TypeId} {n b : Nat} {gg : Bool} {z : List Value} {ka oa kb ob : Nat} {ca cb : Array Value} {ta tb : TypeId} (hu : c.P.underlying t = some (.pointer e)) (hT : Ty c.P e n gg z b) (h0 : n ≠ 0) (hx : ev l x = some (pt ka oa)) (hy : ev l y = some (pt kb ob))
    (ha : Hm c.M h ka (.cells ca ta (0, 0))) (hb : Hm c.M h kb (.cells cb tb (0, 0))) : OpV c ⟨dst, .binOp .neq t x y t', ty, pos, af, g⟩ l h (.bool (!decide (ka = kb ∧ oa = ob))) :=
  .of0 (fun _ => by simp) fun a w en ⟨hx', s⟩ => by
    have h2 : (binOp .neq t (pt ka oa) (pt kb ob)).run c.P w = .ok (.bool (!decide (ka = kb ∧ oa = ob))) w := by
      show (do pure (Value.bool (!(← Op.equal t (pt ka oa) (pt kb ob))))).run c.P w = _
      simp [run_eqpp hu hT h0 (s.le _ _ ha) (s.le _ _ hb)]
    simp only [execOp, ev_eq en (x := x) (by simp [Op.operands]) hx, ev_eq en (x := y) (by simp [Op.operands]) hy, Sem.run_bind, gd_ptr, Result.andThen_ok, h2, Sem.run_pure]
/-- unsafe.SliceData. -/
theorem usd {x : Operand} {tys : Array TypeId} {A : Option Addr} {n cp : Nat} (hx : ev l x = some (.slice A n cp)) (hc : A = none ∨ cp ≠ 0) : OpV c ⟨dst, .call { callee := .builtin .unsafeSliceData, args := #[x], argTypes := tys }, ty, pos, af, g⟩ l h (.pointer A) :=
  .of0 (fun _ => by simp) fun a w e ⟨hx', s⟩ => by
    have hr : (Builtin.unsafeSliceData_ tys ty #[.slice A n cp]).run c.P w = .ok (.pointer A) w := by
      cases A with
      | none => exact Lib.run_unsafeSliceData_nil w tys ty n cp
      | some A => exact Lib.run_unsafeSliceData_row w tys ty A n cp (hc.resolve_left (by simp))
    simp [execOp, resolve, invoke, builtin, ev_eq e (by simp [Op.operands, Call.operands]) hx, hr]
/-- unsafe.String of nothing. -/
theorem uns0 {x y : Operand} {t1 t2 : TypeId} {A : Option Addr} (hx : ev l x = some (.pointer A)) (hy : ev l y = some (.int .i64 0)) : OpV c ⟨dst, .call { callee := .builtin .unsafeString, args := #[x, y], argTypes := #[t1, t2] }, ty, pos, af, g⟩ l h (.string .empty) :=
  .of0 (fun _ => by simp) fun a w e ⟨hx', s⟩ => by
    have hr := Lib.run_unsafeString_none (P := c.P) w t1 t2 ty A
    simp [execOp, resolve, invoke, builtin, ev_eq e (x := x) (by simp [Op.operands, Call.operands]) hx, ev_eq e (x := y) (by simp [Op.operands, Call.operands]) hy, hr]
/-- .. of a block of one's own, at the front: its bytes are frozen then. -/
theorem uns {x y : Operand} {t1 t2 e' : TypeId} {k n : Nat} {cs : List Value} {bs : List UInt8} {hs : List Own} (hp : c.P.underlying t1 = some (.pointer e')) (hT : c.P.cellsOf e' = 1) (hx : ev l x = some (pt k 0)) (hy : ev l y = some (.int .i64 ((n : Nat) : Int)))
    (hb : cs.take n = Lib.byteCells bs) (hn : n ≤ cs.length) (h0 : bs ≠ []) (hn63 : n ≤ 4294967296) (hd : Nat.blt d c.N = true) (kk : GL c D ops K rest ((d, .string ⟨bs.toArray⟩) :: l) ([(k, .cells cs.toArray e' (0, n))] :: hs)) :
    GL c D ops K (⟨some d, .call { callee := .builtin .unsafeString, args := #[x, y], argTypes := #[t1, t2] }, ty, pos, af, none⟩ :: rest) l ([(k, .cells cs.toArray e' (0, 0))] :: hs) := by
  intro a w e s
  simp only [wpL, wanted_none, if_true]
  have hk : w.heap[k]? = some (.cells cs.toArray e' (0, 0)) := s.chg.own (k, _) (by simp)
  have hl : bs.length = n := by
    have := congrArg List.length hb
    rw [List.length_take, Lib.byteCells_length] at this; omega
  have h1 := ev_eq (e.on _) (x := x) (xs := (Op.call { callee := .builtin .unsafeString, args := #[x, y], argTypes := #[t1, t2] }).operands) (by simp [Op.operands, Call.operands]) hx
  have h2 := ev_eq (e.on _) (x := y) (xs := (Op.call { callee := .builtin .unsafeString, args := #[x, y], argTypes := #[t1, t2] }).operands) (by simp [Op.operands, Call.operands]) hy
  have hr := Lib.run_unsafeString_row (P := c.P) w t1 t2 ty e' hp hT k cs.length (by simpa using shape_of hk) bs h0 (by omega) (by omega) (fun j u hu => by
    rw [add_mk, Nat.zero_add]
    have h3 : (Lib.byteCells bs)[j]? = some (.int .u8 u.toNat) := by simp [Lib.byteCells, hu]
    rw [← hb, List.getElem?_take] at h3
    split at h3
    · simp [World.cell?, hk, h3]
    · cases h3)
  rw [hl] at hr
  have hrun : (execOp a.eval ⟨some d, .call { callee := .builtin .unsafeString, args := #[x, y], argTypes := #[t1, t2] }, ty, pos, af, none⟩).run c.P w = .ok (.value (.string ⟨bs.toArray⟩)) (w.freeze ⟨k, 0, none⟩ n) := by
    simp [execOp, resolve, invoke, builtin, h1, h2, hr]
  have hn0 : n ≠ 0 := by rw [← hl]; simpa using h0
  have hf : (w.freeze ⟨k, 0, none⟩ n).heap = w.heap.modify k (fun o => match o with | .cells c elem (lo, hi) => .cells c elem (if lo == hi then (0, 0 + n) else (min lo 0, max hi (0 + n))) | o => o) := by
    unfold World.freeze; rw [if_neg hn0]; rfl
  refine opW.of (by simp) hrun (fun _ _ q => by cases q) (kk _ _ (e.put hd _) (s.set (by unfold World.freeze; rw [if_neg hn0]) (by unfold World.freeze; rw [if_neg hn0]) (by unfold World.freeze; rw [if_neg hn0]) (by rw [hf]; simp) (fun j hj => by rw [hf, Array.getElem?_modify, if_neg (Ne.symm hj)]) (by rw [hf, Array.getElem?_modify, if_pos rfl, hk]; simp)))
end
section
variable {c : Cx} {D : List Deferred} {ops : List Oper} {K : Act → World → Prop} {Ts : List Oper} {l : Env} {h : List Own} {i d : Nat} {ty : TypeId} {pos : String} {af : Array Edge}
/-- A slice out of parts, among what makes blocks in a drawn region. -/
theorem fbs1 {t e' : TypeId} {n len b : Nat} {gg : Bool} {z : List Value} (zs : List Value) {parts : List (Nat × Operand)} (pcs : List (Nat × List Value)) {cs : List Value} (ho : ops[i]? = some ⟨some d, .buildSlice t len parts.toArray, ty, pos, af, none⟩) (hu : c.P.underlying t = some (.slice e')) (ht : Ty c.P e' n gg z b) (hz : (val gg z).cells = z.toArray)
    (hl : Nat.ble (len * n) 16777216 = true) (hzs : (List.range (len * n)).map (fun i => z.getD (i % z.length) undef) = zs) (hzl : Nat.blt 0 z.length = true) (hx : Parts l parts pcs) (hf : fills (fun i => some (i * n, n)) zs pcs = some cs)
    (hd : Nat.blt d c.N = true) (k : ∀ b, GL c D ops.toArray K Ts ((d, .slice (some ⟨b, 0, none⟩) len len) :: l) ([(b, .cells cs.toArray e' (0, 0))] :: h)) : GF c D ops K Ts l h [i] l h := by
  refine ⟨[⟨i, d, fun b => .slice (some ⟨b, 0, none⟩) len len, .cells cs.toArray e' (0, 0)⟩], fun e he => ?_, rfl, k⟩
  simp only [List.mem_singleton] at he
  subst he
  refine ⟨_, ho, rfl, hd, rfl, by simp, fun a w e => ?_⟩
  have hpe := parts_eq e parts pcs (fun p hp => by
    simp only [Op.operands]
    exact Array.mem_def.2 (List.mem_map.2 ⟨p, by simpa using hp, rfl⟩)) hx
  have hfill := fill_of pcs _ _ _ hpe hf
  have hmap : (parts.toArray.map fun (x : Nat × Operand) => (x.1, a.eval x.2)).toList = parts.map fun p => (p.1, a.eval p.2) := by simp
  have := run_buildSlice (P := c.P) (parts := parts.toArray.map fun (x : Nat × Operand) => (x.1, a.eval x.2)) hu ht hz (by simpa using hl) hzs (fun _ => by simpa using hzl) (by rw [hmap]; exact hfill) w
  simp only [execOp, Sem.run_bind, this, Result.andThen_ok]
  rfl
end
section
variable {c : Cx} {l : Env} {h : List Own} {ty : TypeId} {pos : String} {af : Array Edge} {g : Option (Nat × Bool)} {dst : Option Tmp}
/-- s[:i:j] -/
theorem slC {x i j : Operand} {t e' : TypeId} {sz bb : Nat} {gg : Bool} {z : List Value} {A : Option Addr} {n cp : Nat} {ik : IntKind} (hu : c.P.underlying t = some (.slice e')) (ht : Ty c.P e' sz gg z bb) (hx : ev l x = some (.slice A n cp)) (hi : ev l i = some (.int ik ((n : Nat) : Int))) (hj : ev l j = some (.int ik ((n : Nat) : Int))) (hn : n ≤ cp)
    (hA : A = none ∨ ∃ k, A = some ⟨k, 0, none⟩) : OpV c ⟨dst, .slice t x none (some i) (some j), ty, pos, af, g⟩ l h (.slice A n n) :=
  .of0 (fun _ => by simp) fun a w e _ => by
    have hq : A.map (fun q => q.add (0 * sz)) = A := by
      rcases hA with rfl | ⟨k, rfl⟩
      · rfl
      · simp [Addr.add]
    rw [Nat.zero_mul] at hq
    simp [execOp, ev_eq e (x := x) (by simp [Op.operands]) hx, ev_eq e (x := i) (by simp [Op.operands]) hi, ev_eq e (x := j) (by simp [Op.operands]) hj, Instr.sliceAt, Instr.slice, run_und hu, Instr.sliceBounds, Instr.sliceBound, asIntOf, hn, ht.size, hq]
theorem OS.form {o : Own} {e sz : Nat} {v : Value} {cells : List Value} (h : OS o e sz v cells) : ∃ A n cp, v = .slice A n cp ∧ n ≤ cp ∧ (A = none ∨ ∃ k, A = some ⟨k, 0, none⟩) := by
  rcases h with ⟨rfl, -, -⟩ | ⟨k, n, cap, cs, rfl, -, -, -, h5, -⟩
  · exact ⟨none, 0, 0, rfl, Nat.le_refl _, .inl rfl⟩
  · exact ⟨_, n, cap, rfl, h5, .inr ⟨k, rfl⟩⟩
theorem OS.clip {o : Own} {e sz n cp : Nat} {A : Option Addr} {cells : List Value} (h : OS o e sz (.slice A n cp) cells) : OS o e sz (.slice A n n) cells := by
  rcases h with ⟨h1, h2, h3⟩ | ⟨k, n', cap, cs, h1, h2, h3, h4, h5, h6⟩
  · cases h1; exact .inl ⟨rfl, h2, h3⟩
  · cases h1
    exact .inr ⟨k, n, n, cs, rfl, h2, Nat.le_trans (Nat.mul_le_mul_right sz h5) h3, h4, Nat.le_refl _, h6⟩
end
end Go.W
/- Turning elements' states: plain words. -/
namespace Go.W
open Go

def namP (r : Run) (x : ID) : Prop := r.id.site = x.site ∧ r.id.time ≤ x.time ∧ 0 < r.count ∧ x.time - r.id.time < r.count
instance (r : Run) (x : ID) : Decidable (namP r x) := by unfold namP; infer_instance
def namesB (rs : List Run) (x : ID) : Bool := rs.any fun r => decide (namP r x)
def idxF (x : ID) : List Run → Int → Int
  | [], _ => -1
  | r :: t, k => if namP r x then k else idxF x t (k + 1)
theorem idxF_at {x : ID} {rs : List Run} {i : Nat} {y : Run} {k : Int} (e : rs[i]? = some y) : idxF x (rs.drop i) k = if namP y x then k else idxF x (rs.drop (i + 1)) (k + 1) := by
  obtain ⟨h, rfl⟩ := List.getElem?_eq_some_iff.1 e
  rw [List.drop_eq_getElem_cons h]; rfl
theorem idxF_end {x : ID} {rs : List Run} {i : Nat} {k : Int} (h : rs.length ≤ i) : idxF x (rs.drop i) k = -1 := by rw [List.drop_eq_nil_of_le h]; rfl
theorem idx_any {x : ID} : ∀ (rs : List Run) (k : Int), 0 ≤ k → decide (0 ≤ idxF x rs k) = namesB rs x := by
  intro rs
  induction rs with
  | nil => intro k _; rfl
  | cons r t ih =>
    intro k hk
    unfold namesB
    rw [List.any_cons, idxF]
    by_cases h : namP r x
    · rw [if_pos h, decide_eq_true h, decide_eq_true hk]; rfl
    · rw [if_neg h, decide_eq_false h, ih (k + 1) (by omega)]; rfl
theorem v_sub64 {a b : Int} (h : 0 ≤ a - b ∧ a - b ≤ 18446744073709551615) : Value.int .u64 (IntKind.u64.wrap (IntKind.u64.wrap a - IntKind.u64.wrap b)) = .int .u64 (a - b) := by
  have : IntKind.u64.wrap (IntKind.u64.wrap a - IntKind.u64.wrap b) = a - b := by
    simp [IntKind.wrap, IntKind.bits, IntKind.signed]; omega
  rw [this]
theorem v_u64c {a : Int} (h : 0 ≤ a ∧ a ≤ 18446744073709551615) : Value.int .u64 (IntKind.u64.wrap a) = .int .u64 a := by rw [IntWalk.u64_in _ h]

/-! ### A tree some of whose elements are turned -/
def turn1 (rs : List Run) (a b : Int) (n : Nd) : Nd := if n.state = a ∧ namesB rs n.id = true then { n with state := b } else n
theorem turn1_id (rs : List Run) (a b : Int) (n : Nd) : (turn1 rs a b n).id = n.id := by unfold turn1; split <;> rfl
theorem turn1_ref (rs : List Run) (a b : Int) (n : Nd) : (turn1 rs a b n).ref = n.ref := by unfold turn1; split <;> rfl
structure Keep (f : Nd → Nd) : Prop where
  id : ∀ n, (f n).id = n.id
  ref : ∀ n, (f n).ref = n.ref
theorem keep_turn (rs : List Run) (a b : Int) : Keep (turn1 rs a b) := ⟨turn1_id rs a b, turn1_ref rs a b⟩
def TD.part (d : TD) (f : Nd → Nd) (p : List ID) : TD := { d with nds := d.nds.map fun n => if n.id ∈ p then f n else n }
def TD.mapN (d : TD) (f : Nd → Nd) : TD := { d with nds := d.nds.map f }
theorem keep_part {f : Nd → Nd} (h : Keep f) (p : List ID) : Keep fun n => if n.id ∈ p then f n else n := ⟨fun n => by split; exact h.id n; rfl, fun n => by split; exact h.ref n; rfl⟩
theorem kids_map {f : Nd → Nd} (h : Keep f) (l : List Nd) (r : ID) : kidsOf (l.map f) r = kidsOf l r := by
  unfold kidsOf
  rw [List.foldl_map]
  congr 1
  funext ks n
  rw [h.id, h.ref]
theorem ids_map {f : Nd → Nd} (h : Keep f) (l : List Nd) : (l.map f).map (·.id) = l.map (·.id) := by
  rw [List.map_map]; exact List.map_congr_left fun n _ => h.id n
theorem mapN_ok {d : TD} {f : Nd → Nd} (h : Keep f) (hok : d.Ok) : (d.mapN f).Ok := by
  have hids : (d.mapN f).ids = d.ids := ids_map h d.nds
  refine ⟨by rw [hids]; exact hok.nodup, by rw [hids]; exact hok.nz, ?_, fun r hr => ?_, fun n hn => ?_, fun n hn => ?_, ?_, fun n hn => ?_⟩
  · have := hok.map
    show match d.byv with | none => _ | some m => _
    cases hb : d.byv with
    | none => rw [hb] at this; simp only at this ⊢; show d.nds.map f = []; rw [this]; rfl
    | some m =>
      rw [hb] at this; simp only at this ⊢
      show Mp encI m.2 ((d.nds.map f).map fun n => (n.id, pt (d.ad n.id) 0))
      rw [List.map_map]
      have e : (fun n : Nd => (n.id, pt (d.ad n.id) 0)) ∘ f = fun n => (n.id, pt (d.ad n.id) 0) := by funext n; simp only [Function.comp, h.id]
      rw [e]; exact this
  · rw [hids] at hr
    have := hok.sl r hr
    show OS (d.os r) _ 1 (d.vs r) ((kidsOf (d.nds.map f) r).map fun k => pt (d.ad k) 0)
    rw [kids_map h]; exact this
  · obtain ⟨m, hm, rfl⟩ := List.mem_map.1 hn
    rw [hids, h.ref]; exact hok.up m hm
  · obtain ⟨m, hm, rfl⟩ := List.mem_map.1 hn
    rw [h.ref, h.id]; exact hok.low m hm
  · show (d.nds.map f).length ≤ _
    rw [List.length_map]; exact hok.few
  · obtain ⟨m, hm, rfl⟩ := List.mem_map.1 hn
    rw [h.id]; exact hok.rng m hm
theorem part_nil (d : TD) (f : Nd → Nd) : d.part f [] = d := by
  unfold TD.part
  have : (d.nds.map fun n => if n.id ∈ ([] : List ID) then f n else n) = d.nds := by simp
  rw [this]
theorem part_all {d : TD} {f : Nd → Nd} {xs : List ID} (h : ∀ n ∈ d.nds, n.id ∈ xs) : d.part f xs = d.mapN f := by
  unfold TD.part TD.mapN
  have : (d.nds.map fun n => if n.id ∈ xs then f n else n) = d.nds.map f := List.map_congr_left fun n hn => by rw [if_pos (h n hn)]
  rw [this]
theorem mapN_str {d : TD} {f : Nd → Nd} (h : Keep f) {M : Mem} (hs : (d.mapN f).Str M) : d.Str M :=
  ⟨hs.top, fun k hk => hs.el k (by show k ∈ (d.nds.map f).map (·.id); rw [ids_map h]; exact hk), fun r hr => hs.os r (by
    rcases hr with hr | hr
    · exact .inl hr
    · exact .inr (by show r ∈ (d.nds.map f).map (·.id); rw [ids_map h]; exact hr))⟩
theorem part_str {d : TD} {f : Nd → Nd} (h : Keep f) {p : List ID} {M : Mem} (hs : (d.part f p).Str M) : d.Str M := mapN_str (keep_part h p) hs
theorem part_lay_str {d : TD} {f : Nd → Nd} (h : Keep f) {p : List ID} {M : Mem} {o : Own} (ho : ∀ b ∈ (d.part f p).lay, b ∈ o) : d.Str (MO M o) := part_str h ((TD.In.im.mono (fun k ob hk => .inr (ho (k, ob) hk))).str)
theorem part_ids {d : TD} {f : Nd → Nd} (h : Keep f) (p : List ID) : (d.part f p).ids = d.ids := ids_map (keep_part h p) d.nds
theorem nd_of_id {l : List Nd} (h : (l.map (·.id)).Nodup) {a b : Nd} (ha : a ∈ l) (hb : b ∈ l) (e : a.id = b.id) : a = b := by
  obtain ⟨i, hi⟩ := List.getElem?_of_mem ha
  obtain ⟨j, hj⟩ := List.getElem?_of_mem hb
  obtain ⟨li, ei⟩ := List.getElem?_eq_some_iff.1 hi
  obtain ⟨lj, ej⟩ := List.getElem?_eq_some_iff.1 hj
  have h2 : (l.map (·.id))[i]'(by simpa using li) = (l.map (·.id))[j]'(by simpa using lj) := by rw [List.getElem_map, List.getElem_map, ei, ej, e]
  have h3 := (List.getElem_inj h).1 h2
  subst h3
  rw [← ei, ← ej]
/-- An element that comes now: it is as it was. -/
theorem part_cur {d : TD} {f : Nd → Nd} {xs p q : List ID} {x : ID} (hok : d.Ok) (hp : xs.Perm d.ids) (hx : xs = p ++ x :: q) : ∃ n ∈ d.nds, n.id = x ∧ n ∈ (d.part f p).nds := by
  have hm : x ∈ d.ids := hp.mem_iff.1 (by rw [hx]; simp)
  obtain ⟨n, hn, rfl⟩ := List.mem_map.1 hm
  have hnd : xs.Nodup := hp.nodup_iff.2 hok.nodup
  rw [hx, List.nodup_append] at hnd
  refine ⟨n, hn, rfl, List.mem_map.2 ⟨n, hn, if_neg fun h => ?_⟩⟩
  exact hnd.2.2 _ h n.id (by simp) rfl
theorem map_same {α : Type} {f : α → α} : ∀ {l : List α}, (∀ x ∈ l, f x = x) → l.map f = l := by
  intro l
  induction l with
  | nil => intro _; rfl
  | cons a l ih => intro h; rw [List.map_cons, h a (by simp), ih fun x hx => h x (by simp [hx])]
def TD.upd (d : TD) (n' : Nd) : TD := { d with nds := d.nds.map fun m => if m.id = n'.id then n' else m }
theorem upd_lay {d : TD} {n n' : Nd} (hnd : d.ids.Nodup) (hn : n ∈ d.nds) (he : n'.id = n.id) : ∃ rst, d.lay.Perm (d.el n ++ rst) ∧ (d.upd n').lay.Perm (d.el n' ++ rst) := by
  obtain ⟨pre, post, hs⟩ := List.append_of_mem hn
  have h0 : (pre.map (·.id) ++ n.id :: post.map (·.id)).Nodup := by have := hnd; unfold TD.ids at this; rw [hs] at this; simpa using this
  rw [List.nodup_append, List.nodup_cons] at h0
  have hpre : pre.map (fun m => if m.id = n'.id then n' else m) = pre := by
    refine map_same fun m hm => if_neg fun e => h0.2.2 m.id (List.mem_map_of_mem hm) n.id (by simp) (e.trans he)
  have hpost : post.map (fun m => if m.id = n'.id then n' else m) = post := by
    refine map_same fun m hm => if_neg fun e => h0.2.1.1 (by rw [← he, ← e]; exact List.mem_map_of_mem hm)
  have hs2 : (d.upd n').nds = pre ++ n' :: post := by
    show d.nds.map _ = _
    rw [hs, List.map_append, List.map_cons, hpre, hpost, if_pos he.symm]
  refine ⟨d.top ++ (d.byv.toList ++ (d.os z0 ++ (d.os n.id ++ (pre.flatMap d.blk ++ post.flatMap d.blk)))), ?_, ?_⟩
  · rw [TD.lay_eq, hs, List.flatMap_append, List.flatMap_cons, TD.blk]
    exact perm_ct fun x => by simp only [ct_app]; omega
  · rw [TD.lay_eq, hs2, List.flatMap_append, List.flatMap_cons]
    have e1 : (d.upd n').blk = d.blk := rfl
    have e2 : (d.upd n').top = d.top := rfl
    have e3 : (d.upd n').byv = d.byv := rfl
    have e4 : (d.upd n').os = d.os := rfl
    rw [e1, e2, e3, e4, show d.blk n' = d.el n' ++ d.os n'.id from rfl, he]
    exact perm_ct fun x => by simp only [ct_app]; omega
theorem part_step {d : TD} {f : Nd → Nd} (hf : Keep f) {p : List ID} {n : Nd} (hok : d.Ok) (hn : n ∈ d.nds) (hp : n.id ∉ p) : d.part f (p ++ [n.id]) = (d.part f p).upd (f n) := by
  unfold TD.part TD.upd
  have : (d.nds.map fun m => if m.id ∈ p ++ [n.id] then f m else m) = (d.nds.map fun m => if m.id ∈ p then f m else m).map fun m => if m.id = (f n).id then f n else m := by
    rw [List.map_map]
    refine List.map_congr_left fun m hm => ?_
    simp only [Function.comp]
    by_cases e : m.id = n.id
    · have := nd_of_id hok.nodup hm hn e
      subst this
      rw [if_pos (by simp), if_neg hp, if_pos (hf.id m).symm]
    · have h2 : ¬ (if m.id ∈ p then f m else m).id = (f n).id := by
        rw [hf.id]
        split
        · rw [hf.id]; exact e
        · exact e
      rw [if_neg h2]
      by_cases e2 : m.id ∈ p
      · rw [if_pos e2, if_pos (by simp [e2])]
      · rw [if_neg e2, if_neg (by simp [e2, e])]
  rw [this]
theorem part_same {d : TD} {f : Nd → Nd} {p : List ID} {n : Nd} (hok : d.Ok) (hn : n ∈ d.nds) (hfn : f n = n) : d.part f (p ++ [n.id]) = d.part f p := by
  unfold TD.part
  have : (d.nds.map fun m => if m.id ∈ p ++ [n.id] then f m else m) = d.nds.map fun m => if m.id ∈ p then f m else m := by
    refine List.map_congr_left fun m hm => ?_
    by_cases e : m.id = n.id
    · have := nd_of_id hok.nodup hm hn e
      subst this
      rw [hfn]; split <;> split <;> rfl
    · by_cases e2 : m.id ∈ p
      · rw [if_pos e2, if_pos (by simp [e2])]
      · rw [if_neg e2, if_neg (by simp [e2, e])]
  rw [this]
theorem notin_of_split {xs p q : List ID} {x : ID} (h : xs.Nodup) (hx : xs = p ++ x :: q) : x ∉ p := by
  rw [hx, List.nodup_append] at h
  exact fun hm => h.2.2 _ hm x (by simp) rfl
theorem turn1_yes {rs : List Run} {a b : Int} {n : Nd} (h1 : n.state = a) (h2 : namesB rs n.id = true) : turn1 rs a b n = { n with state := b } := if_pos ⟨h1, h2⟩
theorem turn1_no {rs : List Run} {a b : Int} {n : Nd} (h : ¬ (n.state = a ∧ namesB rs n.id = true)) : turn1 rs a b n = n := if_neg h
section
variable {c : Cx} {D : List Deferred} {ops : Array Oper} {K : Act → World → Prop} {rest : List Oper} {l : Env} {h : List Own}
/-- The front item in two pieces; two items as one. -/
theorem spI {o o1 o2 : Own} (p : o.Perm (o1 ++ o2)) (k : GL c D ops K rest l (o1 :: o2 :: h)) : GL c D ops K rest l (o :: h) := fun a w e s => k a w e (s.perm (by
  rw [List.flatten_cons, List.flatten_cons, List.flatten_cons, ← List.append_assoc]
  exact p.append_right _))
theorem jnI {o o1 o2 : Own} (p : o.Perm (o1 ++ o2)) (k : GL c D ops K rest l (o :: h)) : GL c D ops K rest l (o1 :: o2 :: h) := fun a w e s => k a w e (s.perm (by
  rw [List.flatten_cons, List.flatten_cons, List.flatten_cons, ← List.append_assoc]
  exact (p.append_right _).symm))
end
end Go.W
/- Walks. Written by a program of mine. -/
namespace Go.W
open Go Go.Proofs.Tryz
set_option maxRecDepth 20000 in
theorem named1_c {M : Mem} {w : World} {b : Nat} {r : Run} {x : ID} (hM : RO M [] w) (hc : CellsAt M ⟨b, 0, none⟩ [.int .i64 x.time, .int .i64 x.site]) (hr : RRun M (encRun r) r) (hx : mayID x) : FnC prog 178 [.agg #[.int .i64 r.id.time, .int .i64 r.id.site, .int .i64 r.count], pt b 0] w [] (fun u _ => u = .bool (decide (namP r x))) := by
  obtain ⟨-, hr1, hr2, hr3⟩ := hr
  unfold mayID at hx
  unfold namP
  refine enter (code := _) func178 rfl 37 rfl rfl hM [] rfl [(0, _), (1, _)] ⟨rfl, rfl, trivial⟩ ?_
  refine sq ?_
  refine rg ?_
  refine bx (z := [_, _, _]) rfl rfl rfl ?_; intro b0_0
  refine st (asg rfl) rfl ?_
  refine nl ?_
  refine nS ?_
  refine sqk (fun C => (3, .bool (decide (r.id.site = x.site ∧ r.id.time ≤ x.time ∧ 0 < r.count ∧ x.time - r.id.time < r.count))) :: C) [] trivial ?_ ?_
  · skip
    refine rg ?_
    refine st (fa (o3 := 0) F89_0 rfl rfl) rfl ?_
    refine st (fa (o3 := 1) F59_1 rfl rfl) rfl ?_
    refine st (lo1 T3 rfl rfl) rfl ?_
    refine st (fa (o3 := 0 + 1) F59_1 rfl rfl) rfl ?_
    refine st (lm1 1 T3 hc Hm.m rfl rfl rfl) rfl ?_
    refine st (eq rfl rfl) rfl ?_
    refine st (mv rfl) rfl ?_
    refine spl (fun hb => ?_) (fun hb => ?_)
    · have h10 := (eq_of_beq hb)
      clear hb
      refine gT rfl rfl ?_
      refine st (fa (o3 := 0) F89_0 rfl rfl) rfl ?_
      refine gT rfl rfl ?_
      refine st (fa (o3 := 0) F59_0 rfl rfl) rfl ?_
      refine gT rfl rfl ?_
      refine st (lo1 T3 rfl rfl) rfl ?_
      refine gT rfl rfl ?_
      refine st (fa (o3 := 0) F59_0 rfl rfl) rfl ?_
      refine gT rfl rfl ?_
      refine st (lm1 0 T3 hc Hm.m rfl rfl rfl) rfl ?_
      refine gT rfl rfl ?_
      refine st (lq rfl rfl) rfl ?_
      refine st (pkT rfl rfl) rfl ?_
      refine st (mv rfl) rfl ?_
      refine spl (fun hb => ?_) (fun hb => ?_)
      · have h18 := (of_decide_eq_true hb)
        clear hb
        refine gT rfl rfl ?_
        refine st (fa (o3 := 2) F89_1 rfl rfl) rfl ?_
        refine gT rfl rfl ?_
        refine st (lo1 T3 rfl rfl) rfl ?_
        refine gT rfl rfl ?_
        refine st (gt rfl rfl) rfl ?_
        refine st (pkT rfl rfl) rfl ?_
        refine st (mv rfl) rfl ?_
        refine spl (fun hb => ?_) (fun hb => ?_)
        · have h23 := (of_decide_eq_true hb)
          clear hb
          refine gT rfl rfl ?_
          refine st (fa (o3 := 0) F59_0 rfl rfl) rfl ?_
          refine gT rfl rfl ?_
          refine st (lm1 0 T3 hc Hm.m rfl rfl rfl) rfl ?_
          refine gT rfl rfl ?_
          refine st (cvi U3 U254 rfl) rfl ?_
          refine gT rfl rfl ?_
          refine st (fa (o3 := 0) F89_0 rfl rfl) rfl ?_
          refine gT rfl rfl ?_
          refine st (fa (o3 := 0) F59_0 rfl rfl) rfl ?_
          refine gT rfl rfl ?_
          refine st (lo1 T3 rfl rfl) rfl ?_
          refine gT rfl rfl ?_
          refine st (cvi U3 U254 rfl) rfl ?_
          refine gT rfl rfl ?_
          refine st (sbw rfl rfl) rfl ?_
          refine cv (u := .int .u64 (x.time - r.id.time)) (v_sub64 (by omega)) ?_
          refine gT rfl rfl ?_
          refine st (fa (o3 := 2) F89_1 rfl rfl) rfl ?_
          refine gT rfl rfl ?_
          refine st (lo1 T3 rfl rfl) rfl ?_
          refine gT rfl rfl ?_
          refine st (cvi U3 U254 rfl) rfl ?_
          refine cv (u := .int .u64 r.count) (v_u64c (by omega)) ?_
          refine gT rfl rfl ?_
          refine st (lt rfl rfl) rfl ?_
          refine st (pkT rfl rfl) rfl ?_
          refine st (asg rfl) rfl ?_
          refine nl ?_
          exact le0   ⟨(by first | (refine dT rfl ?_; omega) | (refine dF rfl ?_; omega) | (refine bE rfl (decide_eq_decide.2 ?_); omega)), trivial⟩ hid
        · have h23 := (of_decide_eq_false hb)
          clear hb
          refine gF rfl rfl rfl rfl ?_
          refine gF rfl rfl rfl rfl ?_
          refine gF rfl rfl rfl rfl ?_
          refine gF rfl rfl rfl rfl ?_
          refine gF rfl rfl rfl rfl ?_
          refine gF rfl rfl rfl rfl ?_
          refine gF rfl rfl rfl rfl ?_
          refine gF rfl rfl rfl rfl ?_
          refine gF rfl rfl rfl rfl ?_
          refine gF rfl rfl rfl rfl ?_
          refine gF rfl rfl rfl rfl ?_
          refine gF rfl rfl rfl rfl ?_
          refine st (pkF rfl rfl) rfl ?_
          refine st (asg rfl) rfl ?_
          refine nl ?_
          exact le0   ⟨(by first | (refine dT rfl ?_; omega) | (refine dF rfl ?_; omega) | (refine bE rfl (decide_eq_decide.2 ?_); omega)), trivial⟩ hid
      · have h18 := (of_decide_eq_false hb)
        clear hb
        refine gF rfl rfl rfl rfl ?_
        refine gF rfl rfl rfl rfl ?_
        refine gF rfl rfl rfl rfl ?_
        refine st (pkF rfl rfl) rfl ?_
        refine st (mv rfl) rfl ?_
        refine gF rfl rfl rfl rfl ?_
        refine gF rfl rfl rfl rfl ?_
        refine gF rfl rfl rfl rfl ?_
        refine gF rfl rfl rfl rfl ?_
        refine gF rfl rfl rfl rfl ?_
        refine gF rfl rfl rfl rfl ?_
        refine gF rfl rfl rfl rfl ?_
        refine gF rfl rfl rfl rfl ?_
        refine gF rfl rfl rfl rfl ?_
        refine gF rfl rfl rfl rfl ?_
        refine gF rfl rfl rfl rfl ?_
        refine gF rfl rfl rfl rfl ?_
        refine st (pkF rfl rfl) rfl ?_
        refine st (asg rfl) rfl ?_
        refine nl ?_
        exact le0   ⟨(by first | (refine dT rfl ?_; omega) | (refine dF rfl ?_; omega) | (refine bE rfl (decide_eq_decide.2 ?_); omega)), trivial⟩ hid
    · have h10 := (ne_of_beqF hb)
      clear hb
      refine gF rfl rfl rfl rfl ?_
      refine gF rfl rfl rfl rfl ?_
      refine gF rfl rfl rfl rfl ?_
      refine gF rfl rfl rfl rfl ?_
      refine gF rfl rfl rfl rfl ?_
      refine gF rfl rfl rfl rfl ?_
      refine st (pkF rfl rfl) rfl ?_
      refine st (mv rfl) rfl ?_
      refine gF rfl rfl rfl rfl ?_
      refine gF rfl rfl rfl rfl ?_
      refine gF rfl rfl rfl rfl ?_
      refine st (pkF rfl rfl) rfl ?_
      refine st (mv rfl) rfl ?_
      refine gF rfl rfl rfl rfl ?_
      refine gF rfl rfl rfl rfl ?_
      refine gF rfl rfl rfl rfl ?_
      refine gF rfl rfl rfl rfl ?_
      refine gF rfl rfl rfl rfl ?_
      refine gF rfl rfl rfl rfl ?_
      refine gF rfl rfl rfl rfl ?_
      refine gF rfl rfl rfl rfl ?_
      refine gF rfl rfl rfl rfl ?_
      refine gF rfl rfl rfl rfl ?_
      refine gF rfl rfl rfl rfl ?_
      refine gF rfl rfl rfl rfl ?_
      refine st (pkF rfl rfl) rfl ?_
      refine st (asg rfl) rfl ?_
      refine nl ?_
      exact le0   ⟨(by first | (refine dT rfl ?_; omega) | (refine dF rfl ?_; omega) | (refine bE rfl (decide_eq_decide.2 ?_); omega)), trivial⟩ hid
  refine rt ?_
  exact ret1 rfl rfl (by first | rfl | exact trivial) o0

set_option maxRecDepth 20000 in
theorem idxF_c {M : Mem} {w : World} {V : Value} {v : List Run} {b : Nat} {x : ID} (hM : RO M [] w) (hv : Sl M 3 RRun V v) (hc : CellsAt M ⟨b, 0, none⟩ [.int .i64 x.time, .int .i64 x.site]) (hx : mayID x) : FnC prog 191 [V, .func (.func 178) #[] #[pt b 0]] w [] (fun u _ => u = .int .i64 (idxF x v 0)) := by
  refine enter (code := _) func191 rfl 19 rfl rfl hM [] rfl [(0, _), (1, _)] ⟨rfl, rfl, trivial⟩ ?_
  have l_hv := hv.bound
  refine sq ?_
  refine rg ?_
  refine st (asg rfl) rfl ?_
  refine nl ?_
  refine nS ?_
  refine sq ?_
  refine sq ?_
  refine rg ?_
  refine st (mv rfl) rfl ?_
  refine st (lnS U60 hv rfl) rfl ?_
  refine st (mv rfl) rfl ?_
  refine nl ?_
  refine nS ?_
  refine bk ?_
  refine lpc1 (fun (i : Int) C => (8, .int .i64 i) :: C) [(0, _), (1, _), (7, _)] (fun (i : Int) H => H) [] (fun (i : Int) => 0 ≤ i ∧ i ≤ v.length ∧ idxF x v 0 = idxF x (v.drop i.toNat) i) (fun (i : Int) => ((v.length : Int) - i).toNat) 0 ?_ ⟨rfl, rfl, rfl, rfl, trivial⟩ hid ?_
  · exact ⟨by omega, by omega, rfl⟩
  intro i hj
  obtain ⟨j0, j1, j2⟩ := hj
  refine sq ?_
  refine rg ?_
  refine st (lt rfl rfl) rfl ?_
  refine nl ?_
  refine nS ?_
  refine sq ?_
  refine cd rfl (fun hb => ?_) (fun hb => ?_)
  · have h9 := (of_decide_eq_true hb)
    clear hb
    refine sk ?_
    refine nS ?_
    refine sq ?_
    refine bk ?_
    refine sq ?_
    refine rg ?_
    refine st (mv rfl) rfl ?_
    refine st (asg rfl) rfl ?_
    refine nl ?_
    refine nS ?_
    refine sq ?_
    refine rg ?_
    refine st (mv rfl) rfl ?_
    refine st (mv rfl) rfl ?_
    refine st (mv rfl) rfl ?_
    refine iaS U60 T89 hv rfl rfl (by omega) (by omega) rfl ?_; intro b4_3 p4_3 y4_3 u4_3 e4_3 c4_3 n4_3 q4_3
    obtain ⟨rfl, qa4_3, qb4_3, qc4_3⟩ := q4_3
    clear n4_3
    have hrr : RRun M (encRun y4_3) y4_3 := ⟨rfl, qa4_3, qb4_3, qc4_3⟩
    refine st (lma (us := [_, _, _]) 0 T89 c4_3 Hm.m rfl rfl rfl rfl) rfl ?_
    refine st (cl0 C178 (show Callee1 _ _ _ [] [pt b 0] from rfl) rfl (fun _ hw => named1_c (r := y4_3) hw (hc.mono Hm.m) hrr hx)) rfl ?_
    refine nl ?_
    refine nS ?_
    refine cd rfl (fun hb => ?_) (fun hb => ?_)
    · have h16 := (of_decide_eq_true hb)
      clear hb
      refine sq ?_
      refine rg ?_
      refine st (mv rfl) rfl ?_
      refine st (asg rfl) rfl ?_
      refine nl ?_
      refine nS ?_
      refine rt ?_
      refine rB ?_
      refine rS ?_
      refine rS ?_
      refine rB ?_
      refine rS ?_
      exact ret1 rfl rfl (by show Value.int _ _ = _; rw [j2, idxF_at e4_3, if_pos h16]) o0
    · have h16 := (of_decide_eq_false hb)
      clear hb
      refine sk ?_
      refine nB ?_
      refine nS ?_
      refine rg ?_
      refine st (ad rfl rfl (by omega)) rfl ?_
      refine st (mv rfl) rfl ?_
      refine nl ?_
      exact le1 (i + 1) ⟨⟨by omega, by omega, (by rw [j2, toNat_succ j0, idxF_at e4_3, if_neg h16])⟩, by omega⟩ ⟨rfl, rfl, rfl, rfl, trivial⟩ hid
  · have h9 := (of_decide_eq_false hb)
    clear hb
    refine xt ?_
    refine xS ?_
    refine xS ?_
    refine xB ?_
    refine nS ?_
    refine sq ?_
    refine rg ?_
    refine st (asg rfl) rfl ?_
    refine nl ?_
    refine nS ?_
    refine rt ?_
    exact ret1 rfl rfl (by show Value.int _ _ = _; rw [j2, idxF_end (by omega)]) o0

set_option maxRecDepth 20000 in
theorem contF_c {M : Mem} {w : World} {V : Value} {v : List Run} {b : Nat} {x : ID} (hM : RO M [] w) (hv : Sl M 3 RRun V v) (hc : CellsAt M ⟨b, 0, none⟩ [.int .i64 x.time, .int .i64 x.site]) (hx : mayID x) : FnC prog 177 [V, .func (.func 178) #[] #[pt b 0]] w [] (fun u _ => u = .bool (namesB v x)) := by
  refine enter (code := _) func177 rfl 9 rfl rfl hM [] rfl [(0, _), (1, _)] ⟨rfl, rfl, trivial⟩ ?_
  have l_hv := hv.bound
  refine sq ?_
  refine rg ?_
  refine st (asg rfl) rfl ?_
  refine nl ?_
  refine nS ?_
  refine sq ?_
  refine rg ?_
  refine st (mv rfl) rfl ?_
  refine st (mv rfl) rfl ?_
  refine st (cl0 C191 (fnc _) rfl (fun _ hw => idxF_c (x := x) hw (hv.mono mRun Hm.m) (hc.mono Hm.m) hx)) rfl ?_
  refine st (gq rfl rfl) rfl ?_
  refine st (asg rfl) rfl ?_
  refine nl ?_
  refine nS ?_
  refine rt ?_
  exact ret1 rfl rfl (by show Value.bool _ = _; rw [← idx_any v 0 (Int.le_refl 0)]) o0

set_option maxRecDepth 20000 in
theorem named_c {M : Mem} {w : World} {V : Value} {v : List Run} {x : ID} (hM : RO M [] w) (hv : Sl M 3 RRun V v) (hx : mayID x) : FnC prog 149 [V, .agg #[.int .i64 x.time, .int .i64 x.site]] w [] (fun u _ => u = .bool (namesB v x)) := by
  refine enter (code := _) func149 rfl 8 rfl rfl hM [] rfl [(0, _), (1, _)] ⟨rfl, rfl, trivial⟩ ?_
  have l_hv := hv.bound
  refine sq ?_
  refine rg ?_
  refine bx (z := [_, _]) rfl rfl rfl ?_; intro b0_0
  refine st (asg rfl) rfl ?_
  refine nl ?_
  refine nS ?_
  refine sq ?_
  refine rg ?_
  refine st (mv rfl) rfl ?_
  refine st (mkf (vs := []) (us := [_]) rfl rfl) rfl ?_
  refine st (cl0 C177 (fnc _) rfl (fun _ hw => contF_c (b := b0_0) (x := x) hw (hv.mono mRun Hm.m) (cellsI.mono Hm.i0) hx)) rfl ?_
  refine st (asg rfl) rfl ?_
  refine nl ?_
  refine nS ?_
  refine rt ?_
  exact ret1 rfl rfl (by first | rfl | exact trivial) o0

set_option maxRecDepth 20000 in
set_option maxHeartbeats 1000000 in
theorem turn_c {M : Mem} {w : World} {d : TD} {V : Value} {v : List Run} {a a2 : Int} (hM : RO M d.lay w) (hok : d.Ok) (hv : Sl M 3 RRun V v) : FnC prog 109 [pt d.T 0, V, .int .i64 a, .int .i64 a2] w d.lay (fun u o => (∃ n : Int, u = .int .i64 n) ∧ o = (d.mapN (turn1 v a a2)).lay) := by
  have hperm := all_perm hok.tr
  have hlen : (allL d.nds).length ≤ 100000000 := by rw [all_len hok.tr]; exact hok.few
  have hxn : (allL d.nds).Nodup := hperm.nodup_iff.2 hok.nodup
  refine enterM (code := _) func109 rfl 38 rfl rfl hM [d.lay] (by simp) [(0, _), (1, _), (2, _), (3, _)] ⟨rfl, rfl, rfl, rfl, trivial⟩ ?_
  have l_hv := hv.bound
  refine sq ?_
  refine rg ?_
  refine bx (z := [_]) rfl hv.cells rfl ?_; intro b0_0
  refine bx (z := [_]) rfl rfl rfl ?_; intro b0_1
  refine bx (z := [_]) rfl rfl rfl ?_; intro b0_2
  refine st (asg rfl) rfl ?_
  refine nl ?_
  refine nS ?_
  refine sq ?_
  refine rg ?_
  refine al T3 rfl rfl ?_; intro b1_0
  refine sto (cs' := [_]) (vs := [_]) T3 rfl rfl rfl rfl rfl (Nat.le_of_ble_eq_true rfl) rfl ?_
  refine nl ?_
  refine nS ?_
  refine sq ?_
  refine sq ?_
  refine rg ?_
  refine st (mv rfl) rfl ?_
  refine ni ?_
  refine cl C99 (fnc _) rfl (fun _ hw => all_c hw rfl) rfl ?_; intro v2_1 O2_1 q2_1
  obtain ⟨b2_1, rfl, rfl⟩ := q2_1
  refine nl ?_
  refine nS ?_
  refine bk ?_
  refine gR1 ?_
  refine gR5 ?_
  refine rf (σ := (TD × Int)) (ps := [13]) (fun x : ID => [pt (d.ad x) 0]) (allL d.nds) [] (fun s => [s.1.lay, [(b1_0, .cells (List.toArray [.int .i64 s.2]) 3 (0, 0))]]) [_, _, _, _] (fun p s => s.1 = d.part (turn1 v a a2) p ∧ 0 ≤ s.2 ∧ s.2 ≤ p.length) (d, 0) rfl rfl C140 ?_ rfl (fun _ => rfl) hidE ?_ ?_ ?_
  · exact ⟨(part_nil _ _).symm, by simp, by simp⟩
  · intro lp wi S oc hro hS hSp hY
    exact allIt_c (d := d) (b1 := b2_1) hro (cellsI.mono Hm.i0) hok (wk_all hok.tr) hlen (fun p o hs => by obtain ⟨t, ht, hb⟩ := hSp p o hs; exact part_lay_str (keep_turn v a a2) (p := p) (fun b hbm => hb b (by rw [← ht.1] at hbm; simp [hbm]))) hS hY
  · intro p x q s hx hj lp wr or_ rec_ hst hpn
    show G _ _ _ _ ((13, _) :: _) [_, _, _]
    obtain ⟨dp, cnt⟩ := s
    obtain ⟨hj1, hj2⟩ := hj
    simp only at hj1 hj2
    subst hj1
    obtain ⟨n, hn, hnx, hn2⟩ := part_cur (f := (turn1 v a a2)) hok hperm hx
    subst hnx
    have hnp := notin_of_split hxn hx
    have hcx := (TD.In.im (d := d.part (turn1 v a a2) p)).e (n := n) hn2
    have hxl := congrArg List.length hx
    simp only [List.length_append, List.length_cons] at hxl
    refine rg ?_
    refine st (asg rfl) rfl ?_
    refine nl ?_
    refine nR (h := [_, _]) rfl hst ?_
    show G _ _ _ _ _ [_, _, _]
    refine bk ?_
    refine sq ?_
    refine rgd rfl [0, 1, 2, 3, 4, 5, 6, 7, 8, 9, 10, 11, 12, 13, 14, 15] [] [] [] (by kernel_rfl) ?_
    refine dst rfl rfl (mv rfl) rfl ?_
    refine dst rfl rfl (nk rfl) rfl ?_
    refine dst rfl rfl (fa (o3 := 0) F163_0 rfl rfl) rfl ?_
    refine dst rfl rfl (fa (o3 := 0 + 5) F84_3 rfl rfl) rfl ?_
    refine dst rfl rfl (lm1 5 T3 hcx Hm.i0 rfl rfl rfl) rfl ?_
    refine dst rfl rfl (lm1 0 T3 cellsI (Hm.i2.trans Hm.m) rfl rfl rfl) rfl ?_
    refine dst rfl rfl (eq rfl rfl) rfl ?_
    refine dst rfl rfl (mv rfl) rfl ?_
    refine dspl (fun hb => ?_) (fun hb => ?_)
    · have h21 := (eq_of_beq hb)
      clear hb
      refine dgT rfl rfl rfl rfl (lm1 0 T60 cellsI (Hm.i3.trans Hm.m) rfl rfl rfl) rfl ?_
      refine dgT rfl rfl rfl rfl (mv rfl) rfl ?_
      refine dgT rfl rfl rfl rfl (nk rfl) rfl ?_
      refine dgT rfl rfl rfl rfl (fa (o3 := 0) F163_0 rfl rfl) rfl ?_
      refine dgT rfl rfl rfl rfl (fa (o3 := 0) F84_0 rfl rfl) rfl ?_
      refine dgT rfl rfl rfl rfl (lma (us := [_, _]) 0 T59 hcx Hm.i0 rfl rfl rfl rfl) rfl ?_
      refine dgT rfl rfl rfl rfl (cl0 C149 (fnc _) rfl (fun _ hw => named_c (x := n.id) hw (hv.mono mRun (Hm.m.trans Hm.m)) (hok.rng n hn))) rfl ?_
      refine dst rfl rfl (pkT rfl rfl) rfl ?_
      refine dend rfl ?_
      refine nl ?_
      refine nS ?_
      refine cd rfl (fun hb => ?_) (fun hb => ?_)
      · have h29 := hb
        clear hb
        refine sq ?_
        refine rg ?_
        refine st (mv rfl) rfl ?_
        refine st (lm1 0 T3 cellsI (Hm.i1.trans Hm.m) rfl rfl rfl) rfl ?_
        refine st (nk rfl) rfl ?_
        refine st (fa (o3 := 0) F163_0 rfl rfl) rfl ?_
        refine st (fa (o3 := 0 + 5) F84_3 rfl rfl) rfl ?_
        obtain ⟨rst, hp1, hp2⟩ := upd_lay (d := d.part (turn1 v a a2) p) (n := n) (n' := { n with state := a2 }) (by rw [part_ids (keep_turn v a a2)]; exact hok.nodup) hn2 rfl
        refine spI hp1 ?_
        refine sto (cs' := [_, _, _, _, _, _, _]) (vs := [_]) T3 rfl rfl rfl rfl rfl (by simp) rfl ?_
        refine jnI hp2 ?_
        refine nl ?_
        refine nS ?_
        refine rg ?_
        refine st (w1 (lo1 T3 rfl rfl)) rfl ?_
        refine st (ad rfl rfl (by omega)) rfl ?_
        refine r1 ?_
        refine sto (cs' := [_]) (vs := [_]) T3 rfl rfl rfl rfl rfl (Nat.le_of_ble_eq_true rfl) rfl ?_
        refine nl ?_
        refine nB ?_
        refine gr1 ?_
        exact eR (h := [_, _]) hst hpn ((d.part (turn1 v a a2) p).upd { n with state := a2 }, cnt + 1) ⟨by show TD.upd _ _ = _; rw [part_step (keep_turn v a a2) hok hn hnp, turn1_yes h21 h29], by show 0 ≤ cnt + 1; omega, by show cnt + 1 ≤ ((p ++ [_]).length : Nat); simp; omega⟩ hid
      · have h29 := hb
        clear hb
        refine sk ?_
        refine nB ?_
        refine gr1 ?_
        refine gr1 ?_
        exact eR (h := [_, _]) hst hpn _ ⟨by rw [part_same hok hn (turn1_no (fun q => by rw [q.2] at h29; cases h29))], hj2.1, by show cnt ≤ ((p ++ [_]).length : Nat); simp; omega⟩ hid
    · have h21 := (ne_of_beqF hb)
      clear hb
      refine dgF rfl rfl rfl rfl rfl ?_
      refine dgF rfl rfl rfl rfl rfl ?_
      refine dgF rfl rfl rfl rfl rfl ?_
      refine dgF rfl rfl rfl rfl rfl ?_
      refine dgF rfl rfl rfl rfl rfl ?_
      refine dgF rfl rfl rfl rfl rfl ?_
      refine dgF rfl rfl rfl rfl rfl ?_
      refine dst rfl rfl (pkF rfl rfl) rfl ?_
      refine dend rfl ?_
      refine nl ?_
      refine nS ?_
      refine cdF rfl ?_
      refine sk ?_
      refine nB ?_
      refine gr1 ?_
      refine gr1 ?_
      exact eR (h := [_, _]) hst hpn _ ⟨by rw [part_same hok hn (turn1_no (fun q => h21 q.1))], hj2.1, by show cnt ≤ ((p ++ [_]).length : Nat); simp; omega⟩ hid
  intro s rd hj
  show GE _ _ _ _ _ [_, _, _, _, _, _, _]
  obtain ⟨dp, cnt⟩ := s
  obtain ⟨hj1, hj2⟩ := hj
  simp only at hj1 hj2
  subst hj1
  refine nB ?_
  refine nS ?_
  refine sq ?_
  refine rg ?_
  refine st (w1 (lo1 T3 rfl rfl)) rfl ?_
  refine st (asg rfl) rfl ?_
  refine nl ?_
  refine nS ?_
  refine rt ?_
  refine postM1 (h := [_, _, _, _, _, _]) (.inl rfl) ?_
  exact ret1 rfl rfl ⟨⟨_, rfl⟩, by rw [← part_all (xs := allL d.nds) (fun n hn => (all_mem hok.tr).2 (List.mem_map_of_mem hn))]⟩ o1

set_option maxRecDepth 20000 in
theorem TreeDelete_c {M : Mem} {w : World} {d : TD} {V : Value} {v : List Run} (hM : RO M d.lay w) (hok : d.Ok) (hv : Sl M 3 RRun V v) : FnC prog 90 [pt d.T 0, V] w d.lay (fun u o => (∃ n : Int, u = .int .i64 n) ∧ o = (d.mapN (turn1 v 1 2)).lay) := by
  refine enter (code := _) func90 rfl 8 rfl rfl hM [d.lay] (by simp) [(0, _), (1, _)] ⟨rfl, rfl, trivial⟩ ?_
  have l_hv := hv.bound
  refine sq ?_
  refine rg ?_
  refine st (asg rfl) rfl ?_
  refine nl ?_
  refine nS ?_
  refine sq ?_
  refine rg ?_
  refine st (mv rfl) rfl ?_
  refine st (mv rfl) rfl ?_
  refine cl C109 (fnc _) rfl (fun _ hw => turn_c hw hok (hv.mono mRun Hm.m)) rfl ?_; intro v1 o1 q1
  obtain ⟨⟨n1, rfl⟩, rfl⟩ := q1
  refine st (asg rfl) rfl ?_
  refine nl ?_
  refine nS ?_
  refine rt ?_
  exact ret1 rfl rfl ⟨⟨_, rfl⟩, rfl⟩ o1

set_option maxRecDepth 20000 in
theorem TreeSettle_c {M : Mem} {w : World} {d : TD} {V : Value} {v : List Run} (hM : RO M d.lay w) (hok : d.Ok) (hv : Sl M 3 RRun V v) : FnC prog 64 [pt d.T 0, V] w d.lay (fun u o => (∃ n : Int, u = .int .i64 n) ∧ o = (d.mapN (turn1 v 2 3)).lay) := by
  refine enter (code := _) func64 rfl 8 rfl rfl hM [d.lay] (by simp) [(0, _), (1, _)] ⟨rfl, rfl, trivial⟩ ?_
  have l_hv := hv.bound
  refine sq ?_
  refine rg ?_
  refine st (asg rfl) rfl ?_
  refine nl ?_
  refine nS ?_
  refine sq ?_
  refine rg ?_
  refine st (mv rfl) rfl ?_
  refine st (mv rfl) rfl ?_
  refine cl C109 (fnc _) rfl (fun _ hw => turn_c hw hok (hv.mono mRun Hm.m)) rfl ?_; intro v1 o1 q1
  obtain ⟨⟨n1, rfl⟩, rfl⟩ := q1
  refine st (asg rfl) rfl ?_
  refine nl ?_
  refine nS ?_
  refine rt ?_
  exact ret1 rfl rfl ⟨⟨_, rfl⟩, rfl⟩ o1
end Go.W
/- A tree that is read. -/
namespace Go.W
open Go Go.Proofs.Tryz

def ndOf (l : List Nd) (x : ID) : Nd := (l.find? fun n => decide (n.id = x)).getD ⟨x, z0, 0, 0⟩
theorem ndOf_eq {l : List Nd} (h : (l.map (·.id)).Nodup) {n : Nd} (hn : n ∈ l) : ndOf l n.id = n := by
  unfold ndOf
  cases hf : l.find? (fun m => decide (m.id = n.id)) with
  | none => have := List.find?_eq_none.1 hf n hn; simp at this
  | some m =>
    have h1 := List.mem_of_find?_eq_some hf
    have h2 : m.id = n.id := by simpa using List.find?_some hf
    exact nd_of_id h h1 hn h2
/-- A tree that can be read (or none): its pointer, where the elements lie, what they are, in the order of the document. -/
structure RT (M : Mem) (tv : Value) (ad : ID → Nat) (nd : ID → Nd) (xs : List ID) : Prop where
  tc : tv.cells = [tv].toArray
  tf : flat tv = true
  it : ∀ {M' : Mem} {w : World} {b1 lp : Nat} {oc : Own} {S : List ID → Own → Prop}, MLe M M' → RO M' oc w → CellsAt M' ⟨b1, 0, none⟩ [tv] → S [] oc → (∀ p x q, xs = p ++ x :: q → ∀ oc w, RO M' oc w → S p oc → Yld prog lp [pt (ad x) 0] w oc (S (p ++ [x]))) →
    FnC prog 140 [.func (.yield lp) #[] #[], pt b1 0] w oc (fun _ o => S xs o)
  el : ∀ x ∈ xs, ∃ W, CellsAt M ⟨ad x, 0, none⟩ (encNd (nd x) ++ [W])
  len : xs.length ≤ 100000000
theorem RT.mono {M M' : Mem} {tv : Value} {ad : ID → Nat} {nd : ID → Nd} {xs : List ID} (h : RT M tv ad nd xs) (hM : MLe M M') : RT M' tv ad nd xs :=
  ⟨h.tc, h.tf, fun h1 h2 h3 h4 h5 => h.it (hM.trans h1) h2 h3 h4 h5, fun x hx => let ⟨W, c⟩ := h.el x hx; ⟨W, c.mono hM⟩, h.len⟩
theorem TD.rt {d : TD} {M : Mem} (hok : d.Ok) (hin : d.In M) : RT M (pt d.T 0) d.ad (ndOf d.nds) (allL d.nds) := by
  have hl : (allL d.nds).length ≤ 100000000 := by rw [all_len hok.tr]; exact hok.few
  refine ⟨rfl, rfl, fun {M' w b1 lp oc S} h1 h2 h3 h4 h5 => allIt_c (d := d) h2 h3 hok (wk_all hok.tr) hl (fun p o _ => (hin.str.mono (h1.trans fun k ob x => .inl x))) h4 h5, fun x hx => ?_, hl⟩
  obtain ⟨n, hn, rfl⟩ := List.mem_map.1 ((all_mem hok.tr).1 hx)
  rw [ndOf_eq hok.nodup hn]
  exact ⟨_, hin.e hn⟩
theorem RT.none {M : Mem} {ad : ID → Nat} {nd : ID → Nd} : RT M (.pointer none) ad nd [] :=
  ⟨rfl, rfl, fun h1 h2 h3 h4 h5 => allItN_c h2 h3 h4, fun x hx => (by cases hx), by simp⟩
/-- Nodes in the order of the document. -/
def ordN (l : List Nd) : List Nd := (allL l).map (ndOf l)
def enumI : List ID → Int → List (Int × ID)
  | [], _ => []
  | x :: r, k => (k, x) :: enumI r (k + 1)
theorem enum_snoc : ∀ (p : List ID) (x : ID) (k : Int), enumI (p ++ [x]) k = enumI p k ++ [(k + p.length, x)] := by
  intro p
  induction p with
  | nil => intro x k; simp [enumI]
  | cons y p ih => intro x k; simp only [List.cons_append, enumI, ih, List.length_cons]; congr 3; congr 1; omega
theorem enum_split : ∀ (p q : List ID) (x : ID) (k : Int), enumI (p ++ x :: q) k = enumI p k ++ (k + p.length, x) :: enumI q (k + p.length + 1) := by
  intro p
  induction p with
  | nil => intro q x k; simp [enumI]
  | cons y p ih =>
    intro q x k
    simp only [List.cons_append, enumI, ih, List.length_cons]
    rw [show k + 1 + (p.length : Int) = k + ((p.length + 1 : Nat) : Int) by omega]
theorem enum_len : ∀ (p : List ID) (k : Int), (enumI p k).length = p.length := by
  intro p
  induction p with
  | nil => intro k; rfl
  | cons y p ih => intro k; simp [enumI, ih]
theorem enum_map (f : ID → Nd) : ∀ (p : List ID) (k : Int), (enumI p k).map (fun e => f e.2) = p.map f := by
  intro p
  induction p with
  | nil => intro k; rfl
  | cons y p ih => intro k; simp [enumI, ih]
theorem enum_mem : ∀ (p : List ID) (k : Int), ∀ e ∈ enumI p k, e.2 ∈ p := by
  intro p
  induction p with
  | nil => intro k e h; cases h
  | cons y p ih =>
    intro k e h
    rcases List.mem_cons.1 h with rfl | h
    · simp
    · exact List.mem_cons_of_mem _ (ih _ _ h)
def shP (nd : ID → Nd) (x : ID) : Bool := decide ((nd x).state = 1)
def shE (nd : ID → Nd) (xs : List ID) : List (Int × ID) := enumI (xs.filter (shP nd)) 0
theorem shE_split {nd : ID → Nd} {xs p q : List ID} {x : ID} (hx : xs = p ++ x :: q) (hs : (nd x).state = 1) : shE nd xs = shE nd p ++ ((((p.filter (shP nd)).length : Nat) : Int), x) :: enumI (q.filter (shP nd)) ((((p.filter (shP nd)).length : Nat) : Int) + 1) := by
  unfold shE
  have h1 : shP nd x = true := by unfold shP; simpa using hs
  rw [hx, List.filter_append, List.filter_cons, if_pos h1, enum_split, Int.zero_add]
theorem shE_yes {nd : ID → Nd} {p : List ID} {x : ID} (hs : (nd x).state = 1) : shE nd (p ++ [x]) = shE nd p ++ [((((p.filter (shP nd)).length : Nat) : Int), x)] := by
  unfold shE
  have h1 : shP nd x = true := by unfold shP; simpa using hs
  rw [List.filter_append, List.filter_cons, if_pos h1, List.filter_nil, enum_snoc, Int.zero_add]
theorem shE_no {nd : ID → Nd} {p : List ID} {x : ID} (hs : ¬ (nd x).state = 1) : shE nd (p ++ [x]) = shE nd p := by
  unfold shE
  have h1 : shP nd x = false := by unfold shP; simpa using hs
  rw [List.filter_append, List.filter_cons, if_neg (by rw [h1]; simp), List.filter_nil, List.append_nil]
theorem sh_len (nd : ID → Nd) (p : List ID) : (p.filter (shP nd)).length ≤ p.length := List.length_filter_le _ _
theorem sh_len_yes {nd : ID → Nd} {p : List ID} {x : ID} (hs : (nd x).state = 1) : (((p ++ [x]).filter (shP nd)).length : Int) = (p.filter (shP nd)).length + 1 := by
  have h1 : shP nd x = true := by unfold shP; simpa using hs
  rw [List.filter_append, List.filter_cons, if_pos h1]; simp
theorem sh_len_no {nd : ID → Nd} {p : List ID} {x : ID} (hs : ¬ (nd x).state = 1) : ((p ++ [x]).filter (shP nd)).length = (p.filter (shP nd)).length := by
  have h1 : shP nd x = false := by unfold shP; simpa using hs
  rw [List.filter_append, List.filter_cons, if_neg (by rw [h1]; simp)]; simp
/-- What is shown, in order. -/
def shN (nd : ID → Nd) (xs : List ID) : List Nd := (xs.filter (shP nd)).map nd
def ndE (nd : ID → Nd) (p : List (Int × ID)) : List Nd := p.map fun e => nd e.2
theorem ndE_len (nd : ID → Nd) (p : List (Int × ID)) : (ndE nd p).length = p.length := by simp [ndE]
theorem ndE_snoc (nd : ID → Nd) (p : List (Int × ID)) (x : Int × ID) : ndE nd (p ++ [x]) = ndE nd p ++ [nd x.2] := by simp [ndE]
theorem shE_len (nd : ID → Nd) (xs : List ID) : (shE nd xs).length ≤ xs.length := by unfold shE; rw [enum_len]; exact sh_len nd xs
theorem shE_mem {nd : ID → Nd} {xs : List ID} {p q : List (Int × ID)} {x : Int × ID} (hx : shE nd xs = p ++ x :: q) : x.2 ∈ xs := by
  have : x ∈ shE nd xs := by rw [hx]; simp
  exact (List.mem_filter.1 (enum_mem _ _ x this)).1
theorem shE_map (nd : ID → Nd) (xs : List ID) : ndE nd (shE nd xs) = shN nd xs := enum_map nd _ 0
def RNd (_ : Mem) (vs : List Value) (n : Nd) : Prop := vs = encNd n
theorem mNd : Mono RNd := fun _ _ _ _ _ h => h
theorem nds_sl {o : Own} {e : Nat} {V : Value} {ns : List Nd} (h : OS o e 6 V (ns.flatMap encNd)) (hl : ns.length ≤ 100000000) : Sl (Im o) 6 RNd V ns := h.sl (by decide) (fun _ => rfl) (by omega) fun x hx => rfl
def bytesN (ns : List Nd) : List UInt8 := ns.flatMap fun n => (Utf8.encode n.rune).data.toList
theorem bytesN_snoc (p : List Nd) (n : Nd) : bytesN (p ++ [n]) = bytesN p ++ (Utf8.encode n.rune).data.toList := by simp [bytesN]
theorem enc_sz (r : Int) : 1 ≤ (Utf8.encode r).data.toList.length ∧ (Utf8.encode r).data.toList.length ≤ 4 := by
  unfold Utf8.encode
  dsimp only
  repeat' split
  all_goals simp
theorem enc_ne (r : Int) : (Utf8.encode r).data.toList ≠ [] := fun h => by have := (enc_sz r).1; rw [h] at this; simp at this
theorem enc_small (r : Int) : (Utf8.encode r).size ≤ 4 := by
  have := (enc_sz r).2
  rw [Array.length_toList] at this; exact this
theorem bytesN_len : ∀ p : List Nd, (bytesN p).length ≤ 4 * p.length := by
  intro p
  induction p with
  | nil => simp [bytesN]
  | cons n p ih =>
    have : bytesN (n :: p) = (Utf8.encode n.rune).data.toList ++ bytesN p := by simp [bytesN]
    have h2 := (enc_sz n.rune).2
    rw [this, List.length_append, List.length_cons]; omega
/-- A call that is handed less than there is: the rest can be read. -/
theorem FnC.fr {P : Program} {f : FuncId} {args : List Value} {w : World} {o1 o2 : Own} {R : Value → Own → Prop} (h : RO (Im o2) o1 w → FnC P f args w o1 R) : FnC P f args w (o2 ++ o1) (fun v _ => ∃ o', R v o') := fun a b => by
  rw [List.map_append, List.nodup_append] at b
  have hro : RO (Im o2) o1 w := ⟨fun k ob m => a (k, ob) (List.mem_append_left _ m), fun k ob m x hx e => b.2.2 k (List.mem_map.2 ⟨(k, ob), m, rfl⟩) x.1 (List.mem_map_of_mem hx) e.symm⟩
  refine (h hro (fun x hx => a x (List.mem_append_right _ hx)) b.2.1).mono ?_
  rintro e w' ⟨v, o', rfl, hR, hC⟩
  exact ⟨v, [], rfl, ⟨o', hR⟩, hC.os, hC.tape, hC.out, hC.size, fun k hk hn => hC.frame k hk fun x hx => hn x (List.mem_append_right _ hx), by simp, by simp, by simp⟩
end Go.W
/- Walks. Written by a program of mine. -/
namespace Go.W
open Go Go.Proofs.Tryz
set_option maxRecDepth 20000 in
theorem Clip_c {M : Mem} {w : World} {A : Option Addr} {n cp : Nat} (hM : RO M [] w) (hn : n ≤ cp) (hA : A = none ∨ ∃ k, A = some ⟨k, 0, none⟩) : FnC prog 100 [.slice A n cp] w [] (fun u _ => u = .slice A n n) := by
  refine enter (code := _) func100 rfl 9 rfl rfl hM [] rfl [(0, _)] ⟨rfl, trivial⟩ ?_
  refine sq ?_
  refine rg ?_
  refine st (asg rfl) rfl ?_
  refine nl ?_
  refine nS ?_
  refine sq ?_
  refine rg ?_
  refine st (mv rfl) rfl ?_
  refine st (mv rfl) rfl ?_
  refine st (ln U51 rfl) rfl ?_
  refine st (mv rfl) rfl ?_
  refine st (ln U51 rfl) rfl ?_
  refine st (slC U51 T84 rfl rfl rfl hn hA) rfl ?_
  refine st (asg rfl) rfl ?_
  refine nl ?_
  refine nS ?_
  refine rt ?_
  exact ret1 rfl rfl (by first | rfl | exact trivial) o0

set_option maxRecDepth 20000 in
theorem TreeNodes_c {M : Mem} {w : World} {tv : Value} {adr : ID → Nat} {nd : ID → Nd} {xs : List ID} (hM : RO M [] w) (hT : RT M tv adr nd xs) : FnC prog 57 [tv] w [] (fun u o => OS o 84 6 u ((xs.map nd).flatMap encNd)) := by
  have hlen := hT.len
  have htc := hT.tc
  refine enterM (code := _) func57 rfl 17 rfl rfl hM [] rfl [(0, _)] ⟨rfl, trivial⟩ ?_
  refine sq ?_
  refine rg ?_
  refine st (asg rfl) rfl ?_
  refine nl ?_
  refine nS ?_
  refine sq ?_
  refine rg ?_
  refine al T51 rfl rfl ?_; intro b1_0
  refine nl ?_
  refine nS ?_
  refine sq ?_
  refine sq ?_
  refine rg ?_
  refine st (mv rfl) rfl ?_
  refine ni ?_
  refine cl C99 (fnc _) rfl (fun _ hw => all_c hw hT.tc) rfl ?_; intro v2_1 O2_1 q2_1
  obtain ⟨b2_1, rfl, rfl⟩ := q2_1
  refine nl ?_
  refine nS ?_
  refine bk ?_
  refine niC ?_
  refine gR2 ?_
  refine rf (σ := (Value × Own)) (ps := [7]) (fun x : ID => [pt (adr x) 0]) (xs) [] (fun s => [[(b1_0, .cells (List.toArray [s.1]) 51 (0, 0))], s.2]) [_] (fun p s => OS s.2 84 6 s.1 ((p.map nd).flatMap encNd)) (.slice none 0 0, []) rfl (show Callee1 _ _ _ [] [pt b2_1 0] from rfl) C140 ?_ rfl (fun _ => rfl) hidE ?_ ?_ ?_
  · exact OS.nil _ _
  · intro lp wi S oc hro hS hSp hY
    exact hT.it Hm.m hro (cellsI.mono Hm.i0) hS hY
  · intro p x q s hx hj lp wr or_ rec_ hst hpn
    show G _ _ _ _ ((7, _) :: _) [_, _, _]
    have hxl := congrArg List.length hx
    simp only [List.length_append, List.length_cons] at hxl
    obtain ⟨Wx, hcx⟩ := hT.el x (by rw [hx]; simp)
    refine rg ?_
    refine st (asg rfl) rfl ?_
    refine nl ?_
    refine nR (h := [_, _]) rfl hst ?_
    show G _ _ _ _ _ [_, _, _]
    refine bk ?_
    refine rgd rfl [0, 1, 2, 3, 4] [5] [6, 7] [] (by kernel_rfl) ?_
    refine dst rfl rfl (lo1 T51 rfl rfl) rfl ?_
    refine dst rfl rfl (mv rfl) rfl ?_
    refine dst rfl rfl (nk rfl) rfl ?_
    refine dst rfl rfl (fa (o3 := 0) F163_0 rfl rfl) rfl ?_
    refine dst rfl rfl (lma (us := [_, _, _, _, _, _]) 0 T84 hcx (Hm.m.trans Hm.m) rfl rfl rfl rfl) rfl ?_
    refine dfor rfl ?_
    refine fbs1 (parts := [_]) (cs := [_, _, _, _, _, _]) [_, _, _, _, _, _] [(0, [_, _, _, _, _, _])] rfl U51 T84 rfl rfl rfl rfl ⟨rfl, ⟨_, rfl, rfl⟩, trivial⟩ rfl rfl ?_; intro b4_5
    refine r2 ?_
    refine ap U51 U51 T84 rfl rfl rfl rfl rfl rfl hj ((srcI rfl).mono Hm.i1) rfl (by rw [flatMap_length (enc := encNd) (sz := 6) (fun _ => rfl)]; simp only [List.length_map, List.length_cons, List.length_nil]; omega) rfl ?_; intro v4_6 o4_6 q4_6
    refine r2 ?_
    refine sto (cs' := [_]) (vs := [_]) T51 rfl rfl q4_6.cells rfl (allc q4_6.isSl rfl) (Nat.le_of_ble_eq_true rfl) rfl ?_
    refine nl ?_
    refine nB ?_
    refine gr2 ?_
    refine dropE ?_
    refine gr1 ?_
    refine gr1 ?_
    exact eR (h := [_, _]) hst hpn (_, _) (q4_6.cast (by rw [List.map_append, List.flatMap_append]; simp)) hid
  intro s rd hj
  show GE _ _ _ _ _ [_, _, _, _]
  refine nB ?_
  refine nS ?_
  refine sq ?_
  refine rg ?_
  obtain ⟨V, lo⟩ := s
  simp only at hj
  obtain ⟨A, n, cp, rfl, hnc, hA⟩ := hj.form
  refine st (lo1 T51 rfl rfl) rfl ?_
  refine st (cl0 C100 (fnc _) rfl (fun _ hw => Clip_c hw hnc hA)) rfl ?_
  refine st (asg rfl) rfl ?_
  refine nl ?_
  refine nS ?_
  refine rt ?_
  refine postM1 (h := [_, _, _]) (.inl rfl) ?_
  exact ret1 rfl rfl hj.clip o2

set_option maxRecDepth 20000 in
theorem shown_c {M : Mem} {w : World} {tv : Value} (hM : RO M [] w) (htc : tv.cells = [tv].toArray) : FnC prog 131 [tv] w [] (fun u o => ∃ b, u = .func (.func 160) #[] #[pt b 0] ∧ o = [(b, .cells (List.toArray [tv]) 102 (0, 0))]) := by
  refine enter (code := _) func131 rfl 4 rfl rfl hM [] rfl [(0, _)] ⟨rfl, trivial⟩ ?_
  refine sq ?_
  refine rg ?_
  refine bx (z := [_]) rfl htc rfl ?_; intro b0_0
  refine st (asg rfl) rfl ?_
  refine nl ?_
  refine nS ?_
  refine sq ?_
  refine rg ?_
  refine st (mkf (vs := []) (us := [_]) rfl rfl) rfl ?_
  refine st (asg rfl) rfl ?_
  refine nl ?_
  refine nS ?_
  refine rt ?_
  exact ret1 rfl rfl ⟨_, rfl, rfl⟩ o1

set_option maxRecDepth 20000 in
set_option maxHeartbeats 1000000 in
theorem shIt_c {M : Mem} {w : World} {tv : Value} {adr : ID → Nat} {nd : ID → Nd} {xs : List ID} {b1 lp : Nat} {oc : Own} {S : List (Int × ID) → Own → Prop} (hM : RO M oc w) (hT : RT M tv adr nd xs) (k1 : CellsAt M ⟨b1, 0, none⟩ [tv]) (hS : S [] oc) (hY : ∀ p x q, shE nd xs = p ++ x :: q → ∀ oc w, RO M oc w → S p oc → Yld prog lp [.int .i64 x.1, pt (adr x.2) 0] w oc (S (p ++ [x]))) : FnC prog 160 [.func (.yield lp) #[] #[], pt b1 0] w oc (fun _ o => S (shE nd xs) o) := by
  have hlen := hT.len
  refine enterM (code := _) func160 rfl 21 rfl rfl hM [oc] (by simp) [(0, _), (1, _)] ⟨rfl, rfl, trivial⟩ ?_
  refine sq ?_
  refine rg ?_
  refine bx (z := [_]) rfl rfl rfl ?_; intro b0_0
  refine nl ?_
  refine nS ?_
  refine sq ?_
  refine rg ?_
  refine al T3 rfl rfl ?_; intro b1_0
  refine sto (cs' := [_]) (vs := [_]) T3 rfl rfl rfl rfl rfl (Nat.le_of_ble_eq_true rfl) rfl ?_
  refine nl ?_
  refine nS ?_
  refine sq ?_
  refine rg ?_
  refine st (lm1 0 T102 k1 Hm.m rfl rfl rfl) rfl ?_
  refine ni ?_
  refine cl C99 (fnc _) rfl (fun _ hw => all_c hw hT.tc) rfl ?_; intro v2_1 O2_1 q2_1
  obtain ⟨b2_1, rfl, rfl⟩ := q2_1
  refine nl ?_
  refine nS ?_
  refine bk ?_
  refine gR1 ?_
  refine gR3 ?_
  refine rf (σ := (Own × Int)) (ps := [7]) (fun x : ID => [pt (adr x) 0]) (xs) [] (fun s => [s.1, [(b1_0, .cells (List.toArray [.int .i64 s.2]) 3 (0, 0))]]) [_, _] (fun p s => S (shE nd p) s.1 ∧ s.2 = (((p.filter (shP nd)).length : Nat) : Int)) (oc, 0) rfl (show Callee1 _ _ _ [] [pt b2_1 0] from rfl) C140 ?_ rfl (fun _ => rfl) hidE ?_ ?_ ?_
  · exact ⟨hS, rfl⟩
  · intro lp wi S oc hro hS hSp hY
    exact hT.it Hm.m hro (cellsI.mono Hm.i0) hS hY
  · intro p x q s hx hj lp wr or_ rec_ hst hpn
    show G _ _ _ _ ((7, _) :: _) [_, _, _]
    obtain ⟨oc1, cnt⟩ := s
    obtain ⟨jS, jc⟩ := hj
    simp only at jS jc
    subst jc
    have hxl := congrArg List.length hx
    simp only [List.length_append, List.length_cons] at hxl
    obtain ⟨Wx, hcx⟩ := hT.el x (by rw [hx]; simp)
    have hpl := sh_len nd p
    refine rg ?_
    refine st (asg rfl) rfl ?_
    refine nl ?_
    refine nR (h := [_, _]) rfl hst ?_
    show G _ _ _ _ _ [_, _, _]
    refine bk ?_
    refine sq ?_
    refine sq ?_
    refine rg ?_
    refine st (mv rfl) rfl ?_
    refine st (nk rfl) rfl ?_
    refine st (fa (o3 := 0) F163_0 rfl rfl) rfl ?_
    refine st (fa (o3 := 0 + 5) F84_3 rfl rfl) rfl ?_
    refine st (lm1 5 T3 hcx (Hm.m.trans Hm.m) rfl rfl rfl) rfl ?_
    refine st (ne rfl rfl) rfl ?_
    refine nl ?_
    refine nS ?_
    refine cd rfl (fun hb => ?_) (fun hb => ?_)
    · have h13 := (ne_of_bneT hb)
      clear hb
      refine xt ?_
      refine xS ?_
      refine xB ?_
      refine gr1 ?_
      refine gr1 ?_
      exact eR (h := [_, _]) hst hpn (_, _) ⟨by rw [shE_no h13]; exact jS, by rw [sh_len_no h13]⟩ hid
    · have h13 := (eq_of_bneF hb)
      clear hb
      refine sk ?_
      refine nS ?_
      refine sq ?_
      refine sq ?_
      refine rg ?_
      refine st (lm1 0 T224 cellsI (Hm.i1.trans Hm.m) rfl rfl rfl) rfl ?_
      refine st (w1 (lo1 T3 rfl rfl)) rfl ?_
      refine st (mv rfl) rfl ?_
      refine ylv rfl rfl (fun w hw => hY (shE nd p) (((((p.filter (shP nd)).length : Nat) : Int), x)) _ (shE_split hx h13) _ _ (hw.le (Hm.m.trans Hm.m)) jS) rfl ?_; intro oc2 hS2
      refine st (nt rfl) rfl ?_
      refine nl ?_
      refine nS ?_
      refine cdF rfl ?_
      refine sk ?_
      refine nS ?_
      refine rg ?_
      refine st (w1 (lo1 T3 rfl rfl)) rfl ?_
      refine st (ad rfl rfl (by omega)) rfl ?_
      refine r1 ?_
      refine sto (cs' := [_]) (vs := [_]) T3 rfl rfl rfl rfl rfl (Nat.le_of_ble_eq_true rfl) rfl ?_
      refine nl ?_
      refine nB ?_
      refine gr1 ?_
      exact eR (h := [_, _]) hst hpn (_, _) ⟨by rw [shE_yes h13]; exact hS2, by show (_ : Int) + 1 = _; rw [sh_len_yes h13]⟩ hid
  intro s rd hj
  show GE _ _ _ _ _ [_, _, _, _, _]
  obtain ⟨oc1, cnt⟩ := s
  obtain ⟨jS, jc⟩ := hj
  simp only at jS jc
  subst jc
  refine nB ?_
  refine postM1 (h := [_, _, _, _]) (.inr rfl) ?_
  exact ret0 (.inr rfl) rfl jS o1

set_option maxRecDepth 20000 in
theorem TreeAll_c {M : Mem} {w : World} {tv : Value} {adr : ID → Nat} {nd : ID → Nd} {xs : List ID} (hM : RO M [] w) (hT : RT M tv adr nd xs) : FnC prog 91 [tv] w [] (fun u o => ∃ b V ol, u = .func (.func 132) #[] #[pt b 0] ∧ o = [(b, .cells (List.toArray [V]) 51 (0, 0))] ++ ol ∧ OS ol 84 6 V ((shN nd xs).flatMap encNd)) := by
  have hlen := hT.len
  refine enterM (code := _) func91 rfl 18 rfl rfl hM [] rfl [(0, _)] ⟨rfl, trivial⟩ ?_
  refine sq ?_
  refine rg ?_
  refine st (asg rfl) rfl ?_
  refine nl ?_
  refine nS ?_
  refine sq ?_
  refine rg ?_
  refine al T51 rfl rfl ?_; intro b1_0
  refine nl ?_
  refine nS ?_
  refine sq ?_
  refine sq ?_
  refine rg ?_
  refine st (mv rfl) rfl ?_
  refine ni ?_
  refine cl C131 (fnc _) rfl (fun _ hw => shown_c hw hT.tc) rfl ?_; intro v2_1 O2_1 q2_1
  obtain ⟨b2_1, rfl, rfl⟩ := q2_1
  refine nl ?_
  refine nS ?_
  refine bk ?_
  refine niC ?_
  refine gR2 ?_
  refine rf (σ := (Value × Own)) (ps := [8, 9]) (fun x : Int × ID => [.int .i64 x.1, pt (adr x.2) 0]) (shE nd xs) [] (fun s => [[(b1_0, .cells (List.toArray [s.1]) 51 (0, 0))], s.2]) [_] (fun p s => OS s.2 84 6 s.1 ((ndE nd p).flatMap encNd)) (.slice none 0 0, []) rfl (show Callee1 _ _ _ [] [pt b2_1 0] from rfl) C160 ?_ rfl (fun _ => rfl) hidE ?_ ?_ ?_
  · exact OS.nil _ _
  · intro lp wi S oc hro hS hSp hY
    exact shIt_c hro (hT.mono Hm.m) (cellsI.mono Hm.i0) hS hY
  · intro p x q s hx hj lp wr or_ rec_ hst hpn
    show G _ _ _ _ ((9, _) :: (8, _) :: _) [_, _, _]
    have hxl := congrArg List.length hx
    simp only [List.length_append, List.length_cons] at hxl
    obtain ⟨Wx, hcx⟩ := hT.el x.2 (shE_mem hx)
    have hsl := shE_len nd xs
    refine rg ?_
    refine st (asg rfl) rfl ?_
    refine nl ?_
    refine nR (h := [_, _]) rfl hst ?_
    show G _ _ _ _ _ [_, _, _]
    refine bk ?_
    refine rgd rfl [0, 1, 2, 3, 4] [5] [6, 7] [] (by kernel_rfl) ?_
    refine dst rfl rfl (lo1 T51 rfl rfl) rfl ?_
    refine dst rfl rfl (mv rfl) rfl ?_
    refine dst rfl rfl (nk rfl) rfl ?_
    refine dst rfl rfl (fa (o3 := 0) F163_0 rfl rfl) rfl ?_
    refine dst rfl rfl (lma (us := [_, _, _, _, _, _]) 0 T84 hcx (Hm.m.trans Hm.m) rfl rfl rfl rfl) rfl ?_
    refine dfor rfl ?_
    refine fbs1 (parts := [_]) (cs := [_, _, _, _, _, _]) [_, _, _, _, _, _] [(0, [_, _, _, _, _, _])] rfl U51 T84 rfl rfl rfl rfl ⟨rfl, ⟨_, rfl, rfl⟩, trivial⟩ rfl rfl ?_; intro b4_5
    refine r2 ?_
    refine ap U51 U51 T84 rfl rfl rfl rfl rfl rfl hj ((srcI rfl).mono Hm.i1) rfl (by rw [flatMap_length (enc := encNd) (sz := 6) (fun _ => rfl)]; simp only [ndE_len, List.length_cons, List.length_nil]; omega) rfl ?_; intro v4_6 o4_6 q4_6
    refine r2 ?_
    refine sto (cs' := [_]) (vs := [_]) T51 rfl rfl q4_6.cells rfl (allc q4_6.isSl rfl) (Nat.le_of_ble_eq_true rfl) rfl ?_
    refine nl ?_
    refine nB ?_
    refine gr2 ?_
    refine dropE ?_
    refine gr1 ?_
    refine gr1 ?_
    exact eR (h := [_, _]) hst hpn (_, _) (q4_6.cast (by rw [ndE_snoc, List.flatMap_append]; simp)) hid
  intro s rd hj
  show GE _ _ _ _ _ [_, _, _, _]
  refine nB ?_
  refine nS ?_
  refine sq ?_
  refine rg ?_
  refine st (mkf (vs := []) (us := [_]) rfl rfl) rfl ?_
  refine st (asg rfl) rfl ?_
  refine nl ?_
  refine nS ?_
  refine rt ?_
  refine postM1 (h := [_, _, _]) (.inl rfl) ?_
  exact ret1 rfl rfl ⟨b1_0, s.1, s.2, rfl, rfl, hj.cast (by rw [shE_map])⟩ (oSP (h' := [_, _]) (.cons_cons _ (.cons_cons _ (.cons _ .slnil))) (perm_ct fun x => by simp only [List.flatten_cons, List.flatten_nil, ct_app, ct_nil]; omega))

set_option maxRecDepth 20000 in
theorem AllIt_c {M : Mem} {w : World} {b1 lp : Nat} {V : Value} {ns : List Nd} {oc : Own} {S : List Nd → Own → Prop} (hM : RO M oc w) (k1 : CellsAt M ⟨b1, 0, none⟩ [V]) (hv : Sl M 6 RNd V ns) (hS : S [] oc) (hY : ∀ p x q, ns = p ++ x :: q → ∀ oc w, RO M oc w → S p oc → Yld prog lp [.agg #[.int .i64 x.id.time, .int .i64 x.id.site], .int .i32 x.rune] w oc (S (p ++ [x]))) : FnC prog 132 [.func (.yield lp) #[] #[], pt b1 0] w oc (fun _ o => S ns o) := by
  have hvb := hv.bound
  refine enter (code := _) func132 rfl 19 rfl rfl hM [oc] (by simp) [(0, _), (1, _)] ⟨rfl, rfl, trivial⟩ ?_
  refine sq ?_
  refine rg ?_
  refine st (lm1 0 T51 k1 Hm.m rfl rfl rfl) rfl ?_
  refine st (lnS U51 hv rfl) rfl ?_
  refine st (mv rfl) rfl ?_
  refine nl ?_
  refine nS ?_
  refine bk ?_
  refine lpc2 (fun (i : Int) (oc : Own) C => (7, .int .i64 i) :: C) [(0, _), (5, _), (6, _)] (fun (i : Int) (oc : Own) H => oc :: H) [] (fun (i : Int) (oc : Own) => 0 ≤ i ∧ i ≤ ns.length ∧ S (ns.take i.toNat) oc) (fun (i : Int) (oc : Own) => ((ns.length : Int) - i).toNat) 0 _ ?_ ⟨rfl, rfl, rfl, rfl, trivial⟩ hid ?_
  · exact ⟨by omega, by omega, hS⟩
  intro i oc hj
  obtain ⟨j0, j1, j2⟩ := hj
  refine sq ?_
  refine rg ?_
  refine st (lt rfl rfl) rfl ?_
  refine nl ?_
  refine nS ?_
  refine sq ?_
  refine cd rfl (fun hb => ?_) (fun hb => ?_)
  · have h8 := (of_decide_eq_true hb)
    clear hb
    refine sk ?_
    refine nS ?_
    refine sq ?_
    refine bk ?_
    refine sq ?_
    refine rg ?_
    refine iaS U51 T84 hv rfl rfl (by omega) (by omega) rfl ?_; intro b2_0 p2_0 y2_0 u2_0 e2_0 c2_0 n2_0 q2_0
    obtain rfl := q2_0
    clear n2_0
    refine st (lma (us := [_, _, _, _, _, _]) 0 T84 c2_0 Hm.m rfl rfl rfl rfl) rfl ?_
    refine al T84 rfl rfl ?_; intro b2_2
    refine sto (cs' := [_, _, _, _, _, _]) (vs := [_, _, _, _, _, _]) T84 rfl rfl rfl rfl rfl (Nat.le_of_ble_eq_true rfl) rfl ?_
    refine nl ?_
    refine nS ?_
    refine sq ?_
    refine rg ?_
    refine st (mv rfl) rfl ?_
    refine st (fa (o3 := 0) F84_0 rfl rfl) rfl ?_
    refine st (loa (vs := [_, _]) T59 rfl rfl rfl) rfl ?_
    refine st (fa (o3 := 4) F84_2 rfl rfl) rfl ?_
    refine st (lo1 T21 rfl rfl) rfl ?_
    refine r1 ?_
    refine ylv rfl rfl (fun w hw => hY (ns.take i.toNat) y2_0 (ns.drop (i.toNat + 1)) (by obtain ⟨hl2, he2⟩ := List.getElem?_eq_some_iff.1 e2_0; rw [← he2, List.getElem_cons_drop, List.take_append_drop]) _ _ (hw.le Hm.m) j2) rfl ?_; intro oc2 hS2
    refine st (nt rfl) rfl ?_
    refine nl ?_
    refine nS ?_
    refine cdF rfl ?_
    refine sk ?_
    refine nB ?_
    refine nS ?_
    refine rg ?_
    refine st (ad rfl rfl (by omega)) rfl ?_
    refine st (mv rfl) rfl ?_
    refine nl ?_
    exact le2 (i + 1) _ ⟨⟨by omega, by omega, (by rw [take_snoc' j0 e2_0]; exact hS2)⟩, by omega⟩ ⟨rfl, rfl, rfl, rfl, trivial⟩ hK1
  · have h8 := (of_decide_eq_false hb)
    clear hb
    refine xt ?_
    refine xS ?_
    refine xS ?_
    refine xB ?_
    exact ret0 (.inr rfl) rfl (by rw [take_all h8] at j2; exact j2) o1
end Go.W
/- Walks. Written by a program of mine. -/
namespace Go.W
open Go Go.Proofs.Tryz
theorem liesB : liesAt prog prog.depth 146 (2 / prog.cellsOf 146) 0 146 1 = true := by kernel_rfl
theorem cellsU8 : prog.cellsOf 5 = 1 := by kernel_rfl
theorem noe_run (args : Array Value) (w : World) : (callFunc 161 args).run prog w = ((Extern.AbiNoEscape.same args).run prog w).andThen fun v w' => .ok (.value v) w' := run_callFunc_extern func161 (by kernel_rfl) (by kernel_rfl) (by kernel_rfl) (by kernel_rfl) args w

set_option maxRecDepth 20000 in
theorem copyN_c {M : Mem} {w : World} {b : Nat} {V : Value} (hM : RO M [(b, .cells (List.toArray [.pointer none, V]) 146 (0, 0))] w) : FnC prog 133 [pt b 0] w [(b, .cells (List.toArray [.pointer none, V]) 146 (0, 0))] (fun _ o => o = [(b, .cells (List.toArray [pt b 0, V]) 146 (0, 0))]) := by
  refine enter (code := _) func133 rfl 20 rfl rfl hM [[(b, .cells (List.toArray [.pointer none, V]) 146 (0, 0))]] (by simp) [(0, _)] ⟨rfl, trivial⟩ ?_
  refine sq ?_
  refine rg ?_
  refine st (mv rfl) rfl ?_
  refine st (nk rfl) rfl ?_
  refine st (fa (o3 := 0) F146_0 rfl rfl) rfl ?_
  refine st (lo1 T143 rfl rfl) rfl ?_
  refine st (eqv rfl rfl rfl gd_ptr (fun w => eq_ptr U143 _ w)) rfl ?_
  refine nl ?_
  refine nS ?_
  refine cdT rfl ?_
  refine rg ?_
  refine st (mv rfl) rfl ?_
  refine st (mv rfl) rfl ?_
  refine st (cvU U143 U240 T146 (by decide) (Hm.i0 _ _ imS) (by simp) rfl) rfl ?_
  refine st (noe noe_run rfl) rfl ?_
  refine st (cvP U240 U143 T146 (by decide) (Hm.i0 _ _ imS) liesB rfl) rfl ?_
  refine st (nk rfl) rfl ?_
  refine st (fa (o3 := 0) F146_0 rfl rfl) rfl ?_
  refine sto (cs' := [_, _]) (vs := [_]) T143 rfl rfl rfl rfl rfl (Nat.le_of_ble_eq_true rfl) rfl ?_
  refine nl ?_
  exact ret0 (.inr rfl) rfl rfl o1

set_option maxRecDepth 20000 in
theorem copyS_c {M : Mem} {w : World} {b : Nat} {V : Value} (hM : RO M [(b, .cells (List.toArray [pt b 0, V]) 146 (0, 0))] w) : FnC prog 133 [pt b 0] w [(b, .cells (List.toArray [pt b 0, V]) 146 (0, 0))] (fun _ o => o = [(b, .cells (List.toArray [pt b 0, V]) 146 (0, 0))]) := by
  refine enter (code := _) func133 rfl 20 rfl rfl hM [[(b, .cells (List.toArray [pt b 0, V]) 146 (0, 0))]] (by simp) [(0, _)] ⟨rfl, trivial⟩ ?_
  refine sq ?_
  refine rg ?_
  refine st (mv rfl) rfl ?_
  refine st (nk rfl) rfl ?_
  refine st (fa (o3 := 0) F146_0 rfl rfl) rfl ?_
  refine st (lo1 T143 rfl rfl) rfl ?_
  refine st (eqv rfl rfl rfl gd_ptr (fun w => eq_ptr U143 _ w)) rfl ?_
  refine nl ?_
  refine nS ?_
  refine cdF rfl ?_
  refine sq ?_
  refine rg ?_
  refine st (mv rfl) rfl ?_
  refine st (nk rfl) rfl ?_
  refine st (fa (o3 := 0) F146_0 rfl rfl) rfl ?_
  refine st (lo1 T143 rfl rfl) rfl ?_
  refine st (mv rfl) rfl ?_
  refine st (nepp U143 T146 (by decide) rfl rfl (Hm.i0 _ _ imS) (Hm.i0 _ _ imS)) rfl ?_
  refine cv (u := .bool false) (by simp) ?_
  refine nl ?_
  refine nS ?_
  refine cdF rfl ?_
  refine sk ?_
  exact ret0 (.inr rfl) rfl rfl o1

theorem copy_c {M : Mem} {w : World} {b : Nat} {a V : Value} (hM : RO M [(b, .cells (List.toArray [a, V]) 146 (0, 0))] w) (ha : a = .pointer none ∨ a = pt b 0) : FnC prog 133 [pt b 0] w [(b, .cells (List.toArray [a, V]) 146 (0, 0))] (fun _ o => o = [(b, .cells (List.toArray [pt b 0, V]) 146 (0, 0))]) := by
  rcases ha with rfl | rfl
  · exact copyN_c hM
  · exact copyS_c hM

set_option maxRecDepth 20000 in
theorem WriteS_c {M : Mem} {w : World} {b : Nat} {a V : Value} {o : Own} {cells : List Value} {s : ByteArray} (hM : RO M ([(b, .cells (List.toArray [a, V]) 146 (0, 0))] ++ o) w) (ha : a = .pointer none ∨ a = pt b 0) (hO : OS o 5 1 V cells) (hlim : cells.length + s.size ≤ 4294967296) : FnC prog 92 [pt b 0, .string s] w ([(b, .cells (List.toArray [a, V]) 146 (0, 0))] ++ o) (fun _ o => ∃ V2 o2, o = [(b, .cells (List.toArray [pt b 0, V2]) 146 (0, 0))] ++ o2 ∧ OS o2 5 1 V2 (cells ++ Lib.strCells s)) := by
  refine enter (code := _) func92 rfl 19 rfl rfl hM [[(b, .cells (List.toArray [a, V]) 146 (0, 0))], o] (by simp) [(0, _), (1, _)] ⟨rfl, rfl, trivial⟩ ?_
  refine sq ?_
  refine rg ?_
  refine st (asg rfl) rfl ?_
  refine st (asg rfl) rfl ?_
  refine nl ?_
  refine nS ?_
  refine sq ?_
  refine rg ?_
  refine st (mv rfl) rfl ?_
  refine cl C133 (fnc _) rfl (fun _ hw => copy_c hw ha) rfl ?_; intro v1 o1 q1; subst q1
  refine nl ?_
  refine nS ?_
  refine sq ?_
  refine rg ?_
  refine st (mv rfl) rfl ?_
  refine st (mv rfl) rfl ?_
  refine st (nk rfl) rfl ?_
  refine st (fa (o3 := 1) F146_1 rfl rfl) rfl ?_
  refine st (lo1 T144 rfl rfl) rfl ?_
  refine st (mv rfl) rfl ?_
  refine r1 ?_
  refine aps U144 U9 T5 rfl rfl rfl rfl rfl rfl hO rfl hlim rfl ?_; intro V2 o2 hO2
  refine st (nk rfl) rfl ?_
  refine st (fa (o3 := 1) F146_1 rfl rfl) rfl ?_
  refine r1 ?_
  refine sto (cs' := [_, _]) (vs := [_]) T144 rfl rfl hO2.cells rfl (allc hO2.isSl rfl) (Nat.le_of_ble_eq_true rfl) rfl ?_
  refine nl ?_
  refine nS ?_
  refine sq ?_
  refine rg ?_
  refine st (mv rfl) rfl ?_
  refine st (lns U9 rfl) rfl ?_
  refine st (asg rfl) rfl ?_
  refine st (asg rfl) rfl ?_
  refine nl ?_
  refine nS ?_
  refine rt ?_
  exact ret2 rfl rfl rfl ⟨V2, o2, rfl, hO2⟩ (oSP (h' := [_, _]) (.cons_cons _ (.cons_cons _ .slnil)) (perm_ct fun x => by simp only [List.flatten_cons, List.flatten_nil, ct_app, ct_nil]; omega))

set_option maxRecDepth 20000 in
theorem BStr0_c {M : Mem} {w : World} {b : Nat} {a : Value} (hM : RO M [] w) (hc : CellsAt M ⟨b, 0, none⟩ [a, .slice none 0 0]) : FnC prog 94 [pt b 0] w [] (fun u _ => u = .string .empty) := by
  refine enter (code := _) func94 rfl 14 rfl rfl hM [] rfl [(0, _)] ⟨rfl, trivial⟩ ?_
  refine sq ?_
  refine rg ?_
  refine st (asg rfl) rfl ?_
  refine nl ?_
  refine nS ?_
  refine sq ?_
  refine rgd rfl [0, 1, 2, 3, 4, 5, 6, 7, 8, 9, 10, 11] [] [] [] (by kernel_rfl) ?_
  refine dst rfl rfl (mv rfl) rfl ?_
  refine dst rfl rfl (nk rfl) rfl ?_
  refine dst rfl rfl (fa (o3 := 0 + 1) F146_1 rfl rfl) rfl ?_
  refine dst rfl rfl (lm1 1 T144 hc Hm.m rfl rfl rfl) rfl ?_
  refine dst rfl rfl (usd rfl (.inl rfl)) rfl ?_
  refine dst rfl rfl (mv rfl) rfl ?_
  refine dst rfl rfl (nk rfl) rfl ?_
  refine dst rfl rfl (fa (o3 := 0 + 1) F146_1 rfl rfl) rfl ?_
  refine dst rfl rfl (lm1 1 T144 hc Hm.m rfl rfl rfl) rfl ?_
  refine dst rfl rfl (ln U144 rfl) rfl ?_
  refine dst rfl rfl (uns0 rfl rfl) rfl ?_
  refine dst rfl rfl (asg rfl) rfl ?_
  refine dend rfl ?_
  refine nl ?_
  refine nS ?_
  refine rt ?_
  exact ret1 rfl rfl (by first | rfl | exact trivial) o0

set_option maxRecDepth 20000 in
theorem BStr1_c {M : Mem} {w : World} {b k n cap : Nat} {a : Value} {cs : List Value} {bs : List UInt8} (hM : RO M [(k, .cells cs.toArray 5 (0, 0))] w) (hc : CellsAt M ⟨b, 0, none⟩ [a, .slice (some ⟨k, 0, none⟩) n cap]) (hcap : cap ≤ cs.length) (hn : n ≤ cap) (hb : cs.take n = Lib.byteCells bs) (h0 : bs ≠ []) (hlim : n ≤ 4294967296) : FnC prog 94 [pt b 0] w [(k, .cells cs.toArray 5 (0, 0))] (fun u _ => u = .string ⟨bs.toArray⟩) := by
  have hcap0 : cap ≠ 0 := fun e => h0 (by have := congrArg List.length hb; rw [List.length_take, Lib.byteCells_length] at this; exact List.eq_nil_of_length_eq_zero (by omega))
  refine enter (code := _) func94 rfl 14 rfl rfl hM [[(k, .cells cs.toArray 5 (0, 0))]] (by simp) [(0, _)] ⟨rfl, trivial⟩ ?_
  refine sq ?_
  refine rg ?_
  refine st (asg rfl) rfl ?_
  refine nl ?_
  refine nS ?_
  refine sq ?_
  refine rgd rfl [0, 1, 2, 3, 4, 5, 6, 7, 8, 9] [] [10, 11] [] (by kernel_rfl) ?_
  refine dst rfl rfl (mv rfl) rfl ?_
  refine dst rfl rfl (nk rfl) rfl ?_
  refine dst rfl rfl (fa (o3 := 0 + 1) F146_1 rfl rfl) rfl ?_
  refine dst rfl rfl (lm1 1 T144 hc Hm.m rfl rfl rfl) rfl ?_
  refine dst rfl rfl (usd rfl (.inr hcap0)) rfl ?_
  refine dst rfl rfl (mv rfl) rfl ?_
  refine dst rfl rfl (nk rfl) rfl ?_
  refine dst rfl rfl (fa (o3 := 0 + 1) F146_1 rfl rfl) rfl ?_
  refine dst rfl rfl (lm1 1 T144 hc Hm.m rfl rfl rfl) rfl ?_
  refine dst rfl rfl (ln U144 rfl) rfl ?_
  refine dend rfl ?_
  refine uns U208 cellsU8 rfl rfl hb (by omega) h0 hlim rfl ?_
  refine st (asg rfl) rfl ?_
  refine nl ?_
  refine nS ?_
  refine rt ?_
  exact ret1 rfl rfl (by first | rfl | exact trivial) o0

theorem BStr_c {M : Mem} {w : World} {b : Nat} {a V : Value} {o : Own} {bs : List UInt8} (hM : RO M ([(b, .cells (List.toArray [a, V]) 146 (0, 0))] ++ o) w) (hO : OS o 5 1 V (Lib.byteCells bs)) (h0 : bs = [] → V = .slice none 0 0) (hlim : bs.length ≤ 4294967296) : FnC prog 94 [pt b 0] w ([(b, .cells (List.toArray [a, V]) 146 (0, 0))] ++ o) (fun u _ => u = .string ⟨bs.toArray⟩) := by
  rcases hO with ⟨rfl, h2, rfl⟩ | ⟨k, n, cap, cs, rfl, rfl, h3, h4, h5, h6⟩
  · have hb : bs = [] := by
      have := congrArg List.length h2
      rw [Lib.byteCells_length] at this
      exact List.eq_nil_of_length_eq_zero this
    subst hb
    refine (FnC.fr (o1 := []) fun hr => BStr0_c (b := b) (a := a) hr cellsI).mono ?_
    rintro v o ⟨o', h⟩; exact h
  · have hb : bs ≠ [] := fun e => by have := h0 e; cases this
    rw [Nat.mul_one] at h3 h4
    have hl := congrArg List.length h4
    rw [Lib.byteCells_length, List.length_take] at hl
    refine (FnC.fr fun hr => BStr1_c (b := b) (a := a) (bs := bs) hr cellsI h3 h5 h4.symm hb (by omega)).mono ?_
    rintro v o ⟨o', h⟩; exact h

set_option maxRecDepth 20000 in
set_option maxHeartbeats 1000000 in
theorem TreeText_c {M : Mem} {w : World} {tv : Value} {adr : ID → Nat} {nd : ID → Nd} {xs : List ID} (hM : RO M [] w) (hT : RT M tv adr nd xs) : FnC prog 54 [tv] w [] (fun u _ => u = .string ⟨(bytesN (shN nd xs)).toArray⟩) := by
  have hsh : (shN nd xs).length ≤ 100000000 := by have := hT.len; have := List.length_filter_le (shP nd) xs; simp only [shN, List.length_map]; omega
  refine enterM (code := _) func54 rfl 14 rfl rfl hM [] rfl [(0, _)] ⟨rfl, trivial⟩ ?_
  refine sq ?_
  refine rg ?_
  refine st (asg rfl) rfl ?_
  refine nl ?_
  refine nS ?_
  refine sq ?_
  refine rg ?_
  refine al T146 rfl rfl ?_; intro b1_0
  refine nl ?_
  refine nS ?_
  refine sq ?_
  refine sq ?_
  refine rg ?_
  refine st (mv rfl) rfl ?_
  refine ni ?_
  refine cl C91 (fnc _) rfl (fun _ hw => TreeAll_c hw (hT.mono Hm.m)) rfl ?_; intro v2_1 O2_1 q2_1
  obtain ⟨b2_1, V0, ol, rfl, rfl, qV⟩ := q2_1
  refine nl ?_
  refine nS ?_
  refine bk ?_
  refine niC ?_
  refine gR2 ?_
  refine rf (σ := (Value × Value × Own)) (ps := [8, 9]) (fun x : Nd => [.agg #[.int .i64 x.id.time, .int .i64 x.id.site], .int .i32 x.rune]) (shN nd xs) [] (fun s => [[(b1_0, .cells (List.toArray [s.1, s.2.1]) 146 (0, 0))], s.2.2]) [_] (fun p s => OS s.2.2 5 1 s.2.1 (Lib.byteCells (bytesN p)) ∧ (s.1 = .pointer none ∨ s.1 = pt b1_0 0) ∧ (bytesN p = [] → s.2.1 = .slice none 0 0)) (.pointer none, .slice none 0 0, []) rfl (show Callee1 _ _ _ [] [pt b2_1 0] from rfl) C132 ?_ rfl (fun _ => rfl) hidE ?_ ?_ ?_
  · exact ⟨OS.nil _ _, .inl rfl, fun _ => rfl⟩
  · intro lp wi S oc hro hS hSp hY
    exact AllIt_c (ns := shN nd xs) hro (cellsI.mono (fun k ob hk => Hm.i0 k ob (List.mem_append_left _ hk))) ((nds_sl qV hsh).mono mNd (fun k ob hk => Hm.i0 k ob (List.mem_append_right _ hk))) hS hY
  · intro p x q s hx hj lp wr or_ rec_ hst hpn
    show G _ _ _ _ ((9, _) :: (8, _) :: _) [_, _, _]
    obtain ⟨av, V, bo⟩ := s
    obtain ⟨jO, ja, jn0⟩ := hj
    simp only at jO ja jn0
    have hxl := congrArg List.length hx
    simp only [List.length_append, List.length_cons] at hxl
    refine rg ?_
    refine st (asg rfl) rfl ?_
    refine nl ?_
    refine nR (h := [_, _]) rfl hst ?_
    show G _ _ _ _ _ [_, _, _]
    refine bk ?_
    refine rg ?_
    refine st (mv rfl) rfl ?_
    refine st (cl0 C93 (fnc _) rfl (fun _ hw => Encode_c (n := x.rune) hw)) rfl ?_
    refine r1 ?_
    refine r1 ?_
    refine jn ?_
    refine cl C92 (fnc _) rfl (fun _ hw => WriteS_c hw ja jO (by rw [Lib.byteCells_length]; have := enc_small x.rune; have := bytesN_len p; omega)) rfl ?_; intro v4 o4 q4
    obtain ⟨V2, o2, rfl, hO2⟩ := q4
    refine pt2 ?_
    refine nl ?_
    refine nB ?_
    refine gr1 ?_
    refine gr1 ?_
    exact eR (h := [_, _]) hst hpn (_, _, _) ⟨hO2.cast (by rw [bytesN_snoc, Lib.byteCells_append]; rfl), .inr rfl, fun q => by rw [bytesN_snoc] at q; exact absurd (List.append_eq_nil_iff.1 q).2 (enc_ne x.rune)⟩ hid
  intro s rd hj
  show GE _ _ _ _ _ [_, _, _, _]
  obtain ⟨av, V, bo⟩ := s
  obtain ⟨jO, ja, jn0⟩ := hj
  simp only at jO ja jn0
  refine nB ?_
  refine nS ?_
  refine sq ?_
  refine rg ?_
  refine r1 ?_
  refine r1 ?_
  refine jn ?_
  refine cl C94 (fnc _) rfl (fun _ hw => BStr_c hw jO jn0 (by have := bytesN_len (shN nd xs); omega)) rfl ?_; intro v5 o5 q5; subst q5
  refine st (asg rfl) rfl ?_
  refine nl ?_
  refine nS ?_
  refine rt ?_
  refine postM1 (h := [_, _]) (.inl rfl) ?_
  exact ret1 rfl rfl (by first | rfl | exact trivial) o0
end Go.W
