/- Lemmas for the walks of this program: Walks. Written by a program of mine. Walks. Written by a program of mine. Walks. Written by a program of mine. Another element in the tree: the contract. What a tree's Insert makes: plain words. Walks. Written by a program of mine. Going through a tree by a stack: plain words. -/
import Derived.Test.YtcjnbfpkigadeaaGreatDoorJ8
set_option linter.unusedVariables false
set_option linter.unusedSimpArgs false
/- Walks. Written by a program of mine. -/
namespace Go.W
open Go Go.Proofs.Tryz
theorem K59 : KeyT prog 59 encI := keyPair (fun d : ID => d.time) (fun d => d.site) (fun x y h1 h2 => by cases x; cases y; simp_all) EF59 U3 U3 T3 T3

set_option maxRecDepth 20000 in
theorem may_c {M : Mem} {w : World} {x : ID} (hM : RO M [] w) : FnC prog 125 [.agg #[.int .i64 x.time, .int .i64 x.site]] w [] (fun u _ => u = .bool (decide (1 ≤ x.time ∧ x.time ≤ 2147483647 ∧ 1 ≤ x.site ∧ x.site ≤ 16))) := by
  refine enter (code := _) func125 rfl 21 rfl rfl hM [] rfl [(0, _)] ⟨rfl, trivial⟩ ?_
  refine sq ?_
  refine rg ?_
  refine bx (z := [_, _]) rfl rfl rfl ?_; intro b0_0
  refine st (asg rfl) rfl ?_
  refine nl ?_
  refine nS ?_
  refine sqk (fun C => (2, .bool (decide (1 ≤ x.time ∧ x.time ≤ 2147483647 ∧ 1 ≤ x.site ∧ x.site ≤ 16))) :: C) [] trivial ?_ ?_
  · skip
    refine rg ?_
    refine st (fa (o3 := 0) F59_0 rfl rfl) rfl ?_
    refine st (lo1 T3 rfl rfl) rfl ?_
    refine st (gq rfl rfl) rfl ?_
    refine st (mv rfl) rfl ?_
    refine spl (fun hb => ?_) (fun hb => ?_)
    · have h6 := (of_decide_eq_true hb)
      clear hb
      refine gT rfl rfl ?_
      refine st (fa (o3 := 0) F59_0 rfl rfl) rfl ?_
      refine gT rfl rfl ?_
      refine st (lo1 T3 rfl rfl) rfl ?_
      refine gT rfl rfl ?_
      refine st (lq rfl rfl) rfl ?_
      refine st (pkT rfl rfl) rfl ?_
      refine st (mv rfl) rfl ?_
      refine spl (fun hb => ?_) (fun hb => ?_)
      · have h11 := (of_decide_eq_true hb)
        clear hb
        refine gT rfl rfl ?_
        refine st (fa (o3 := 1) F59_1 rfl rfl) rfl ?_
        refine gT rfl rfl ?_
        refine st (lo1 T3 rfl rfl) rfl ?_
        refine gT rfl rfl ?_
        refine st (gq rfl rfl) rfl ?_
        refine st (pkT rfl rfl) rfl ?_
        refine st (mv rfl) rfl ?_
        refine spl (fun hb => ?_) (fun hb => ?_)
        · have h16 := (of_decide_eq_true hb)
          clear hb
          refine gT rfl rfl ?_
          refine st (fa (o3 := 1) F59_1 rfl rfl) rfl ?_
          refine gT rfl rfl ?_
          refine st (lo1 T3 rfl rfl) rfl ?_
          refine gT rfl rfl ?_
          refine st (lq rfl rfl) rfl ?_
          refine st (pkT rfl rfl) rfl ?_
          refine st (asg rfl) rfl ?_
          refine nl ?_
          exact le0   ⟨(by first | (refine dT rfl ?_; omega) | (refine dF rfl ?_; omega) | (refine bE rfl (decide_eq_decide.2 ?_); omega)), trivial⟩ hid
        · have h16 := (of_decide_eq_false hb)
          clear hb
          refine gF rfl rfl rfl rfl ?_
          refine gF rfl rfl rfl rfl ?_
          refine gF rfl rfl rfl rfl ?_
          refine st (pkF rfl rfl) rfl ?_
          refine st (asg rfl) rfl ?_
          refine nl ?_
          exact le0   ⟨(by first | (refine dT rfl ?_; omega) | (refine dF rfl ?_; omega) | (refine bE rfl (decide_eq_decide.2 ?_); omega)), trivial⟩ hid
      · have h11 := (of_decide_eq_false hb)
        clear hb
        refine gF rfl rfl rfl rfl ?_
        refine gF rfl rfl rfl rfl ?_
        refine gF rfl rfl rfl rfl ?_
        refine st (pkF rfl rfl) rfl ?_
        refine st (mv rfl) rfl ?_
        refine gF rfl rfl rfl rfl ?_
        refine gF rfl rfl rfl rfl ?_
        refine gF rfl rfl rfl rfl ?_
        refine st (pkF rfl rfl) rfl ?_
        refine st (asg rfl) rfl ?_
        refine nl ?_
        exact le0   ⟨(by first | (refine dT rfl ?_; omega) | (refine dF rfl ?_; omega) | (refine bE rfl (decide_eq_decide.2 ?_); omega)), trivial⟩ hid
    · have h6 := (of_decide_eq_false hb)
      clear hb
      refine gF rfl rfl rfl rfl ?_
      refine gF rfl rfl rfl rfl ?_
      refine gF rfl rfl rfl rfl ?_
      refine st (pkF rfl rfl) rfl ?_
      refine st (mv rfl) rfl ?_
      refine gF rfl rfl rfl rfl ?_
      refine gF rfl rfl rfl rfl ?_
      refine gF rfl rfl rfl rfl ?_
      refine st (pkF rfl rfl) rfl ?_
      refine st (mv rfl) rfl ?_
      refine gF rfl rfl rfl rfl ?_
      refine gF rfl rfl rfl rfl ?_
      refine gF rfl rfl rfl rfl ?_
      refine st (pkF rfl rfl) rfl ?_
      refine st (asg rfl) rfl ?_
      refine nl ?_
      exact le0   ⟨(by first | (refine dT rfl ?_; omega) | (refine dF rfl ?_; omega) | (refine bE rfl (decide_eq_decide.2 ?_); omega)), trivial⟩ hid
  refine rt ?_
  exact ret1 rfl rfl (by first | rfl | exact trivial) o0

set_option maxRecDepth 20000 in
theorem higher_c {M : Mem} {w : World} {b : Nat} {n : Nd} {W : Value} {x : ID} (hM : RO M [] w) (hc : CellsAt M ⟨b, 0, none⟩ (encNd n ++ [W])) : FnC prog 158 [pt b 0, .agg #[.int .i64 x.time, .int .i64 x.site]] w [] (fun u _ => u = .int .i64 (cmpID x n.id)) := by
  refine enter (code := _) func158 rfl 12 rfl rfl hM [] rfl [(0, _), (1, _)] ⟨rfl, rfl, trivial⟩ ?_
  refine sq ?_
  refine rg ?_
  refine bx (z := [_, _]) rfl rfl rfl ?_; intro b0_0
  refine st (asg rfl) rfl ?_
  refine nl ?_
  refine nS ?_
  refine sq ?_
  refine rgd rfl [0, 1, 2, 3, 4, 5, 6, 7] [] [] [] (by kernel_rfl) ?_
  refine dst rfl rfl (loa (vs := [_, _]) T59 rfl rfl rfl) rfl ?_
  refine dst rfl rfl (mv rfl) rfl ?_
  refine dst rfl rfl (nk rfl) rfl ?_
  refine dst rfl rfl (fa (o3 := 0) F163_0 rfl rfl) rfl ?_
  refine dst rfl rfl (fa (o3 := 0) F84_0 rfl rfl) rfl ?_
  refine dst rfl rfl (lma (us := [_, _]) 0 T59 hc Hm.m rfl rfl rfl rfl) rfl ?_
  refine dst rfl rfl (cl0 C155 (fnc _) rfl (fun _ hw => cmpID_c hw )) rfl ?_
  refine dst rfl rfl (asg rfl) rfl ?_
  refine dend rfl ?_
  refine nl ?_
  refine nS ?_
  refine rt ?_
  exact ret1 rfl rfl (by first | rfl | exact trivial) o0

set_option maxRecDepth 20000 in
theorem list0_c {M : Mem} {w : World} {T : Nat} (hM : RO M [] w) : FnC prog 112 [pt T 0, .agg #[.int .i64 0, .int .i64 0]] w [] (fun u _ => u = pt T 0) := by
  refine enter (code := _) func112 rfl 19 rfl rfl hM [] rfl [(0, _), (1, _)] ⟨rfl, rfl, trivial⟩ ?_
  refine sq ?_
  refine rg ?_
  refine bx (z := [_, _]) rfl rfl rfl ?_; intro b0_0
  refine st (asg rfl) rfl ?_
  refine nl ?_
  refine nS ?_
  refine sq ?_
  refine sq ?_
  refine rg ?_
  refine st (loa (vs := [_, _]) T59 rfl rfl rfl) rfl ?_
  refine st (bd (cs := [_, _]) [] T59 Pl59 trivial rfl) rfl ?_
  refine st (eqs rfl rfl G59 (fun w => eqID z0 z0 w)) rfl ?_
  refine cv (u := .bool true) (by rw [decide_eq_true rfl]) ?_
  refine nl ?_
  refine nS ?_
  refine cdT rfl ?_
  refine sq ?_
  refine rg ?_
  refine st (mv rfl) rfl ?_
  refine st (nk rfl) rfl ?_
  refine st (fa (o3 := 0) F187_0 rfl rfl) rfl ?_
  refine st (asg rfl) rfl ?_
  refine nl ?_
  refine nS ?_
  refine rt ?_
  refine rS ?_
  exact ret1 rfl rfl (by first | rfl | exact trivial) o0

set_option maxRecDepth 20000 in
theorem list1_c {M : Mem} {w : World} {d : TD} {r : ID} {mb : Nat} {mob : Obj} {W : Value} (hM : RO M [] w) (ht : CellsAt M ⟨d.T, 0, none⟩ [W, .map (some mb)]) (hM2 : M mb mob) (hmp : Mp encI mob (d.nds.map fun n => (n.id, pt (d.ad n.id) 0))) (hr : r ∈ d.ids) (hne : r ≠ z0) : FnC prog 112 [pt d.T 0, .agg #[.int .i64 r.time, .int .i64 r.site]] w [] (fun u _ => u = pt (d.ad r) 6) := by
  refine enter (code := _) func112 rfl 19 rfl rfl hM [] rfl [(0, _), (1, _)] ⟨rfl, rfl, trivial⟩ ?_
  refine sq ?_
  refine rg ?_
  refine bx (z := [_, _]) rfl rfl rfl ?_; intro b0_0
  refine st (asg rfl) rfl ?_
  refine nl ?_
  refine nS ?_
  refine sq ?_
  refine sq ?_
  refine rg ?_
  refine st (loa (vs := [_, _]) T59 rfl rfl rfl) rfl ?_
  refine st (bd (cs := [_, _]) [] T59 Pl59 trivial rfl) rfl ?_
  refine st (eqs rfl rfl G59 (fun w => eqID r z0 w)) rfl ?_
  refine cv (u := .bool false) (by rw [decide_eq_false hne]) ?_
  refine nl ?_
  refine nS ?_
  refine cdF rfl ?_
  refine sk ?_
  refine nS ?_
  refine sq ?_
  refine rgd rfl [0, 1, 2, 3, 4, 5, 6, 7, 8] [] [] [] (by kernel_rfl) ?_
  refine dst rfl rfl (mv rfl) rfl ?_
  refine dst rfl rfl (nk rfl) rfl ?_
  refine dst rfl rfl (fa (o3 := 0 + 1) F187_1 rfl rfl) rfl ?_
  refine dst rfl rfl (lm1 1 T185 ht Hm.m rfl rfl rfl) rfl ?_
  refine dst rfl rfl (loa (vs := [_, _]) T59 rfl rfl rfl) rfl ?_
  refine dst rfl rfl (lkr1 (y := r) U185 K59 T160 hmp (Hm.m _ _ hM2) rfl rfl rfl) rfl ?_
  refine dcv (u := pt (d.ad r) 0) (by rw [d.look, if_pos hr]; rfl) ?_
  refine dst rfl rfl (nk rfl) rfl ?_
  refine dst rfl rfl (fa (o3 := 0 + 6) F163_1 rfl rfl) rfl ?_
  refine dst rfl rfl (asg rfl) rfl ?_
  refine dend rfl ?_
  refine nl ?_
  refine nS ?_
  refine rt ?_
  exact ret1 rfl rfl (by first | rfl | exact trivial) o0

set_option maxRecDepth 20000 in
theorem bs_c {M : Mem} {w : World} {V : Value} {ks : List ID} {adr : ID → Nat} {x : ID} (hM : RO M [] w) (hv : Sl M 1 (RPt adr) V ks) (hel : Els M adr ks) (hs : ks.Pairwise above) : FnC prog 157 [V, .agg #[.int .i64 x.time, .int .i64 x.site], .func (.func 158) #[] #[]] w [] (fun u _ => u = .tuple #[.int .i64 (posOf x ks : Int), .bool (hitB x ks)]) := by
  refine enter (code := _) func157 rfl 49 rfl rfl hM [] rfl [(0, _), (1, _), (2, _)] ⟨rfl, rfl, rfl, trivial⟩ ?_
  have l_hv := hv.bound
  refine sq ?_
  refine rg ?_
  refine bx (z := [_, _]) rfl rfl rfl ?_; intro b0_0
  refine st (asg rfl) rfl ?_
  refine st (asg rfl) rfl ?_
  refine nl ?_
  refine nS ?_
  refine sq ?_
  refine rg ?_
  refine st (mv rfl) rfl ?_
  refine st (lnS U161 hv rfl) rfl ?_
  refine st (asg rfl) rfl ?_
  refine nl ?_
  refine nS ?_
  refine sq ?_
  refine rg ?_
  refine st (mv rfl) rfl ?_
  refine st (asg rfl) rfl ?_
  refine st (asg rfl) rfl ?_
  refine nl ?_
  refine nS ?_
  refine sq ?_
  refine bk ?_
  refine lpc2 (fun (i : Int) (j : Int) C => (9, .int .i64 i) :: (10, .int .i64 j) :: C) [(0, _), (2, _), (4, _), (8, _)] (fun (i : Int) (j : Int) H => H) [_] (fun (i : Int) (j : Int) => (0 ≤ i ∧ i ≤ j ∧ j ≤ ks.length) ∧ (∀ (a : Nat) (k : ID), a < i.toNat → ks[a]? = some k → cmpID x k < 0) ∧ ∀ (a : Nat) (k : ID), j.toNat ≤ a → ks[a]? = some k → ¬ cmpID x k < 0) (fun (i : Int) (j : Int) => (j - i).toNat) 0 _ ?_ ⟨rfl, rfl, rfl, rfl, rfl, rfl, trivial⟩ hid ?_
  · exact ⟨by omega, fun a k h _ => by simp at h, fun a k h hk => by have := (List.getElem?_eq_some_iff.1 hk).1; omega⟩
  intro i j hj
  obtain ⟨⟨j0, j1, j1b⟩, j2, j3⟩ := hj
  refine sq ?_
  refine sq ?_
  refine rg ?_
  refine st (mv rfl) rfl ?_
  refine st (mv rfl) rfl ?_
  refine st (lt rfl rfl) rfl ?_
  refine nl ?_
  refine nS ?_
  refine cd rfl (fun hb => ?_) (fun hb => ?_)
  · have h17 := (of_decide_eq_true hb)
    clear hb
    refine sk ?_
    refine nS ?_
    refine bk ?_
    refine sq ?_
    refine rg ?_
    refine st (mv rfl) rfl ?_
    refine st (mv rfl) rfl ?_
    refine st (ad rfl rfl (by omega)) rfl ?_
    refine st (cvi U3 U219 rfl) rfl ?_
    refine cv (u := .int .u64 (i + j)) (v_u64 (by omega)) ?_
    refine st (shr rfl rfl (by decide)) rfl ?_
    refine cv (u := .int .u64 ((i + j) / 2)) (v_half (by omega)) ?_
    refine st (cvi U219 U3 rfl) rfl ?_
    refine cv (u := .int .i64 ((i + j) / 2)) (v_back (by omega)) ?_
    refine st (asg rfl) rfl ?_
    refine nl ?_
    refine nS ?_
    refine sq ?_
    refine rgd rfl [0, 1, 2, 3, 4, 5, 6, 7] [] [] [] (by kernel_rfl) ?_
    refine dst rfl rfl (mv rfl) rfl ?_
    refine dst rfl rfl (mv rfl) rfl ?_
    refine dst rfl rfl (mv rfl) rfl ?_
    refine diaS rfl rfl U161 T160 hv rfl rfl (by omega) (by omega) rfl ?_; intro b5_3 p5_3 y5_3 u5_3 e5_3 c5_3 n5_3 q5_3
    obtain rfl := q5_3
    clear n5_3
    refine dst rfl rfl (lm1 0 T160 c5_3 Hm.m rfl rfl rfl) rfl ?_
    refine dst rfl rfl (loa (vs := [_, _]) T59 rfl rfl rfl) rfl ?_
    refine dst rfl rfl (cl0 C158 (show Callee1 _ _ _ [] [] from rfl) rfl (fun _ hw => by obtain ⟨nd, W, he, hc⟩ := hel y5_3 (List.mem_of_getElem? e5_3); have := higher_c (x := x) (n := nd) hw (hc.mono Hm.m); rw [he] at this; exact this)) rfl ?_
    refine dst rfl rfl (lt rfl rfl) rfl ?_
    refine dend rfl ?_
    refine nl ?_
    refine nS ?_
    refine cd rfl (fun hb => ?_) (fun hb => ?_)
    · have h31 := (of_decide_eq_true hb)
      clear hb
      refine rg ?_
      refine st (mv rfl) rfl ?_
      refine st (ad rfl rfl (by omega)) rfl ?_
      refine st (asg rfl) rfl ?_
      refine nl ?_
      refine nB ?_
      exact le2 ((i + j) / 2 + 1) _ ⟨⟨by omega, fun a k ha hk => bs_left hs e5_3 h31 a k (by omega) hk, j3⟩, by omega⟩ ⟨rfl, rfl, rfl, rfl, rfl, rfl, trivial⟩ hid
    · have h31 := (of_decide_eq_false hb)
      clear hb
      refine rg ?_
      refine st (mv rfl) rfl ?_
      refine st (asg rfl) rfl ?_
      refine nl ?_
      refine nB ?_
      exact le2 _ ((i + j) / 2) ⟨⟨by omega, j2, bs_right hs e5_3 h31⟩, by omega⟩ ⟨rfl, rfl, rfl, rfl, rfl, rfl, trivial⟩ hid
  · have h17 := (of_decide_eq_false hb)
    clear hb
    refine xt ?_
    refine xS ?_
    refine xS ?_
    refine xB ?_
    refine nS ?_
    refine sq ?_
    refine rgd rfl [0, 1, 2, 3, 4, 5, 6, 7, 8, 9, 10, 11, 12, 13, 14, 15] [] [] [] (by kernel_rfl) ?_
    refine dst rfl rfl (mv rfl) rfl ?_
    refine dst rfl rfl (mv rfl) rfl ?_
    refine dst rfl rfl (mv rfl) rfl ?_
    refine dst rfl rfl (lt rfl rfl) rfl ?_
    refine dst rfl rfl (mv rfl) rfl ?_
    refine dspl (fun hb => ?_) (fun hb => ?_)
    · have h39 := (of_decide_eq_true hb)
      clear hb
      refine dgT rfl rfl rfl rfl (mv rfl) rfl ?_
      refine dgT rfl rfl rfl rfl (mv rfl) rfl ?_
      refine dgT rfl rfl rfl rfl (mv rfl) rfl ?_
      refine diaSg rfl rfl rfl rfl U161 T160 hv rfl rfl (by omega) (by omega) rfl ?_; intro b8_8 p8_8 y8_8 u8_8 e8_8 c8_8 n8_8 q8_8
      obtain rfl := q8_8
      clear n8_8
      refine dgT rfl rfl rfl rfl (lm1 0 T160 c8_8 Hm.m rfl rfl rfl) rfl ?_
      refine dgT rfl rfl rfl rfl (loa (vs := [_, _]) T59 rfl rfl rfl) rfl ?_
      refine dgT rfl rfl rfl rfl (cl0 C158 (show Callee1 _ _ _ [] [] from rfl) rfl (fun _ hw => by obtain ⟨nd, W, he, hc⟩ := hel y8_8 (List.mem_of_getElem? e8_8); have := higher_c (x := x) (n := nd) hw (hc.mono Hm.m); rw [he] at this; exact this)) rfl ?_
      refine dgT rfl rfl rfl rfl (eq rfl rfl) rfl ?_
      refine dst rfl rfl (pkT rfl rfl) rfl ?_
      refine dst rfl rfl (asg rfl) rfl ?_
      refine dst rfl rfl (asg rfl) rfl ?_
      refine dend rfl ?_
      refine nl ?_
      refine nS ?_
      refine rt ?_
      exact ret2 rfl rfl rfl (bs_yes (posOf_at (i := i.toNat) (by omega) j2 (fun a k ha hk => j3 a k (by omega) hk)) (by omega) e8_8) o0
    · have h39 := (of_decide_eq_false hb)
      clear hb
      refine dgF rfl rfl rfl rfl rfl ?_
      refine dgF rfl rfl rfl rfl rfl ?_
      refine dgF rfl rfl rfl rfl rfl ?_
      refine dgF rfl rfl rfl rfl rfl ?_
      refine dgF rfl rfl rfl rfl rfl ?_
      refine dgF rfl rfl rfl rfl rfl ?_
      refine dgF rfl rfl rfl rfl rfl ?_
      refine dgF rfl rfl rfl rfl rfl ?_
      refine dst rfl rfl (pkF rfl rfl) rfl ?_
      refine dst rfl rfl (asg rfl) rfl ?_
      refine dst rfl rfl (asg rfl) rfl ?_
      refine dend rfl ?_
      refine nl ?_
      refine nS ?_
      refine rt ?_
      exact ret2 rfl rfl rfl (bs_no (posOf_at (i := i.toNat) (by omega) j2 (fun a k ha hk => j3 a k (by omega) hk)) (by omega) h39) o0
end Go.W
/- Walks. Written by a program of mine. -/
namespace Go.W
open Go Go.Proofs.Tryz
theorem ovl_run (args : Array Value) (w : World) : (callFunc 183 args).run prog w = ((Extern.SlicesOverlaps.overlaps #[161, 161] #[4] args).run prog w).andThen fun v w' => .ok (.value v) w' := run_callFunc_extern func183 (by kernel_rfl) (by kernel_rfl) (by kernel_rfl) (by kernel_rfl) args w

set_option maxRecDepth 20000 in
set_option maxHeartbeats 1000000 in
theorem insB_c {M : Mem} {w : World} {k n cap vb i : Nat} {cs : List Value} {pv : Value} {eV : TypeId} (hM : RO M [(k, .cells cs.toArray 160 (0, 0))] w) (hcl : cap ≤ cs.length) (hn : n ≤ cap) (hi : i ≤ n) (hb : n ≤ 100000000) (hf : (cs.take n).all flat = true) (hV : M vb (.cells [pv].toArray eV (0, 0))) (hpv : flat pv = true) : FnC prog 159 [.slice (some ⟨k, 0, none⟩) n cap, .int .i64 (i : Int), .slice (some ⟨vb, 0, none⟩) 1 1] w [(k, .cells cs.toArray 160 (0, 0))] (fun u o => OS o 160 1 u ((cs.take n).take i ++ [pv] ++ (cs.take n).drop i)) := by
  have hne : k ≠ vb := hM.not vb _ hV (k, .cells cs.toArray 160 (0, 0)) (by simp)
  refine enter (code := _) func159 rfl 95 rfl rfl hM [[(k, .cells cs.toArray 160 (0, 0))]] (by simp) [(0, _), (1, _), (2, _)] ⟨rfl, rfl, rfl, trivial⟩ ?_
  refine sq ?_
  refine rg ?_
  refine st (asg rfl) rfl ?_
  refine nl ?_
  refine nS ?_
  refine sq ?_
  refine rg ?_
  refine st (mv rfl) rfl ?_
  refine st (mv rfl) rfl ?_
  refine st (slAny U161 T160 rfl rfl hi) rfl ?_
  refine nl ?_
  refine nS ?_
  refine sq ?_
  refine rg ?_
  refine st (mv rfl) rfl ?_
  refine st (ln U161 rfl) rfl ?_
  refine st (asg rfl) rfl ?_
  refine nl ?_
  refine nS ?_
  refine sq ?_
  refine sq ?_
  refine rg ?_
  refine st (mv rfl) rfl ?_
  refine st (eq rfl rfl) rfl ?_
  refine nl ?_
  refine nS ?_
  refine cd rfl (fun hb => ?_) (fun hb => ?_)
  · have h16 := (eq_of_beq hb)
    clear hb
    refine sq ?_
    refine rg ?_
    refine st (mv rfl) rfl ?_
    refine st (asg rfl) rfl ?_
    refine nl ?_
    refine nS ?_
    refine rt ?_
    refine rS ?_
    exact ret1 rfl rfl (absurd h16 (by omega)) o1
  · have h16 := (ne_of_beqF hb)
    clear hb
    refine sk ?_
    refine nS ?_
    refine sq ?_
    refine rg ?_
    refine st (mv rfl) rfl ?_
    refine st (ln U161 rfl) rfl ?_
    refine st (asg rfl) rfl ?_
    refine nl ?_
    refine nS ?_
    refine sq ?_
    refine sq ?_
    refine rg ?_
    refine st (mv rfl) rfl ?_
    refine st (mv rfl) rfl ?_
    refine st (eq rfl rfl) rfl ?_
    refine nl ?_
    refine nS ?_
    refine cd rfl (fun hb => ?_) (fun hb => ?_)
    · have h22 := (eq_of_beq hb)
      clear hb
      refine sq ?_
      refine rg ?_
      refine st (mv rfl) rfl ?_
      refine st (mv rfl) rfl ?_
      refine ap U161 U161 T160 rfl rfl rfl rfl rfl rfl (.inr ⟨k, n, cap, cs, rfl, rfl, by omega, (by rw [Nat.mul_one]), hn, hf⟩ : OS [(k, .cells cs.toArray 160 (0, 0))] 160 1 (.slice (some ⟨k, 0, none⟩) n cap) (cs.take n)) ((srcO (cs := [pv]) (ys := [pv]) (o := 0) (n := 1) hV rfl (by simp)).mono Hm.m) (allc hpv rfl) (by simp; omega) rfl ?_; intro vv oo qq
      refine st (asg rfl) rfl ?_
      refine nl ?_
      refine nS ?_
      refine rt ?_
      refine rS ?_
      exact ret1 rfl rfl (qq.cast (ins_end (by omega) (by omega))) o1
    · have h22 := (ne_of_beqF hb)
      clear hb
      refine sk ?_
      refine nS ?_
      refine sq ?_
      refine sq ?_
      refine rg ?_
      refine st (mv rfl) rfl ?_
      refine st (mv rfl) rfl ?_
      refine st (ad rfl rfl (by omega)) rfl ?_
      refine st (mv rfl) rfl ?_
      refine st (cp_ U161 rfl) rfl ?_
      refine st (gt rfl rfl) rfl ?_
      refine nl ?_
      refine nS ?_
      refine cd rfl (fun hb => ?_) (fun hb => ?_)
      · have h31 := (of_decide_eq_true hb)
        clear hb
        refine sq ?_
        refine rg ?_
        refine st (mv rfl) rfl ?_
        refine st (mv rfl) rfl ?_
        refine st (slH U161 T160 rfl rfl (by omega)) rfl ?_
        refine st (mv rfl) rfl ?_
        refine st (mv rfl) rfl ?_
        refine st (ad rfl rfl (by omega)) rfl ?_
        refine st (mv rfl) rfl ?_
        refine st (sb rfl rfl (by omega)) rfl ?_
        refine cv (u := .int .i64 ((n + 1 - i : Nat) : Int)) (congrArg (Value.int .i64) (by omega)) ?_
        refine apz (n := i) (m := n + 1 - i) (xs := cs.take i) U161 U3 T160 rfl rfl rfl rfl rfl (srcO (o := 0) (Hm.i0 _ _ imS) (by simp) (by omega)) (by omega) (by omega) (by omega) rfl ?_; intro nb nc ws hnc hws
        refine st (asg rfl) rfl ?_
        refine nl ?_
        refine nS ?_
        refine sq ?_
        refine rg ?_
        refine st (mv rfl) rfl ?_
        refine st (mv rfl) rfl ?_
        refine st (slL U161 T160 rfl rfl (by omega) (by omega)) rfl ?_
        refine st (mv rfl) rfl ?_
        refine cpy (mn := 1) (ys := [pv]) U161 T160 rfl rfl (by omega) ((srcO (cs := [pv]) (ys := [pv]) (o := 0) (n := 1) hV rfl (by simp)).mono Hm.m) (by simp; omega) (allc hpv rfl) rfl rfl ?_
        refine nl ?_
        refine nS ?_
        refine sq ?_
        refine rgd rfl [0, 1, 2, 3, 4, 5, 6, 7] [] [8] [] (by kernel_rfl) ?_
        refine dst rfl rfl (mv rfl) rfl ?_
        refine dst rfl rfl (mv rfl) rfl ?_
        refine dst rfl rfl (mv rfl) rfl ?_
        refine dst rfl rfl (ad rfl rfl (by omega)) rfl ?_
        refine dcv (u := .int .i64 ((i + 1 : Nat) : Int)) (congrArg (Value.int .i64) (by omega)) ?_
        refine dst rfl rfl (slL U161 T160 rfl rfl (by omega) (by omega)) rfl ?_
        refine dst rfl rfl (mv rfl) rfl ?_
        refine dst rfl rfl (mv rfl) rfl ?_
        refine dst rfl rfl (slL U161 T160 rfl rfl (by omega) (by omega)) rfl ?_
        refine dend rfl ?_
        refine cpy (mn := n - i) (ys := (cs.drop i).take (n - i)) U161 T160 rfl rfl (by omega) (srcO (Hm.i1 _ _ imS) (by rw [Nat.zero_add, Nat.mul_one]) (by omega)) (by rw [setL_length]; simp; omega) (ins_flat2 hf) rfl rfl ?_
        refine nl ?_
        refine nS ?_
        refine sq ?_
        refine rg ?_
        refine st (mv rfl) rfl ?_
        refine st (asg rfl) rfl ?_
        refine nl ?_
        refine nS ?_
        refine rt ?_
        refine rS ?_
        exact ret1 rfl rfl (.inr ⟨nb, n + 1, nc, _, (by show Value.slice _ _ _ = _; rw [show i + (n + 1 - i) = n + 1 by omega]), rfl, (by rw [setL_length, setL_length, List.length_append, hws]; simp; omega), (by simp only [Nat.zero_add, Nat.mul_one]; exact (ins_grow (cv := pv) (cs := cs) (ws := ws) (i := i) (n := n) (by omega) (by omega) (by rw [hws]; omega)).symm), (by omega), ins_flat hf hpv⟩) o1
      · have h31 := (of_decide_eq_false hb)
        clear hb
        refine sk ?_
        refine nS ?_
        refine sq ?_
        refine rg ?_
        refine st (mv rfl) rfl ?_
        refine st (mv rfl) rfl ?_
        refine st (mv rfl) rfl ?_
        refine st (ad rfl rfl (by omega)) rfl ?_
        refine cv (u := .int .i64 ((n + 1 : Nat) : Int)) (congrArg (Value.int .i64) (by omega)) ?_
        refine st (slH U161 T160 rfl rfl (by omega)) rfl ?_
        refine st (asg rfl) rfl ?_
        refine nl ?_
        refine nS ?_
        refine sq ?_
        refine sq ?_
        refine rg ?_
        refine st (mv rfl) rfl ?_
        refine st (mv rfl) rfl ?_
        refine st (mv rfl) rfl ?_
        refine st (mv rfl) rfl ?_
        refine st (ad rfl rfl (by omega)) rfl ?_
        refine cv (u := .int .i64 ((i + 1 : Nat) : Int)) (congrArg (Value.int .i64) (by omega)) ?_
        refine st (slL U161 T160 rfl rfl (by omega) (by omega)) rfl ?_
        refine st (ovl ovl_run U161 T160 rfl rfl hne.symm (Hm.m _ _ hV) (Hm.i0 _ _ imS) (by rw [List.size_toArray]; omega)) rfl ?_
        refine st (nt rfl) rfl ?_
        refine nl ?_
        refine nS ?_
        refine cdT rfl ?_
        refine sq ?_
        refine rgd rfl [0, 1, 2, 3, 4, 5, 6, 7] [] [8] [] (by kernel_rfl) ?_
        refine dst rfl rfl (mv rfl) rfl ?_
        refine dst rfl rfl (mv rfl) rfl ?_
        refine dst rfl rfl (mv rfl) rfl ?_
        refine dst rfl rfl (ad rfl rfl (by omega)) rfl ?_
        refine dcv (u := .int .i64 ((i + 1 : Nat) : Int)) (congrArg (Value.int .i64) (by omega)) ?_
        refine dst rfl rfl (slL U161 T160 rfl rfl (by omega) (by omega)) rfl ?_
        refine dst rfl rfl (mv rfl) rfl ?_
        refine dst rfl rfl (mv rfl) rfl ?_
        refine dst rfl rfl (slL U161 T160 rfl rfl (by omega) (by omega)) rfl ?_
        refine dend rfl ?_
        refine cpy (mn := n - i) (ys := (cs.drop i).take (n - i)) (cs' := setL cs (i + 1) ((cs.drop i).take (n - i))) U161 T160 rfl rfl (by omega) (srcO (Hm.i0 _ _ imS) (by rw [Nat.zero_add, Nat.mul_one]) (by omega)) (by simp; omega) (ins_flat2 hf) (by rw [Nat.zero_add, Nat.mul_one]) rfl ?_
        refine nl ?_
        refine nS ?_
        refine sq ?_
        refine rg ?_
        refine st (mv rfl) rfl ?_
        refine st (mv rfl) rfl ?_
        refine st (slL U161 T160 rfl rfl (by omega) (by omega)) rfl ?_
        refine st (mv rfl) rfl ?_
        refine cpy (mn := 1) (ys := [pv]) (cs' := setL (setL cs (i + 1) ((cs.drop i).take (n - i))) i [pv]) U161 T160 rfl rfl (by omega) ((srcO (cs := [pv]) (ys := [pv]) (o := 0) (n := 1) hV rfl (by simp)).mono Hm.m) (by rw [setL_length]; simp; omega) (allc hpv rfl) (by rw [Nat.zero_add, Nat.mul_one]) rfl ?_
        refine nl ?_
        refine nS ?_
        refine sq ?_
        refine rg ?_
        refine st (mv rfl) rfl ?_
        refine st (asg rfl) rfl ?_
        refine nl ?_
        refine nS ?_
        refine rt ?_
        refine rS ?_
        exact ret1 rfl rfl (.inr ⟨k, n + 1, cap, _, rfl, rfl, (by rw [setL_length, setL_length]; omega), (by rw [Nat.mul_one]; exact (ins_room (by omega) (by omega)).symm), (by omega), ins_flat hf hpv⟩) o1

set_option maxRecDepth 20000 in
theorem insN_c {M : Mem} {w : World} {vb : Nat} {pv : Value} {eV : TypeId} (hM : RO M [] w) (hV : M vb (.cells [pv].toArray eV (0, 0))) (hpv : flat pv = true) : FnC prog 159 [.slice none 0 0, .int .i64 ((0 : Nat) : Int), .slice (some ⟨vb, 0, none⟩) 1 1] w [] (fun u o => OS o 160 1 u [pv]) := by
  refine enter (code := _) func159 rfl 95 rfl rfl hM [] rfl [(0, _), (1, _), (2, _)] ⟨rfl, rfl, rfl, trivial⟩ ?_
  refine sq ?_
  refine rg ?_
  refine st (asg rfl) rfl ?_
  refine nl ?_
  refine nS ?_
  refine sq ?_
  refine rg ?_
  refine st (mv rfl) rfl ?_
  refine st (mv rfl) rfl ?_
  refine st (slAny U161 T160 rfl rfl (Nat.zero_le 0)) rfl ?_
  refine nl ?_
  refine nS ?_
  refine sq ?_
  refine rg ?_
  refine st (mv rfl) rfl ?_
  refine st (ln U161 rfl) rfl ?_
  refine st (asg rfl) rfl ?_
  refine nl ?_
  refine nS ?_
  refine sq ?_
  refine sq ?_
  refine rg ?_
  refine st (mv rfl) rfl ?_
  refine st (eq rfl rfl) rfl ?_
  refine nl ?_
  refine nS ?_
  refine cd rfl (fun hb => ?_) (fun hb => ?_)
  · have h16 := (eq_of_beq hb)
    clear hb
    exact absurd h16 (by omega)
  · have h16 := (ne_of_beqF hb)
    clear hb
    refine sk ?_
    refine nS ?_
    refine sq ?_
    refine rg ?_
    refine st (mv rfl) rfl ?_
    refine st (ln U161 rfl) rfl ?_
    refine st (asg rfl) rfl ?_
    refine nl ?_
    refine nS ?_
    refine sq ?_
    refine sq ?_
    refine rg ?_
    refine st (mv rfl) rfl ?_
    refine st (mv rfl) rfl ?_
    refine st (eq rfl rfl) rfl ?_
    refine nl ?_
    refine nS ?_
    refine cd rfl (fun hb => ?_) (fun hb => ?_)
    · have h22 := (eq_of_beq hb)
      clear hb
      refine sq ?_
      refine rg ?_
      refine st (mv rfl) rfl ?_
      refine st (mv rfl) rfl ?_
      refine ni ?_
      refine ap U161 U161 T160 rfl rfl rfl rfl rfl rfl (OS.nil _ _) ((srcO (cs := [pv]) (ys := [pv]) (o := 0) (n := 1) hV rfl (by simp)).mono Hm.m) (allc hpv rfl) (by simp) rfl ?_; intro vv oo qq
      refine st (asg rfl) rfl ?_
      refine nl ?_
      refine nS ?_
      refine rt ?_
      refine rS ?_
      exact ret1 rfl rfl qq o1
    · have h22 := (ne_of_beqF hb)
      clear hb
      exact absurd rfl h22

theorem ins_c {M : Mem} {w : World} {o : Own} {V : Value} {cells : List Value} {i vb : Nat} {pv : Value} {eV : TypeId} (hM : RO M o w) (hO : OS o 160 1 V cells) (hi : i ≤ cells.length) (hb : cells.length ≤ 100000000) (hV : M vb (.cells [pv].toArray eV (0, 0))) (hpv : flat pv = true) :
    FnC prog 159 [V, .int .i64 (i : Int), .slice (some ⟨vb, 0, none⟩) 1 1] w o (fun u o => OS o 160 1 u (cells.take i ++ [pv] ++ cells.drop i)) := by
  rcases hO with ⟨rfl, rfl, rfl⟩ | ⟨k, n, cap, cs, rfl, rfl, h3, h4, h5, h6⟩
  · have : i = 0 := by simpa using hi
    subst this
    exact insN_c hM hV hpv
  · have hl : cells.length = n := by rw [h4, List.length_take]; omega
    rw [Nat.mul_one] at h4
    subst h4
    exact insB_c hM (by omega) h5 (by omega) (by omega) h6 hV hpv
end Go.W
/- Walks. Written by a program of mine. -/
namespace Go.W
open Go Go.Proofs.Tryz
set_option maxRecDepth 20000 in
set_option maxHeartbeats 1000000 in
theorem putA_c {M : Mem} {w : World} {d : TD} {n : Nd} {V0 : Value} {ov rest : Own} {ks : List ID} {adr : ID → Nat} {kvs : List (ID × Value)} (hM : RO M ([(d.T, .cells (List.toArray [V0, .map none]) 187 (0, 0))] ++ (ov ++ rest)) w) (hO : OS ov 160 1 V0 (ks.map fun k => pt (adr k) 0)) (hel : Els (Im rest) adr ks) (hs : ks.Pairwise above) (hks : ks.length ≤ 100000000) (hr : n.ref = z0) (hni : n.id ∉ kvs.map (·.1)) (hk0 : kvs = []) : FnC prog 130 [pt d.T 0, .agg #[.int .i64 n.id.time, .int .i64 n.id.site, .int .i64 n.ref.time, .int .i64 n.ref.site, .int .i32 n.rune, .int .i64 n.state]] w ([(d.T, .cells (List.toArray [V0, .map none]) 187 (0, 0))] ++ (ov ++ rest)) (fun _ o => ∃ mb' mob' b V' ov', Mp encI mob' (kvs ++ [(n.id, pt b 0)]) ∧ OS ov' 160 1 V' ((ks.map fun k => pt (adr k) 0).take (posOf n.id ks) ++ [pt b 0] ++ (ks.map fun k => pt (adr k) 0).drop (posOf n.id ks)) ∧ o = [(d.T, .cells (List.toArray [V', .map (some mb')]) 187 (0, 0))] ++ ([(mb', mob')] ++ (ov' ++ (rest ++ [(b, .cells (List.toArray [.int .i64 n.id.time, .int .i64 n.id.site, .int .i64 n.ref.time, .int .i64 n.ref.site, .int .i32 n.rune, .int .i64 n.state, .slice none 0 0]) 163 (0, 0))])))) := by
  subst hk0
  refine enter (code := _) func130 rfl 49 rfl rfl hM [[(d.T, .cells (List.toArray [V0, .map none]) 187 (0, 0))], ov, rest] (by simp) [(0, _), (1, _)] ⟨rfl, rfl, trivial⟩ ?_
  refine sq ?_
  refine rg ?_
  refine bx (z := [_, _, _, _, _, _]) rfl rfl rfl ?_; intro b0_0
  refine nl ?_
  refine nS ?_
  refine sq ?_
  refine sq ?_
  refine rg ?_
  refine st (mv rfl) rfl ?_
  refine st (nk rfl) rfl ?_
  refine st (fa (o3 := 1) F187_1 rfl rfl) rfl ?_
  refine st (w1 (lo1 T185 rfl rfl)) rfl ?_
  refine st (eqv rfl rfl rfl gd_map (fun w => eq_map U185 _ w)) rfl ?_
  refine nl ?_
  refine nS ?_
  refine cdT rfl ?_
  refine rg ?_
  refine st (mv rfl) rfl ?_
  refine mm rfl ?_; intro mb
  refine st (nk rfl) rfl ?_
  refine st (fa (o3 := 1) F187_1 rfl rfl) rfl ?_
  refine r2 ?_
  refine sto (cs' := [_, _]) (vs := [_]) T185 rfl rfl rfl rfl rfl (Nat.le_of_ble_eq_true rfl) rfl ?_
  refine nl ?_
  refine nS ?_
  refine sq ?_
  refine rg ?_
  refine st (mv rfl) rfl ?_
  refine st (fa (o3 := 2) F84_1 rfl rfl) rfl ?_
  refine st (w2 (loa (vs := [_, _]) T59 rfl rfl rfl)) rfl ?_
  refine cv (u := .agg #[.int .i64 0, .int .i64 0]) (v_ref0 hr) ?_
  refine st (cl0 C112 (fnc _) rfl (fun _ hw => list0_c (T := d.T) hw)) rfl ?_
  refine st (asg rfl) rfl ?_
  refine nl ?_
  refine nS ?_
  refine sq ?_
  refine rgd rfl [0, 1, 2, 3, 4, 5, 6, 7, 8, 9, 10] [] [] [] (by kernel_rfl) ?_
  refine dst rfl rfl (mv rfl) rfl ?_
  refine dst rfl rfl (nk rfl) rfl ?_
  refine dst rfl rfl (lo1 T161 rfl rfl) rfl ?_
  refine dst rfl rfl (fa (o3 := 0) F84_0 rfl rfl) rfl ?_
  refine dst rfl rfl (w2 (loa (vs := [_, _]) T59 rfl rfl rfl)) rfl ?_
  refine dst rfl rfl (cl0 C157 (fnc _) rfl (fun _ hw => bs_c (x := n.id) (adr := adr) hw (((by have h2 := hO; rw [show (ks.map fun k => pt (adr k) 0) = ks.flatMap fun k => [pt (adr k) 0] from map_flat _ _] at h2; exact h2.sl (by decide) (fun _ => rfl) (by omega) (fun _ _ => rfl)) : Sl (Im ov) 1 (RPt adr) V0 ks).mono mPt Hm.i3) (hel.mono Hm.i4) hs)) rfl ?_
  refine dst rfl rfl (mv rfl) rfl ?_
  refine dst rfl rfl (xc rfl rfl) rfl ?_
  refine dst rfl rfl (xc rfl rfl) rfl ?_
  refine dst rfl rfl (asg rfl) rfl ?_
  refine dst rfl rfl (asg rfl) rfl ?_
  refine dend rfl ?_
  refine nl ?_
  refine nS ?_
  refine sq ?_
  refine rg ?_
  refine st (w2 (loa (vs := [_, _, _, _, _, _]) T84 rfl rfl rfl)) rfl ?_
  refine st (bd (cs := [_, _, _, _, _, _, _]) [(0, [_, _, _, _, _, _])] T163 Pl163 ⟨rfl, ⟨_, rfl, rfl⟩, trivial⟩ rfl) rfl ?_
  refine bx (z := [_, _, _, _, _, _, _]) rfl rfl rfl ?_; intro b5_2
  refine st (asg rfl) rfl ?_
  refine nl ?_
  refine nS ?_
  refine sq ?_
  refine rg ?_
  refine st (mv rfl) rfl ?_
  refine st (mv rfl) rfl ?_
  refine st (nk rfl) rfl ?_
  refine st (w1 (lo1 T161 rfl rfl)) rfl ?_
  refine st (mv rfl) rfl ?_
  refine st (mv rfl) rfl ?_
  refine bs (parts := [_]) (cs := [_]) [_] [(0, [_])] U161 T160 rfl rfl rfl rfl ⟨rfl, ⟨_, rfl, rfl⟩, trivial⟩ rfl rfl ?_; intro b6_6
  refine r5 ?_
  refine cl C159 (fnc _) rfl (fun _ hw => ins_c (eV := 160) hw hO (by rw [List.length_map]; exact posOf_le n.id ks) (by rw [List.length_map]; omega) (Hm.i0 _ _ imS) rfl) rfl ?_; intro V' ov' hO'
  refine st (nk rfl) rfl ?_
  refine r3 ?_
  refine sto (cs' := [_, _]) (vs := [_]) T161 rfl rfl hO'.cells rfl (allc hO'.isSl rfl) (Nat.le_of_ble_eq_true rfl) rfl ?_
  refine nl ?_
  refine nS ?_
  refine rgd rfl [0, 1, 2, 3, 4, 5, 6] [] [7] [] (by kernel_rfl) ?_
  refine dst rfl rfl (mv rfl) rfl ?_
  refine dst rfl rfl (nk rfl) rfl ?_
  refine dst rfl rfl (fa (o3 := 1) F187_1 rfl rfl) rfl ?_
  refine dst rfl rfl (lo1 T185 rfl rfl) rfl ?_
  refine dst rfl rfl (fa (o3 := 0) F84_0 rfl rfl) rfl ?_
  refine dst rfl rfl (w5 (loa (vs := [_, _]) T59 rfl rfl rfl)) rfl ?_
  refine dst rfl rfl (mv rfl) rfl ?_
  refine dend rfl ?_
  refine r4 ?_
  refine mu (u := n.id) U185 K59 (Mp.nil encI 0) rfl rfl rfl rfl ?_; intro mob' hmp'
  refine nl ?_
  exact ret0 (.inr rfl) rfl ⟨mb, mob', _, V', ov', (by rw [← setK_none hni]; exact hmp'), hO', rfl⟩ (oSP (h' := [_, _, _, _, _]) (.cons_cons _ (.cons_cons _ (.cons_cons _ (.cons _ (.cons_cons _ (.cons _ (.cons_cons _ .slnil))))))) (perm_ct fun x => by simp only [List.flatten_cons, List.flatten_nil, ct_app, ct_nil]; omega))

set_option maxRecDepth 20000 in
set_option maxHeartbeats 1000000 in
theorem putB_c {M : Mem} {w : World} {d : TD} {n : Nd} {mb : Nat} {mob : Obj} {V0 : Value} {ov rest : Own} {ks : List ID} {adr : ID → Nat} {kvs : List (ID × Value)} (hM : RO M ([(d.T, .cells (List.toArray [V0, .map (some mb)]) 187 (0, 0))] ++ ([(mb, mob)] ++ (ov ++ rest))) w) (hO : OS ov 160 1 V0 (ks.map fun k => pt (adr k) 0)) (hel : Els (Im rest) adr ks) (hs : ks.Pairwise above) (hks : ks.length ≤ 100000000) (hmp : Mp encI mob kvs) (hr : n.ref = z0) (hni : n.id ∉ kvs.map (·.1)) : FnC prog 130 [pt d.T 0, .agg #[.int .i64 n.id.time, .int .i64 n.id.site, .int .i64 n.ref.time, .int .i64 n.ref.site, .int .i32 n.rune, .int .i64 n.state]] w ([(d.T, .cells (List.toArray [V0, .map (some mb)]) 187 (0, 0))] ++ ([(mb, mob)] ++ (ov ++ rest))) (fun _ o => ∃ mb' mob' b V' ov', Mp encI mob' (kvs ++ [(n.id, pt b 0)]) ∧ OS ov' 160 1 V' ((ks.map fun k => pt (adr k) 0).take (posOf n.id ks) ++ [pt b 0] ++ (ks.map fun k => pt (adr k) 0).drop (posOf n.id ks)) ∧ o = [(d.T, .cells (List.toArray [V', .map (some mb')]) 187 (0, 0))] ++ ([(mb', mob')] ++ (ov' ++ (rest ++ [(b, .cells (List.toArray [.int .i64 n.id.time, .int .i64 n.id.site, .int .i64 n.ref.time, .int .i64 n.ref.site, .int .i32 n.rune, .int .i64 n.state, .slice none 0 0]) 163 (0, 0))])))) := by
  refine enter (code := _) func130 rfl 49 rfl rfl hM [[(d.T, .cells (List.toArray [V0, .map (some mb)]) 187 (0, 0))], [(mb, mob)], ov, rest] (by simp) [(0, _), (1, _)] ⟨rfl, rfl, trivial⟩ ?_
  refine sq ?_
  refine rg ?_
  refine bx (z := [_, _, _, _, _, _]) rfl rfl rfl ?_; intro b0_0
  refine nl ?_
  refine nS ?_
  refine sq ?_
  refine sq ?_
  refine rg ?_
  refine st (mv rfl) rfl ?_
  refine st (nk rfl) rfl ?_
  refine st (fa (o3 := 1) F187_1 rfl rfl) rfl ?_
  refine st (w1 (lo1 T185 rfl rfl)) rfl ?_
  refine st (eqv rfl rfl rfl gd_map (fun w => eq_map U185 _ w)) rfl ?_
  refine nl ?_
  refine nS ?_
  refine cdF rfl ?_
  refine sk ?_
  refine nS ?_
  refine sq ?_
  refine rg ?_
  refine st (mv rfl) rfl ?_
  refine st (fa (o3 := 2) F84_1 rfl rfl) rfl ?_
  refine st (loa (vs := [_, _]) T59 rfl rfl rfl) rfl ?_
  refine cv (u := .agg #[.int .i64 0, .int .i64 0]) (v_ref0 hr) ?_
  refine st (cl0 C112 (fnc _) rfl (fun _ hw => list0_c (T := d.T) hw)) rfl ?_
  refine st (asg rfl) rfl ?_
  refine nl ?_
  refine nS ?_
  refine sq ?_
  refine rgd rfl [0, 1, 2, 3, 4, 5, 6, 7, 8, 9, 10] [] [] [] (by kernel_rfl) ?_
  refine dst rfl rfl (mv rfl) rfl ?_
  refine dst rfl rfl (nk rfl) rfl ?_
  refine dst rfl rfl (w1 (lo1 T161 rfl rfl)) rfl ?_
  refine dst rfl rfl (fa (o3 := 0) F84_0 rfl rfl) rfl ?_
  refine dst rfl rfl (loa (vs := [_, _]) T59 rfl rfl rfl) rfl ?_
  refine dst rfl rfl (cl0 C157 (fnc _) rfl (fun _ hw => bs_c (x := n.id) (adr := adr) hw (((by have h2 := hO; rw [show (ks.map fun k => pt (adr k) 0) = ks.flatMap fun k => [pt (adr k) 0] from map_flat _ _] at h2; exact h2.sl (by decide) (fun _ => rfl) (by omega) (fun _ _ => rfl)) : Sl (Im ov) 1 (RPt adr) V0 ks).mono mPt Hm.i3) (hel.mono Hm.i4) hs)) rfl ?_
  refine dst rfl rfl (mv rfl) rfl ?_
  refine dst rfl rfl (xc rfl rfl) rfl ?_
  refine dst rfl rfl (xc rfl rfl) rfl ?_
  refine dst rfl rfl (asg rfl) rfl ?_
  refine dst rfl rfl (asg rfl) rfl ?_
  refine dend rfl ?_
  refine nl ?_
  refine nS ?_
  refine sq ?_
  refine rg ?_
  refine st (loa (vs := [_, _, _, _, _, _]) T84 rfl rfl rfl) rfl ?_
  refine st (bd (cs := [_, _, _, _, _, _, _]) [(0, [_, _, _, _, _, _])] T163 Pl163 ⟨rfl, ⟨_, rfl, rfl⟩, trivial⟩ rfl) rfl ?_
  refine bx (z := [_, _, _, _, _, _, _]) rfl rfl rfl ?_; intro b5_2
  refine st (asg rfl) rfl ?_
  refine nl ?_
  refine nS ?_
  refine sq ?_
  refine rg ?_
  refine st (mv rfl) rfl ?_
  refine st (mv rfl) rfl ?_
  refine st (nk rfl) rfl ?_
  refine st (w2 (lo1 T161 rfl rfl)) rfl ?_
  refine st (mv rfl) rfl ?_
  refine st (mv rfl) rfl ?_
  refine bs (parts := [_]) (cs := [_]) [_] [(0, [_])] U161 T160 rfl rfl rfl rfl ⟨rfl, ⟨_, rfl, rfl⟩, trivial⟩ rfl rfl ?_; intro b6_6
  refine r5 ?_
  refine cl C159 (fnc _) rfl (fun _ hw => ins_c (eV := 160) hw hO (by rw [List.length_map]; exact posOf_le n.id ks) (by rw [List.length_map]; omega) (Hm.i0 _ _ imS) rfl) rfl ?_; intro V' ov' hO'
  refine st (nk rfl) rfl ?_
  refine r4 ?_
  refine sto (cs' := [_, _]) (vs := [_]) T161 rfl rfl hO'.cells rfl (allc hO'.isSl rfl) (Nat.le_of_ble_eq_true rfl) rfl ?_
  refine nl ?_
  refine nS ?_
  refine rgd rfl [0, 1, 2, 3, 4, 5, 6] [] [7] [] (by kernel_rfl) ?_
  refine dst rfl rfl (mv rfl) rfl ?_
  refine dst rfl rfl (nk rfl) rfl ?_
  refine dst rfl rfl (fa (o3 := 1) F187_1 rfl rfl) rfl ?_
  refine dst rfl rfl (lo1 T185 rfl rfl) rfl ?_
  refine dst rfl rfl (fa (o3 := 0) F84_0 rfl rfl) rfl ?_
  refine dst rfl rfl (w4 (loa (vs := [_, _]) T59 rfl rfl rfl)) rfl ?_
  refine dst rfl rfl (mv rfl) rfl ?_
  refine dend rfl ?_
  refine r5 ?_
  refine mu (u := n.id) U185 K59 hmp rfl rfl rfl rfl ?_; intro mob' hmp'
  refine nl ?_
  exact ret0 (.inr rfl) rfl ⟨mb, mob', _, V', ov', (by rw [← setK_none hni]; exact hmp'), hO', rfl⟩ (oSP (h' := [_, _, _, _, _]) (.cons_cons _ (.cons_cons _ (.cons_cons _ (.cons _ (.cons_cons _ (.cons _ (.cons_cons _ .slnil))))))) (perm_ct fun x => by simp only [List.flatten_cons, List.flatten_nil, ct_app, ct_nil]; omega))

set_option maxRecDepth 20000 in
set_option maxHeartbeats 1000000 in
theorem putC_c {M : Mem} {w : World} {d : TD} {n m : Nd} {mb : Nat} {mob : Obj} {V0 W : Value} {ov rest : Own} {ks : List ID} {adr : ID → Nat} {kvs : List (ID × Value)} (hM : RO M ([(d.T, .cells (List.toArray [V0, .map (some mb)]) 187 (0, 0))] ++ ([(mb, mob)] ++ ([(d.ad m.id, .cells (List.toArray [.int .i64 m.id.time, .int .i64 m.id.site, .int .i64 m.ref.time, .int .i64 m.ref.site, .int .i32 m.rune, .int .i64 m.state, W]) 163 (0, 0))] ++ (ov ++ rest)))) w) (hO : OS ov 160 1 W (ks.map fun k => pt (adr k) 0)) (hel : Els (Im rest) adr ks) (hs : ks.Pairwise above) (hks : ks.length ≤ 100000000) (hmp : Mp encI mob kvs) (hkv : kvs = d.nds.map fun n => (n.id, pt (d.ad n.id) 0)) (hmr : n.ref = m.id) (hmi : m.id ∈ d.ids) (hne : m.id ≠ z0) (hni : n.id ∉ kvs.map (·.1)) : FnC prog 130 [pt d.T 0, .agg #[.int .i64 n.id.time, .int .i64 n.id.site, .int .i64 n.ref.time, .int .i64 n.ref.site, .int .i32 n.rune, .int .i64 n.state]] w ([(d.T, .cells (List.toArray [V0, .map (some mb)]) 187 (0, 0))] ++ ([(mb, mob)] ++ ([(d.ad m.id, .cells (List.toArray [.int .i64 m.id.time, .int .i64 m.id.site, .int .i64 m.ref.time, .int .i64 m.ref.site, .int .i32 m.rune, .int .i64 m.state, W]) 163 (0, 0))] ++ (ov ++ rest)))) (fun _ o => ∃ mb' mob' b V' ov', Mp encI mob' (kvs ++ [(n.id, pt b 0)]) ∧ OS ov' 160 1 V' ((ks.map fun k => pt (adr k) 0).take (posOf n.id ks) ++ [pt b 0] ++ (ks.map fun k => pt (adr k) 0).drop (posOf n.id ks)) ∧ o = [(d.T, .cells (List.toArray [V0, .map (some mb')]) 187 (0, 0))] ++ ([(mb', mob')] ++ ([(d.ad m.id, .cells (List.toArray [.int .i64 m.id.time, .int .i64 m.id.site, .int .i64 m.ref.time, .int .i64 m.ref.site, .int .i32 m.rune, .int .i64 m.state, V']) 163 (0, 0))] ++ (ov' ++ (rest ++ [(b, .cells (List.toArray [.int .i64 n.id.time, .int .i64 n.id.site, .int .i64 n.ref.time, .int .i64 n.ref.site, .int .i32 n.rune, .int .i64 n.state, .slice none 0 0]) 163 (0, 0))]))))) := by
  refine enter (code := _) func130 rfl 49 rfl rfl hM [[(d.T, .cells (List.toArray [V0, .map (some mb)]) 187 (0, 0))], [(mb, mob)], [(d.ad m.id, .cells (List.toArray [.int .i64 m.id.time, .int .i64 m.id.site, .int .i64 m.ref.time, .int .i64 m.ref.site, .int .i32 m.rune, .int .i64 m.state, W]) 163 (0, 0))], ov, rest] (by simp) [(0, _), (1, _)] ⟨rfl, rfl, trivial⟩ ?_
  refine sq ?_
  refine rg ?_
  refine bx (z := [_, _, _, _, _, _]) rfl rfl rfl ?_; intro b0_0
  refine nl ?_
  refine nS ?_
  refine sq ?_
  refine sq ?_
  refine rg ?_
  refine st (mv rfl) rfl ?_
  refine st (nk rfl) rfl ?_
  refine st (fa (o3 := 1) F187_1 rfl rfl) rfl ?_
  refine st (w1 (lo1 T185 rfl rfl)) rfl ?_
  refine st (eqv rfl rfl rfl gd_map (fun w => eq_map U185 _ w)) rfl ?_
  refine nl ?_
  refine nS ?_
  refine cdF rfl ?_
  refine sk ?_
  refine nS ?_
  refine sq ?_
  refine rg ?_
  refine st (mv rfl) rfl ?_
  refine st (fa (o3 := 2) F84_1 rfl rfl) rfl ?_
  refine st (loa (vs := [_, _]) T59 rfl rfl rfl) rfl ?_
  refine cv (u := .agg #[.int .i64 m.id.time, .int .i64 m.id.site]) (v_ref1 hmr) ?_
  refine st (cl0 C112 (fnc _) rfl (fun _ hw => list1_c (d := d) (r := m.id) hw (cellsI.mono Hm.i1) (Hm.i2 _ _ imS) (hkv ▸ hmp) hmi hne)) rfl ?_
  refine st (asg rfl) rfl ?_
  refine nl ?_
  refine nS ?_
  refine sq ?_
  refine rgd rfl [0, 1, 2, 3, 4, 5, 6, 7, 8, 9, 10] [] [] [] (by kernel_rfl) ?_
  refine dst rfl rfl (mv rfl) rfl ?_
  refine dst rfl rfl (nk rfl) rfl ?_
  refine dst rfl rfl (w3 (lo1 T161 rfl rfl)) rfl ?_
  refine dst rfl rfl (fa (o3 := 0) F84_0 rfl rfl) rfl ?_
  refine dst rfl rfl (loa (vs := [_, _]) T59 rfl rfl rfl) rfl ?_
  refine dst rfl rfl (cl0 C157 (fnc _) rfl (fun _ hw => bs_c (x := n.id) (adr := adr) hw (((by have h2 := hO; rw [show (ks.map fun k => pt (adr k) 0) = ks.flatMap fun k => [pt (adr k) 0] from map_flat _ _] at h2; exact h2.sl (by decide) (fun _ => rfl) (by omega) (fun _ _ => rfl)) : Sl (Im ov) 1 (RPt adr) W ks).mono mPt Hm.i4) (hel.mono Hm.i5) hs)) rfl ?_
  refine dst rfl rfl (mv rfl) rfl ?_
  refine dst rfl rfl (xc rfl rfl) rfl ?_
  refine dst rfl rfl (xc rfl rfl) rfl ?_
  refine dst rfl rfl (asg rfl) rfl ?_
  refine dst rfl rfl (asg rfl) rfl ?_
  refine dend rfl ?_
  refine nl ?_
  refine nS ?_
  refine sq ?_
  refine rg ?_
  refine st (loa (vs := [_, _, _, _, _, _]) T84 rfl rfl rfl) rfl ?_
  refine st (bd (cs := [_, _, _, _, _, _, _]) [(0, [_, _, _, _, _, _])] T163 Pl163 ⟨rfl, ⟨_, rfl, rfl⟩, trivial⟩ rfl) rfl ?_
  refine bx (z := [_, _, _, _, _, _, _]) rfl rfl rfl ?_; intro b5_2
  refine st (asg rfl) rfl ?_
  refine nl ?_
  refine nS ?_
  refine sq ?_
  refine rg ?_
  refine st (mv rfl) rfl ?_
  refine st (mv rfl) rfl ?_
  refine st (nk rfl) rfl ?_
  refine st (w4 (lo1 T161 rfl rfl)) rfl ?_
  refine st (mv rfl) rfl ?_
  refine st (mv rfl) rfl ?_
  refine bs (parts := [_]) (cs := [_]) [_] [(0, [_])] U161 T160 rfl rfl rfl rfl ⟨rfl, ⟨_, rfl, rfl⟩, trivial⟩ rfl rfl ?_; intro b6_6
  refine r6 ?_
  refine cl C159 (fnc _) rfl (fun _ hw => ins_c (eV := 160) hw hO (by rw [List.length_map]; exact posOf_le n.id ks) (by rw [List.length_map]; omega) (Hm.i0 _ _ imS) rfl) rfl ?_; intro V' ov' hO'
  refine st (nk rfl) rfl ?_
  refine r6 ?_
  refine sto (cs' := [_, _, _, _, _, _, _]) (vs := [_]) T161 rfl rfl hO'.cells rfl (allc hO'.isSl rfl) (Nat.le_of_ble_eq_true rfl) rfl ?_
  refine nl ?_
  refine nS ?_
  refine rgd rfl [0, 1, 2, 3, 4, 5, 6] [] [7] [] (by kernel_rfl) ?_
  refine dst rfl rfl (mv rfl) rfl ?_
  refine dst rfl rfl (nk rfl) rfl ?_
  refine dst rfl rfl (fa (o3 := 1) F187_1 rfl rfl) rfl ?_
  refine dst rfl rfl (w5 (lo1 T185 rfl rfl)) rfl ?_
  refine dst rfl rfl (fa (o3 := 0) F84_0 rfl rfl) rfl ?_
  refine dst rfl rfl (w4 (loa (vs := [_, _]) T59 rfl rfl rfl)) rfl ?_
  refine dst rfl rfl (mv rfl) rfl ?_
  refine dend rfl ?_
  refine r6 ?_
  refine mu (u := n.id) U185 K59 hmp rfl rfl rfl rfl ?_; intro mob' hmp'
  refine nl ?_
  exact ret0 (.inr rfl) rfl ⟨mb, mob', _, V', ov', (by rw [← setK_none hni]; exact hmp'), hO', rfl⟩ (oSP (h' := [_, _, _, _, _, _]) (.cons_cons _ (.cons_cons _ (.cons_cons _ (.cons _ (.cons_cons _ (.cons _ (.cons_cons _ (.cons_cons _ .slnil)))))))) (perm_ct fun x => by simp only [List.flatten_cons, List.flatten_nil, ct_app, ct_nil]; omega))
end Go.W
/- Another element in the tree: the contract. -/
namespace Go.W
open Go Go.Proofs.Tryz

abbrev vNd (n : Nd) : Value := .agg #[.int .i64 n.id.time, .int .i64 n.id.site, .int .i64 n.ref.time, .int .i64 n.ref.site, .int .i32 n.rune, .int .i64 n.state]
theorem RO.perm' {M : Mem} {o o' : Own} {w : World} (h : RO M o w) (p : o.Perm o') : RO M o' w := h.perm p
theorem nodup_len {α : Type} : ∀ {l r : List α}, l.Nodup → (∀ x ∈ l, x ∈ r) → l.length ≤ r.length := by
  intro l
  induction l with
  | nil => intro r _ _; simp
  | cons a l ih =>
    intro r hn hs
    rw [List.nodup_cons] at hn
    obtain ⟨p, q, rfl⟩ := List.append_of_mem (hs a (by simp))
    have := ih (r := p ++ q) hn.2 fun x hx => by
      have h1 := hs x (by simp [hx])
      simp only [List.mem_append, List.mem_cons] at h1 ⊢
      rcases h1 with h1 | rfl | h1
      · exact .inl h1
      · exact absurd hx hn.1
      · exact .inr h1
    simp only [List.length_append, List.length_cons] at this ⊢
    omega
theorem FnC.monoP {P : Program} {f : FuncId} {args : List Value} {w : World} {o : Own} {R R' : Value → Own → Prop} (h : FnC P f args w o R) (hr : ∀ v o', R v o' → ∃ o'', o'.Perm o'' ∧ R' v o'') : FnC P f args w o R' :=
  fun a b => (h a b).mono fun e w' ⟨v, o', e1, e2, e3⟩ => by
    obtain ⟨o'', p, q⟩ := hr v o' e2
    exact ⟨v, o'', e1, q, e3.perm p⟩
theorem TD.Ok.kids_len {d : TD} (h : d.Ok) (r : ID) : (d.kids r).length ≤ 100000000 := by
  have h1 : (d.kids r).Nodup := above_nodup (h.srt r)
  have h2 : (d.kids r).length ≤ d.ids.length := nodup_len h1 fun k hk => h.kid_ids hk
  have h3 : d.ids.length = d.nds.length := by simp [TD.ids]
  have := h.few; omega
theorem TD.el_blk {d : TD} {n : Nd} {l : List Nd} (h : n ∈ l) : ∀ x ∈ d.el n, x ∈ l.flatMap d.blk := fun x hx => List.mem_flatMap.2 ⟨n, h, List.mem_append_left _ hx⟩

theorem put_c {M : Mem} {w : World} {d : TD} {n : Nd} (hM : RO M d.lay w) (hok : d.Ok) (hn : New d n) :
    FnC prog 130 [pt d.T 0, vNd n] w d.lay (fun _ o => ∃ d' : TD, o = d'.lay ∧ d'.Ok ∧ d'.T = d.T ∧ d'.nds = d.nds ++ [n]) := by
  have hkl := hok.kids_len n.ref
  cases hb : d.byv with
  | none =>
    have hnds : d.nds = [] := by have := hok.map; rw [hb] at this; exact this
    have hr : n.ref = z0 := by
      rcases hn.rf with h | h
      · exact h
      · rw [TD.ids, hnds] at h; cases h
    have hl : d.lay = [(d.T, .cells (List.toArray [d.vs z0, .map none]) 187 (0, 0))] ++ (d.os z0 ++ d.nds.flatMap d.blk) := by
      rw [TD.lay_eq, TD.top, hb]; rfl
    have hsl := hok.sl z0 (.inl rfl)
    rw [hl] at hM ⊢
    have hks0 : ∀ k ∈ d.kids z0, False := fun k hk => by have := hok.kid_ids hk; rw [TD.ids, hnds] at this; cases this
    refine (putA_c (d := d) (n := n) (ks := d.kids z0) (adr := d.ad) (kvs := []) hM hsl (TD.els fun k hk => (hks0 k hk).elim) (hok.srt z0) (by rw [hr] at hkl; exact hkl) hr (by simp) rfl).mono ?_
    rintro v o ⟨mb', mob', b, V', ov', h1, h2, rfl⟩
    refine ⟨d.add n (mb', mob') b V' ov', ?_, add_ok hok hn ?_ ?_, rfl, rfl⟩
    · rw [add_lay0 hok hn hr]; rfl
    · rw [hnds]; exact h1
    · rw [hr]; exact h2
  | some mp =>
    obtain ⟨mb, mob⟩ := mp
    have hmap : Mp encI mob (d.nds.map fun n => (n.id, pt (d.ad n.id) 0)) := by have := hok.map; rw [hb] at this; exact this
    have hni : n.id ∉ (d.nds.map fun n => (n.id, pt (d.ad n.id) 0)).map (·.1) := by
      have := hn.ni
      rw [List.map_map]; exact this
    by_cases hr : n.ref = z0
    · have hl : d.lay = [(d.T, .cells (List.toArray [d.vs z0, .map (some mb)]) 187 (0, 0))] ++ ([(mb, mob)] ++ (d.os z0 ++ d.nds.flatMap d.blk)) := by
        rw [TD.lay_eq, TD.top, hb]; rfl
      have hsl := hok.sl z0 (.inl rfl)
      rw [hl] at hM ⊢
      refine (putB_c (d := d) (n := n) (ks := d.kids z0) (adr := d.ad) (kvs := d.nds.map fun n => (n.id, pt (d.ad n.id) 0)) hM hsl (TD.els fun k hk => ?_) (hok.srt z0) (by rw [hr] at hkl; exact hkl) hmap hr hni).mono ?_
      · obtain ⟨m, hm, e, -⟩ := (hok.kid _ _).1 hk
        exact ⟨m, hm, e, Im.sub (TD.el_blk hm)⟩
      · rintro v o ⟨mb', mob', b, V', ov', h1, h2, rfl⟩
        refine ⟨d.add n (mb', mob') b V' ov', ?_, add_ok hok hn h1 ?_, rfl, rfl⟩
        · rw [add_lay0 hok hn hr]; rfl
        · rw [hr]; exact h2
    · have hri : n.ref ∈ d.ids := hn.rf.resolve_left hr
      obtain ⟨m, hm, hme⟩ := List.mem_map.1 hri
      obtain ⟨pre, post, hs⟩ := List.append_of_mem hm
      have hme' : n.ref = m.id := hme.symm
      have hmi : m.id ∈ d.ids := by rw [hme]; exact hri
      have hmz : m.id ≠ z0 := by rw [hme]; exact hr
      have hsl := hok.sl m.id (.inr hmi)
      have hp : d.lay.Perm ([(d.T, .cells (List.toArray [d.vs z0, .map (some mb)]) 187 (0, 0))] ++ ([(mb, mob)] ++ (d.el m ++ (d.os m.id ++ (d.os z0 ++ (pre.flatMap d.blk ++ post.flatMap d.blk)))))) := by
        rw [TD.lay_eq, TD.top, hb, hs, List.flatMap_append, List.flatMap_cons, TD.blk]
        exact perm_ct fun x => by simp only [Option.toList_some, Option.map_some, List.map_cons, List.map_nil, ct_app, ct_nil]; omega
      refine (FnC.perm (putC_c (d := d) (n := n) (m := m) (ks := d.kids m.id) (adr := d.ad) (kvs := d.nds.map fun n => (n.id, pt (d.ad n.id) 0)) (hM.perm hp) hsl ?_ (hok.srt _) (by rw [hme'] at hkl; exact hkl) hmap rfl hme' hmi hmz hni) hp).monoP ?_
      · refine TD.els fun k hk => ?_
        obtain ⟨x, hx, e, e2⟩ := (hok.kid _ _).1 hk
        refine ⟨x, hx, e, Im.sub fun y hy => List.mem_append_right _ ?_⟩
        have hne : x ≠ m := fun q => by
          have := hok.low x hx
          rw [e2, q] at this
          exact cmpID_irr this
        rw [hs] at hx
        rcases List.mem_append.1 hx with hx | hx
        · exact List.mem_append_left _ (TD.el_blk hx y hy)
        · rcases List.mem_cons.1 hx with hx | hx
          · exact absurd hx hne
          · exact List.mem_append_right _ (TD.el_blk hx y hy)
      · rintro v o ⟨mb', mob', b, V', ov', h1, h2, rfl⟩
        refine ⟨(d.add n (mb', mob') b V' ov').lay, ?_, d.add n (mb', mob') b V' ov', rfl, add_ok hok hn h1 ?_, rfl, rfl⟩
        · rw [add_lay1 hok hn hs hme']
          exact perm_ct fun x => by
            simp only [ct_app, ct_nil]
            simp only [encNd, List.cons_append, List.nil_append]
            omega
        · rw [hme']; exact h2
end Go.W
/- What a tree's Insert makes: plain words. -/
namespace Go.W
open Go

/-! ### Looking up an element -/
def optA (d : TD) (y : ID) : Option Addr := if y ∈ d.ids then some ⟨d.ad y, 0, none⟩ else none
theorem optA_none {d : TD} {y : ID} : (optA d y).isNone = decide (¬ y ∈ d.ids) := by unfold optA; split <;> simp_all
theorem optA_some {d : TD} {y : ID} : (!(optA d y).isNone) = decide (y ∈ d.ids) := by unfold optA; split <;> simp_all
def TD.Map (d : TD) (M : Mem) : Prop := ∀ mp, d.byv = some mp → M mp.1 mp.2
theorem TD.Map.mono {d : TD} {M M' : Mem} (h : d.Map M) (hM : MLe M M') : d.Map M' := fun mp e => hM _ _ (h mp e)
theorem TD.In.map {d : TD} {M : Mem} (h : d.In M) : d.Map M := fun _ e => h.m e
section
variable {c : Cx} {l : Env} {h : List Own} {ty : TypeId} {pos : String} {af : Array Edge} {g : Option (Nat × Bool)} {dst : Option Tmp}
theorem lkT {m x : Operand} {t kt et : TypeId} {b : Nat} {d : TD} {y : ID} {kv : Value} (hu : c.P.underlying t = some (.map kt et)) (hk : KeyT c.P kt encI) (ht : Ty c.P et 1 false [.pointer none] b) (hok : d.Ok) (hM : d.Map (Hm c.M h))
    (hx : ev l m = some (.map (d.byv.map (·.1)))) (hy : ev l x = some kv) (hkv : encI y = kv) : OpV c ⟨dst, .lookup t m x false, ty, pos, af, g⟩ l h (.pointer (optA d y)) := by
  cases hb : d.byv with
  | none =>
    have hn : d.nds = [] := by have := hok.map; rw [hb] at this; exact this
    have e : optA d y = none := by unfold optA; rw [TD.ids, hn]; rfl
    rw [e]
    exact lkn1 (y := y) hu hk ht (by rw [hx, hb]; rfl) hy hkv
  | some mp =>
    have hmap : Mp encI mp.2 (d.nds.map fun n => (n.id, pt (d.ad n.id) 0)) := by have := hok.map; rw [hb] at this; exact this
    have := lkr1 (dst := dst) (ty := ty) (pos := pos) (af := af) (g := g) (y := y) hu hk ht hmap (hM mp hb) (by rw [hx, hb]; rfl) hy hkv
    rw [d.look] at this
    unfold optA
    split
    · rename_i h1; rw [if_pos h1] at this; exact this
    · rename_i h1; rw [if_neg h1] at this; exact this
end

/-! ### Why not -/
def whyE (ids : List ID) (id ref : ID) : Int := if 0 ≤ cmpID ref id then 9 else if ref ≠ z0 ∧ ref ∉ ids then 11 else 0
theorem why9 {ids : List ID} {id ref : ID} (h : 0 ≤ cmpID ref id) : whyE ids id ref = 9 := if_pos h
theorem why11 {ids : List ID} {id ref : ID} (h : ¬ 0 ≤ cmpID ref id) (h2 : ¬ ref = z0) (h3 : ¬ ref ∈ ids) : whyE ids id ref = 11 := by rw [whyE, if_neg h, if_pos ⟨h2, h3⟩]
theorem why0 {ids : List ID} {id ref : ID} (h : ¬ 0 ≤ cmpID ref id) (h2 : ref = z0 ∨ ref ∈ ids) : whyE ids id ref = 0 := by
  rw [whyE, if_neg h, if_neg]
  rintro ⟨a, b⟩
  rcases h2 with h2 | h2
  · exact a h2
  · exact b h2
theorem why_ok {ids : List ID} {id ref : ID} (h : whyE ids id ref = 0) : cmpID ref id < 0 ∧ (ref = z0 ∨ ref ∈ ids) := by
  unfold whyE at h
  split at h
  · cases h
  · rename_i h1
    split at h
    · cases h
    · rename_i h2
      refine ⟨by omega, ?_⟩
      by_cases h3 : ref = z0
      · exact .inl h3
      · by_cases h4 : ref ∈ ids
        · exact .inr h4
        · exact absurd ⟨h3, h4⟩ h2

/-! ### Insert -/
def hitN (ids : List ID) (id : ID) (n : Nat) : Bool := (List.range n).any fun i => decide (afterID id (i : Int) ∈ ids)
def insE (l : List Nd) (id ref : ID) (s : ByteArray) : Int :=
  if ¬ mayID id ∨ (ref ≠ z0 ∧ ¬ mayID ref) then 1
  else if s.size = 0 ∨ 0 ≤ badB s (decS s 0) then 2
  else if 2147483647 - id.time < ((decS s 0).length : Int) - 1 then 1
  else if whyE (l.map (·.id)) id ref ≠ 0 then whyE (l.map (·.id)) id ref
  else if hitN (l.map (·.id)) id (decS s 0).length = true then 12 else 0
/-- One element behind another, rune by rune. -/
def putR : List Nd → ID → ID → List (Nat × Nat) → List Nd
  | l, _, _, [] => l
  | l, id, ref, c :: r => putR (l ++ [⟨id, ref, (c.2 : Int), 1⟩]) (afterID id 1) id r
def insN (l : List Nd) (id ref : ID) (s : ByteArray) : List Nd := if insE l id ref s = 0 then putR l id ref (decS s 0) else l
section
variable {l : List Nd} {id ref : ID} {s : ByteArray}
theorem insE_1 (h : ¬ mayID id ∨ (ref ≠ z0 ∧ ¬ mayID ref)) : insE l id ref s = 1 := if_pos h
theorem insE_2 (h : mayID id ∧ (ref = z0 ∨ mayID ref)) (h2 : s.size = 0 ∨ 0 ≤ badB s (decS s 0)) : insE l id ref s = 2 := by
  rw [insE, if_neg, if_pos h2]
  rintro (a | ⟨a, b⟩)
  · exact a h.1
  · rcases h.2 with c | c
    · exact a c
    · exact b c
theorem insE_3 (h : mayID id ∧ (ref = z0 ∨ mayID ref)) (h2 : ¬ s.size = 0 ∧ ¬ 0 ≤ badB s (decS s 0)) : insE l id ref s =
    if 2147483647 - id.time < ((decS s 0).length : Int) - 1 then 1 else if whyE (l.map (·.id)) id ref ≠ 0 then whyE (l.map (·.id)) id ref else if hitN (l.map (·.id)) id (decS s 0).length = true then 12 else 0 := by
  rw [insE, if_neg, if_neg]
  · rintro (a | a)
    · exact h2.1 a
    · exact h2.2 a
  · rintro (a | ⟨a, b⟩)
    · exact a h.1
    · rcases h.2 with c | c
      · exact a c
      · exact b c
theorem insN_no (h : insE l id ref s ≠ 0) : insN l id ref s = l := if_neg h
theorem hitN_yes {ids : List ID} {n : Nat} {i : Int} (h0 : 0 ≤ i) (h1 : i < n) (h : afterID id i ∈ ids) : hitN ids id n = true := by
  unfold hitN
  rw [List.any_eq_true]
  exact ⟨i.toNat, by rw [List.mem_range]; omega, by rw [show ((i.toNat : Nat) : Int) = i by omega]; simpa using h⟩
theorem hitN_no {ids : List ID} {n : Nat} (h : ∀ i : Nat, i < n → ¬ afterID id (i : Int) ∈ ids) : hitN ids id n = false := by
  unfold hitN
  rw [List.any_eq_false]
  intro i hi
  simpa using h i (by simpa using hi)
end
/-- The k-th one of a text's elements. -/
def idAt (id : ID) (k : Nat) : ID := ⟨id.time + k, id.site⟩
structure InsI (d : TD) (id ref : ID) (n : Nat) (all : List Nd) (d' : TD) (rest : List (Nat × Nat)) (k : Nat) (id' ref' : ID) : Prop where
  kn : k + rest.length = n
  ids : d'.ids = d.ids ++ (List.range k).map (idAt id)
  len : d'.nds.length = d.nds.length + k
  cur : k < n → id' = idAt id k
  rf0 : k = 0 → ref' = ref
  rf1 : ∀ j, k = j + 1 → ref' = idAt id j
  put : putR d'.nds id' ref' rest = all
  ok : d'.Ok
  T : d'.T = d.T
structure InsP (d : TD) (id ref : ID) (n : Nat) : Prop where
  may : mayID id
  top : id.time + n - 1 ≤ 2147483647
  low : cmpID ref id < 0
  rf : ref = z0 ∨ ref ∈ d.ids
  no : ∀ j : Nat, j < n → idAt id j ∉ d.ids
  few : d.nds.length + n ≤ 100000000
theorem afterID_at {id : ID} (h : mayID id) {j : Nat} (hj : id.time + j ≤ 2147483647) : afterID id (j : Int) = idAt id j := by
  unfold mayID at h
  unfold afterID
  rw [if_pos ⟨by omega, by omega, by omega⟩]; rfl
theorem idAt_inj {id : ID} {i j : Nat} (h : idAt id i = idAt id j) : i = j := by
  unfold idAt at h
  have := congrArg ID.time h
  simp only at this; omega
theorem InsI.start {d : TD} {id ref : ID} {rest : List (Nat × Nat)} (hok : d.Ok) : InsI d id ref rest.length (putR d.nds id ref rest) d rest 0 id ref :=
  ⟨by omega, by simp, by simp, fun _ => (by unfold idAt; simp), fun _ => rfl, fun j h => (by cases h), rfl, hok, rfl⟩
theorem InsI.new {d : TD} {id ref : ID} {n : Nat} {all : List Nd} {d' : TD} {c : Nat × Nat} {rest : List (Nat × Nat)} {k : Nat} {id' ref' : ID} (hp : InsP d id ref n) (h : InsI d id ref n all d' (c :: rest) k id' ref') : New d' ⟨id', ref', (c.2 : Int), 1⟩ := by
  have hk : k < n := by have := h.kn; simp only [List.length_cons] at this; omega
  have e := h.cur hk
  have hm := hp.may
  unfold mayID at hm
  refine ⟨?_, ?_, ?_, ?_, ?_, ?_⟩
  · show id' ∉ d'.ids
    rw [h.ids, e]
    intro q
    rcases List.mem_append.1 q with q | q
    · exact hp.no k hk q
    · obtain ⟨j, hj, e2⟩ := List.mem_map.1 q
      have := idAt_inj e2
      have := List.mem_range.1 hj
      omega
  · show id' ≠ z0
    rw [e]; intro q
    have := congrArg ID.site q
    simp only [idAt, z0] at this
    omega
  · show ref' = z0 ∨ ref' ∈ d'.ids
    rw [h.ids]
    cases k with
    | zero =>
      rw [h.rf0 rfl]
      rcases hp.rf with q | q
      · exact .inl q
      · exact .inr (by simp [q])
    | succ j =>
      rw [h.rf1 j rfl]
      exact .inr (List.mem_append_right _ (List.mem_map.2 ⟨j, by simp, rfl⟩))
  · show cmpID ref' id' < 0
    rw [e]
    cases k with
    | zero => rw [h.rf0 rfl]; have := hp.low; unfold idAt; simpa using this
    | succ j => rw [h.rf1 j rfl, cmpID_lt]; left; simp only [idAt]; omega
  · show d'.nds.length < _
    have := h.len; have := hp.few; omega
  · show mayID id'
    have ht := hp.top
    rw [e]; unfold mayID idAt; simp only; omega
theorem InsI.step {d : TD} {id ref : ID} {n : Nat} {all : List Nd} {d' d2 : TD} {c : Nat × Nat} {rest : List (Nat × Nat)} {k : Nat} {id' ref' : ID} (hp : InsP d id ref n) (h : InsI d id ref n all d' (c :: rest) k id' ref')
    (hok : d2.Ok) (hT : d2.T = d'.T) (hn : d2.nds = d'.nds ++ [⟨id', ref', (c.2 : Int), 1⟩]) : InsI d id ref n all d2 rest (k + 1) (afterID id' 1) id' := by
  have hk : k < n := by have := h.kn; simp only [List.length_cons] at this; omega
  have e := h.cur hk
  refine ⟨by have := h.kn; simp only [List.length_cons] at this; omega, ?_, by rw [hn, List.length_append, h.len]; simp; omega, fun q => ?_, fun q => by omega, fun j q => ?_, ?_, hok, hT.trans h.T⟩
  · rw [TD.ids, hn, List.map_append, ← TD.ids, h.ids, List.range_succ, List.map_append, List.append_assoc]
    simp [e]
  · have hm := hp.may
    have ht := hp.top
    unfold mayID at hm
    have : mayID id' := by rw [e]; unfold mayID idAt; simp only; omega
    have h2 := afterID_at (j := 1) this (by rw [e]; simp only [idAt]; omega)
    rw [show ((1 : Nat) : Int) = 1 from rfl] at h2
    rw [h2, e]; unfold idAt; simp only [ID.mk.injEq, and_true]; omega
  · have : j = k := by omega
    subst this; exact e
  · rw [hn]; exact h.put
theorem InsI.may {d : TD} {id ref : ID} {n : Nat} {all : List Nd} {d' : TD} {c : Nat × Nat} {rest : List (Nat × Nat)} {k : Nat} {id' ref' : ID} (hp : InsP d id ref n) (h : InsI d id ref n all d' (c :: rest) k id' ref') : -9223372036854775808 ≤ id'.time ∧ id'.time ≤ 9223372036854775807 := by
  have hk : k < n := by have := h.kn; simp only [List.length_cons] at this; omega
  have hm := hp.may
  have ht := hp.top
  unfold mayID at hm
  rw [h.cur hk]
  simp only [idAt]
  omega
theorem insP_of {d : TD} {id ref : ID} {s : ByteArray} (hf : d.nds.length + s.size ≤ 100000000) (h : mayID id) (h3 : ¬ (2147483647 - id.time < ((decS s 0).length : Int) - 1)) (h4 : whyE d.ids id ref = 0)
    (h5 : ∀ i : Nat, i < (decS s 0).length → ¬ afterID id (i : Int) ∈ d.ids) : InsP d id ref (decS s 0).length := by
  have hl := decS_len s 0
  obtain ⟨a, b⟩ := why_ok h4
  refine ⟨h, by omega, a, b, fun j hj => ?_, by omega⟩
  have := h5 j hj
  rwa [afterID_at h (by omega)] at this
theorem ins_end2 {d d' : TD} {id ref id' ref' : ID} {s : ByteArray} {n k : Nat} {rest : List (Nat × Nat)} (h0 : insE d.nds id ref s = 0) (h : InsI d id ref n (putR d.nds id ref (decS s 0)) d' rest k id' ref') (hr : rest = []) :
    Value.int .i64 0 = .int .i64 (insE d.nds id ref s) ∧ ∃ d2 : TD, d'.lay = d2.lay ∧ d2.Ok ∧ d2.T = d.T ∧ d2.nds = insN d.nds id ref s :=
  ⟨by rw [h0], d', rfl, h.ok, h.T, by rw [insN, if_pos h0, ← h.put, hr]; rfl⟩
theorem may_join {id ref : ID} (h1 : mayID id) (h2 : ¬ ref = z0) : (!decide (1 ≤ ref.time ∧ ref.time ≤ 2147483647 ∧ 1 ≤ ref.site ∧ ref.site ≤ 16)) = decide (¬ mayID id ∨ (¬ ref = z0 ∧ ¬ mayID ref)) := by
  by_cases h : mayID ref
  · have h' : 1 ≤ ref.time ∧ ref.time ≤ 2147483647 ∧ 1 ≤ ref.site ∧ ref.site ≤ 16 := h
    rw [decide_eq_true h', decide_eq_false]; · rfl
    rintro (a | ⟨-, a⟩)
    · exact a h1
    · exact a h
  · have h' : ¬ (1 ≤ ref.time ∧ ref.time ≤ 2147483647 ∧ 1 ≤ ref.site ∧ ref.site ≤ 16) := h
    rw [decide_eq_false h', decide_eq_true]; · rfl
    exact .inr ⟨h2, h⟩
theorem may_no {id ref : ID} (h1 : mayID id) (h2 : ref = z0) : ¬ (¬ mayID id ∨ (¬ ref = z0 ∧ ¬ mayID ref)) := by
  rintro (a | ⟨a, -⟩)
  · exact a h1
  · exact a h2
theorem may_both {id ref : ID} (h : ¬ (¬ mayID id ∨ (¬ ref = z0 ∧ ¬ mayID ref))) : mayID id ∧ (ref = z0 ∨ mayID ref) := by
  by_cases h1 : mayID id
  · refine ⟨h1, ?_⟩
    by_cases h2 : ref = z0
    · exact .inl h2
    · by_cases h3 : mayID ref
      · exact .inr h3
      · exact absurd (.inr ⟨h2, h3⟩) h
  · exact absurd (.inl h1) h
theorem bad_join {s : ByteArray} {n : Int} (h : ¬ s.size = 0) : decide (0 ≤ n) = decide (s.size = 0 ∨ 0 ≤ n) := by
  rw [decide_eq_decide]; constructor
  · exact .inr
  · rintro (a | a)
    · exact absurd a h
    · exact a
theorem bad_both {s : ByteArray} {n : Int} (h : ¬ (s.size = 0 ∨ 0 ≤ n)) : ¬ s.size = 0 ∧ ¬ 0 ≤ n := by
  exact ⟨fun q => h (.inl q), fun q => h (.inr q)⟩
theorem str_empty (s : ByteArray) : (s.toList == (⟨#[]⟩ : ByteArray).toList) = decide (s.size = 0) := by
  rw [show (⟨#[]⟩ : ByteArray).toList = [] from empty_toList, ByteArray.toList_eq]
  have e : s.size = s.data.toList.length := by simp
  rw [e]
  cases s.data.toList <;> rfl
section
variable {d : TD} {id ref : ID} {s : ByteArray}
theorem insE_lim (h : mayID id ∧ (ref = z0 ∨ mayID ref)) (h2 : ¬ s.size = 0 ∧ ¬ 0 ≤ badB s (decS s 0)) (h3 : 2147483647 - id.time < ((decS s 0).length : Int) - 1) : insE d.nds id ref s = 1 := by rw [insE_3 h h2, if_pos h3]
theorem insE_why (h : mayID id ∧ (ref = z0 ∨ mayID ref)) (h2 : ¬ s.size = 0 ∧ ¬ 0 ≤ badB s (decS s 0)) (h3 : ¬ 2147483647 - id.time < ((decS s 0).length : Int) - 1) (h4 : whyE d.ids id ref ≠ 0) : insE d.nds id ref s = whyE d.ids id ref := by
  rw [insE_3 h h2, if_neg h3]; exact if_pos h4
theorem insE_hit (h : mayID id ∧ (ref = z0 ∨ mayID ref)) (h2 : ¬ s.size = 0 ∧ ¬ 0 ≤ badB s (decS s 0)) (h3 : ¬ 2147483647 - id.time < ((decS s 0).length : Int) - 1) (h4 : whyE d.ids id ref = 0) (h5 : hitN d.ids id (decS s 0).length = true) : insE d.nds id ref s = 12 := by
  rw [insE_3 h h2, if_neg h3, if_neg (by show ¬ whyE d.ids id ref ≠ 0; rw [h4]; simp)]; exact if_pos h5
theorem insE_ok (h : mayID id ∧ (ref = z0 ∨ mayID ref)) (h2 : ¬ s.size = 0 ∧ ¬ 0 ≤ badB s (decS s 0)) (h3 : ¬ 2147483647 - id.time < ((decS s 0).length : Int) - 1) (h4 : whyE d.ids id ref = 0) (h5 : hitN d.ids id (decS s 0).length = false) : insE d.nds id ref s = 0 := by
  rw [insE_3 h h2, if_neg h3, if_neg (by show ¬ whyE d.ids id ref ≠ 0; rw [h4]; simp)]; exact if_neg (by rw [show hitN (d.nds.map (·.id)) id (decS s 0).length = false from h5]; decide)
theorem ins_fail {e : Int} (hok : d.Ok) (he : insE d.nds id ref s = e) (h0 : e ≠ 0) : Value.int .i64 e = .int .i64 (insE d.nds id ref s) ∧ ∃ d2 : TD, d.lay = d2.lay ∧ d2.Ok ∧ d2.T = d.T ∧ d2.nds = insN d.nds id ref s :=
  ⟨by rw [he], d, rfl, hok, rfl, (insN_no (by rw [he]; exact h0)).symm⟩
end
theorem hit_step {ids : List ID} {id : ID} {i : Int} (j2 : ∀ k : Nat, (k : Int) < i → ¬ afterID id (k : Int) ∈ ids) (h : ¬ afterID id i ∈ ids) : ∀ k : Nat, (k : Int) < i + 1 → ¬ afterID id (k : Int) ∈ ids := fun k hk => by
  by_cases e : (k : Int) = i
  · rw [e]; exact h
  · exact j2 k (by omega)
end Go.W
/- Walks. Written by a program of mine. -/
namespace Go.W
open Go Go.Proofs.Tryz
set_option maxRecDepth 20000 in
theorem why_c {M : Mem} {w : World} {d : TD} {id ref : ID} {W : Value} (hM : RO M [] w) (hok : d.Ok) (ht : CellsAt M ⟨d.T, 0, none⟩ [W, .map (d.byv.map (·.1))]) (hm : d.Map M) : FnC prog 128 [pt d.T 0, .agg #[.int .i64 id.time, .int .i64 id.site], .agg #[.int .i64 ref.time, .int .i64 ref.site]] w [] (fun u _ => u = .int .i64 (whyE d.ids id ref)) := by
  refine enter (code := _) func128 rfl 25 rfl rfl hM [] rfl [(0, _), (1, _), (2, _)] ⟨rfl, rfl, rfl, trivial⟩ ?_
  refine sq ?_
  refine rg ?_
  refine bx (z := [_, _]) rfl rfl rfl ?_; intro b0_0
  refine bx (z := [_, _]) rfl rfl rfl ?_; intro b0_1
  refine st (asg rfl) rfl ?_
  refine nl ?_
  refine nS ?_
  refine sq ?_
  refine bk ?_
  refine sq ?_
  refine rg ?_
  refine st (loa (vs := [_, _]) T59 rfl rfl rfl) rfl ?_
  refine st (w1 (loa (vs := [_, _]) T59 rfl rfl rfl)) rfl ?_
  refine st (cl0 C155 (fnc _) rfl (fun _ hw => cmpID_c hw )) rfl ?_
  refine st (gq rfl rfl) rfl ?_
  refine st (asg rfl) rfl ?_
  refine nl ?_
  refine nS ?_
  refine cd rfl (fun hb => ?_) (fun hb => ?_)
  · have h7 := (of_decide_eq_true hb)
    clear hb
    refine sq ?_
    refine rg ?_
    refine st (asg rfl) rfl ?_
    refine nl ?_
    refine nS ?_
    refine rt ?_
    refine rB ?_
    refine rS ?_
    exact ret1 rfl rfl (by show Value.int _ _ = _; rw [why9 h7]) o0
  · have h7 := (of_decide_eq_false hb)
    clear hb
    refine sq ?_
    refine rgd rfl [0, 1, 2, 3, 4, 5, 6, 7, 8, 9, 10, 11, 12] [] [] [] (by kernel_rfl) ?_
    refine dst rfl rfl (loa (vs := [_, _]) T59 rfl rfl rfl) rfl ?_
    refine dst rfl rfl (bd (cs := [_, _]) [] T59 Pl59 trivial rfl) rfl ?_
    refine dst rfl rfl (nes rfl rfl G59 (fun w => eqID ref z0 w)) rfl ?_
    refine dst rfl rfl (mv rfl) rfl ?_
    refine dspl (fun hb => ?_) (fun hb => ?_)
    · have h16 := (of_decide_eq_false (nTF hb))
      clear hb
      refine dgT rfl rfl rfl rfl (mv rfl) rfl ?_
      refine dgT rfl rfl rfl rfl (nk rfl) rfl ?_
      refine dgT rfl rfl rfl rfl (fa (o3 := 0 + 1) F187_1 rfl rfl) rfl ?_
      refine dgT rfl rfl rfl rfl (lm1 1 T185 ht Hm.m rfl rfl rfl) rfl ?_
      refine dgT rfl rfl rfl rfl (loa (vs := [_, _]) T59 rfl rfl rfl) rfl ?_
      refine dgT rfl rfl rfl rfl (lkT (d := d) (y := ref) U185 K59 T160 hok (hm.mono Hm.m) rfl rfl rfl) rfl ?_
      refine dgT rfl rfl rfl rfl (eqv rfl rfl rfl gd_ptr (fun w => eq_ptr U160 _ w)) rfl ?_
      refine dcv (u := .bool (decide (¬ ref ∈ d.ids))) (by rw [optA_none]) ?_
      refine dst rfl rfl (pkT rfl rfl) rfl ?_
      refine dst rfl rfl (asg rfl) rfl ?_
      refine dend rfl ?_
      refine nl ?_
      refine nS ?_
      refine cd rfl (fun hb => ?_) (fun hb => ?_)
      · have h12 := (of_decide_eq_true hb)
        clear hb
        refine sq ?_
        refine rg ?_
        refine st (asg rfl) rfl ?_
        refine nl ?_
        refine nS ?_
        refine rt ?_
        refine rB ?_
        refine rS ?_
        exact ret1 rfl rfl (by show Value.int _ _ = _; rw [why11 (by omega) h16 h12]) o0
      · have h12 := (of_decide_eq_false hb)
        clear hb
        refine sk ?_
        refine nB ?_
        refine nS ?_
        refine sq ?_
        refine rg ?_
        refine st (asg rfl) rfl ?_
        refine nl ?_
        refine nS ?_
        refine rt ?_
        exact ret1 rfl rfl (by show Value.int _ _ = _; rw [why0 (by omega) (.inr (Classical.not_not.1 h12))]) o0
    · have h16 := (of_decide_eq_true (nFT hb))
      clear hb
      refine dgF rfl rfl rfl rfl rfl ?_
      refine dgF rfl rfl rfl rfl rfl ?_
      refine dgF rfl rfl rfl rfl rfl ?_
      refine dgF rfl rfl rfl rfl rfl ?_
      refine dgF rfl rfl rfl rfl rfl ?_
      refine dgF rfl rfl rfl rfl rfl ?_
      refine dgF rfl rfl rfl rfl rfl ?_
      refine dst rfl rfl (pkF rfl rfl) rfl ?_
      refine dst rfl rfl (asg rfl) rfl ?_
      refine dend rfl ?_
      refine nl ?_
      refine nS ?_
      refine cdF rfl ?_
      refine sk ?_
      refine nB ?_
      refine nS ?_
      refine sq ?_
      refine rg ?_
      refine st (asg rfl) rfl ?_
      refine nl ?_
      refine nS ?_
      refine rt ?_
      exact ret1 rfl rfl (by show Value.int _ _ = _; rw [why0 (by omega) (.inl h16)]) o0

set_option maxRecDepth 20000 in
set_option maxHeartbeats 2000000 in
theorem Insert_c {M : Mem} {w : World} {d : TD} {id ref : ID} {s : ByteArray} (hM : RO M d.lay w) (hok : d.Ok) (hf : d.nds.length + s.size ≤ 100000000) : FnC prog 88 [pt d.T 0, .agg #[.int .i64 id.time, .int .i64 id.site], .agg #[.int .i64 ref.time, .int .i64 ref.site], .string s] w d.lay (fun u o => u = .int .i64 (insE d.nds id ref s) ∧ ∃ d' : TD, o = d'.lay ∧ d'.Ok ∧ d'.T = d.T ∧ d'.nds = insN d.nds id ref s) := by
  have hl := decS_len s 0
  refine enter (code := _) func88 rfl 83 rfl rfl hM [d.lay] (by simp) [(0, _), (1, _), (2, _), (3, _)] ⟨rfl, rfl, rfl, rfl, trivial⟩ ?_
  refine sq ?_
  refine rg ?_
  refine bx (z := [_, _]) rfl rfl rfl ?_; intro b0_0
  refine bx (z := [_, _]) rfl rfl rfl ?_; intro b0_1
  refine st (asg rfl) rfl ?_
  refine nl ?_
  refine nS ?_
  refine sq ?_
  refine bk ?_
  refine sqk (fun C => (13, .bool (decide (¬ mayID id ∨ (¬ ref = z0 ∧ ¬ mayID ref)))) :: C) [(0, _), (3, _), (5, _), (6, _)] ⟨rfl, rfl, rfl, rfl, trivial⟩ ?_ ?_
  · skip
    refine rg ?_
    refine st (mv rfl) rfl ?_
    refine st (eqv rfl rfl rfl gd_ptr (fun w => eq_ptr U102 _ w)) rfl ?_
    refine st (mv rfl) rfl ?_
    refine gT rfl rfl ?_
    refine st (w1 (loa (vs := [_, _]) T59 rfl rfl rfl)) rfl ?_
    refine gT rfl rfl ?_
    refine st (cl0 C125 (fnc _) rfl (fun _ hw => may_c hw )) rfl ?_
    refine gT rfl rfl ?_
    refine st (nt rfl) rfl ?_
    refine st (pkF rfl rfl) rfl ?_
    refine st (mv rfl) rfl ?_
    refine spl (fun hb => ?_) (fun hb => ?_)
    · have h21 := (of_decide_eq_false (nTF hb))
      clear hb
      refine gF rfl rfl rfl rfl ?_
      refine gF rfl rfl rfl rfl ?_
      refine gF rfl rfl rfl rfl ?_
      refine gF rfl rfl rfl rfl ?_
      refine gU rfl rfl rfl ?_
      refine gU rfl rfl rfl ?_
      refine gU rfl rfl rfl ?_
      refine gF rfl rfl rfl rfl ?_
      refine st (pkT rfl rfl) rfl ?_
      refine st (asg rfl) rfl ?_
      refine nl ?_
      refine gr2 ?_
      refine gr2 ?_
      refine gr2 ?_
      refine gr2 ?_
      refine gr2 ?_
      refine gr2 ?_
      exact le0   ⟨(by first | exact dT rfl (.inl h21) | exact dF rfl (may_no h21 h25) | exact bE rfl (may_join h21 h25)), rfl, rfl, rfl, rfl, trivial⟩ hid
    · have h21 := (of_decide_eq_true (nFT hb))
      clear hb
      refine gT rfl rfl ?_
      refine st (loa (vs := [_, _]) T59 rfl rfl rfl) rfl ?_
      refine gT rfl rfl ?_
      refine st (bd (cs := [_, _]) [] T59 Pl59 trivial rfl) rfl ?_
      refine gT rfl rfl ?_
      refine st (nes rfl rfl G59 (fun w => eqID ref z0 w)) rfl ?_
      refine gT rfl rfl ?_
      refine st (mv rfl) rfl ?_
      refine spl (fun hb => ?_) (fun hb => ?_)
      · have h25 := (of_decide_eq_false (nTF hb))
        clear hb
        refine gT rfl rfl ?_
        refine st (loa (vs := [_, _]) T59 rfl rfl rfl) rfl ?_
        refine gT rfl rfl ?_
        refine st (cl0 C125 (fnc _) rfl (fun _ hw => may_c hw )) rfl ?_
        refine gT rfl rfl ?_
        refine st (nt rfl) rfl ?_
        refine gT rfl rfl ?_
        refine st (pkT rfl rfl) rfl ?_
        refine st (pkF rfl rfl) rfl ?_
        refine st (asg rfl) rfl ?_
        refine nl ?_
        refine gr2 ?_
        refine gr2 ?_
        refine gr2 ?_
        refine gr2 ?_
        refine gr2 ?_
        refine gr2 ?_
        exact le0   ⟨(by first | exact dT rfl (.inl h21) | exact dF rfl (may_no h21 h25) | exact bE rfl (may_join h21 h25)), rfl, rfl, rfl, rfl, trivial⟩ hid
      · have h25 := (of_decide_eq_true (nFT hb))
        clear hb
        refine gF rfl rfl rfl rfl ?_
        refine gF rfl rfl rfl rfl ?_
        refine gF rfl rfl rfl rfl ?_
        refine gT rfl rfl ?_
        refine st (pkF rfl rfl) rfl ?_
        refine st (pkF rfl rfl) rfl ?_
        refine st (asg rfl) rfl ?_
        refine nl ?_
        refine gr2 ?_
        refine gr2 ?_
        refine gr2 ?_
        refine gr2 ?_
        refine gr2 ?_
        refine gr2 ?_
        exact le0   ⟨(by first | exact dT rfl (.inl h21) | exact dF rfl (may_no h21 h25) | exact bE rfl (may_join h21 h25)), rfl, rfl, rfl, rfl, trivial⟩ hid
  refine cd rfl (fun hb => ?_) (fun hb => ?_)
  · have h13 := (of_decide_eq_true hb)
    clear hb
    refine sq ?_
    refine rg ?_
    refine st (asg rfl) rfl ?_
    refine nl ?_
    refine nS ?_
    refine rt ?_
    refine rB ?_
    refine rS ?_
    exact ret1 rfl rfl (ins_fail hok (insE_1 h13) (by decide)) o3
  · have h13 := (of_decide_eq_false hb)
    clear hb
    refine sqk (fun C => (31, .bool (decide (s.size = 0 ∨ 0 ≤ badB s (decS s 0)))) :: C) [(0, _), (3, _), (5, _), (6, _)] ⟨rfl, rfl, rfl, rfl, trivial⟩ ?_ ?_
    · skip
      refine rg ?_
      refine st (mv rfl) rfl ?_
      refine st (seq_ rfl rfl) rfl ?_
      refine cv (u := .bool (decide (s.size = 0))) (by rw [str_empty]) ?_
      refine st (mv rfl) rfl ?_
      refine spl (fun hb => ?_) (fun hb => ?_)
      · have h34 := (of_decide_eq_true hb)
        clear hb
        refine gF rfl rfl rfl rfl ?_
        refine gF rfl rfl rfl rfl ?_
        refine gF rfl rfl rfl rfl ?_
        refine st (pkT rfl rfl) rfl ?_
        refine st (asg rfl) rfl ?_
        refine nl ?_
        refine gr2 ?_
        refine gr2 ?_
        refine gr2 ?_
        refine gr2 ?_
        refine gr2 ?_
        refine gr2 ?_
        exact le0   ⟨(by first | exact dT rfl (.inl h34) | exact bE rfl (bad_join h34)), rfl, rfl, rfl, rfl, trivial⟩ hid
      · have h34 := (of_decide_eq_false hb)
        clear hb
        refine gT rfl rfl ?_
        refine st (mv rfl) rfl ?_
        refine gT rfl rfl ?_
        refine st (cl0 C126 (fnc _) rfl (fun _ hw => BadAt_c hw )) rfl ?_
        refine gT rfl rfl ?_
        refine st (gq rfl rfl) rfl ?_
        refine st (pkF rfl rfl) rfl ?_
        refine st (asg rfl) rfl ?_
        refine nl ?_
        refine gr2 ?_
        refine gr2 ?_
        refine gr2 ?_
        refine gr2 ?_
        refine gr2 ?_
        refine gr2 ?_
        exact le0   ⟨(by first | exact dT rfl (.inl h34) | exact bE rfl (bad_join h34)), rfl, rfl, rfl, rfl, trivial⟩ hid
    refine cd rfl (fun hb => ?_) (fun hb => ?_)
    · have h31 := (of_decide_eq_true hb)
      clear hb
      refine sq ?_
      refine rg ?_
      refine st (asg rfl) rfl ?_
      refine nl ?_
      refine nS ?_
      refine rt ?_
      refine rB ?_
      refine rS ?_
      exact ret1 rfl rfl (ins_fail hok (insE_2 (may_both h13) h31) (by decide)) o3
    · have h31 := (of_decide_eq_false hb)
      clear hb
      refine sq ?_
      refine rgd rfl [0, 1, 2, 3, 4, 5, 6, 7] [] [] [] (by kernel_rfl) ?_
      have hmay := may_both h13
      have hbad := bad_both h31
      have hmi := hmay.1
      unfold mayID at hmi
      refine dst rfl rfl (mv rfl) rfl ?_
      refine dst rfl rfl (cl0 C127 (fnc _) rfl (fun _ hw => Count_c hw (by omega))) rfl ?_
      refine dst rfl rfl (sb rfl rfl (by omega)) rfl ?_
      refine dst rfl rfl (fa (o3 := 0) F59_0 rfl rfl) rfl ?_
      refine dst rfl rfl (w1 (lo1 T3 rfl rfl)) rfl ?_
      refine dst rfl rfl (sb rfl rfl (by omega)) rfl ?_
      refine dst rfl rfl (gt rfl rfl) rfl ?_
      refine dst rfl rfl (asg rfl) rfl ?_
      refine dend rfl ?_
      refine nl ?_
      refine nS ?_
      refine cd rfl (fun hb => ?_) (fun hb => ?_)
      · have h39 := (of_decide_eq_true hb)
        clear hb
        refine sq ?_
        refine rg ?_
        refine st (asg rfl) rfl ?_
        refine nl ?_
        refine nS ?_
        refine rt ?_
        refine rB ?_
        refine rS ?_
        exact ret1 rfl rfl (ins_fail hok (insE_lim hmay hbad h39) (by decide)) o3
      · have h39 := (of_decide_eq_false hb)
        clear hb
        refine sk ?_
        refine nB ?_
        refine nS ?_
        refine sq ?_
        refine sq ?_
        refine rg ?_
        refine st (mv rfl) rfl ?_
        refine st (w1 (loa (vs := [_, _]) T59 rfl rfl rfl)) rfl ?_
        refine st (loa (vs := [_, _]) T59 rfl rfl rfl) rfl ?_
        refine st (cl0 C128 (fnc _) rfl (fun _ hw => why_c hw hok (TD.In.im.t.mono Hm.i2) (TD.In.im.map.mono Hm.i2))) rfl ?_
        refine st (asg rfl) rfl ?_
        refine nl ?_
        refine nS ?_
        refine sq ?_
        refine rg ?_
        refine st (mv rfl) rfl ?_
        refine st (ne rfl rfl) rfl ?_
        refine nl ?_
        refine nS ?_
        refine cd rfl (fun hb => ?_) (fun hb => ?_)
        · have h52 := (ne_of_bneT hb)
          clear hb
          refine sq ?_
          refine rg ?_
          refine st (mv rfl) rfl ?_
          refine st (asg rfl) rfl ?_
          refine nl ?_
          refine nS ?_
          refine rt ?_
          refine rS ?_
          exact ret1 rfl rfl (ins_fail hok (insE_why hmay hbad h39 h52) h52) o3
        · have h52 := (eq_of_bneF hb)
          clear hb
          refine sk ?_
          refine nS ?_
          refine sq ?_
          refine sq ?_
          refine rg ?_
          refine st (mv rfl) rfl ?_
          refine st (cl0 C127 (fnc _) rfl (fun _ hw => Count_c hw (by omega))) rfl ?_
          refine st (mv rfl) rfl ?_
          refine nl ?_
          refine nS ?_
          refine bk ?_
          refine gR2 ?_
          refine gR2 ?_
          refine gR2 ?_
          refine lpc1 (fun (i : Int) C => (56, .int .i64 i) :: C) [(0, _), (3, _), (5, _), (6, _), (55, _)] (fun (i : Int) H => H) [_, _, _] (fun (i : Int) => 0 ≤ i ∧ i ≤ (decS s 0).length ∧ ∀ k : Nat, (k : Int) < i → ¬ afterID id (k : Int) ∈ d.ids) (fun (i : Int) => (((decS s 0).length : Int) - i).toNat) 0 ?_ ⟨rfl, rfl, rfl, rfl, rfl, rfl, trivial⟩ hid ?_
          · exact ⟨by omega, by omega, fun k h => by omega⟩
          intro i hj
          obtain ⟨j0, j1, j2⟩ := hj
          refine sq ?_
          refine rg ?_
          refine st (lt rfl rfl) rfl ?_
          refine nl ?_
          refine nS ?_
          refine sq ?_
          refine cd rfl (fun hb => ?_) (fun hb => ?_)
          · have h57 := (of_decide_eq_true hb)
            clear hb
            refine sk ?_
            refine nS ?_
            refine sq ?_
            refine bk ?_
            refine sq ?_
            refine rg ?_
            refine st (mv rfl) rfl ?_
            refine st (asg rfl) rfl ?_
            refine nl ?_
            refine nS ?_
            refine sq ?_
            refine rgd rfl [0, 1, 2, 3, 4, 5, 6, 7, 8] [] [] [] (by kernel_rfl) ?_
            refine dst rfl rfl (mv rfl) rfl ?_
            refine dst rfl rfl (nk rfl) rfl ?_
            refine dst rfl rfl (fa (o3 := 0 + 1) F187_1 rfl rfl) rfl ?_
            refine dst rfl rfl (lm1 1 T185 (TD.In.im (d := d)).t Hm.i2 rfl rfl rfl) rfl ?_
            refine dst rfl rfl (w1 (loa (vs := [_, _]) T59 rfl rfl rfl)) rfl ?_
            refine dst rfl rfl (mv rfl) rfl ?_
            refine dst rfl rfl (cl0 C129 (fnc _) rfl (fun _ hw => After_c hw (by omega))) rfl ?_
            refine dst rfl rfl (lkT (d := d) (y := afterID id i) U185 K59 T160 hok (TD.In.im.map.mono Hm.i2) rfl rfl rfl) rfl ?_
            refine dst rfl rfl (nev rfl rfl rfl gd_ptr (fun w => eq_ptr U160 _ w)) rfl ?_
            refine dcv (u := .bool (decide (afterID id i ∈ d.ids))) (by rw [optA_some]) ?_
            refine dend rfl ?_
            refine nl ?_
            refine nS ?_
            refine cd rfl (fun hb => ?_) (fun hb => ?_)
            · have h67 := (of_decide_eq_true hb)
              clear hb
              refine sq ?_
              refine rg ?_
              refine st (asg rfl) rfl ?_
              refine nl ?_
              refine nS ?_
              refine rt ?_
              refine rB ?_
              refine rS ?_
              refine rS ?_
              refine rB ?_
              refine rS ?_
              exact ret1 rfl rfl (ins_fail hok (insE_hit hmay hbad h39 h52 (hitN_yes j0 h57 h67)) (by decide)) o3
            · have h67 := (of_decide_eq_false hb)
              clear hb
              refine sk ?_
              refine nB ?_
              refine nS ?_
              refine rg ?_
              refine st (ad rfl rfl (by omega)) rfl ?_
              refine st (mv rfl) rfl ?_
              refine nl ?_
              refine gr2 ?_
              refine gr2 ?_
              refine gr2 ?_
              refine gr2 ?_
              refine gr2 ?_
              refine gr2 ?_
              exact le1 (i + 1) ⟨⟨by omega, by omega, hit_step j2 h67⟩, by omega⟩ ⟨rfl, rfl, rfl, rfl, rfl, rfl, trivial⟩ hid
          · have h57 := (of_decide_eq_false hb)
            clear hb
            refine xt ?_
            refine xS ?_
            refine xS ?_
            refine xB ?_
            refine nS ?_
            refine sq ?_
            refine sq ?_
            refine rg ?_
            have hw0 : whyE d.ids id ref = 0 := h52
            have hP := insP_of hf hmay.1 (by omega) hw0 (fun k hk => j2 k (by omega))
            have hE0 : insE d.nds id ref s = 0 := insE_ok hmay hbad h39 h52 (hitN_no fun k hk => j2 k (by omega))
            refine st (mv rfl) rfl ?_
            refine rgs U9 rfl rfl ?_; intro b16_1
            refine nl ?_
            refine nS ?_
            refine bk ?_
            refine gR1 ?_
            refine gR2 ?_
            refine gR2 ?_
            refine gR3 ?_
            refine lpc2 (fun (p : Nat) (q : TD × ID × ID × Nat) C => C) [(0, _), (5, _), (6, _), (70, _)] (fun (p : Nat) (q : TD × ID × ID × Nat) H => q.1.lay :: [(b16_1, .stringIter s p)] :: [(b0_0, .cells (List.toArray [.int .i64 q.2.1.time, .int .i64 q.2.1.site]) 59 (0, 0))] :: [(b0_1, .cells (List.toArray [.int .i64 q.2.2.1.time, .int .i64 q.2.2.1.site]) 59 (0, 0))] :: H) [] (fun (p : Nat) (q : TD × ID × ID × Nat) => InsI d id ref (decS s 0).length (putR d.nds id ref (decS s 0)) q.1 (decS s p) q.2.2.2 q.2.1 q.2.2.1) (fun (p : Nat) (q : TD × ID × ID × Nat) => s.size - p) 0 (d, id, ref, 0) ?_ ⟨rfl, rfl, rfl, rfl, trivial⟩ hid ?_
            · exact InsI.start hok
            intro p q hj
            have j0 := hj
            refine sq ?_
            refine rg ?_
            refine r1 ?_
            refine nxs rfl rfl (fun hn17_0 => ?_) (fun hn17_0 => ?_)
            · skip
              refine st (xc rfl rfl) rfl ?_
              refine nl ?_
              refine nS ?_
              refine sq ?_
              refine cdF rfl ?_
              refine xt ?_
              refine xS ?_
              refine xS ?_
              refine xB ?_
              refine nS ?_
              refine sq ?_
              refine rg ?_
              refine st (asg rfl) rfl ?_
              refine nl ?_
              refine nS ?_
              refine rt ?_
              exact ret1 rfl rfl (ins_end2 hE0 j0 (decS_end hn17_0)) o2
            · skip
              refine st (xc rfl rfl) rfl ?_
              refine nl ?_
              refine nS ?_
              refine sq ?_
              refine cdT rfl ?_
              refine sk ?_
              refine nS ?_
              refine bk ?_
              refine sq ?_
              refine rg ?_
              refine st (xc rfl rfl) rfl ?_
              refine st (asg rfl) rfl ?_
              refine nl ?_
              refine nS ?_
              refine sq ?_
              refine rg ?_
              refine st (mv rfl) rfl ?_
              refine st (w2 (loa (vs := [_, _]) T59 rfl rfl rfl)) rfl ?_
              refine st (w3 (loa (vs := [_, _]) T59 rfl rfl rfl)) rfl ?_
              refine st (mv rfl) rfl ?_
              refine st (bd (cs := [_, _, _, _, _, _]) [(0, [_, _]), (1, [_, _]), (2, [_]), (3, [_])] T84 Pl84 ⟨rfl, ⟨_, rfl, rfl⟩, ⟨rfl, ⟨_, rfl, rfl⟩, ⟨rfl, ⟨_, rfl, rfl⟩, ⟨rfl, ⟨_, rfl, rfl⟩, trivial⟩⟩⟩⟩ rfl) rfl ?_
              refine r1 ?_
              rw [decS_at hn17_0] at j0
              refine cl C130 (fnc _) rfl (fun _ hw => by have := put_c (d := q.1) (n := ⟨q.2.1, q.2.2.1, ((Utf8.decode s p).1 : Int), 1⟩) hw j0.ok (j0.new hP); rw [j0.T] at this; exact this) rfl ?_; intro vv oo ⟨d2, q1, q2, q3, q4⟩
              subst q1
              refine nl ?_
              refine nS ?_
              refine rgd rfl [0, 1, 2] [] [3, 4] [] (by kernel_rfl) ?_
              refine dst rfl rfl (w2 (loa (vs := [_, _]) T59 rfl rfl rfl)) rfl ?_
              refine dst rfl rfl (cl0 C129 (fnc _) rfl (fun _ hw => After_c (x := q.2.1) hw (j0.may hP))) rfl ?_
              refine dst rfl rfl (w2 (loa (vs := [_, _]) T59 rfl rfl rfl)) rfl ?_
              refine dend rfl ?_
              refine r2 ?_
              refine sto (cs' := [_, _]) (vs := [_, _]) T59 rfl rfl rfl rfl rfl (Nat.le_of_ble_eq_true rfl) rfl ?_
              refine r3 ?_
              refine sto (cs' := [_, _]) (vs := [_, _]) T59 rfl rfl rfl rfl rfl (Nat.le_of_ble_eq_true rfl) rfl ?_
              refine nl ?_
              refine nB ?_
              refine gr1 ?_
              refine gr3 ?_
              refine gr3 ?_
              refine gr3 ?_
              refine gr3 ?_
              refine gr3 ?_
              refine gr3 ?_
              exact le2 (p + (Utf8.decode s p).2) (d2, afterID q.2.1 1, q.2.1, q.2.2.2 + 1) ⟨j0.step hP q2 (q3.trans j0.T.symm) q4, by have := decode_pos s p; omega⟩ ⟨rfl, rfl, rfl, rfl, trivial⟩ hid
end Go.W
/- Going through a tree by a stack: plain words. -/
namespace Go.W
open Go

inductive Wal (kids : ID → List ID) : List (List ID) → List ID → Prop
  | nil : Wal kids [] []
  | pop {st xs} (h : Wal kids st xs) : Wal kids ([] :: st) xs
  | go {k ks st xs} (h : Wal kids (kids k :: ks :: st) xs) : Wal kids ((k :: ks) :: st) (k :: xs)
theorem Wal.popped {kids : ID → List ID} {st xs} (h : Wal kids ([] :: st) xs) : Wal kids st xs := by cases h; assumption
theorem Wal.gone {kids : ID → List ID} {k ks st xs} (h : Wal kids ((k :: ks) :: st) xs) : ∃ r, xs = k :: r ∧ Wal kids (kids k :: ks :: st) r := by cases h; exact ⟨_, rfl, by assumption⟩

/-- A tree's elements. -/
structure Tr (l : List Nd) : Prop where
  nodup : (l.map (·.id)).Nodup
  nz : z0 ∉ l.map (·.id)
  up : ∀ n ∈ l, n.ref = z0 ∨ n.ref ∈ l.map (·.id)
  low : ∀ n ∈ l, cmpID n.ref n.id < 0
theorem TD.Ok.tr {d : TD} (h : d.Ok) : Tr d.nds := ⟨h.nodup, h.nz, h.up, h.low⟩

/-- k, and all that stands behind it (so deep). -/
def preK (l : List Nd) : Nat → ID → List ID
  | 0, k => [k]
  | n + 1, k => k :: (kidsOf l k).flatMap (preK l n)
/-- All, in the order of the document. -/
def allL (l : List Nd) : List ID := (kidsOf l z0).flatMap (preK l l.length)

def rankK (l : List Nd) (k : ID) : Nat := (l.filter fun n => decide (cmpID k n.id < 0)).length
theorem rank_kid {l : List Nd} (h : Tr l) {k j : ID} (hj : j ∈ kidsOf l k) : rankK l j < rankK l k := by
  obtain ⟨n, hn, rfl, rfl⟩ := mem_kidsOf.1 hj
  have hlow := h.low n hn
  refine filter_lt' _ _ (fun x hx => ?_) (e := n) (by simpa using hlow) (by simpa using cmpID_irr) l hn
  simp only [decide_eq_true_eq] at hx ⊢
  exact cmpID_trans hlow hx
theorem wk_pre {l : List Nd} (h : Tr l) : ∀ (n : Nat) (ks : List ID) (st : List (List ID)) (xs : List ID), (∀ k ∈ ks, rankK l k ≤ n) → Wal (kidsOf l) st xs → Wal (kidsOf l) (ks :: st) (ks.flatMap (preK l n) ++ xs) := by
  intro n
  induction n with
  | zero =>
    intro ks
    induction ks with
    | nil => intro st xs _ hw; exact .pop hw
    | cons k ks ih =>
      intro st xs hr hw
      have hk : kidsOf l k = [] := List.eq_nil_iff_forall_not_mem.2 fun j hj => by have := rank_kid h hj; have := hr k (by simp); omega
      rw [List.flatMap_cons]
      refine .go ?_
      rw [hk]
      exact .pop (ih st xs (fun j hj => hr j (by simp [hj])) hw)
  | succ n ihn =>
    intro ks
    induction ks with
    | nil => intro st xs _ hw; exact .pop hw
    | cons k ks ih =>
      intro st xs hr hw
      rw [List.flatMap_cons]
      show Wal _ _ ((k :: (kidsOf l k).flatMap (preK l n)) ++ ks.flatMap (preK l (n + 1)) ++ xs)
      rw [List.cons_append, List.cons_append, List.append_assoc]
      refine .go (ihn _ _ _ (fun j hj => ?_) (ih st xs (fun j hj => hr j (by simp [hj])) hw))
      have := rank_kid h hj; have := hr k (by simp); omega
theorem wk_all {l : List Nd} (h : Tr l) : Wal (kidsOf l) [kidsOf l z0] (allL l) := by
  have := wk_pre h l.length (kidsOf l z0) [] [] (fun k _ => List.length_filter_le _ _) .nil
  rwa [List.append_nil] at this
theorem wk_count {kids : ID → List ID} {st : List (List ID)} {xs : List ID} (h : Wal kids st xs) (x : ID) : xs.count x = st.flatten.count x + (xs.map fun k => (kids k).count x).sum := by
  induction h with
  | nil => simp
  | pop _ ih => simpa using ih
  | go _ ih =>
    rename_i k ks st xs _
    simp only [List.flatten_cons, List.count_append, List.count_cons, List.map_cons, List.sum_cons, List.cons_append] at ih ⊢
    omega
theorem sum_ind {x : ID} : ∀ (xs : List ID) (f : ID → Nat) (r : ID), (∀ k, f k = if k = r then 1 else 0) → (xs.map f).sum = xs.count r := by
  intro xs f r hf
  induction xs with
  | nil => simp
  | cons k xs ih =>
    rw [List.map_cons, List.sum_cons, ih, hf, List.count_cons]
    by_cases e : k = r
    · subst e; simp; omega
    · have : (k == r) = false := by simpa using e
      simp [e]
theorem count_kids {l : List Nd} (h : Tr l) {n : Nd} (hn : n ∈ l) (k : ID) : (kidsOf l k).count n.id = if k = n.ref then 1 else 0 := by
  have hnd := above_nodup (kidsOf_sorted (r := k) h.nodup)
  by_cases e : k = n.ref
  · rw [if_pos e]
    exact Nat.le_antisymm (List.nodup_iff_count.1 hnd n.id) (List.count_pos_iff.2 (mem_kidsOf.2 ⟨n, hn, rfl, e.symm⟩))
  · rw [if_neg e, List.count_eq_zero]
    intro hm
    obtain ⟨m, hm, e1, e2⟩ := mem_kidsOf.1 hm
    have : m = n := by
      have h1 := h.nodup
      obtain ⟨i, hi⟩ := List.getElem?_of_mem hm
      obtain ⟨j, hj⟩ := List.getElem?_of_mem hn
      obtain ⟨li, ei⟩ := List.getElem?_eq_some_iff.1 hi
      obtain ⟨lj, ej⟩ := List.getElem?_eq_some_iff.1 hj
      have h2 : (l.map (·.id))[i]'(by simpa using li) = (l.map (·.id))[j]'(by simpa using lj) := by
        rw [List.getElem_map, List.getElem_map, ei, ej, e1]
      have h3 := (List.getElem_inj h1).1 h2
      subst h3
      rw [← ei, ← ej]
    subst this
    exact e e2.symm
theorem all_sub {l : List Nd} {st : List (List ID)} {xs : List ID} (hw : Wal (kidsOf l) st xs) (hs : ∀ ks ∈ st, ∀ k ∈ ks, k ∈ l.map (·.id)) : ∀ k ∈ xs, k ∈ l.map (·.id) := by
  induction hw with
  | nil => simp
  | pop _ ih => exact ih fun ks hks => hs ks (by simp [hks])
  | go _ ih =>
    rename_i k ks st xs _
    intro j hj
    rcases List.mem_cons.1 hj with rfl | hj
    · exact hs (j :: ks) (by simp) j (by simp)
    · refine ih (fun ks' hk k' hk' => ?_) j hj
      rcases List.mem_cons.1 hk with rfl | hk
      · obtain ⟨n, hn, rfl, -⟩ := mem_kidsOf.1 hk'; exact List.mem_map_of_mem hn
      · rcases List.mem_cons.1 hk with rfl | hk
        · exact hs (k :: ks') (by simp) k' (by simp [hk'])
        · exact hs ks' (by simp [hk]) k' hk'
theorem all_count {l : List Nd} (h : Tr l) : ∀ (m : Nat) (n : Nd), n ∈ l → (l.filter fun x => decide (cmpID x.id n.id < 0)).length ≤ m → (allL l).count n.id = 1 := by
  have hw := wk_all h
  have hsub := all_sub hw fun ks hks k hk => by
    simp at hks; subst hks
    obtain ⟨n, hn, rfl, -⟩ := mem_kidsOf.1 hk; exact List.mem_map_of_mem hn
  have hz : (allL l).count z0 = 0 := List.count_eq_zero.2 fun hm => h.nz (hsub _ hm)
  have key : ∀ n ∈ l, (allL l).count n.id = (if z0 = n.ref then 1 else 0) + (allL l).count n.ref := fun n hn => by
    have h1 := wk_count hw n.id
    rw [sum_ind (x := n.id) (allL l) _ n.ref (fun k => count_kids h hn k)] at h1
    simp only [List.flatten_cons, List.flatten_nil, List.append_nil, count_kids h hn] at h1
    exact h1
  intro m
  induction m with
  | zero =>
    intro n hn hm
    rw [key n hn]
    rcases h.up n hn with e | e
    · rw [e, if_pos rfl, hz]
    · obtain ⟨x, hx, e2⟩ := List.mem_map.1 e
      have hl := h.low n hn
      rw [← e2] at hl
      have : 0 < (l.filter fun x => decide (cmpID x.id n.id < 0)).length := List.length_pos_of_mem (List.mem_filter.2 ⟨hx, by simpa using hl⟩)
      omega
  | succ m ih =>
    intro n hn hm
    rw [key n hn]
    rcases h.up n hn with e | e
    · rw [e, if_pos rfl, hz]
    · obtain ⟨x, hx, e2⟩ := List.mem_map.1 e
      have hl := h.low n hn
      rw [← e2] at hl ⊢
      have hne : ¬ z0 = x.id := fun q => h.nz (q ▸ List.mem_map_of_mem hx)
      rw [if_neg hne, ih x hx]
      have : (l.filter fun y => decide (cmpID y.id x.id < 0)).length < (l.filter fun y => decide (cmpID y.id n.id < 0)).length :=
        filter_lt' _ _ (fun y hy => by simp only [decide_eq_true_eq] at hy ⊢; exact cmpID_trans hy hl) (e := x) (by simpa using hl) (by simpa using cmpID_irr) l hx
      omega
/-- Each element once. -/
theorem all_perm {l : List Nd} (h : Tr l) : (allL l).Perm (l.map (·.id)) := by
  rw [List.perm_iff_count]
  intro x
  by_cases hx : x ∈ l.map (·.id)
  · obtain ⟨n, hn, rfl⟩ := List.mem_map.1 hx
    rw [all_count h _ n hn (Nat.le_refl _)]
    exact (Nat.le_antisymm (List.nodup_iff_count.1 h.nodup n.id) (List.count_pos_iff.2 hx)).symm
  · rw [List.count_eq_zero.2 hx, List.count_eq_zero]
    intro hm
    exact hx (all_sub (wk_all h) (fun ks hks k hk => by
      simp at hks; subst hks
      obtain ⟨n, hn, rfl, -⟩ := mem_kidsOf.1 hk; exact List.mem_map_of_mem hn) x hm)
theorem all_len {l : List Nd} (h : Tr l) : (allL l).length = l.length := by have := (all_perm h).length_eq; simpa using this
theorem all_mem {l : List Nd} (h : Tr l) {x : ID} : x ∈ allL l ↔ x ∈ l.map (·.id) := (all_perm h).mem_iff

/-! ### The stack -/
/-- The tree's shape can be read: where each one lies, and what stands behind it. -/
structure TD.Str (d : TD) (M : Mem) : Prop where
  top : ∃ W, CellsAt M ⟨d.T, 0, none⟩ [d.vs z0, W]
  el : ∀ k ∈ d.ids, ∃ n : Nd, CellsAt M ⟨d.ad k, 0, none⟩ (encNd n ++ [d.vs k])
  os : ∀ r, (r = z0 ∨ r ∈ d.ids) → MLe (Im (d.os r)) M
theorem TD.Str.mono {d : TD} {M M' : Mem} (h : d.Str M) (hM : MLe M M') : d.Str M' :=
  ⟨let ⟨W, x⟩ := h.top; ⟨W, x.mono hM⟩, fun k hk => let ⟨n, x⟩ := h.el k hk; ⟨n, x.mono hM⟩, fun r hr => (h.os r hr).trans hM⟩
theorem TD.In.str {d : TD} {M : Mem} (h : d.In M) : d.Str M :=
  ⟨⟨_, h.t⟩, fun k hk => by obtain ⟨n, hn, rfl⟩ := List.mem_map.1 hk; exact ⟨n, h.e hn⟩, fun r hr => h.o hr⟩
/-- What can be read besides: an item. -/
def MO (M : Mem) (o : Own) : Mem := fun k ob => M k ob ∨ (k, ob) ∈ o
theorem MO.hm {M : Mem} {o : Own} {h : List Own} (ho : MLe (Im o) (Hm M h)) : MLe (MO M o) (Hm M h) := fun k ob x => by
  rcases x with x | x
  · exact .inl x
  · exact ho _ _ x
theorem MO.hm2 {M M' : Mem} {o : Own} {h : List Own} (hM : MLe M M') (ho : MLe (Im o) (Hm M' h)) : MLe (MO M o) (Hm M' h) := fun k ob x => by
  rcases x with x | x
  · exact .inl (hM _ _ x)
  · exact ho _ _ x
def Ent (d : TD) (v : Value) (ks : List ID) : Prop := ∃ r, (r = z0 ∨ r ∈ d.ids) ∧ Sl (Im (d.os r)) 1 (RPt d.ad) v ks ∧ ∀ k ∈ ks, k ∈ d.ids
theorem TD.Ok.ent {d : TD} (h : d.Ok) {r : ID} (hr : r = z0 ∨ r ∈ d.ids) : Ent d (d.vs r) (d.kids r) := ⟨r, hr, h.sl' hr (h.kids_len r), fun k hk => h.kid_ids hk⟩
structure StkI (d : TD) (S : List ID → Own → Prop) (xs : List ID) (oc : Own) (p rest : List ID) (sts : List (Value × List ID)) : Prop where
  ent : ∀ e ∈ sts, Ent d e.1 e.2
  xs : xs = p ++ rest
  wk : Wal d.kids (sts.map (·.2)).reverse rest
  S : S p oc
  len : sts.length ≤ p.length + 1
section
variable {d : TD} {S : List ID → Own → Prop} {xs : List ID} {oc oc2 : Own} {p rest : List ID} {st0 sts : List (Value × List ID)} {v v2 : Value} {ks : List ID} {y : ID}
theorem StkI.start (hok : d.Ok) (hw : Wal d.kids [d.kids z0] xs) (hS : S [] oc) : StkI d S xs oc [] xs [(d.vs z0, d.kids z0)] :=
  ⟨fun e he => by simp at he; subst he; exact hok.ent (.inl rfl), rfl, hw, hS, by simp⟩
theorem StkI.pop (h : StkI d S xs oc p rest (st0 ++ [(v, ks)])) (hk : ks = []) : StkI d S xs oc p rest st0 := by
  subst hk
  refine ⟨fun e he => h.ent e (by simp [he]), h.xs, ?_, h.S, by have := h.len; simp at this; omega⟩
  have := h.wk
  rw [List.map_append, List.reverse_append] at this
  exact Wal.popped this
theorem StkI.cur (h : StkI d S xs oc p rest (st0 ++ [(v, ks)])) (hy : ks[0]? = some y) : ∃ r, rest = y :: r ∧ Wal d.kids (d.kids y :: ks.drop 1 :: (st0.map (·.2)).reverse) r := by
  have := h.wk
  rw [List.map_append, List.reverse_append] at this
  cases ks with
  | nil => cases hy
  | cons k ks =>
    simp at hy; subst hy
    obtain ⟨r, e, hw⟩ := Wal.gone this
    exact ⟨r, e, hw⟩
theorem StkI.go (h : StkI d S xs oc p rest (st0 ++ [(v, ks)])) {r : List ID} (he : rest = y :: r) (hw : Wal d.kids (d.kids y :: ks.drop 1 :: (st0.map (·.2)).reverse) r) (hv : Ent d v2 (ks.drop 1)) (hS : S (p ++ [y]) oc2) (hk : d.kids y = []) :
    StkI d S xs oc2 (p ++ [y]) r (st0 ++ [(v2, ks.drop 1)]) := by
  rw [hk] at hw
  refine ⟨fun e he' => ?_, by rw [h.xs, he]; simp, by rw [List.map_append, List.reverse_append]; exact hw.popped, hS, by have := h.len; simp at this ⊢; omega⟩
  rcases List.mem_append.1 he' with q | q
  · exact h.ent e (by simp [q])
  · rw [List.mem_singleton] at q; subst q; exact hv
theorem StkI.go2 (h : StkI d S xs oc p rest (st0 ++ [(v, ks)])) {r : List ID} (he : rest = y :: r) (hw : Wal d.kids (d.kids y :: ks.drop 1 :: (st0.map (·.2)).reverse) r) (hv : Ent d v2 (ks.drop 1)) (hS : S (p ++ [y]) oc2) (hk : Ent d (d.vs y) (d.kids y)) :
    StkI d S xs oc2 (p ++ [y]) r (st0 ++ [(v2, ks.drop 1)] ++ [(d.vs y, d.kids y)]) := by
  refine ⟨fun e he' => ?_, by rw [h.xs, he]; simp, by rw [List.map_append, List.map_append, List.reverse_append, List.reverse_append]; exact hw, hS, by have := h.len; simp at this ⊢; omega⟩
  rcases List.mem_append.1 he' with q | q
  · rcases List.mem_append.1 q with q | q
    · exact h.ent e (by simp [q])
    · rw [List.mem_singleton] at q; subst q; exact hv
  · simp at q; subst q; exact hk
theorem StkI.done (h : StkI d S xs oc p rest sts) (hs : sts = []) : S xs oc := by
  subst hs
  have := h.wk
  have e : rest = [] := by cases this; rfl
  rw [h.xs, e, List.append_nil]; exact h.S
theorem stk_pos {o : Own} {V : Value} {E : Nat} (h : OS o E 1 V (sts.map (·.1))) (hp : 0 < sts.length) : ∃ (st0 : List (Value × List ID)) (v : Value) (ks : List ID) (k cap : Nat) (cs : List Value), sts = st0 ++ [(v, ks)] ∧ o = [(k, .cells cs.toArray E (0, 0))] ∧ V = .slice (some ⟨k, 0, none⟩) (st0.length + 1) cap ∧ cap ≤ cs.length ∧ st0.length + 1 ≤ cap ∧
    cs.take st0.length = st0.map (·.1) ∧ (cs.drop st0.length).take 1 = [v] ∧ (st0.map (·.1)).all flat = true ∧ flat v = true := by
  obtain ⟨st0, ⟨v, ks⟩, rfl⟩ : ∃ a b, sts = a ++ [b] := by
    rcases List.eq_nil_or_concat sts with rfl | ⟨a, b, rfl⟩
    · simp at hp
    · exact ⟨a, b, by simp⟩
  rcases h with ⟨rfl, h2, rfl⟩ | ⟨k, n, cap, cs, rfl, rfl, h3, h4, h5, h6⟩
  · simp at h2
  · rw [List.map_append, List.map_cons, List.map_nil] at h4 h6
    rw [Nat.mul_one] at h4 h3
    have hn : n = st0.length + 1 := by
      have := congrArg List.length h4
      simp at this; omega
    subst hn
    rw [List.all_append, Bool.and_eq_true] at h6
    refine ⟨st0, v, ks, k, cap, cs, rfl, rfl, rfl, h3, h5, ?_, ?_, h6.1, by simpa using h6.2⟩
    · have := congrArg (List.take st0.length) h4
      rw [List.take_take, Nat.min_eq_left (by omega), List.take_left' (by simp)] at this
      exact this.symm
    · have := congrArg (List.drop st0.length) h4
      rw [List.drop_take, List.drop_left' (by simp)] at this
      rw [show st0.length + 1 - st0.length = 1 by omega] at this
      exact this.symm
theorem stk_os {E k cap : Nat} {cs : List Value} (hcl : cap ≤ cs.length) (hn : st0.length ≤ cap) (h : cs.take st0.length = st0.map (·.1)) (hf : (st0.map (·.1)).all flat = true) : OS [(k, .cells cs.toArray E (0, 0))] E 1 (.slice (some ⟨k, 0, none⟩) st0.length cap) (st0.map (·.1)) :=
  .inr ⟨k, st0.length, cap, cs, rfl, rfl, by rw [Nat.mul_one]; exact hcl, by rw [Nat.mul_one]; exact h.symm, hn, hf⟩
theorem stk_set {E k cap : Nat} {cs : List Value} {ks' : List ID} (hcl : cap ≤ cs.length) (hn : st0.length + 1 ≤ cap) (h : cs.take st0.length = st0.map (·.1)) (hf : (st0.map (·.1)).all flat = true) (hv : flat v2 = true) :
    OS [(k, .cells (setL cs st0.length [v2]).toArray E (0, 0))] E 1 (.slice (some ⟨k, 0, none⟩) (st0.length + 1) cap) ((st0 ++ [(v2, ks')]).map (·.1)) := by
  refine .inr ⟨k, st0.length + 1, cap, _, rfl, rfl, by rw [setL_length, Nat.mul_one]; exact hcl, ?_, hn, ?_⟩
  · rw [Nat.mul_one]
    have := take_setL (cs := cs) (ys := [v2]) (o := st0.length) (by simp; omega)
    rw [show st0.length + [v2].length = st0.length + 1 from rfl] at this
    rw [this, h]; simp
  · rw [List.map_append, List.all_append, hf]; simpa using hv
theorem Ent.tail {r : ID} (hr : r = z0 ∨ r ∈ d.ids) (hv : Sl (Im (d.os r)) 1 (RPt d.ad) v2 (ks.drop 1)) (hk : ∀ k ∈ ks, k ∈ d.ids) : Ent d v2 (ks.drop 1) := ⟨r, hr, hv, fun k hx => hk k (List.mem_of_mem_drop hx)⟩
end
theorem v_pt {k a b : Nat} (h : a = b) : Value.pointer (some ⟨k, a, none⟩) = pt k b := by rw [h]
theorem Sl.isSl' {α : Type} {M : Mem} {sz : Nat} {R : Mem → List Value → α → Prop} {V : Value} {xs : List α} (h : Sl M sz R V xs) : flat V = true := by obtain ⟨A, c, rfl, -⟩ := h; rfl
end Go.W
