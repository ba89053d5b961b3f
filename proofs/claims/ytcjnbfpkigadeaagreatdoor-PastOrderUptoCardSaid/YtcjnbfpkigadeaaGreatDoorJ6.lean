/- Lemmas for the walks of this program: Walks. Written by a program of mine. Walks. Written by a program of mine. -/
import Derived.Test.YtcjnbfpkigadeaaGreatDoorJ5
set_option linter.unusedVariables false
set_option linter.unusedSimpArgs false
/- Walks. Written by a program of mine. -/
namespace Go.W
open Go Go.Proofs.Tryz
set_option maxRecDepth 20000 in
theorem isSite_c {M : Mem} {w : World} {n : Int} (hM : RO M [] w) : FnC prog 84 [.int .i64 n] w [] (fun u _ => u = .bool (decide (1 ≤ n ∧ n ≤ 16))) := by
  refine enter (code := _) func84 rfl 9 rfl rfl hM [] rfl [(0, _)] ⟨rfl, trivial⟩ ?_
  refine sq ?_
  refine rg ?_
  refine st (asg rfl) rfl ?_
  refine nl ?_
  refine nS ?_
  refine sqk (fun C => (2, .bool (decide (1 ≤ n ∧ n ≤ 16))) :: C) [] trivial ?_ ?_
  · skip
    refine rg ?_
    refine st (mv rfl) rfl ?_
    refine st (gq rfl rfl) rfl ?_
    refine st (mv rfl) rfl ?_
    refine spl (fun hb => ?_) (fun hb => ?_)
    · have h5 := (of_decide_eq_true hb)
      clear hb
      refine gT rfl rfl ?_
      refine st (mv rfl) rfl ?_
      refine gT rfl rfl ?_
      refine st (lq rfl rfl) rfl ?_
      refine st (pkT rfl rfl) rfl ?_
      refine st (asg rfl) rfl ?_
      refine nl ?_
      exact le0   ⟨(by first | (refine dT rfl ?_; omega) | (refine dF rfl ?_; omega) | (refine bE rfl (decide_eq_decide.2 ?_); omega)), trivial⟩ hid
    · have h5 := (of_decide_eq_false hb)
      clear hb
      refine gF rfl rfl rfl rfl ?_
      refine gF rfl rfl rfl rfl ?_
      refine st (pkF rfl rfl) rfl ?_
      refine st (asg rfl) rfl ?_
      refine nl ?_
      exact le0   ⟨(by first | (refine dT rfl ?_; omega) | (refine dF rfl ?_; omega) | (refine bE rfl (decide_eq_decide.2 ?_); omega)), trivial⟩ hid
  refine rt ?_
  exact ret1 rfl rfl (by first | rfl | exact trivial) o0

set_option maxRecDepth 20000 in
theorem of_c {M : Mem} {w : World} {V : Value} {v : List Dot} (hM : RO M [] w) (hv : Sl M 2 RDot V v) : FnC prog 124 [V] w [] (fun u _ => u = .agg (rowOf (says v)).toArray) := by
  refine enter (code := _) func124 rfl 37 rfl rfl hM [] rfl [(0, _)] ⟨rfl, trivial⟩ ?_
  have l_hv := hv.bound
  refine sq ?_
  refine rg ?_
  refine al T202 rfl rfl ?_; intro b0_0
  refine nl ?_
  refine nS ?_
  refine sq ?_
  refine rg ?_
  refine al T202 rfl rfl ?_; intro b1_0
  refine nl ?_
  refine nS ?_
  refine sq ?_
  refine sq ?_
  refine rg ?_
  refine st (mv rfl) rfl ?_
  refine st (lnS U24 hv rfl) rfl ?_
  refine st (mv rfl) rfl ?_
  refine nl ?_
  refine nS ?_
  refine bk ?_
  refine gR1 ?_
  refine gR1 ?_
  refine lpc1 (fun (i : Int) C => (8, .int .i64 i) :: C) [(2, _), (3, _), (6, _), (7, _)] (fun (i : Int) H => [(b1_0, .cells (rowOf (says (v.take i.toNat))).toArray 202 (0, 0))] :: H) [_] (fun (i : Int) => 0 ≤ i ∧ i ≤ v.length) (fun (i : Int) => ((v.length : Int) - i).toNat) 0 ?_ ⟨rfl, rfl, rfl, rfl, rfl, trivial⟩ (fun w s => s) ?_
  · exact ⟨by omega, by omega⟩
  intro i hj
  obtain ⟨j0, j1⟩ := hj
  refine sq ?_
  refine rg ?_
  refine st (lt rfl rfl) rfl ?_
  refine nl ?_
  refine nS ?_
  refine sq ?_
  refine cd rfl (fun hb => ?_) (fun hb => ?_)
  · have h9 := (of_decide_eq_true hb)
    clear hb
    refine sk ?_
    refine nS ?_
    refine sq ?_
    refine bk ?_
    refine sq ?_
    refine rg ?_
    refine iaS U24 T29 hv rfl rfl (by omega) (by omega) rfl ?_; intro b4_0 p4_0 y4_0 u4_0 e4_0 c4_0 n4_0 q4_0
    obtain ⟨rfl, qa4_0, qb4_0⟩ := q4_0
    clear n4_0
    refine st (lma (us := [_, _]) 0 T29 c4_0 Hm.m rfl rfl rfl rfl) rfl ?_
    refine al T29 rfl rfl ?_; intro b4_2
    refine sto (cs' := [_, _]) (vs := [_, _]) T29 rfl rfl rfl rfl rfl (Nat.le_of_ble_eq_true rfl) rfl ?_
    refine nl ?_
    refine nS ?_
    refine sq ?_
    refine rg ?_
    refine st (fa (o3 := 0) F29_0 rfl rfl) rfl ?_
    refine st (lo1 T3 rfl rfl) rfl ?_
    refine st (cl0 C84 (fnc _) rfl (fun _ hw => isSite_c hw )) rfl ?_
    refine st (mv rfl) rfl ?_
    refine spl (fun hb => ?_) (fun hb => ?_)
    · have h15 := (of_decide_eq_true hb)
      clear hb
      refine gT rfl rfl ?_
      refine st (fa (o3 := 1) F29_1 rfl rfl) rfl ?_
      refine gT rfl rfl ?_
      refine st (lo1 T3 rfl rfl) rfl ?_
      refine gT rfl rfl ?_
      refine st (gq rfl rfl) rfl ?_
      refine st (pkT rfl rfl) rfl ?_
      refine st (mv rfl) rfl ?_
      refine spl (fun hb => ?_) (fun hb => ?_)
      · have h20 := (of_decide_eq_true hb)
        clear hb
        refine gT rfl rfl ?_
        refine st (fa (o3 := 1) F29_1 rfl rfl) rfl ?_
        refine gT rfl rfl ?_
        refine st (lo1 T3 rfl rfl) rfl ?_
        refine gT rfl rfl ?_
        refine st (lq rfl rfl) rfl ?_
        refine st (pkT rfl rfl) rfl ?_
        refine nl ?_
        refine nS ?_
        refine cd rfl (fun hb => ?_) (fun hb => ?_)
        · have h24 := (of_decide_eq_true hb)
          clear hb
          refine rgd rfl [0, 1, 2, 3, 4, 5, 6, 7, 8, 9] [] [10] [] (by kernel_rfl) ?_
          refine dst rfl rfl (fa (o3 := 0) F29_0 rfl rfl) rfl ?_
          refine dst rfl rfl (lo1 T3 rfl rfl) rfl ?_
          refine dst rfl rfl (fa (o3 := 0) F29_0 rfl rfl) rfl ?_
          refine dst rfl rfl (lo1 T3 rfl rfl) rfl ?_
          refine dst rfl rfl (iaA U202 T3 rfl rfl (by omega) (by omega)) rfl ?_
          refine dst rfl rfl (w1 (lo1 (v := .int .i64 _) T3 rfl (rowOf_at _ (by omega)))) rfl ?_
          refine dst rfl rfl (fa (o3 := 1) F29_1 rfl rfl) rfl ?_
          refine dst rfl rfl (lo1 T3 rfl rfl) rfl ?_
          refine dst rfl rfl (max2 rfl rfl) rfl ?_
          refine dst rfl rfl (iaA U202 T3 rfl rfl (by omega) (by omega)) rfl ?_
          refine dend rfl ?_
          refine r1 ?_
          refine sto (vs := [.int .i64 _]) T3 rfl rfl rfl rfl rfl (by rw [rowOf_length]; omega) (rowOf_set _ _) ?_
          refine nl ?_
          refine nB ?_
          refine nS ?_
          refine rg ?_
          refine st (ad rfl rfl (by omega)) rfl ?_
          refine st (mv rfl) rfl ?_
          refine nl ?_
          refine gr2 ?_
          refine gr1 ?_
          refine cvI (it' := [(b1_0, .cells (rowOf (says (v.take (i + 1).toNat))).toArray 202 (0, 0))]) (row_eq (by first | (refine says_yes j0 e4_0 ?_; omega) | (refine says_no j0 e4_0 ?_; omega))) ?_
          refine gr1 ?_
          refine gr1 ?_
          exact le1 (i + 1) ⟨⟨by omega, by omega⟩, by omega⟩ ⟨rfl, rfl, rfl, rfl, rfl, trivial⟩ hK2
        · have h24 := (of_decide_eq_false hb)
          clear hb
          refine sk ?_
          refine nB ?_
          refine nS ?_
          refine rg ?_
          refine st (ad rfl rfl (by omega)) rfl ?_
          refine st (mv rfl) rfl ?_
          refine nl ?_
          refine gr2 ?_
          refine gr2 ?_
          refine cvI (it' := [(b1_0, .cells (rowOf (says (v.take (i + 1).toNat))).toArray 202 (0, 0))]) (row_eq (by first | (refine says_yes j0 e4_0 ?_; omega) | (refine says_no j0 e4_0 ?_; omega))) ?_
          refine gr1 ?_
          refine gr1 ?_
          exact le1 (i + 1) ⟨⟨by omega, by omega⟩, by omega⟩ ⟨rfl, rfl, rfl, rfl, rfl, trivial⟩ hK2
      · have h20 := (of_decide_eq_false hb)
        clear hb
        refine gF rfl rfl rfl rfl ?_
        refine gF rfl rfl rfl rfl ?_
        refine gF rfl rfl rfl rfl ?_
        refine st (pkF rfl rfl) rfl ?_
        refine nl ?_
        refine nS ?_
        refine cdF rfl ?_
        refine sk ?_
        refine nB ?_
        refine nS ?_
        refine rg ?_
        refine st (ad rfl rfl (by omega)) rfl ?_
        refine st (mv rfl) rfl ?_
        refine nl ?_
        refine gr2 ?_
        refine gr2 ?_
        refine cvI (it' := [(b1_0, .cells (rowOf (says (v.take (i + 1).toNat))).toArray 202 (0, 0))]) (row_eq (by first | (refine says_yes j0 e4_0 ?_; omega) | (refine says_no j0 e4_0 ?_; omega))) ?_
        refine gr1 ?_
        refine gr1 ?_
        exact le1 (i + 1) ⟨⟨by omega, by omega⟩, by omega⟩ ⟨rfl, rfl, rfl, rfl, rfl, trivial⟩ hK2
    · have h15 := (of_decide_eq_false hb)
      clear hb
      refine gF rfl rfl rfl rfl ?_
      refine gF rfl rfl rfl rfl ?_
      refine gF rfl rfl rfl rfl ?_
      refine st (pkF rfl rfl) rfl ?_
      refine st (mv rfl) rfl ?_
      refine gF rfl rfl rfl rfl ?_
      refine gF rfl rfl rfl rfl ?_
      refine gF rfl rfl rfl rfl ?_
      refine st (pkF rfl rfl) rfl ?_
      refine nl ?_
      refine nS ?_
      refine cdF rfl ?_
      refine sk ?_
      refine nB ?_
      refine nS ?_
      refine rg ?_
      refine st (ad rfl rfl (by omega)) rfl ?_
      refine st (mv rfl) rfl ?_
      refine nl ?_
      refine gr2 ?_
      refine gr2 ?_
      refine cvI (it' := [(b1_0, .cells (rowOf (says (v.take (i + 1).toNat))).toArray 202 (0, 0))]) (row_eq (by first | (refine says_yes j0 e4_0 ?_; omega) | (refine says_no j0 e4_0 ?_; omega))) ?_
      refine gr1 ?_
      refine gr1 ?_
      exact le1 (i + 1) ⟨⟨by omega, by omega⟩, by omega⟩ ⟨rfl, rfl, rfl, rfl, rfl, trivial⟩ hK2
  · have h9 := (of_decide_eq_false hb)
    clear hb
    refine xt ?_
    refine xS ?_
    refine xS ?_
    refine xB ?_
    refine nS ?_
    refine sq ?_
    refine rg ?_
    refine st (loa (vs := rowOf (says v)) T202 rfl (by rw [says_all h9]; exact List.take_of_length_le (Nat.le_of_eq (rowOf_length _))) (rowOf_length _)) rfl ?_
    refine r1 ?_
    refine sto (cs' := rowOf (says v)) (vs := rowOf (says v)) T202 rfl rfl rfl (rowOf_length _) (rowOf_flat _) (Nat.le_refl _) (rowOf_over _) ?_
    refine nl ?_
    refine nS ?_
    refine rt ?_
    exact retc (vs := rowOf (says v)) rfl rfl T202 (List.take_of_length_le (Nat.le_of_eq (rowOf_length _))) (rowOf_length _) (.inl rfl) (by first | rfl | exact trivial) o0

set_option maxRecDepth 20000 in
theorem Get_c {M : Mem} {w : World} {V : Value} {v : List Dot} {s : Int} (hM : RO M [] w) (hv : Sl M 2 RDot V v) : FnC prog 85 [V, .int .i64 s] w [] (fun u _ => u = .int .i64 (getV v s)) := by
  refine enter (code := _) func85 rfl 12 rfl rfl hM [] rfl [(0, _), (1, _)] ⟨rfl, rfl, trivial⟩ ?_
  have l_hv := hv.bound
  refine sq ?_
  refine rg ?_
  refine st (asg rfl) rfl ?_
  refine nl ?_
  refine nS ?_
  refine sq ?_
  refine sq ?_
  refine rg ?_
  refine st (mv rfl) rfl ?_
  refine st (cl0 C84 (fnc _) rfl (fun _ hw => isSite_c hw )) rfl ?_
  refine st (nt rfl) rfl ?_
  refine nl ?_
  refine nS ?_
  refine cd rfl (fun hb => ?_) (fun hb => ?_)
  · have h7 := (of_decide_eq_false (nTF hb))
    clear hb
    refine sq ?_
    refine rg ?_
    refine st (asg rfl) rfl ?_
    refine nl ?_
    refine nS ?_
    refine rt ?_
    refine rS ?_
    exact ret1 rfl rfl (by show _ = _; rw [getV]; first | rw [if_pos (by omega)] | rw [if_neg (by omega)]) o0
  · have h7 := (of_decide_eq_true (nFT hb))
    clear hb
    refine sk ?_
    refine nS ?_
    refine sq ?_
    refine rg ?_
    refine st (mv rfl) rfl ?_
    refine st (cl0 C124 (fnc _) rfl (fun _ hw => of_c hw (hv.mono mDot Hm.m))) rfl ?_
    refine st (mv rfl) rfl ?_
    refine st (ix (v := .int .i64 _) U202 T3 rfl rfl (by omega) (by omega) (rowOf_get _ (by omega))) rfl ?_
    refine st (asg rfl) rfl ?_
    refine nl ?_
    refine nS ?_
    refine rt ?_
    exact ret1 rfl rfl (by show _ = _; rw [getV]; first | rw [if_pos (by omega)] | rw [if_neg (by omega)]) o0

set_option maxRecDepth 20000 in
theorem Has_c {M : Mem} {w : World} {V : Value} {v : List Dot} {d : Dot} (hM : RO M [] w) (hv : Sl M 2 RDot V v) : FnC prog 48 [V, .agg #[.int .i64 d.site, .int .i64 d.seq]] w [] (fun u _ => u = .bool (decide (1 ≤ d.seq ∧ d.seq ≤ getV v d.site))) := by
  refine enter (code := _) func48 rfl 17 rfl rfl hM [] rfl [(0, _), (1, _)] ⟨rfl, rfl, trivial⟩ ?_
  have l_hv := hv.bound
  refine sq ?_
  refine rg ?_
  refine bx (z := [_, _]) rfl rfl rfl ?_; intro b0_0
  refine st (asg rfl) rfl ?_
  refine nl ?_
  refine nS ?_
  refine sqk (fun C => (4, .bool (decide (1 ≤ d.seq ∧ d.seq ≤ getV v d.site))) :: C) [] trivial ?_ ?_
  · skip
    refine rgd rfl [0, 1, 2, 3, 4, 5, 6, 7, 8, 9, 10, 11, 12] [] [] [] (by kernel_rfl) ?_
    refine dst rfl rfl (fa (o3 := 1) F29_1 rfl rfl) rfl ?_
    refine dst rfl rfl (lo1 T3 rfl rfl) rfl ?_
    refine dst rfl rfl (gq rfl rfl) rfl ?_
    refine dst rfl rfl (mv rfl) rfl ?_
    refine dspl (fun hb => ?_) (fun hb => ?_)
    · have h8 := (of_decide_eq_true hb)
      clear hb
      refine dgT rfl rfl rfl rfl (fa (o3 := 1) F29_1 rfl rfl) rfl ?_
      refine dgT rfl rfl rfl rfl (lo1 T3 rfl rfl) rfl ?_
      refine dgT rfl rfl rfl rfl (mv rfl) rfl ?_
      refine dgT rfl rfl rfl rfl (fa (o3 := 0) F29_0 rfl rfl) rfl ?_
      refine dgT rfl rfl rfl rfl (lo1 T3 rfl rfl) rfl ?_
      refine dgT rfl rfl rfl rfl (cl0 C85 (fnc _) rfl (fun _ hw => Get_c hw (hv.mono mDot Hm.m))) rfl ?_
      refine dgT rfl rfl rfl rfl (lq rfl rfl) rfl ?_
      refine dst rfl rfl (pkT rfl rfl) rfl ?_
      refine dst rfl rfl (asg rfl) rfl ?_
      refine dend rfl ?_
      refine nl ?_
      exact le0   ⟨(by first | (refine dT rfl ?_; omega) | (refine dF rfl ?_; omega) | (refine bE rfl (decide_eq_decide.2 ?_); omega)), trivial⟩ hid
    · have h8 := (of_decide_eq_false hb)
      clear hb
      refine dgF rfl rfl rfl rfl rfl ?_
      refine dgF rfl rfl rfl rfl rfl ?_
      refine dgF rfl rfl rfl rfl rfl ?_
      refine dgF rfl rfl rfl rfl rfl ?_
      refine dgF rfl rfl rfl rfl rfl ?_
      refine dgF rfl rfl rfl rfl rfl ?_
      refine dgF rfl rfl rfl rfl rfl ?_
      refine dst rfl rfl (pkF rfl rfl) rfl ?_
      refine dst rfl rfl (asg rfl) rfl ?_
      refine dend rfl ?_
      refine nl ?_
      exact le0   ⟨(by first | (refine dT rfl ?_; omega) | (refine dF rfl ?_; omega) | (refine bE rfl (decide_eq_decide.2 ?_); omega)), trivial⟩ hid
  refine rt ?_
  exact ret1 rfl rfl (by first | rfl | exact trivial) o0

set_option maxRecDepth 20000 in
theorem greater_c {M : Mem} {w : World} {m n : Int} (hM : RO M [] w) : FnC prog 142 [.int .i64 m, .int .i64 n] w [] (fun u _ => u = .int .i64 (max m n)) := by
  refine enter (code := _) func142 rfl 8 rfl rfl hM [] rfl [(0, _), (1, _)] ⟨rfl, rfl, trivial⟩ ?_
  refine sq ?_
  refine rg ?_
  refine st (asg rfl) rfl ?_
  refine nl ?_
  refine nS ?_
  refine sq ?_
  refine rg ?_
  refine st (mv rfl) rfl ?_
  refine st (mv rfl) rfl ?_
  refine st (max2 rfl rfl) rfl ?_
  refine st (asg rfl) rfl ?_
  refine nl ?_
  refine nS ?_
  refine rt ?_
  exact ret1 rfl rfl (by first | rfl | exact trivial) o0

set_option maxRecDepth 20000 in
theorem with_c {M : Mem} {w : World} {V U : Value} {v u : List Dot} (hM : RO M [] w) (hv : Sl M 2 RDot V v) (hu : Sl M 2 RDot U u) : FnC prog 141 [V, U, .func (.func 142) #[] #[]] w [] (fun x _ => x = .agg (rowOf fun s => max (says v s) (says u s)).toArray) := by
  refine enter (code := _) func141 rfl 29 rfl rfl hM [] rfl [(0, _), (1, _), (2, _)] ⟨rfl, rfl, rfl, trivial⟩ ?_
  have l_hv := hv.bound
  have l_hu := hu.bound
  refine sq ?_
  refine rg ?_
  refine al T202 rfl rfl ?_; intro b0_0
  refine nl ?_
  refine nS ?_
  refine sq ?_
  refine rg ?_
  refine st (mv rfl) rfl ?_
  refine st (cl0 C124 (fnc _) rfl (fun _ hw => of_c hw (hv.mono mDot Hm.m))) rfl ?_
  refine st (mv rfl) rfl ?_
  refine st (cl0 C124 (fnc _) rfl (fun _ hw => of_c hw (hu.mono mDot Hm.m))) rfl ?_
  refine al T202 rfl rfl ?_; intro b1_4
  refine al T202 rfl rfl ?_; intro b1_5
  refine r1 ?_
  refine sto (cs' := rowOf (says v)) (vs := rowOf (says v)) T202 rfl rfl rfl (rowOf_length _) (rowOf_flat _) (Nat.le_refl _) (rowOf_over _) ?_
  refine r1 ?_
  refine sto (cs' := rowOf (says u)) (vs := rowOf (says u)) T202 rfl rfl rfl (rowOf_length _) (rowOf_flat _) (Nat.le_refl _) (rowOf_over _) ?_
  refine nl ?_
  refine nS ?_
  refine sq ?_
  refine sq ?_
  refine rg ?_
  refine st (mv rfl) rfl ?_
  refine nl ?_
  refine nS ?_
  refine bk ?_
  refine gR2 ?_
  refine gR1 ?_
  refine gR2 ?_
  refine lpc1 (fun (i : Int) C => (14, .int .i64 i) :: C) [(2, _), (6, _), (7, _), (8, _)] (fun (i : Int) H => [(b1_4, .cells (rowOf (fun s => if (s : Int) < i then max (says v s) (says u s) else says v s)).toArray 202 (0, 0))] :: H) [_, _] (fun (i : Int) => 0 ≤ i ∧ i ≤ 17) (fun (i : Int) => (17 - i).toNat) 0 ?_ ⟨rfl, rfl, rfl, rfl, rfl, trivial⟩ (fun w s => by rw [with_zero]; exact s) ?_
  · exact ⟨by omega, by omega⟩
  intro i hj
  obtain ⟨j0, j1⟩ := hj
  refine sq ?_
  refine rg ?_
  refine st (lt rfl rfl) rfl ?_
  refine nl ?_
  refine nS ?_
  refine sq ?_
  refine cd rfl (fun hb => ?_) (fun hb => ?_)
  · have h15 := (of_decide_eq_true hb)
    clear hb
    refine sk ?_
    refine nS ?_
    refine sq ?_
    refine bk ?_
    refine sq ?_
    refine rg ?_
    refine st (mv rfl) rfl ?_
    refine st (asg rfl) rfl ?_
    refine nl ?_
    refine nS ?_
    refine rgd rfl [0, 1, 2, 3, 4, 5, 6, 7, 8, 9] [] [10] [] (by kernel_rfl) ?_
    refine dst rfl rfl (mv rfl) rfl ?_
    refine dst rfl rfl (mv rfl) rfl ?_
    refine dst rfl rfl (mv rfl) rfl ?_
    refine dst rfl rfl (iaA U202 T3 rfl rfl (by omega) (by omega)) rfl ?_
    refine dst rfl rfl (lo1 (v := .int .i64 _) T3 rfl (rowOf_at _ (by omega))) rfl ?_
    refine dst rfl rfl (mv rfl) rfl ?_
    refine dst rfl rfl (iaA U202 T3 rfl rfl (by omega) (by omega)) rfl ?_
    refine dst rfl rfl (w1 (lo1 (v := .int .i64 _) T3 rfl (rowOf_at _ (by omega)))) rfl ?_
    refine dst rfl rfl (cl0 C142 rfl rfl (fun _ hw => greater_c hw )) rfl ?_
    refine dst rfl rfl (iaA U202 T3 rfl rfl (by omega) (by omega)) rfl ?_
    refine dend rfl ?_
    refine sto (vs := [.int .i64 _]) T3 rfl rfl rfl rfl rfl (by rw [rowOf_length]; omega) (rowOf_set _ _) ?_
    refine nl ?_
    refine nB ?_
    refine nS ?_
    refine rg ?_
    refine st (ad rfl rfl (by omega)) rfl ?_
    refine st (mv rfl) rfl ?_
    refine nl ?_
    refine gr2 ?_
    refine gr2 ?_
    refine gr2 ?_
    refine cvI (it' := [(b1_4, .cells (rowOf (fun s => if (s : Int) < i + 1 then max (says v s) (says u s) else says v s)).toArray 202 (0, 0))]) (row_eq (with_step j0)) ?_
    refine gr2 ?_
    refine gr2 ?_
    refine gr2 ?_
    exact le1 (i + 1) ⟨⟨by omega, by omega⟩, by omega⟩ ⟨rfl, rfl, rfl, rfl, rfl, trivial⟩ hid
  · have h15 := (of_decide_eq_false hb)
    clear hb
    refine xt ?_
    refine xS ?_
    refine xS ?_
    refine xB ?_
    refine nS ?_
    refine sq ?_
    refine rg ?_
    refine st (loa (vs := rowOf fun s => max (says v s) (says u s)) T202 rfl (by rw [with_end (by omega)]; exact List.take_of_length_le (Nat.le_of_eq (rowOf_length _))) (rowOf_length _)) rfl ?_
    refine r2 ?_
    refine sto (cs' := rowOf fun s => max (says v s) (says u s)) (vs := rowOf fun s => max (says v s) (says u s)) T202 rfl rfl rfl (rowOf_length _) (rowOf_flat _) (Nat.le_refl _) (rowOf_over _) ?_
    refine nl ?_
    refine nS ?_
    refine rt ?_
    exact retc (vs := rowOf fun s => max (says v s) (says u s)) rfl rfl T202 (List.take_of_length_le (Nat.le_of_eq (rowOf_length _))) (rowOf_length _) (.inl rfl) (by first | rfl | exact trivial) o0

set_option maxRecDepth 20000 in
theorem Covers_c {M : Mem} {w : World} {V U : Value} {v u : List Dot} (hM : RO M [] w) (hv : Sl M 2 RDot V v) (hu : Sl M 2 RDot U u) : FnC prog 103 [V, U] w [] (fun x _ => x = .bool (coversV v u)) := by
  refine enter (code := _) func103 rfl 11 rfl rfl hM [] rfl [(0, _), (1, _)] ⟨rfl, rfl, trivial⟩ ?_
  have l_hv := hv.bound
  have l_hu := hu.bound
  refine sq ?_
  refine rg ?_
  refine st (asg rfl) rfl ?_
  refine nl ?_
  refine nS ?_
  refine sq ?_
  refine rg ?_
  refine st (mv rfl) rfl ?_
  refine st (mv rfl) rfl ?_
  refine st (cl0 C141 (fnc _) rfl (fun _ hw => with_c hw (hv.mono mDot Hm.m) (hu.mono mDot Hm.m))) rfl ?_
  refine st (mv rfl) rfl ?_
  refine st (cl0 C124 (fnc _) rfl (fun _ hw => of_c hw (hv.mono mDot Hm.m))) rfl ?_
  refine st (eqs rfl rfl G202 (fun w => run_eqRow (d := 9998) U202 T3 U3 _ _ w)) rfl ?_
  refine st (asg rfl) rfl ?_
  refine nl ?_
  refine nS ?_
  refine rt ?_
  exact ret1 rfl rfl (by first | rfl | exact trivial) o0

set_option maxRecDepth 20000 in
theorem vector_c {M : Mem} {w : World} {f : Nat → Int} (hM : RO M [] w) : FnC prog 145 [.agg (rowOf f).toArray] w [] (fun u o => OS o 29 2 u ((vecOf f).flatMap encDot)) := by
  refine enter (code := _) func145 rfl 21 rfl rfl hM [] rfl [(0, _)] ⟨rfl, trivial⟩ ?_
  refine sq ?_
  refine rg ?_
  refine bx (z := rowOf f) rfl rfl rfl ?_; intro b0_0
  refine st (asg rfl) rfl ?_
  refine nl ?_
  refine nS ?_
  refine sq ?_
  refine rg ?_
  refine st (asg rfl) rfl ?_
  refine nl ?_
  refine nS ?_
  refine sq ?_
  refine sq ?_
  refine rg ?_
  refine st (loa (vs := rowOf f) T202 rfl (List.take_of_length_le (Nat.le_of_eq (rowOf_length _))) (rowOf_length _)) rfl ?_
  refine st (mv rfl) rfl ?_
  refine nl ?_
  refine nS ?_
  refine bk ?_
  refine niC ?_
  refine gR1 ?_
  refine gR1 ?_
  refine lpc3 (fun (i : Int) (u : Value) (o : Own) C => (7, .int .i64 i) :: (3, u) :: C) [(6, _)] (fun (i : Int) (u : Value) (o : Own) H => o :: H) [_] (fun (i : Int) (u : Value) (o : Own) => 0 ≤ i ∧ i ≤ 17 ∧ OS o 29 2 u ((vecTo f i.toNat).flatMap encDot)) (fun (i : Int) (u : Value) (o : Own) => (17 - i).toNat) 0 _ _ ?_ ⟨rfl, rfl, rfl, trivial⟩ hid ?_
  · exact ⟨by omega, by omega, OS.nil _ _⟩
  intro i u o hj
  obtain ⟨j0, j1, j2⟩ := hj
  refine sq ?_
  refine rg ?_
  refine st (lt rfl rfl) rfl ?_
  refine nl ?_
  refine nS ?_
  refine sq ?_
  refine cd rfl (fun hb => ?_) (fun hb => ?_)
  · have h8 := (of_decide_eq_true hb)
    clear hb
    refine sk ?_
    refine nS ?_
    refine sq ?_
    refine bk ?_
    refine sq ?_
    refine rg ?_
    refine st (mv rfl) rfl ?_
    refine st (ix (v := .int .i64 _) U202 T3 rfl rfl (by omega) (by omega) (rowOf_get _ (by omega))) rfl ?_
    refine st (asg rfl) rfl ?_
    refine st (asg rfl) rfl ?_
    refine nl ?_
    refine nS ?_
    refine sq ?_
    refine rg ?_
    refine st (mv rfl) rfl ?_
    refine st (gt rfl rfl) rfl ?_
    refine nl ?_
    refine nS ?_
    refine cd rfl (fun hb => ?_) (fun hb => ?_)
    · have h12 := (of_decide_eq_true hb)
      clear hb
      refine rg ?_
      refine st (mv rfl) rfl ?_
      refine st (mv rfl) rfl ?_
      refine st (mv rfl) rfl ?_
      refine st (bd (cs := [_, _]) [(0, [_]), (1, [_])] T29 Pl29 ⟨rfl, ⟨_, rfl, rfl⟩, ⟨rfl, ⟨_, rfl, rfl⟩, trivial⟩⟩ rfl) rfl ?_
      refine bs (parts := [_]) (cs := [_, _]) [_, _] [(0, [_, _])] U24 T29 rfl rfl rfl rfl ⟨rfl, ⟨_, rfl, rfl⟩, trivial⟩ rfl rfl ?_; intro b6_4
      refine r1 ?_
      refine ap U24 U24 T29 rfl rfl rfl rfl rfl rfl j2 ((srcI rfl).mono Hm.i1) rfl (by have := vecTo_len f i.toNat; rw [flatMap_length (sz := 2) (fun _ => rfl)]; simp only [List.length_cons, List.length_nil]; omega) rfl ?_; intro v6_5 o6_5 q6_5
      refine st (asg rfl) rfl ?_
      refine nl ?_
      refine nB ?_
      refine nS ?_
      refine rg ?_
      refine st (ad rfl rfl (by omega)) rfl ?_
      refine st (mv rfl) rfl ?_
      refine nl ?_
      refine gr2 ?_
      refine gr1 ?_
      refine gr1 ?_
      refine gr1 ?_
      exact le3 (i + 1) _ _ ⟨⟨by omega, by omega, (q6_5).cast (by rw [toNat_succ j0]; first | exact vecTo_yes (by omega) | exact vecTo_no (by omega))⟩, by omega⟩ ⟨rfl, rfl, rfl, trivial⟩ hK2
    · have h12 := (of_decide_eq_false hb)
      clear hb
      refine sk ?_
      refine nB ?_
      refine nS ?_
      refine rg ?_
      refine st (ad rfl rfl (by omega)) rfl ?_
      refine st (mv rfl) rfl ?_
      refine nl ?_
      refine gr1 ?_
      refine gr1 ?_
      refine gr1 ?_
      refine gr1 ?_
      exact le3 (i + 1) _ _ ⟨⟨by omega, by omega, (j2).cast (by rw [toNat_succ j0]; first | exact vecTo_yes (by omega) | exact vecTo_no (by omega))⟩, by omega⟩ ⟨rfl, rfl, rfl, trivial⟩ hid
  · have h8 := (of_decide_eq_false hb)
    clear hb
    refine xt ?_
    refine xS ?_
    refine xS ?_
    refine xB ?_
    refine nS ?_
    refine sq ?_
    refine rg ?_
    refine st (mv rfl) rfl ?_
    refine st (asg rfl) rfl ?_
    refine nl ?_
    refine nS ?_
    refine rt ?_
    exact ret1 rfl rfl ((j2).cast (by rw [show i.toNat = 17 by omega]; rfl)) o1

set_option maxRecDepth 20000 in
theorem Check_c {M : Mem} {w : World} {V : Value} {v : List Dot} (hM : RO M [] w) (hv : Sl M 2 RDot V v) : FnC prog 47 [V] w [] (fun u _ => u = .int .i64 (chkV 0 v)) := by
  refine enter (code := _) func47 rfl 34 rfl rfl hM [] rfl [(0, _)] ⟨rfl, trivial⟩ ?_
  have l_hv := hv.bound
  refine sq ?_
  refine rg ?_
  refine st (asg rfl) rfl ?_
  refine nl ?_
  refine nS ?_
  refine sq ?_
  refine rg ?_
  refine st (asg rfl) rfl ?_
  refine nl ?_
  refine nS ?_
  refine sq ?_
  refine sq ?_
  refine rg ?_
  refine st (mv rfl) rfl ?_
  refine st (lnS U24 hv rfl) rfl ?_
  refine st (mv rfl) rfl ?_
  refine nl ?_
  refine nS ?_
  refine bk ?_
  refine lpc2 (fun (i : Int) (m : Int) C => (8, .int .i64 i) :: (3, .int .i64 m) :: C) [(6, _), (7, _)] (fun (i : Int) (m : Int) H => H) [] (fun (i : Int) (m : Int) => 0 ≤ i ∧ i ≤ v.length ∧ chkV 0 v = chkV m (v.drop i.toNat)) (fun (i : Int) (m : Int) => ((v.length : Int) - i).toNat) 0 0 ?_ ⟨rfl, rfl, rfl, rfl, trivial⟩ hid ?_
  · exact ⟨by omega, by omega, rfl⟩
  intro i m hj
  obtain ⟨j0, j1, j2⟩ := hj
  refine sq ?_
  refine rg ?_
  refine st (lt rfl rfl) rfl ?_
  refine nl ?_
  refine nS ?_
  refine sq ?_
  refine cd rfl (fun hb => ?_) (fun hb => ?_)
  · have h9 := (of_decide_eq_true hb)
    clear hb
    refine sk ?_
    refine nS ?_
    refine sq ?_
    refine bk ?_
    refine sq ?_
    refine rg ?_
    refine iaS U24 T29 hv rfl rfl (by omega) (by omega) rfl ?_; intro b4_0 p4_0 y4_0 u4_0 e4_0 c4_0 n4_0 q4_0
    obtain ⟨rfl, qa4_0, qb4_0⟩ := q4_0
    clear n4_0
    refine st (lma (us := [_, _]) 0 T29 c4_0 Hm.m rfl rfl rfl rfl) rfl ?_
    refine al T29 rfl rfl ?_; intro b4_2
    refine sto (cs' := [_, _]) (vs := [_, _]) T29 rfl rfl rfl rfl rfl (Nat.le_of_ble_eq_true rfl) rfl ?_
    refine nl ?_
    refine nS ?_
    refine sq ?_
    refine bk ?_
    refine sq ?_
    refine rg ?_
    refine st (fa (o3 := 0) F29_0 rfl rfl) rfl ?_
    refine st (lo1 T3 rfl rfl) rfl ?_
    refine st (cl0 C84 (fnc _) rfl (fun _ hw => isSite_c hw )) rfl ?_
    refine st (nt rfl) rfl ?_
    refine st (asg rfl) rfl ?_
    refine nl ?_
    refine nS ?_
    refine cd rfl (fun hb => ?_) (fun hb => ?_)
    · have h12 := (of_decide_eq_false (nTF hb))
      clear hb
      refine sq ?_
      refine rg ?_
      refine st (asg rfl) rfl ?_
      refine nl ?_
      refine nS ?_
      refine rt ?_
      refine rB ?_
      refine rS ?_
      refine rB ?_
      refine rS ?_
      refine rS ?_
      refine rB ?_
      refine rS ?_
      exact ret1 rfl rfl (by show _ = _; rw [j2, chkV_1 e4_0 (by omega)]) o0
    · have h12 := (of_decide_eq_true (nFT hb))
      clear hb
      refine sq ?_
      refine rg ?_
      refine st (fa (o3 := 1) F29_1 rfl rfl) rfl ?_
      refine st (lo1 T3 rfl rfl) rfl ?_
      refine st (lt rfl rfl) rfl ?_
      refine st (mv rfl) rfl ?_
      refine spl (fun hb => ?_) (fun hb => ?_)
      · have h21 := (of_decide_eq_true hb)
        clear hb
        refine gF rfl rfl rfl rfl ?_
        refine gF rfl rfl rfl rfl ?_
        refine gF rfl rfl rfl rfl ?_
        refine st (pkT rfl rfl) rfl ?_
        refine st (asg rfl) rfl ?_
        refine nl ?_
        refine nS ?_
        refine cdT rfl ?_
        refine sq ?_
        refine rg ?_
        refine st (asg rfl) rfl ?_
        refine nl ?_
        refine nS ?_
        refine rt ?_
        refine rB ?_
        refine rS ?_
        refine rB ?_
        refine rS ?_
        refine rS ?_
        refine rB ?_
        refine rS ?_
        exact ret1 rfl rfl (by show _ = _; rw [j2, chkV_6 e4_0 (by omega)]) o0
      · have h21 := (of_decide_eq_false hb)
        clear hb
        refine gT rfl rfl ?_
        refine st (fa (o3 := 1) F29_1 rfl rfl) rfl ?_
        refine gT rfl rfl ?_
        refine st (lo1 T3 rfl rfl) rfl ?_
        refine gT rfl rfl ?_
        refine st (gt rfl rfl) rfl ?_
        refine st (pkF rfl rfl) rfl ?_
        refine st (asg rfl) rfl ?_
        refine nl ?_
        refine nS ?_
        refine cd rfl (fun hb => ?_) (fun hb => ?_)
        · have h17 := (of_decide_eq_true hb)
          clear hb
          refine sq ?_
          refine rg ?_
          refine st (asg rfl) rfl ?_
          refine nl ?_
          refine nS ?_
          refine rt ?_
          refine rB ?_
          refine rS ?_
          refine rB ?_
          refine rS ?_
          refine rS ?_
          refine rB ?_
          refine rS ?_
          exact ret1 rfl rfl (by show _ = _; rw [j2, chkV_6 e4_0 (by omega)]) o0
        · have h17 := (of_decide_eq_false hb)
          clear hb
          refine sq ?_
          refine rg ?_
          refine st (fa (o3 := 0) F29_0 rfl rfl) rfl ?_
          refine st (lo1 T3 rfl rfl) rfl ?_
          refine st (mv rfl) rfl ?_
          refine st (lq rfl rfl) rfl ?_
          refine st (asg rfl) rfl ?_
          refine nl ?_
          refine nS ?_
          refine cd rfl (fun hb => ?_) (fun hb => ?_)
          · have h26 := (of_decide_eq_true hb)
            clear hb
            refine sq ?_
            refine rg ?_
            refine st (asg rfl) rfl ?_
            refine nl ?_
            refine nS ?_
            refine rt ?_
            refine rB ?_
            refine rS ?_
            refine rB ?_
            refine rS ?_
            refine rS ?_
            refine rB ?_
            refine rS ?_
            exact ret1 rfl rfl (by show _ = _; rw [j2, chkV_9 e4_0 (by omega)]) o0
          · have h26 := (of_decide_eq_false hb)
            clear hb
            refine sk ?_
            refine nB ?_
            refine nS ?_
            refine rg ?_
            refine st (fa (o3 := 0) F29_0 rfl rfl) rfl ?_
            refine st (lo1 T3 rfl rfl) rfl ?_
            refine st (asg rfl) rfl ?_
            refine nl ?_
            refine nB ?_
            refine nS ?_
            refine rg ?_
            refine st (ad rfl rfl (by omega)) rfl ?_
            refine st (mv rfl) rfl ?_
            refine nl ?_
            exact le2 (i + 1) _ ⟨⟨by omega, by omega, (by rw [j2, toNat_succ j0]; exact chkV_go e4_0 (by omega))⟩, by omega⟩ ⟨rfl, rfl, rfl, rfl, trivial⟩ hK0
  · have h9 := (of_decide_eq_false hb)
    clear hb
    refine xt ?_
    refine xS ?_
    refine xS ?_
    refine xB ?_
    refine nS ?_
    refine sq ?_
    refine rg ?_
    refine st (asg rfl) rfl ?_
    refine nl ?_
    refine nS ?_
    refine rt ?_
    exact ret1 rfl rfl (by show _ = _; rw [j2, chkV_end (by omega)]) o0
end Go.W
/- Walks. Written by a program of mine. -/
namespace Go.W
open Go Go.Proofs.Tryz
theorem eqID (x y : ID) (w : World) : (Op.equalIn 10000 59 (.agg #[.int .i64 x.time, .int .i64 x.site]) (.agg #[.int .i64 y.time, .int .i64 y.site])).run prog w = .ok (decide (x = y)) w := (E59 9998 _ _ _ _ w).trans (by rw [eq_ID])
theorem eqDot (x y : Dot) (w : World) : (Op.equalIn 10000 29 (.agg #[.int .i64 x.site, .int .i64 x.seq]) (.agg #[.int .i64 y.site, .int .i64 y.seq])).run prog w = .ok (decide (x = y)) w := (E29 9998 _ _ _ _ w).trans (by rw [eq_Dot])

set_option maxRecDepth 20000 in
theorem Add_c {M : Mem} {w : World} {V : Value} {v : List Dot} {d : Dot} (hM : RO M [] w) (hv : Sl M 2 RDot V v) (hd : (-9223372036854775808 ≤ d.site ∧ d.site ≤ 9223372036854775807) ∧ (-9223372036854775808 ≤ d.seq ∧ d.seq ≤ 9223372036854775807)) : FnC prog 106 [V, .agg #[.int .i64 d.site, .int .i64 d.seq]] w [] (fun x o => ∃ u, x = .tuple #[u, .int .i64 (addE v d)] ∧ OS o 29 2 u ((if addE v d = 0 then addV v d else []).flatMap encDot)) := by
  have g0 := getV_nonneg v d.site
  have g1 := getV_le v d.site
  refine enter (code := _) func106 rfl 39 rfl rfl hM [] rfl [(0, _), (1, _)] ⟨rfl, rfl, trivial⟩ ?_
  have l_hv := hv.bound
  refine sq ?_
  refine rg ?_
  refine bx (z := [_, _]) rfl rfl rfl ?_; intro b0_0
  refine st (asg rfl) rfl ?_
  refine st (asg rfl) rfl ?_
  refine nl ?_
  refine nS ?_
  refine sq ?_
  refine bk ?_
  refine sq ?_
  refine rg ?_
  refine st (fa (o3 := 0) F29_0 rfl rfl) rfl ?_
  refine st (lo1 T3 rfl rfl) rfl ?_
  refine st (cl0 C84 (fnc _) rfl (fun _ hw => isSite_c hw )) rfl ?_
  refine st (nt rfl) rfl ?_
  refine st (mv rfl) rfl ?_
  refine spl (fun hb => ?_) (fun hb => ?_)
  · have h12 := (of_decide_eq_false (nTF hb))
    clear hb
    refine gF rfl rfl rfl rfl ?_
    refine gF rfl rfl rfl rfl ?_
    refine gF rfl rfl rfl rfl ?_
    refine st (pkT rfl rfl) rfl ?_
    refine st (asg rfl) rfl ?_
    refine nl ?_
    refine nS ?_
    refine cdT rfl ?_
    refine sq ?_
    refine rg ?_
    refine st (asg rfl) rfl ?_
    refine st (asg rfl) rfl ?_
    refine nl ?_
    refine nS ?_
    refine rt ?_
    refine rB ?_
    refine rS ?_
    exact ret2 rfl rfl rfl ⟨_, (by show Value.tuple #[_, _] = Value.tuple #[_, _]; rw [show addE v d = 1 by rw [addE, if_pos (by omega)]]), (by rw [if_neg (by rw [show addE v d = 1 by rw [addE, if_pos (by omega)]]; decide)]; exact OS.nil _ _)⟩ o0
  · have h12 := (of_decide_eq_true (nFT hb))
    clear hb
    refine gT rfl rfl ?_
    refine st (fa (o3 := 1) F29_1 rfl rfl) rfl ?_
    refine gT rfl rfl ?_
    refine st (lo1 T3 rfl rfl) rfl ?_
    refine gT rfl rfl ?_
    refine st (lt rfl rfl) rfl ?_
    refine st (pkF rfl rfl) rfl ?_
    refine st (asg rfl) rfl ?_
    refine nl ?_
    refine nS ?_
    refine cd rfl (fun hb => ?_) (fun hb => ?_)
    · have h7 := (of_decide_eq_true hb)
      clear hb
      refine sq ?_
      refine rg ?_
      refine st (asg rfl) rfl ?_
      refine st (asg rfl) rfl ?_
      refine nl ?_
      refine nS ?_
      refine rt ?_
      refine rB ?_
      refine rS ?_
      exact ret2 rfl rfl rfl ⟨_, (by show Value.tuple #[_, _] = Value.tuple #[_, _]; rw [show addE v d = 1 by rw [addE, if_pos (by omega)]]), (by rw [if_neg (by rw [show addE v d = 1 by rw [addE, if_pos (by omega)]]; decide)]; exact OS.nil _ _)⟩ o0
    · have h7 := (of_decide_eq_false hb)
      clear hb
      refine sq ?_
      refine rg ?_
      refine st (fa (o3 := 1) F29_1 rfl rfl) rfl ?_
      refine st (lo1 T3 rfl rfl) rfl ?_
      refine st (gt rfl rfl) rfl ?_
      refine st (asg rfl) rfl ?_
      refine nl ?_
      refine nS ?_
      refine cd rfl (fun hb => ?_) (fun hb => ?_)
      · have h17 := (of_decide_eq_true hb)
        clear hb
        refine sq ?_
        refine rg ?_
        refine st (asg rfl) rfl ?_
        refine st (asg rfl) rfl ?_
        refine nl ?_
        refine nS ?_
        refine rt ?_
        refine rB ?_
        refine rS ?_
        exact ret2 rfl rfl rfl ⟨_, (by show Value.tuple #[_, _] = Value.tuple #[_, _]; rw [show addE v d = 17 by rw [addE, if_neg (by omega), if_pos (by omega)]]), (by rw [if_neg (by rw [show addE v d = 17 by rw [addE, if_neg (by omega), if_pos (by omega)]]; decide)]; exact OS.nil _ _)⟩ o0
      · have h17 := (of_decide_eq_false hb)
        clear hb
        refine sq ?_
        refine rgd rfl [0, 1, 2, 3, 4, 5, 6, 7, 8] [] [] [] (by kernel_rfl) ?_
        refine dst rfl rfl (fa (o3 := 1) F29_1 rfl rfl) rfl ?_
        refine dst rfl rfl (lo1 T3 rfl rfl) rfl ?_
        refine dst rfl rfl (mv rfl) rfl ?_
        refine dst rfl rfl (fa (o3 := 0) F29_0 rfl rfl) rfl ?_
        refine dst rfl rfl (lo1 T3 rfl rfl) rfl ?_
        refine dst rfl rfl (cl0 C85 (fnc _) rfl (fun _ hw => Get_c hw (hv.mono mDot Hm.m))) rfl ?_
        refine dst rfl rfl (ad rfl rfl (by omega)) rfl ?_
        refine dst rfl rfl (ne rfl rfl) rfl ?_
        refine dst rfl rfl (asg rfl) rfl ?_
        refine dend rfl ?_
        refine nl ?_
        refine nS ?_
        refine cd rfl (fun hb => ?_) (fun hb => ?_)
        · have h21 := (ne_of_bneT hb)
          clear hb
          refine sq ?_
          refine rg ?_
          refine st (asg rfl) rfl ?_
          refine st (asg rfl) rfl ?_
          refine nl ?_
          refine nS ?_
          refine rt ?_
          refine rB ?_
          refine rS ?_
          exact ret2 rfl rfl rfl ⟨_, (by show Value.tuple #[_, _] = Value.tuple #[_, _]; rw [show addE v d = 9 by rw [addE, if_neg (by omega), if_neg (by omega), if_pos (by omega)]]), (by rw [if_neg (by rw [show addE v d = 9 by rw [addE, if_neg (by omega), if_neg (by omega), if_pos (by omega)]]; decide)]; exact OS.nil _ _)⟩ o0
        · have h21 := (eq_of_bneF hb)
          clear hb
          refine sk ?_
          refine nB ?_
          refine nS ?_
          refine sq ?_
          refine rg ?_
          refine st (mv rfl) rfl ?_
          refine st (cl0 C124 (fnc _) rfl (fun _ hw => of_c hw (hv.mono mDot Hm.m))) rfl ?_
          refine al T202 rfl rfl ?_; intro b7_2
          refine sto (cs' := rowOf (says v)) (vs := rowOf (says v)) T202 rfl rfl rfl (rowOf_length _) (rowOf_flat _) (Nat.le_refl _) (rowOf_over _) ?_
          refine nl ?_
          refine nS ?_
          refine sq ?_
          refine rg ?_
          refine st (fa (o3 := 0) F29_0 rfl rfl) rfl ?_
          refine st (w1 (lo1 T3 rfl rfl)) rfl ?_
          refine st (fa (o3 := 1) F29_1 rfl rfl) rfl ?_
          refine st (w1 (lo1 T3 rfl rfl)) rfl ?_
          refine st (iaA U202 T3 rfl rfl (by omega) (by omega)) rfl ?_
          refine sto (vs := [.int .i64 _]) T3 rfl rfl rfl rfl rfl (by rw [rowOf_length]; omega) (rowOf_set _ _) ?_
          refine nl ?_
          refine nS ?_
          refine sq ?_
          refine rg ?_
          refine st (loa (vs := rowOf fun s => if s = 0 + d.site.toNat * 1 then d.seq else says v s) T202 rfl (List.take_of_length_le (Nat.le_of_eq (rowOf_length _))) (rowOf_length _)) rfl ?_
          refine ni ?_
          refine cl C145 (fnc _) rfl (fun _ hw => vector_c hw ) rfl ?_; intro v9_1 O9_1 q9_1
          refine st (asg rfl) rfl ?_
          refine st (asg rfl) rfl ?_
          refine nl ?_
          refine nS ?_
          refine rt ?_
          exact ret2 rfl rfl rfl ⟨_, (by show Value.tuple #[_, _] = Value.tuple #[_, _]; rw [show addE v d = 0 by rw [addE, if_neg (by omega), if_neg (by omega), if_neg (by omega)]]), (by rw [if_pos (by rw [addE, if_neg (by omega), if_neg (by omega), if_neg (by omega)])]; exact q9_1)⟩ o1

set_option maxRecDepth 20000 in
theorem isNaN_c {M : Mem} {w : World} {n : Int} (hM : RO M [] w) : FnC prog 190 [.int .i64 n] w [] (fun u _ => u = .bool false) := by
  refine enter (code := _) func190 rfl 6 rfl rfl hM [] rfl [(0, _)] ⟨rfl, trivial⟩ ?_
  refine sq ?_
  refine rg ?_
  refine st (asg rfl) rfl ?_
  refine nl ?_
  refine nS ?_
  refine sq ?_
  refine rg ?_
  refine st (mv rfl) rfl ?_
  refine st (mv rfl) rfl ?_
  refine st (ne rfl rfl) rfl ?_
  refine st (asg rfl) rfl ?_
  refine nl ?_
  refine nS ?_
  refine rt ?_
  exact ret1 rfl rfl (by show Value.bool (_ != _) = _; simp) o0

set_option maxRecDepth 20000 in
theorem cmpI_c {M : Mem} {w : World} {m n : Int} (hM : RO M [] w) : FnC prog 182 [.int .i64 m, .int .i64 n] w [] (fun u _ => u = .int .i64 (cmpI m n)) := by
  refine enter (code := _) func182 rfl 20 rfl rfl hM [] rfl [(0, _), (1, _)] ⟨rfl, rfl, trivial⟩ ?_
  refine sq ?_
  refine rg ?_
  refine st (asg rfl) rfl ?_
  refine nl ?_
  refine nS ?_
  refine sq ?_
  refine rg ?_
  refine st (mv rfl) rfl ?_
  refine st (cl0 C190 (fnc _) rfl (fun _ hw => isNaN_c hw )) rfl ?_
  refine st (asg rfl) rfl ?_
  refine nl ?_
  refine nS ?_
  refine sq ?_
  refine rg ?_
  refine st (mv rfl) rfl ?_
  refine st (cl0 C190 (fnc _) rfl (fun _ hw => isNaN_c hw )) rfl ?_
  refine st (asg rfl) rfl ?_
  refine nl ?_
  refine nS ?_
  refine sq ?_
  refine sq ?_
  refine rg ?_
  refine st (mv rfl) rfl ?_
  refine nl ?_
  refine nS ?_
  refine cdF rfl ?_
  refine sk ?_
  refine nS ?_
  refine sq ?_
  refine sq ?_
  refine rg ?_
  refine st (mv rfl) rfl ?_
  refine nl ?_
  refine nS ?_
  refine cdF rfl ?_
  refine sk ?_
  refine nS ?_
  refine sq ?_
  refine sq ?_
  refine rg ?_
  refine st (mv rfl) rfl ?_
  refine st (mv rfl) rfl ?_
  refine st (lt rfl rfl) rfl ?_
  refine nl ?_
  refine nS ?_
  refine cd rfl (fun hb => ?_) (fun hb => ?_)
  · have h16 := (of_decide_eq_true hb)
    clear hb
    refine sq ?_
    refine rg ?_
    refine st (asg rfl) rfl ?_
    refine nl ?_
    refine nS ?_
    refine rt ?_
    refine rS ?_
    exact ret1 rfl rfl (by show Value.int _ _ = _; unfold cmpI; repeat (first | rw [if_pos (by omega)] | rw [if_neg (by omega)])) o0
  · have h16 := (of_decide_eq_false hb)
    clear hb
    refine sk ?_
    refine nS ?_
    refine sq ?_
    refine sq ?_
    refine rg ?_
    refine st (mv rfl) rfl ?_
    refine st (mv rfl) rfl ?_
    refine st (gt rfl rfl) rfl ?_
    refine nl ?_
    refine nS ?_
    refine cd rfl (fun hb => ?_) (fun hb => ?_)
    · have h19 := (of_decide_eq_true hb)
      clear hb
      refine sq ?_
      refine rg ?_
      refine st (asg rfl) rfl ?_
      refine nl ?_
      refine nS ?_
      refine rt ?_
      refine rS ?_
      exact ret1 rfl rfl (by show Value.int _ _ = _; unfold cmpI; repeat (first | rw [if_pos (by omega)] | rw [if_neg (by omega)])) o0
    · have h19 := (of_decide_eq_false hb)
      clear hb
      refine sk ?_
      refine nS ?_
      refine sq ?_
      refine rg ?_
      refine st (asg rfl) rfl ?_
      refine nl ?_
      refine nS ?_
      refine rt ?_
      exact ret1 rfl rfl (by show Value.int _ _ = _; unfold cmpI; repeat (first | rw [if_pos (by omega)] | rw [if_neg (by omega)])) o0

set_option maxRecDepth 20000 in
theorem orI_c {M : Mem} {w : World} {V : Value} {v : List Int} (hM : RO M [] w) (hv : Sl M 1 RInt V v) : FnC prog 181 [V] w [] (fun u _ => u = .int .i64 (orI v)) := by
  refine enter (code := _) func181 rfl 18 rfl rfl hM [] rfl [(0, _)] ⟨rfl, trivial⟩ ?_
  have l_hv := hv.bound
  refine sq ?_
  refine rg ?_
  refine st (asg rfl) rfl ?_
  refine nl ?_
  refine nS ?_
  refine sq ?_
  refine rg ?_
  refine st (asg rfl) rfl ?_
  refine nl ?_
  refine nS ?_
  refine sq ?_
  refine sq ?_
  refine rg ?_
  refine st (mv rfl) rfl ?_
  refine st (lnS U45 hv rfl) rfl ?_
  refine st (mv rfl) rfl ?_
  refine nl ?_
  refine nS ?_
  refine bk ?_
  refine lpc1 (fun (i : Int) C => (8, .int .i64 i) :: C) [(3, _), (6, _), (7, _)] (fun (i : Int) H => H) [] (fun (i : Int) => 0 ≤ i ∧ i ≤ v.length ∧ orI v = orI (v.drop i.toNat)) (fun (i : Int) => ((v.length : Int) - i).toNat) 0 ?_ ⟨rfl, rfl, rfl, rfl, trivial⟩ hid ?_
  · exact ⟨by omega, by omega, rfl⟩
  intro i hj
  obtain ⟨j0, j1, j2⟩ := hj
  refine sq ?_
  refine rg ?_
  refine st (lt rfl rfl) rfl ?_
  refine nl ?_
  refine nS ?_
  refine sq ?_
  refine cd rfl (fun hb => ?_) (fun hb => ?_)
  · have h9 := (of_decide_eq_true hb)
    clear hb
    refine sk ?_
    refine nS ?_
    refine sq ?_
    refine bk ?_
    refine sq ?_
    refine rg ?_
    refine iaS U45 T3 hv rfl rfl (by omega) (by omega) rfl ?_; intro b4_0 p4_0 y4_0 u4_0 e4_0 c4_0 n4_0 q4_0
    obtain rfl := q4_0
    clear n4_0
    refine st (lm1 0 T3 c4_0 Hm.m rfl rfl rfl) rfl ?_
    refine st (asg rfl) rfl ?_
    refine nl ?_
    refine nS ?_
    refine sq ?_
    refine rg ?_
    refine st (mv rfl) rfl ?_
    refine st (mv rfl) rfl ?_
    refine st (ne rfl rfl) rfl ?_
    refine nl ?_
    refine nS ?_
    refine cd rfl (fun hb => ?_) (fun hb => ?_)
    · have h14 := (ne_of_bneT hb)
      clear hb
      refine sq ?_
      refine rg ?_
      refine st (mv rfl) rfl ?_
      refine st (asg rfl) rfl ?_
      refine nl ?_
      refine nS ?_
      refine rt ?_
      refine rB ?_
      refine rS ?_
      refine rS ?_
      refine rB ?_
      refine rS ?_
      exact ret1 rfl rfl (by show Value.int _ _ = _; rw [j2, orI_at e4_0, if_pos (by omega)]) o0
    · have h14 := (eq_of_bneF hb)
      clear hb
      refine sk ?_
      refine nB ?_
      refine nS ?_
      refine rg ?_
      refine st (ad rfl rfl (by omega)) rfl ?_
      refine st (mv rfl) rfl ?_
      refine nl ?_
      exact le1 (i + 1) ⟨⟨by omega, by omega, (by rw [j2, toNat_succ j0, orI_at e4_0, if_neg (by omega)])⟩, by omega⟩ ⟨rfl, rfl, rfl, rfl, trivial⟩ hid
  · have h9 := (of_decide_eq_false hb)
    clear hb
    refine xt ?_
    refine xS ?_
    refine xS ?_
    refine xB ?_
    refine nS ?_
    refine sq ?_
    refine rg ?_
    refine st (mv rfl) rfl ?_
    refine st (asg rfl) rfl ?_
    refine nl ?_
    refine nS ?_
    refine rt ?_
    exact ret1 rfl rfl (by show Value.int _ _ = _; rw [j2, orI_end (by omega)]) o0

set_option maxRecDepth 20000 in
theorem is_c {M : Mem} {w : World} {x : ID} (hM : RO M [] w) : FnC prog 156 [.agg #[.int .i64 x.time, .int .i64 x.site]] w [] (fun u _ => u = .bool (decide (1 ≤ x.time ∧ x.time ≤ 2147483647 ∧ 1 ≤ x.site ∧ x.site ≤ 16))) := by
  refine enter (code := _) func156 rfl 21 rfl rfl hM [] rfl [(0, _)] ⟨rfl, trivial⟩ ?_
  refine sq ?_
  refine rg ?_
  refine bx (z := [_, _]) rfl rfl rfl ?_; intro b0_0
  refine st (asg rfl) rfl ?_
  refine nl ?_
  refine nS ?_
  refine sqk (fun C => (2, .bool (decide (1 ≤ x.time ∧ x.time ≤ 2147483647 ∧ 1 ≤ x.site ∧ x.site ≤ 16))) :: C) [] trivial ?_ ?_
  · skip
    refine rg ?_
    refine st (fa (o3 := 0) F59_0 rfl rfl) rfl ?_
    refine st (lo1 T3 rfl rfl) rfl ?_
    refine st (gq rfl rfl) rfl ?_
    refine st (mv rfl) rfl ?_
    refine spl (fun hb => ?_) (fun hb => ?_)
    · have h6 := (of_decide_eq_true hb)
      clear hb
      refine gT rfl rfl ?_
      refine st (fa (o3 := 0) F59_0 rfl rfl) rfl ?_
      refine gT rfl rfl ?_
      refine st (lo1 T3 rfl rfl) rfl ?_
      refine gT rfl rfl ?_
      refine st (lq rfl rfl) rfl ?_
      refine st (pkT rfl rfl) rfl ?_
      refine st (mv rfl) rfl ?_
      refine spl (fun hb => ?_) (fun hb => ?_)
      · have h11 := (of_decide_eq_true hb)
        clear hb
        refine gT rfl rfl ?_
        refine st (fa (o3 := 1) F59_1 rfl rfl) rfl ?_
        refine gT rfl rfl ?_
        refine st (lo1 T3 rfl rfl) rfl ?_
        refine gT rfl rfl ?_
        refine st (gq rfl rfl) rfl ?_
        refine st (pkT rfl rfl) rfl ?_
        refine st (mv rfl) rfl ?_
        refine spl (fun hb => ?_) (fun hb => ?_)
        · have h16 := (of_decide_eq_true hb)
          clear hb
          refine gT rfl rfl ?_
          refine st (fa (o3 := 1) F59_1 rfl rfl) rfl ?_
          refine gT rfl rfl ?_
          refine st (lo1 T3 rfl rfl) rfl ?_
          refine gT rfl rfl ?_
          refine st (lq rfl rfl) rfl ?_
          refine st (pkT rfl rfl) rfl ?_
          refine st (asg rfl) rfl ?_
          refine nl ?_
          exact le0   ⟨(by first | (refine dT rfl ?_; omega) | (refine dF rfl ?_; omega) | (refine bE rfl (decide_eq_decide.2 ?_); omega)), trivial⟩ hid
        · have h16 := (of_decide_eq_false hb)
          clear hb
          refine gF rfl rfl rfl rfl ?_
          refine gF rfl rfl rfl rfl ?_
          refine gF rfl rfl rfl rfl ?_
          refine st (pkF rfl rfl) rfl ?_
          refine st (asg rfl) rfl ?_
          refine nl ?_
          exact le0   ⟨(by first | (refine dT rfl ?_; omega) | (refine dF rfl ?_; omega) | (refine bE rfl (decide_eq_decide.2 ?_); omega)), trivial⟩ hid
      · have h11 := (of_decide_eq_false hb)
        clear hb
        refine gF rfl rfl rfl rfl ?_
        refine gF rfl rfl rfl rfl ?_
        refine gF rfl rfl rfl rfl ?_
        refine st (pkF rfl rfl) rfl ?_
        refine st (mv rfl) rfl ?_
        refine gF rfl rfl rfl rfl ?_
        refine gF rfl rfl rfl rfl ?_
        refine gF rfl rfl rfl rfl ?_
        refine st (pkF rfl rfl) rfl ?_
        refine st (asg rfl) rfl ?_
        refine nl ?_
        exact le0   ⟨(by first | (refine dT rfl ?_; omega) | (refine dF rfl ?_; omega) | (refine bE rfl (decide_eq_decide.2 ?_); omega)), trivial⟩ hid
    · have h6 := (of_decide_eq_false hb)
      clear hb
      refine gF rfl rfl rfl rfl ?_
      refine gF rfl rfl rfl rfl ?_
      refine gF rfl rfl rfl rfl ?_
      refine st (pkF rfl rfl) rfl ?_
      refine st (mv rfl) rfl ?_
      refine gF rfl rfl rfl rfl ?_
      refine gF rfl rfl rfl rfl ?_
      refine gF rfl rfl rfl rfl ?_
      refine st (pkF rfl rfl) rfl ?_
      refine st (mv rfl) rfl ?_
      refine gF rfl rfl rfl rfl ?_
      refine gF rfl rfl rfl rfl ?_
      refine gF rfl rfl rfl rfl ?_
      refine st (pkF rfl rfl) rfl ?_
      refine st (asg rfl) rfl ?_
      refine nl ?_
      exact le0   ⟨(by first | (refine dT rfl ?_; omega) | (refine dF rfl ?_; omega) | (refine bE rfl (decide_eq_decide.2 ?_); omega)), trivial⟩ hid
  refine rt ?_
  exact ret1 rfl rfl (by first | rfl | exact trivial) o0

set_option maxRecDepth 20000 in
theorem cmpID_c {M : Mem} {w : World} {x y : ID} (hM : RO M [] w) : FnC prog 155 [.agg #[.int .i64 x.time, .int .i64 x.site], .agg #[.int .i64 y.time, .int .i64 y.site]] w [] (fun u _ => u = .int .i64 (cmpID x y)) := by
  refine enter (code := _) func155 rfl 17 rfl rfl hM [] rfl [(0, _), (1, _)] ⟨rfl, rfl, trivial⟩ ?_
  refine sq ?_
  refine rg ?_
  refine bx (z := [_, _]) rfl rfl rfl ?_; intro b0_0
  refine bx (z := [_, _]) rfl rfl rfl ?_; intro b0_1
  refine st (asg rfl) rfl ?_
  refine nl ?_
  refine nS ?_
  refine sq ?_
  refine rgd rfl [0, 1, 2, 3, 4, 5, 6, 7, 8, 9] [] [10, 11, 12] [] (by kernel_rfl) ?_
  refine dst rfl rfl (fa (o3 := 0) F59_0 rfl rfl) rfl ?_
  refine dst rfl rfl (w1 (lo1 T3 rfl rfl)) rfl ?_
  refine dst rfl rfl (fa (o3 := 0) F59_0 rfl rfl) rfl ?_
  refine dst rfl rfl (lo1 T3 rfl rfl) rfl ?_
  refine dst rfl rfl (cl0 C182 (fnc _) rfl (fun _ hw => cmpI_c hw )) rfl ?_
  refine dst rfl rfl (fa (o3 := 1) F59_1 rfl rfl) rfl ?_
  refine dst rfl rfl (w1 (lo1 T3 rfl rfl)) rfl ?_
  refine dst rfl rfl (fa (o3 := 1) F59_1 rfl rfl) rfl ?_
  refine dst rfl rfl (lo1 T3 rfl rfl) rfl ?_
  refine dst rfl rfl (cl0 C182 (fnc _) rfl (fun _ hw => cmpI_c hw )) rfl ?_
  refine dend rfl ?_
  refine bs (parts := [_, _]) (cs := [_, _]) [_, _] [(0, [_]), (1, [_])] U45 T3 rfl rfl rfl rfl ⟨rfl, ⟨_, rfl, rfl⟩, ⟨rfl, ⟨_, rfl, rfl⟩, trivial⟩⟩ rfl rfl ?_; intro b1_10
  refine st (cl0 C181 (fnc _) rfl (fun _ hw => orI_c hw (sl_int2.mono mInt Hm.i0))) rfl ?_
  refine st (asg rfl) rfl ?_
  refine nl ?_
  refine nS ?_
  refine rt ?_
  exact ret1 rfl rfl (by show Value.int _ _ = Value.int _ _; simp only [orI, cmpID]; split <;> simp_all) o0

set_option maxRecDepth 20000 in
theorem After_c {M : Mem} {w : World} {x : ID} {n : Int} (hM : RO M [] w) (hx : -9223372036854775808 ≤ x.time ∧ x.time ≤ 9223372036854775807) : FnC prog 129 [.agg #[.int .i64 x.time, .int .i64 x.site], .int .i64 n] w [] (fun u _ => u = .agg #[.int .i64 (afterID x n).time, .int .i64 (afterID x n).site]) := by
  refine enter (code := _) func129 rfl 26 rfl rfl hM [] rfl [(0, _), (1, _)] ⟨rfl, rfl, trivial⟩ ?_
  refine sq ?_
  refine rg ?_
  refine bx (z := [_, _]) rfl rfl rfl ?_; intro b0_0
  refine al T59 rfl rfl ?_; intro b0_1
  refine nl ?_
  refine nS ?_
  refine sq ?_
  refine sq ?_
  refine rg ?_
  refine st (w1 (loa (vs := [_, _]) T59 rfl rfl rfl)) rfl ?_
  refine st (cl0 C156 (fnc _) rfl (fun _ hw => is_c hw )) rfl ?_
  refine st (nt rfl) rfl ?_
  refine st (mv rfl) rfl ?_
  refine spl (fun hb => ?_) (fun hb => ?_)
  · have h8 := (of_decide_eq_false (nTF hb))
    clear hb
    refine gF rfl rfl rfl rfl ?_
    refine gF rfl rfl rfl rfl ?_
    refine st (pkT rfl rfl) rfl ?_
    refine st (mv rfl) rfl ?_
    refine gF rfl rfl rfl rfl ?_
    refine gF rfl rfl rfl rfl ?_
    refine gF rfl rfl rfl rfl ?_
    refine gF rfl rfl rfl rfl ?_
    refine gF rfl rfl rfl rfl ?_
    refine st (pkT rfl rfl) rfl ?_
    refine nl ?_
    refine nS ?_
    refine cdT rfl ?_
    refine sq ?_
    refine rg ?_
    refine st (bd (cs := [_, _]) [] T59 Pl59 trivial rfl) rfl ?_
    refine sto (cs' := [_, _]) (vs := [_, _]) T59 rfl rfl rfl rfl rfl (Nat.le_of_ble_eq_true rfl) rfl ?_
    refine nl ?_
    refine nS ?_
    refine rt ?_
    refine rS ?_
    exact retc (vs := [_, _]) rfl rfl T59 rfl rfl (.inl rfl) (by show Value.agg #[_, _] = _; rw [after_no (by omega)]) o0
  · have h8 := (of_decide_eq_true (nFT hb))
    clear hb
    refine gT rfl rfl ?_
    refine st (mv rfl) rfl ?_
    refine gT rfl rfl ?_
    refine st (lt rfl rfl) rfl ?_
    refine st (pkF rfl rfl) rfl ?_
    refine st (mv rfl) rfl ?_
    refine spl (fun hb => ?_) (fun hb => ?_)
    · have h12 := (of_decide_eq_true hb)
      clear hb
      refine gF rfl rfl rfl rfl ?_
      refine gF rfl rfl rfl rfl ?_
      refine gF rfl rfl rfl rfl ?_
      refine gF rfl rfl rfl rfl ?_
      refine gF rfl rfl rfl rfl ?_
      refine st (pkT rfl rfl) rfl ?_
      refine nl ?_
      refine nS ?_
      refine cdT rfl ?_
      refine sq ?_
      refine rg ?_
      refine st (bd (cs := [_, _]) [] T59 Pl59 trivial rfl) rfl ?_
      refine sto (cs' := [_, _]) (vs := [_, _]) T59 rfl rfl rfl rfl rfl (Nat.le_of_ble_eq_true rfl) rfl ?_
      refine nl ?_
      refine nS ?_
      refine rt ?_
      refine rS ?_
      exact retc (vs := [_, _]) rfl rfl T59 rfl rfl (.inl rfl) (by show Value.agg #[_, _] = _; rw [after_no (by omega)]) o0
    · have h12 := (of_decide_eq_false hb)
      clear hb
      refine gT rfl rfl ?_
      refine st (mv rfl) rfl ?_
      refine gT rfl rfl ?_
      refine st (fa (o3 := 0) F59_0 rfl rfl) rfl ?_
      refine gT rfl rfl ?_
      refine st (w1 (lo1 T3 rfl rfl)) rfl ?_
      refine gT rfl rfl ?_
      refine st (sb rfl rfl (by omega)) rfl ?_
      refine gT rfl rfl ?_
      refine st (gt rfl rfl) rfl ?_
      refine st (pkF rfl rfl) rfl ?_
      refine nl ?_
      refine nS ?_
      refine cd rfl (fun hb => ?_) (fun hb => ?_)
      · have h18 := (of_decide_eq_true hb)
        clear hb
        refine sq ?_
        refine rg ?_
        refine st (bd (cs := [_, _]) [] T59 Pl59 trivial rfl) rfl ?_
        refine sto (cs' := [_, _]) (vs := [_, _]) T59 rfl rfl rfl rfl rfl (Nat.le_of_ble_eq_true rfl) rfl ?_
        refine nl ?_
        refine nS ?_
        refine rt ?_
        refine rS ?_
        exact retc (vs := [_, _]) rfl rfl T59 rfl rfl (.inl rfl) (by show Value.agg #[_, _] = _; rw [after_no (by omega)]) o0
      · have h18 := (of_decide_eq_false hb)
        clear hb
        refine sk ?_
        refine nS ?_
        refine sq ?_
        refine rg ?_
        refine st (fa (o3 := 0) F59_0 rfl rfl) rfl ?_
        refine st (w1 (lo1 T3 rfl rfl)) rfl ?_
        refine st (mv rfl) rfl ?_
        refine st (ad rfl rfl (by omega)) rfl ?_
        refine st (fa (o3 := 0) F59_0 rfl rfl) rfl ?_
        refine r1 ?_
        refine sto (cs' := [_, _]) (vs := [_]) T3 rfl rfl rfl rfl rfl (Nat.le_of_ble_eq_true rfl) rfl ?_
        refine nl ?_
        refine nS ?_
        refine sq ?_
        refine rg ?_
        refine st (loa (vs := [_, _]) T59 rfl rfl rfl) rfl ?_
        refine r1 ?_
        refine sto (cs' := [_, _]) (vs := [_, _]) T59 rfl rfl rfl rfl rfl (Nat.le_of_ble_eq_true rfl) rfl ?_
        refine nl ?_
        refine nS ?_
        refine rt ?_
        exact retc (vs := [_, _]) rfl rfl T59 rfl rfl (.inl rfl) (by show Value.agg #[_, _] = _; rw [after_yes (by omega)]) o0

set_option maxRecDepth 20000 in
theorem last_c {M : Mem} {w : World} {r : Run} (hM : RO M [] w) (hx : (-9223372036854775808 ≤ r.id.time ∧ r.id.time ≤ 9223372036854775807) ∧ (-9223372036854775808 ≤ r.count ∧ r.count ≤ 9223372036854775807)) : FnC prog 225 [.agg #[.int .i64 r.id.time, .int .i64 r.id.site, .int .i64 r.count]] w [] (fun u _ => u = .agg #[.int .i64 (lastR r).time, .int .i64 (lastR r).site]) := by
  refine enter (code := _) func225 rfl 13 rfl rfl hM [] rfl [(0, _)] ⟨rfl, trivial⟩ ?_
  refine sq ?_
  refine rg ?_
  refine bx (z := [_, _, _]) rfl rfl rfl ?_; intro b0_0
  refine al T59 rfl rfl ?_; intro b0_1
  refine nl ?_
  refine nS ?_
  refine sq ?_
  refine sq ?_
  refine rg ?_
  refine st (fa (o3 := 2) F89_1 rfl rfl) rfl ?_
  refine st (w1 (lo1 T3 rfl rfl)) rfl ?_
  refine st (lt rfl rfl) rfl ?_
  refine nl ?_
  refine nS ?_
  refine cd rfl (fun hb => ?_) (fun hb => ?_)
  · have h5 := (of_decide_eq_true hb)
    clear hb
    refine sq ?_
    refine rg ?_
    refine st (bd (cs := [_, _]) [] T59 Pl59 trivial rfl) rfl ?_
    refine sto (cs' := [_, _]) (vs := [_, _]) T59 rfl rfl rfl rfl rfl (Nat.le_of_ble_eq_true rfl) rfl ?_
    refine nl ?_
    refine nS ?_
    refine rt ?_
    refine rS ?_
    exact retc (vs := [_, _]) rfl rfl T59 rfl rfl (.inl rfl) (by show Value.agg #[_, _] = _; rw [lastR, if_pos (by omega)]) o0
  · have h5 := (of_decide_eq_false hb)
    clear hb
    refine sk ?_
    refine nS ?_
    refine sq ?_
    refine rg ?_
    refine st (fa (o3 := 0) F89_0 rfl rfl) rfl ?_
    refine st (w1 (loa (vs := [_, _]) T59 rfl rfl rfl)) rfl ?_
    refine st (fa (o3 := 2) F89_1 rfl rfl) rfl ?_
    refine st (w1 (lo1 T3 rfl rfl)) rfl ?_
    refine st (sb rfl rfl (by omega)) rfl ?_
    refine st (cl0 C129 (fnc _) rfl (fun _ hw => After_c hw (by omega))) rfl ?_
    refine sto (cs' := [_, _]) (vs := [_, _]) T59 rfl rfl rfl rfl rfl (Nat.le_of_ble_eq_true rfl) rfl ?_
    refine nl ?_
    refine nS ?_
    refine rt ?_
    exact retc (vs := [_, _]) rfl rfl T59 rfl rfl (.inl rfl) (by show Value.agg #[_, _] = _; rw [lastR, if_neg (by omega)]) o0

set_option maxRecDepth 20000 in
theorem chkR_c {M : Mem} {w : World} {V : Value} {v : List Run} (hM : RO M [] w) (hv : Sl M 3 RRun V v) : FnC prog 224 [V] w [] (fun u _ => u = .int .i64 (chkR none [] v)) := by
  refine enter (code := _) func224 rfl 62 rfl rfl hM [] rfl [(0, _)] ⟨rfl, trivial⟩ ?_
  have l_hv := hv.bound
  refine sq ?_
  refine rg ?_
  refine st (asg rfl) rfl ?_
  refine nl ?_
  refine nS ?_
  refine sq ?_
  refine rg ?_
  refine mm rfl ?_; intro b1_0
  refine st (asg rfl) rfl ?_
  refine nl ?_
  refine nS ?_
  refine sq ?_
  refine sq ?_
  refine rg ?_
  refine st (mv rfl) rfl ?_
  refine st (lnS U60 hv rfl) rfl ?_
  refine st (mv rfl) rfl ?_
  refine nl ?_
  refine nS ?_
  refine bk ?_
  refine lpc4 (fun (i : Int) (ob : Obj) (ends : List (Int × Int)) (p : Option Run) C => (12, .int .i64 i) :: C) [(0, _), (3, _), (10, _), (11, _)] (fun (i : Int) (ob : Obj) (ends : List (Int × Int)) (p : Option Run) H => [(b1_0, ob)] :: H) [] (fun (i : Int) (ob : Obj) (ends : List (Int × Int)) (p : Option Run) => (0 ≤ i ∧ i ≤ v.length) ∧ Mp (fun n : Int => Value.int .i64 n) ob (encM (fun n : Int => Value.int .i64 n) ends) ∧ (∀ q ∈ ends, 0 ≤ q.2 ∧ q.2 ≤ 2147483647) ∧ (0 < i → p = v[(i - 1).toNat]?) ∧ (i = 0 → p = none) ∧ chkR none [] v = chkR p ends (v.drop i.toNat)) (fun (i : Int) (ob : Obj) (ends : List (Int × Int)) (p : Option Run) => ((v.length : Int) - i).toNat) 0 _ [] none ?_ ⟨rfl, rfl, rfl, rfl, rfl, trivial⟩ hid ?_
  · exact ⟨by omega, Mp.nil _ _, (by simp), (by omega), (fun _ => rfl), rfl⟩
  intro i ob ends p hj
  obtain ⟨⟨j0, j1⟩, j2, j3, j4, j4z, j5⟩ := hj
  refine sq ?_
  refine rg ?_
  refine st (lt rfl rfl) rfl ?_
  refine nl ?_
  refine nS ?_
  refine sq ?_
  refine cd rfl (fun hb => ?_) (fun hb => ?_)
  · have h13 := (of_decide_eq_true hb)
    clear hb
    refine sk ?_
    refine nS ?_
    refine sq ?_
    refine bk ?_
    refine sq ?_
    refine rg ?_
    refine st (mv rfl) rfl ?_
    refine iaS U60 T89 hv rfl rfl (by omega) (by omega) rfl ?_; intro b4_1 p4_1 y4_1 u4_1 e4_1 c4_1 n4_1 q4_1
    obtain ⟨rfl, qa4_1, qb4_1, qc4_1⟩ := q4_1
    clear n4_1
    refine st (lma (us := [_, _, _]) 0 T89 c4_1 Hm.m rfl rfl rfl rfl) rfl ?_
    refine al T89 rfl rfl ?_; intro b4_3
    refine st (asg rfl) rfl ?_
    refine sto (cs' := [_, _, _]) (vs := [_, _, _]) T89 rfl rfl rfl rfl rfl (Nat.le_of_ble_eq_true rfl) rfl ?_
    refine nl ?_
    refine nS ?_
    refine sq ?_
    refine rg ?_
    refine st (loa (vs := [_, _, _]) T89 rfl rfl rfl) rfl ?_
    refine st (cl0 C225 (fnc _) rfl (fun _ hw => last_c hw (by omega))) rfl ?_
    refine al T59 rfl rfl ?_; intro b5_2
    refine sto (cs' := [_, _]) (vs := [_, _]) T59 rfl rfl rfl rfl rfl (Nat.le_of_ble_eq_true rfl) rfl ?_
    refine nl ?_
    refine nS ?_
    refine bk ?_
    refine sq ?_
    refine rg ?_
    refine st (loa (vs := [_, _]) T59 rfl rfl rfl) rfl ?_
    refine st (bd (cs := [_, _]) [] T59 Pl59 trivial rfl) rfl ?_
    refine st (eqs rfl rfl G59 (fun w => eqID (lastR y4_1) ⟨0, 0⟩ w)) rfl ?_
    refine st (asg rfl) rfl ?_
    refine nl ?_
    refine nS ?_
    refine cd rfl (fun hb => ?_) (fun hb => ?_)
    · have h42 := (of_decide_eq_true hb)
      clear hb
      refine sq ?_
      refine rg ?_
      refine st (asg rfl) rfl ?_
      refine nl ?_
      refine nS ?_
      refine rt ?_
      refine rB ?_
      refine rB ?_
      refine rS ?_
      refine rS ?_
      refine rB ?_
      refine rS ?_
      exact ret1 rfl rfl (by show Value.int _ _ = _; rw [j5, chkR_at e4_1, if_pos h42]) o0
    · have h42 := (of_decide_eq_false hb)
      clear hb
      refine sq ?_
      refine rgd rfl [0, 1, 2, 3, 4, 5, 6, 7, 8, 9, 10, 11, 12, 13, 14] [] [] [] (by kernel_rfl) ?_
      refine dst rfl rfl (mv rfl) rfl ?_
      refine dst rfl rfl (gt rfl rfl) rfl ?_
      refine dst rfl rfl (mv rfl) rfl ?_
      refine dspl (fun hb => ?_) (fun hb => ?_)
      · have h49 := (of_decide_eq_true hb)
        clear hb
        refine dgT rfl rfl rfl rfl (fa (o3 := 0) F89_0 rfl rfl) rfl ?_
        refine dgT rfl rfl rfl rfl (w1 (loa (vs := [_, _]) T59 rfl rfl rfl)) rfl ?_
        refine dgT rfl rfl rfl rfl (mv rfl) rfl ?_
        refine dgT rfl rfl rfl rfl (mv rfl) rfl ?_
        refine dgT rfl rfl rfl rfl (sb rfl rfl (by omega)) rfl ?_
        refine diaSg rfl rfl rfl rfl U60 T89 hv rfl rfl (by omega) (by omega) rfl ?_; intro b12_8 p12_8 y12_8 u12_8 e12_8 c12_8 n12_8 q12_8
        obtain ⟨rfl, qa12_8, qb12_8, qc12_8⟩ := q12_8
        clear n12_8
        refine dgT rfl rfl rfl rfl (fa (o3 := p12_8) F89_0 rfl rfl) rfl ?_
        refine dgT rfl rfl rfl rfl (lma (us := [_, _]) 0 T59 c12_8 Hm.m rfl rfl rfl rfl) rfl ?_
        refine dgT rfl rfl rfl rfl (cl0 C155 (fnc _) rfl (fun _ hw => cmpID_c hw )) rfl ?_
        refine dgT rfl rfl rfl rfl (lq rfl rfl) rfl ?_
        refine dst rfl rfl (pkT rfl rfl) rfl ?_
        refine dst rfl rfl (asg rfl) rfl ?_
        refine dend rfl ?_
        refine nl ?_
        refine nS ?_
        refine cd rfl (fun hb => ?_) (fun hb => ?_)
        · have h46 := (of_decide_eq_true hb)
          clear hb
          refine sq ?_
          refine rg ?_
          refine st (asg rfl) rfl ?_
          refine nl ?_
          refine nS ?_
          refine rt ?_
          refine rB ?_
          refine rB ?_
          refine rS ?_
          refine rS ?_
          refine rB ?_
          refine rS ?_
          exact ret1 rfl rfl (by show Value.int _ _ = _; rw [j5, chkR_at e4_1, if_neg h42, if_pos (le9_yes ((j4 h49).trans e12_8) h46)]) o0
        · have h46 := (of_decide_eq_false hb)
          clear hb
          refine sq ?_
          refine sq ?_
          refine rg ?_
          refine st (mv rfl) rfl ?_
          refine st (fa (o3 := 0) F89_0 rfl rfl) rfl ?_
          refine st (fa (o3 := 1) F59_1 rfl rfl) rfl ?_
          refine st (w1 (lo1 T3 rfl rfl)) rfl ?_
          refine st (lkt2 (z0 := (0 : Int)) (y := y4_1.id.site) U168 (keyInt U3) T3 rfl j2 (Hm.i2 _ _ imS) rfl rfl rfl) rfl ?_
          refine st (mv rfl) rfl ?_
          refine st (xc rfl rfl) rfl ?_
          refine st (xc rfl rfl) rfl ?_
          refine st (asg rfl) rfl ?_
          refine st (asg rfl) rfl ?_
          refine nl ?_
          refine nS ?_
          refine sq ?_
          refine rg ?_
          refine st (mv rfl) rfl ?_
          refine st (mv rfl) rfl ?_
          refine spl (fun hb => ?_) (fun hb => ?_)
          · have h28 := hb
            clear hb
            refine gT rfl rfl ?_
            refine st (fa (o3 := 0) F89_0 rfl rfl) rfl ?_
            refine gT rfl rfl ?_
            refine st (fa (o3 := 0) F59_0 rfl rfl) rfl ?_
            refine gT rfl rfl ?_
            refine st (w1 (lo1 T3 rfl rfl)) rfl ?_
            refine gT rfl rfl ?_
            refine st (mv rfl) rfl ?_
            refine gT rfl rfl ?_
            refine st (ad rfl rfl (by have := look_le j3 (x := y4_1.id.site); omega)) rfl ?_
            refine gT rfl rfl ?_
            refine st (lq rfl rfl) rfl ?_
            refine st (pkT rfl rfl) rfl ?_
            refine nl ?_
            refine nS ?_
            refine cd rfl (fun hb => ?_) (fun hb => ?_)
            · have h35 := (of_decide_eq_true hb)
              clear hb
              refine sq ?_
              refine rg ?_
              refine st (asg rfl) rfl ?_
              refine nl ?_
              refine nS ?_
              refine rt ?_
              refine rS ?_
              refine rB ?_
              refine rB ?_
              refine rS ?_
              refine rS ?_
              refine rB ?_
              refine rS ?_
              exact ret1 rfl rfl (by show Value.int _ _ = _; rw [j5, chkR_at e4_1, if_neg h42, if_neg (le9_no2 ((j4 h49).trans e12_8) h46), if_pos (le6_yes h28 h35)]) o0
            · have h35 := (of_decide_eq_false hb)
              clear hb
              refine sk ?_
              refine nS ?_
              refine rg ?_
              refine st (mv rfl) rfl ?_
              refine st (fa (o3 := 0) F89_0 rfl rfl) rfl ?_
              refine st (fa (o3 := 1) F59_1 rfl rfl) rfl ?_
              refine st (w1 (lo1 T3 rfl rfl)) rfl ?_
              refine st (fa (o3 := 0) F59_0 rfl rfl) rfl ?_
              refine st (lo1 T3 rfl rfl) rfl ?_
              refine r2 ?_
              refine mu (u := y4_1.id.site) U168 (keyInt U3) j2 rfl rfl rfl rfl ?_; intro ob2 j2n
              rw [setK_enc (fun n : Int => Value.int .i64 n)] at j2n
              have j3n : ∀ q ∈ setM ends y4_1.id.site (lastR y4_1).time, 0 ≤ q.2 ∧ q.2 ≤ 2147483647 := by
                intro q hq; rcases mem_setM hq with rfl | hq
                · exact lastR_le _
                · exact j3 q hq
              have j4n : 0 < i + 1 → some y4_1 = v[(i + 1 - 1).toNat]? := fun _ => by rw [show i + 1 - 1 = i by omega]; exact e4_1.symm
              have j4nz : i + 1 = 0 → some y4_1 = none := fun h => by omega
              have j5n : chkR none [] v = chkR (some y4_1) (setM ends y4_1.id.site (lastR y4_1).time) (v.drop (i + 1).toNat) := by rw [j5, toNat_succ j0, chkR_at e4_1, if_neg h42, if_neg (le9_no2 ((j4 h49).trans e12_8) h46), if_neg (le6_no2 h28 h35)]
              refine nl ?_
              refine nB ?_
              refine nB ?_
              refine nS ?_
              refine rg ?_
              refine st (ad rfl rfl (by omega)) rfl ?_
              refine st (mv rfl) rfl ?_
              refine nl ?_
              exact le4 (i + 1) _ _ _ ⟨⟨by omega, j2n, j3n, j4n, j4nz, j5n⟩, by omega⟩ ⟨rfl, rfl, rfl, rfl, rfl, trivial⟩ hK1
          · have h28 := hb
            clear hb
            refine gF rfl rfl rfl rfl ?_
            refine gF rfl rfl rfl rfl ?_
            refine gF rfl rfl rfl rfl ?_
            refine gF rfl rfl rfl rfl ?_
            refine gF rfl rfl rfl rfl ?_
            refine gF rfl rfl rfl rfl ?_
            refine st (pkF rfl rfl) rfl ?_
            refine nl ?_
            refine nS ?_
            refine cdF rfl ?_
            refine sk ?_
            refine nS ?_
            refine rg ?_
            refine st (mv rfl) rfl ?_
            refine st (fa (o3 := 0) F89_0 rfl rfl) rfl ?_
            refine st (fa (o3 := 1) F59_1 rfl rfl) rfl ?_
            refine st (w1 (lo1 T3 rfl rfl)) rfl ?_
            refine st (fa (o3 := 0) F59_0 rfl rfl) rfl ?_
            refine st (lo1 T3 rfl rfl) rfl ?_
            refine r2 ?_
            refine mu (u := y4_1.id.site) U168 (keyInt U3) j2 rfl rfl rfl rfl ?_; intro ob2 j2n
            rw [setK_enc (fun n : Int => Value.int .i64 n)] at j2n
            have j3n : ∀ q ∈ setM ends y4_1.id.site (lastR y4_1).time, 0 ≤ q.2 ∧ q.2 ≤ 2147483647 := by
              intro q hq; rcases mem_setM hq with rfl | hq
              · exact lastR_le _
              · exact j3 q hq
            have j4n : 0 < i + 1 → some y4_1 = v[(i + 1 - 1).toNat]? := fun _ => by rw [show i + 1 - 1 = i by omega]; exact e4_1.symm
            have j4nz : i + 1 = 0 → some y4_1 = none := fun h => by omega
            have j5n : chkR none [] v = chkR (some y4_1) (setM ends y4_1.id.site (lastR y4_1).time) (v.drop (i + 1).toNat) := by rw [j5, toNat_succ j0, chkR_at e4_1, if_neg h42, if_neg (le9_no2 ((j4 h49).trans e12_8) h46), if_neg (le6_no h28)]
            refine nl ?_
            refine nB ?_
            refine nB ?_
            refine nS ?_
            refine rg ?_
            refine st (ad rfl rfl (by omega)) rfl ?_
            refine st (mv rfl) rfl ?_
            refine nl ?_
            exact le4 (i + 1) _ _ _ ⟨⟨by omega, j2n, j3n, j4n, j4nz, j5n⟩, by omega⟩ ⟨rfl, rfl, rfl, rfl, rfl, trivial⟩ hK1
      · have h49 := (of_decide_eq_false hb)
        clear hb
        refine dgF rfl rfl rfl rfl rfl ?_
        refine dgF rfl rfl rfl rfl rfl ?_
        refine dgF rfl rfl rfl rfl rfl ?_
        refine dgF rfl rfl rfl rfl rfl ?_
        refine dgF rfl rfl rfl rfl rfl ?_
        refine dgF rfl rfl rfl rfl rfl ?_
        refine dgF rfl rfl rfl rfl rfl ?_
        refine dgF rfl rfl rfl rfl rfl ?_
        refine dgF rfl rfl rfl rfl rfl ?_
        refine dgF rfl rfl rfl rfl rfl ?_
        refine dst rfl rfl (pkF rfl rfl) rfl ?_
        refine dst rfl rfl (asg rfl) rfl ?_
        refine dend rfl ?_
        refine nl ?_
        refine nS ?_
        refine cdF rfl ?_
        refine sq ?_
        refine sq ?_
        refine rg ?_
        refine st (mv rfl) rfl ?_
        refine st (fa (o3 := 0) F89_0 rfl rfl) rfl ?_
        refine st (fa (o3 := 1) F59_1 rfl rfl) rfl ?_
        refine st (w1 (lo1 T3 rfl rfl)) rfl ?_
        refine st (lkt2 (z0 := (0 : Int)) (y := y4_1.id.site) U168 (keyInt U3) T3 rfl j2 (Hm.i2 _ _ imS) rfl rfl rfl) rfl ?_
        refine st (mv rfl) rfl ?_
        refine st (xc rfl rfl) rfl ?_
        refine st (xc rfl rfl) rfl ?_
        refine st (asg rfl) rfl ?_
        refine st (asg rfl) rfl ?_
        refine nl ?_
        refine nS ?_
        refine sq ?_
        refine rg ?_
        refine st (mv rfl) rfl ?_
        refine st (mv rfl) rfl ?_
        refine spl (fun hb => ?_) (fun hb => ?_)
        · have h28 := hb
          clear hb
          refine gT rfl rfl ?_
          refine st (fa (o3 := 0) F89_0 rfl rfl) rfl ?_
          refine gT rfl rfl ?_
          refine st (fa (o3 := 0) F59_0 rfl rfl) rfl ?_
          refine gT rfl rfl ?_
          refine st (w1 (lo1 T3 rfl rfl)) rfl ?_
          refine gT rfl rfl ?_
          refine st (mv rfl) rfl ?_
          refine gT rfl rfl ?_
          refine st (ad rfl rfl (by have := look_le j3 (x := y4_1.id.site); omega)) rfl ?_
          refine gT rfl rfl ?_
          refine st (lq rfl rfl) rfl ?_
          refine st (pkT rfl rfl) rfl ?_
          refine nl ?_
          refine nS ?_
          refine cd rfl (fun hb => ?_) (fun hb => ?_)
          · have h35 := (of_decide_eq_true hb)
            clear hb
            refine sq ?_
            refine rg ?_
            refine st (asg rfl) rfl ?_
            refine nl ?_
            refine nS ?_
            refine rt ?_
            refine rS ?_
            refine rB ?_
            refine rB ?_
            refine rS ?_
            refine rS ?_
            refine rB ?_
            refine rS ?_
            exact ret1 rfl rfl (by show Value.int _ _ = _; rw [j5, chkR_at e4_1, if_neg h42, if_neg (le9_no (j4z (by omega))), if_pos (le6_yes h28 h35)]) o0
          · have h35 := (of_decide_eq_false hb)
            clear hb
            refine sk ?_
            refine nS ?_
            refine rg ?_
            refine st (mv rfl) rfl ?_
            refine st (fa (o3 := 0) F89_0 rfl rfl) rfl ?_
            refine st (fa (o3 := 1) F59_1 rfl rfl) rfl ?_
            refine st (w1 (lo1 T3 rfl rfl)) rfl ?_
            refine st (fa (o3 := 0) F59_0 rfl rfl) rfl ?_
            refine st (lo1 T3 rfl rfl) rfl ?_
            refine r2 ?_
            refine mu (u := y4_1.id.site) U168 (keyInt U3) j2 rfl rfl rfl rfl ?_; intro ob2 j2n
            rw [setK_enc (fun n : Int => Value.int .i64 n)] at j2n
            have j3n : ∀ q ∈ setM ends y4_1.id.site (lastR y4_1).time, 0 ≤ q.2 ∧ q.2 ≤ 2147483647 := by
              intro q hq; rcases mem_setM hq with rfl | hq
              · exact lastR_le _
              · exact j3 q hq
            have j4n : 0 < i + 1 → some y4_1 = v[(i + 1 - 1).toNat]? := fun _ => by rw [show i + 1 - 1 = i by omega]; exact e4_1.symm
            have j4nz : i + 1 = 0 → some y4_1 = none := fun h => by omega
            have j5n : chkR none [] v = chkR (some y4_1) (setM ends y4_1.id.site (lastR y4_1).time) (v.drop (i + 1).toNat) := by rw [j5, toNat_succ j0, chkR_at e4_1, if_neg h42, if_neg (le9_no (j4z (by omega))), if_neg (le6_no2 h28 h35)]
            refine nl ?_
            refine nB ?_
            refine nB ?_
            refine nS ?_
            refine rg ?_
            refine st (ad rfl rfl (by omega)) rfl ?_
            refine st (mv rfl) rfl ?_
            refine nl ?_
            exact le4 (i + 1) _ _ _ ⟨⟨by omega, j2n, j3n, j4n, j4nz, j5n⟩, by omega⟩ ⟨rfl, rfl, rfl, rfl, rfl, trivial⟩ hK1
        · have h28 := hb
          clear hb
          refine gF rfl rfl rfl rfl ?_
          refine gF rfl rfl rfl rfl ?_
          refine gF rfl rfl rfl rfl ?_
          refine gF rfl rfl rfl rfl ?_
          refine gF rfl rfl rfl rfl ?_
          refine gF rfl rfl rfl rfl ?_
          refine st (pkF rfl rfl) rfl ?_
          refine nl ?_
          refine nS ?_
          refine cdF rfl ?_
          refine sk ?_
          refine nS ?_
          refine rg ?_
          refine st (mv rfl) rfl ?_
          refine st (fa (o3 := 0) F89_0 rfl rfl) rfl ?_
          refine st (fa (o3 := 1) F59_1 rfl rfl) rfl ?_
          refine st (w1 (lo1 T3 rfl rfl)) rfl ?_
          refine st (fa (o3 := 0) F59_0 rfl rfl) rfl ?_
          refine st (lo1 T3 rfl rfl) rfl ?_
          refine r2 ?_
          refine mu (u := y4_1.id.site) U168 (keyInt U3) j2 rfl rfl rfl rfl ?_; intro ob2 j2n
          rw [setK_enc (fun n : Int => Value.int .i64 n)] at j2n
          have j3n : ∀ q ∈ setM ends y4_1.id.site (lastR y4_1).time, 0 ≤ q.2 ∧ q.2 ≤ 2147483647 := by
            intro q hq; rcases mem_setM hq with rfl | hq
            · exact lastR_le _
            · exact j3 q hq
          have j4n : 0 < i + 1 → some y4_1 = v[(i + 1 - 1).toNat]? := fun _ => by rw [show i + 1 - 1 = i by omega]; exact e4_1.symm
          have j4nz : i + 1 = 0 → some y4_1 = none := fun h => by omega
          have j5n : chkR none [] v = chkR (some y4_1) (setM ends y4_1.id.site (lastR y4_1).time) (v.drop (i + 1).toNat) := by rw [j5, toNat_succ j0, chkR_at e4_1, if_neg h42, if_neg (le9_no (j4z (by omega))), if_neg (le6_no h28)]
          refine nl ?_
          refine nB ?_
          refine nB ?_
          refine nS ?_
          refine rg ?_
          refine st (ad rfl rfl (by omega)) rfl ?_
          refine st (mv rfl) rfl ?_
          refine nl ?_
          exact le4 (i + 1) _ _ _ ⟨⟨by omega, j2n, j3n, j4n, j4nz, j5n⟩, by omega⟩ ⟨rfl, rfl, rfl, rfl, rfl, trivial⟩ hK1
  · have h13 := (of_decide_eq_false hb)
    clear hb
    refine xt ?_
    refine xS ?_
    refine xS ?_
    refine xB ?_
    refine nS ?_
    refine sq ?_
    refine rg ?_
    refine st (asg rfl) rfl ?_
    refine nl ?_
    refine nS ?_
    refine rt ?_
    exact ret1 rfl rfl (by show Value.int _ _ = _; rw [j5, chkR_end (by omega)]) o0
end Go.W
