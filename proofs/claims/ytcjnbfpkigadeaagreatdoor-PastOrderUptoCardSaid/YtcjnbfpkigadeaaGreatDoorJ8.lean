/- Lemmas for the walks of this program: Walks. Written by a program of mine. Walks. Written by a program of mine. Walks. Written by a program of mine. -/
import Derived.Test.YtcjnbfpkigadeaaGreatDoorJ7
set_option linter.unusedVariables false
set_option linter.unusedSimpArgs false
/- Walks. Written by a program of mine. -/
namespace Go.W
open Go Go.Proofs.Tryz
theorem K29 : KeyT prog 29 encD := keyPair (fun d : Dot => d.site) (fun d => d.seq) (fun x y h1 h2 => by cases x; cases y; simp_all) EF29 U3 U3 T3 T3

set_option maxRecDepth 20000 in
theorem CloneD_c {M : Mem} {w : World} {V : Value} {v : List Dot} (hM : RO M [] w) (hv : Sl M 2 RDot V v) (hb : v.length ≤ 1000000) : FnC prog 49 [V] w [] (fun u o => OS o 29 2 u (v.flatMap encDot)) := by
  obtain ⟨A, cp, rfl, hv1, hv2⟩ := id hv
  refine enter (code := _) func49 rfl 8 rfl rfl hM [] rfl [(0, _)] ⟨rfl, trivial⟩ ?_
  have l_hv := hv.bound
  refine sq ?_
  refine rg ?_
  refine st (asg rfl) rfl ?_
  refine nl ?_
  refine nS ?_
  refine sq ?_
  refine sq ?_
  refine rg ?_
  refine st (mv rfl) rfl ?_
  refine st (eqv rfl rfl rfl gd_sl (fun w => eq_sl U24 _ _ _ w)) rfl ?_
  refine nl ?_
  refine nS ?_
  refine cd rfl (fun hb => ?_) (fun hb => ?_)
  · have h4 := hb
    clear hb
    refine sq ?_
    refine rg ?_
    refine st (asg rfl) rfl ?_
    refine nl ?_
    refine nS ?_
    refine rt ?_
    refine rS ?_
    exact ret1 rfl rfl (by have : v = [] := nil_of_none hv h4; rw [this]; exact OS.nil _ _) o0
  · have h4 := hb
    clear hb
    refine sk ?_
    refine nS ?_
    refine sq ?_
    refine rg ?_
    refine bs (parts := []) (cs := []) [] [] U24 T29 rfl rfl rfl rfl trivial rfl rfl ?_; intro b3_0
    refine st (mv rfl) rfl ?_
    refine ap U24 U24 T29 rfl rfl rfl rfl rfl rfl (OS.whole (n := 0) rfl rfl) ((hv.src (enc := encDot) (by decide) hM.fn (fun _ _ h => h.1)).mono Hm.m) (flat_flatMap (fun _ => rfl) _) (by rw [flatMap_length (sz := 2) (fun _ => rfl)]; simp; omega) rfl ?_; intro vv oo qq
    refine st (asg rfl) rfl ?_
    refine nl ?_
    refine nS ?_
    refine rt ?_
    exact ret1 rfl rfl (qq.cast (by simp)) o1

set_option maxRecDepth 20000 in
theorem CloneR_c {M : Mem} {w : World} {V : Value} {v : List Run} (hM : RO M [] w) (hv : Sl M 3 RRun V v) (hb : v.length ≤ 1000000) : FnC prog 50 [V] w [] (fun u o => OS o 89 3 u (v.flatMap encRun)) := by
  obtain ⟨A, cp, rfl, hv1, hv2⟩ := id hv
  refine enter (code := _) func50 rfl 8 rfl rfl hM [] rfl [(0, _)] ⟨rfl, trivial⟩ ?_
  have l_hv := hv.bound
  refine sq ?_
  refine rg ?_
  refine st (asg rfl) rfl ?_
  refine nl ?_
  refine nS ?_
  refine sq ?_
  refine sq ?_
  refine rg ?_
  refine st (mv rfl) rfl ?_
  refine st (eqv rfl rfl rfl gd_sl (fun w => eq_sl U60 _ _ _ w)) rfl ?_
  refine nl ?_
  refine nS ?_
  refine cd rfl (fun hb => ?_) (fun hb => ?_)
  · have h4 := hb
    clear hb
    refine sq ?_
    refine rg ?_
    refine st (asg rfl) rfl ?_
    refine nl ?_
    refine nS ?_
    refine rt ?_
    refine rS ?_
    exact ret1 rfl rfl (by have : v = [] := nil_of_none hv h4; rw [this]; exact OS.nil _ _) o0
  · have h4 := hb
    clear hb
    refine sk ?_
    refine nS ?_
    refine sq ?_
    refine rg ?_
    refine bs (parts := []) (cs := []) [] [] U60 T89 rfl rfl rfl rfl trivial rfl rfl ?_; intro b3_0
    refine st (mv rfl) rfl ?_
    refine ap U60 U60 T89 rfl rfl rfl rfl rfl rfl (OS.whole (n := 0) rfl rfl) ((hv.src (enc := encRun) (by decide) hM.fn (fun _ _ h => h.1)).mono Hm.m) (flat_flatMap (fun _ => rfl) _) (by rw [flatMap_length (sz := 3) (fun _ => rfl)]; simp; omega) rfl ?_; intro vv oo qq
    refine st (asg rfl) rfl ?_
    refine nl ?_
    refine nS ?_
    refine rt ?_
    exact ret1 rfl rfl (qq.cast (by simp)) o1

set_option maxRecDepth 20000 in
theorem has_c {M : Mem} {w : World} {b : Nat} {ob : Obj} {kvs : List (Dot × Value)} {V : Value} {v : List Dot} (hM : RO M [] w) (hm : Mp encD ob kvs) (hb : M b ob) (hk : Vs 11 kvs) (hv : Sl M 2 RDot V v) : FnC prog 63 [.map (some b), V] w [] (fun u _ => u = .bool (decide (hasP (kvs.map (·.1)) v))) := by
  refine enter (code := _) func63 rfl 34 rfl rfl hM [] rfl [(0, _), (1, _)] ⟨rfl, rfl, trivial⟩ ?_
  have l_hv := hv.bound
  refine sq ?_
  refine rg ?_
  refine st (asg rfl) rfl ?_
  refine nl ?_
  refine nS ?_
  refine sq ?_
  refine sq ?_
  refine rg ?_
  refine st (mv rfl) rfl ?_
  refine st (lnS U24 hv rfl) rfl ?_
  refine st (mv rfl) rfl ?_
  refine nl ?_
  refine nS ?_
  refine bk ?_
  refine lpc1 (fun (i : Int) C => (12, .int .i64 i) :: C) [(0, _), (10, _), (11, _)] (fun (i : Int) H => H) [] (fun (i : Int) => 0 ≤ i ∧ i ≤ v.length ∧ ∀ d ∈ v.take i.toNat, hasD (kvs.map (·.1)) d) (fun (i : Int) => ((v.length : Int) - i).toNat) 0 ?_ ⟨rfl, rfl, rfl, rfl, trivial⟩ hid ?_
  · exact ⟨by omega, by omega, by simp⟩
  intro i hj
  obtain ⟨j0, j1, j2⟩ := hj
  refine sq ?_
  refine rg ?_
  refine st (lt rfl rfl) rfl ?_
  refine nl ?_
  refine nS ?_
  refine sq ?_
  refine cd rfl (fun hb => ?_) (fun hb => ?_)
  · have h13 := (of_decide_eq_true hb)
    clear hb
    refine sk ?_
    refine nS ?_
    refine sq ?_
    refine bk ?_
    refine sq ?_
    refine rg ?_
    refine iaS U24 T29 hv rfl rfl (by omega) (by omega) rfl ?_; intro b3_0 p3_0 y3_0 u3_0 e3_0 c3_0 n3_0 q3_0
    obtain ⟨rfl, qa3_0, qb3_0⟩ := q3_0
    clear n3_0
    refine st (lma (us := [_, _]) 0 T29 c3_0 Hm.m rfl rfl rfl rfl) rfl ?_
    refine al T29 rfl rfl ?_; intro b3_2
    refine sto (cs' := [_, _]) (vs := [_, _]) T29 rfl rfl rfl rfl rfl (Nat.le_of_ble_eq_true rfl) rfl ?_
    refine nl ?_
    refine nS ?_
    refine sq ?_
    refine rg ?_
    refine st (fa (o3 := 1) F29_1 rfl rfl) rfl ?_
    refine st (lo1 T3 rfl rfl) rfl ?_
    refine st (asg rfl) rfl ?_
    refine nl ?_
    refine nS ?_
    refine bk ?_
    refine lpc1 (fun (q : Int) C => (7, .int .i64 q) :: C) [(0, _), (6, _), (10, _), (11, _), (12, _)] (fun (q : Int) H => H) [_] (fun (q : Int) => q ≤ y3_0.seq ∧ ∀ k : Nat, q ≤ k → k < y3_0.seq.toNat → (⟨y3_0.site, (k : Int) + 1⟩ : Dot) ∈ kvs.map (·.1)) (fun (q : Int) => q.toNat) y3_0.seq ?_ ⟨rfl, rfl, rfl, rfl, rfl, rfl, trivial⟩ hid ?_
    · exact ⟨by omega, fun k h1 h2 => by omega⟩
    intro q hj
    obtain ⟨k0, k1⟩ := hj
    refine sq ?_
    refine sq ?_
    refine rg ?_
    refine st (mv rfl) rfl ?_
    refine st (gt rfl rfl) rfl ?_
    refine nl ?_
    refine nS ?_
    refine cd rfl (fun hb => ?_) (fun hb => ?_)
    · have h19 := (of_decide_eq_true hb)
      clear hb
      refine sk ?_
      refine nS ?_
      refine sq ?_
      refine bk ?_
      refine sq ?_
      refine rg ?_
      refine st (mv rfl) rfl ?_
      refine st (fa (o3 := 0) F29_0 rfl rfl) rfl ?_
      refine st (lo1 T3 rfl rfl) rfl ?_
      refine st (mv rfl) rfl ?_
      refine st (bd (cs := [_, _]) [(0, [_]), (1, [_])] T29 Pl29 ⟨rfl, ⟨_, rfl, rfl⟩, ⟨rfl, ⟨_, rfl, rfl⟩, trivial⟩⟩ rfl) rfl ?_
      refine st (lkr2 (kvs := kvs) (y := ⟨y3_0.site, q⟩) U91 K29 T62 hm (Hm.m _ _ hb) rfl rfl rfl) rfl ?_
      refine st (mv rfl) rfl ?_
      refine st (xc rfl rfl) rfl ?_
      obtain ⟨vs, hvs, hvl, hvf⟩ := look_cells hk (⟨y3_0.site, q⟩) (z := [.int .i64 0, .int .i64 0, .slice none 0 0, .int .i64 0, .int .i64 0, .int .i64 0, .int .i64 0, .int .i64 0, .string ByteArray.empty, .slice none 0 0, .int .i64 0]) rfl rfl
      refine cv hvs ?_
      refine st (xc rfl rfl) rfl ?_
      refine al T62 rfl rfl ?_; intro b7_9
      refine sto (cs' := vs) (vs := vs) T62 rfl rfl rfl hvl hvf (by show 0 + 11 ≤ List.length [_, _, _, _, _, _, _, _, _, _, _]; decide) (setL_all hvl.symm) ?_
      refine st (asg rfl) rfl ?_
      refine nl ?_
      refine nS ?_
      refine sq ?_
      refine rg ?_
      refine st (mv rfl) rfl ?_
      refine st (nt rfl) rfl ?_
      refine nl ?_
      refine nS ?_
      refine cd rfl (fun hb => ?_) (fun hb => ?_)
      · have h32 := (nTF hb)
        clear hb
        refine sq ?_
        refine rg ?_
        refine st (asg rfl) rfl ?_
        refine nl ?_
        refine nS ?_
        refine rt ?_
        refine rB ?_
        refine rS ?_
        refine rS ?_
        refine rB ?_
        refine rB ?_
        refine rS ?_
        refine rS ?_
        refine rB ?_
        refine rS ?_
        exact ret1 rfl rfl (congrArg Value.bool (decide_eq_false (has_bad (List.mem_of_getElem? e3_0) k0 (by omega) h32)).symm) o0
      · have h32 := (nFT hb)
        clear hb
        refine sk ?_
        refine nB ?_
        refine nS ?_
        refine rg ?_
        refine st (mv rfl) rfl ?_
        refine st (sb rfl rfl (by omega)) rfl ?_
        refine st (asg rfl) rfl ?_
        refine nl ?_
        refine gr1 ?_
        exact le1 (q - 1) ⟨⟨by omega, has_go k1 (lookK_some.1 h32) (by omega)⟩, by omega⟩ ⟨rfl, rfl, rfl, rfl, rfl, rfl, trivial⟩ hK1
    · have h19 := (of_decide_eq_false hb)
      clear hb
      refine xt ?_
      refine xS ?_
      refine xS ?_
      refine xB ?_
      refine nB ?_
      refine nS ?_
      refine rg ?_
      refine st (ad rfl rfl (by omega)) rfl ?_
      refine st (mv rfl) rfl ?_
      refine nl ?_
      exact le1 (i + 1) ⟨⟨by omega, by omega, forall_take j0 e3_0 j2 (fun k hk => k1 k (by omega) hk)⟩, by omega⟩ ⟨rfl, rfl, rfl, rfl, trivial⟩ hK0
  · have h13 := (of_decide_eq_false hb)
    clear hb
    refine xt ?_
    refine xS ?_
    refine xS ?_
    refine xB ?_
    refine nS ?_
    refine sq ?_
    refine rg ?_
    refine st (asg rfl) rfl ?_
    refine nl ?_
    refine nS ?_
    refine rt ?_
    exact ret1 rfl rfl (congrArg Value.bool (decide_eq_true (by rw [take_all h13] at j2; exact j2)).symm) o0

set_option maxRecDepth 20000 in
theorem set_c {M : Mem} {w : World} {V : Value} {v : List Op'} (hM : RO M [] w) (hv : Sl M 11 ROp V v) : FnC prog 42 [V] w [] (fun x o => ∃ m, x = .tuple #[m, .int .i64 (closedE v)] ∧ (closedE v = 0 → ∃ b ob kvs, m = .map (some b) ∧ o = [(b, ob)] ∧ Mp encD ob kvs ∧ HOps M kvs v) ∧ (closedE v ≠ 0 → m = .map none ∧ o = [])) := by
  refine enter (code := _) func42 rfl 56 rfl rfl hM [] rfl [(0, _)] ⟨rfl, trivial⟩ ?_
  have l_hv := hv.bound
  refine sq ?_
  refine rg ?_
  refine st (asg rfl) rfl ?_
  refine st (asg rfl) rfl ?_
  refine nl ?_
  refine nS ?_
  refine sq ?_
  refine rg ?_
  refine mm rfl ?_; intro b1_0
  refine st (asg rfl) rfl ?_
  refine nl ?_
  refine nS ?_
  refine sq ?_
  refine sq ?_
  refine rg ?_
  refine st (mv rfl) rfl ?_
  refine st (lnS U22 hv rfl) rfl ?_
  refine st (mv rfl) rfl ?_
  refine nl ?_
  refine nS ?_
  refine bk ?_
  refine lpc1 (fun (i : Int) C => (16, .int .i64 i) :: C) [(0, _), (4, _), (14, _), (15, _)] (fun (i : Int) H => H) [_] (fun (i : Int) => 0 ≤ i ∧ i ≤ v.length ∧ ∀ o ∈ v.take i.toNat, chkOp o = 0) (fun (i : Int) => ((v.length : Int) - i).toNat) 0 ?_ ⟨rfl, rfl, rfl, rfl, rfl, trivial⟩ hid ?_
  · exact ⟨by omega, by omega, by simp⟩
  intro i hj
  obtain ⟨j0, j1, j2⟩ := hj
  refine sq ?_
  refine rg ?_
  refine st (lt rfl rfl) rfl ?_
  refine nl ?_
  refine nS ?_
  refine sq ?_
  refine cd rfl (fun hb => ?_) (fun hb => ?_)
  · have h17 := (of_decide_eq_true hb)
    clear hb
    refine sk ?_
    refine nS ?_
    refine sq ?_
    refine bk ?_
    refine sq ?_
    refine rg ?_
    refine iaS U22 T62 hv rfl rfl (by omega) (by omega) rfl ?_; intro b4_0 p4_0 y4_0 u4_0 e4_0 c4_0 n4_0 q4_0
    obtain ⟨D4_0, G4_0, rfl, qd4_0, qg4_0, qo4_0⟩ := q4_0
    clear n4_0
    refine st (lma (us := [_, _, _, _, _, _, _, _, _, _, _]) 0 T62 c4_0 Hm.m rfl rfl rfl rfl) rfl ?_
    refine al T62 rfl rfl ?_; intro b4_2
    refine sto (cs' := [_, _, _, _, _, _, _, _, _, _, _]) (vs := [_, _, _, _, _, _, _, _, _, _, _]) T62 rfl rfl rfl rfl (allc rfl (allc rfl (allc qd4_0.isSl (allc rfl (allc rfl (allc rfl (allc rfl (allc rfl (allc rfl (allc qg4_0.isSl (allc rfl rfl))))))))))) (Nat.le_of_ble_eq_true rfl) rfl ?_
    refine nl ?_
    refine nS ?_
    refine sq ?_
    refine rg ?_
    refine st (loa (vs := [_, _, _, _, _, _, _, _, _, _, _]) T62 rfl rfl rfl) rfl ?_
    refine st (cl0 C79 (fnc _) rfl (fun _ hw => chkOp_c (o := y4_0) hw (qd4_0.mono mDot Hm.m) (qg4_0.mono mRun Hm.m) qo4_0)) rfl ?_
    refine st (ne rfl rfl) rfl ?_
    refine nl ?_
    refine nS ?_
    refine cd rfl (fun hb => ?_) (fun hb => ?_)
    · have h22 := (ne_of_bneT hb)
      clear hb
      refine sq ?_
      refine rg ?_
      refine st (asg rfl) rfl ?_
      refine st (asg rfl) rfl ?_
      refine nl ?_
      refine nS ?_
      refine rt ?_
      refine rB ?_
      refine rS ?_
      refine rS ?_
      refine rB ?_
      refine rS ?_
      exact ret2 rfl rfl rfl ⟨_, (by show Value.tuple #[_, _] = Value.tuple #[_, _]; rw [closed10 (List.mem_of_getElem? e4_0) h22]), (by rw [closed10 (List.mem_of_getElem? e4_0) h22]; intro h; cases h), fun _ => ⟨rfl, rfl⟩⟩ o0
    · have h22 := (eq_of_bneF hb)
      clear hb
      refine sk ?_
      refine nB ?_
      refine nS ?_
      refine rg ?_
      refine st (ad rfl rfl (by omega)) rfl ?_
      refine st (mv rfl) rfl ?_
      refine nl ?_
      refine gr1 ?_
      exact le1 (i + 1) ⟨⟨by omega, by omega, forall_take j0 e4_0 j2 h22⟩, by omega⟩ ⟨rfl, rfl, rfl, rfl, rfl, trivial⟩ hK1
  · have h17 := (of_decide_eq_false hb)
    clear hb
    refine xt ?_
    refine xS ?_
    refine xS ?_
    refine xB ?_
    refine nS ?_
    refine sq ?_
    refine sq ?_
    refine rg ?_
    refine st (mv rfl) rfl ?_
    refine st (lnS U22 hv rfl) rfl ?_
    refine st (mv rfl) rfl ?_
    refine nl ?_
    refine nS ?_
    refine bk ?_
    refine lpc3 (fun (i : Int) (ob : Obj) (kvs : List (Dot × Value)) C => (26, .int .i64 i) :: C) [(0, _), (4, _), (24, _), (25, _)] (fun (i : Int) (ob : Obj) (kvs : List (Dot × Value)) H => [(b1_0, ob)] :: H) [] (fun (i : Int) (ob : Obj) (kvs : List (Dot × Value)) => (0 ≤ i ∧ i ≤ v.length) ∧ Mp encD ob kvs ∧ HOps M kvs (v.take i.toNat) ∧ ((v.take i.toNat).map (·.dot)).Nodup) (fun (i : Int) (ob : Obj) (kvs : List (Dot × Value)) => ((v.length : Int) - i).toNat) 0 _ [] ?_ ⟨rfl, rfl, rfl, rfl, rfl, trivial⟩ hid ?_
    · exact ⟨by omega, Mp.nil _ _, HOps.nil, by simp⟩
    intro i ob kvs hj
    have hc1 : ∀ o ∈ v, chkOp o = 0 := by rw [take_all h17] at j2; exact j2
    obtain ⟨⟨j0, j1⟩, j3, j4, j5⟩ := hj
    refine sq ?_
    refine rg ?_
    refine st (lt rfl rfl) rfl ?_
    refine nl ?_
    refine nS ?_
    refine sq ?_
    refine cd rfl (fun hb => ?_) (fun hb => ?_)
    · have h27 := (of_decide_eq_true hb)
      clear hb
      refine sk ?_
      refine nS ?_
      refine sq ?_
      refine bk ?_
      refine sq ?_
      refine rg ?_
      refine iaS U22 T62 hv rfl rfl (by omega) (by omega) rfl ?_; intro b10_0 p10_0 y10_0 u10_0 e10_0 c10_0 n10_0 q10_0
      obtain ⟨D10_0, G10_0, rfl, qd10_0, qg10_0, qo10_0⟩ := q10_0
      clear n10_0
      refine st (lma (us := [_, _, _, _, _, _, _, _, _, _, _]) 0 T62 c10_0 Hm.m rfl rfl rfl rfl) rfl ?_
      refine al T62 rfl rfl ?_; intro b10_2
      refine sto (cs' := [_, _, _, _, _, _, _, _, _, _, _]) (vs := [_, _, _, _, _, _, _, _, _, _, _]) T62 rfl rfl rfl rfl (allc rfl (allc rfl (allc qd10_0.isSl (allc rfl (allc rfl (allc rfl (allc rfl (allc rfl (allc rfl (allc qg10_0.isSl (allc rfl rfl))))))))))) (Nat.le_of_ble_eq_true rfl) rfl ?_
      refine nl ?_
      refine nS ?_
      refine sq ?_
      refine sq ?_
      refine rg ?_
      refine st (mv rfl) rfl ?_
      refine st (fa (o3 := 0) F62_0 rfl rfl) rfl ?_
      refine st (loa (vs := [_, _]) T29 rfl rfl rfl) rfl ?_
      refine st (lkr2 (kvs := kvs) (y := y10_0.dot) U91 K29 T62 j3 (Hm.i1 _ _ imS) rfl rfl rfl) rfl ?_
      refine st (mv rfl) rfl ?_
      refine st (xc rfl rfl) rfl ?_
      obtain ⟨vs, hvs, hvl, hvf⟩ := look_cells j4.vs (y10_0.dot) (z := [.int .i64 0, .int .i64 0, .slice none 0 0, .int .i64 0, .int .i64 0, .int .i64 0, .int .i64 0, .int .i64 0, .string ByteArray.empty, .slice none 0 0, .int .i64 0]) rfl rfl
      refine cv hvs ?_
      refine st (xc rfl rfl) rfl ?_
      refine al T62 rfl rfl ?_; intro b11_7
      refine sto (cs' := vs) (vs := vs) T62 rfl rfl rfl hvl hvf (by show 0 + 11 ≤ List.length [_, _, _, _, _, _, _, _, _, _, _]; decide) (setL_all hvl.symm) ?_
      refine st (asg rfl) rfl ?_
      refine nl ?_
      refine nS ?_
      refine sq ?_
      refine rg ?_
      refine st (mv rfl) rfl ?_
      refine nl ?_
      refine nS ?_
      refine cd rfl (fun hb => ?_) (fun hb => ?_)
      · have h37 := hb
        clear hb
        refine sq ?_
        refine rg ?_
        refine st (asg rfl) rfl ?_
        refine st (asg rfl) rfl ?_
        refine nl ?_
        refine nS ?_
        refine rt ?_
        refine rS ?_
        refine rB ?_
        refine rS ?_
        refine rS ?_
        refine rB ?_
        refine rS ?_
        exact ret2 rfl rfl rfl ⟨_, (by show Value.tuple #[_, _] = Value.tuple #[_, _]; rw [closed12 hc1 (set_dup j1 j4 (lookK_some.1 h37) e10_0)]), (by rw [closed12 hc1 (set_dup j1 j4 (lookK_some.1 h37) e10_0)]; intro h; cases h), fun _ => ⟨rfl, rfl⟩⟩ o0
      · have h37 := hb
        clear hb
        refine sk ?_
        refine nS ?_
        refine rg ?_
        refine st (mv rfl) rfl ?_
        refine st (fa (o3 := 0) F62_0 rfl rfl) rfl ?_
        refine st (w1 (loa (vs := [_, _]) T29 rfl rfl rfl)) rfl ?_
        refine st (w1 (loa (vs := [_, _, _, _, _, _, _, _, _, _, _]) T62 rfl rfl rfl)) rfl ?_
        refine r2 ?_
        refine mu (u := y10_0.dot) U91 K29 j3 rfl rfl rfl rfl ?_; intro ob2 j3n
        refine nl ?_
        refine nB ?_
        refine nS ?_
        refine rg ?_
        refine st (ad rfl rfl (by omega)) rfl ?_
        refine st (mv rfl) rfl ?_
        refine nl ?_
        exact le3 (i + 1) _ _ ⟨⟨by omega, j3n, (by rw [take_snoc' j0 e10_0, setK_none (notin_of h37)]; exact j4.snoc ⟨_, _, rfl, qd10_0, qg10_0, qo10_0⟩), (by rw [take_snoc' j0 e10_0]; exact set_nodup j5 j4 (notin_of h37))⟩, by omega⟩ ⟨rfl, rfl, rfl, rfl, rfl, trivial⟩ hK1
    · have h27 := (of_decide_eq_false hb)
      clear hb
      refine xt ?_
      refine xS ?_
      refine xS ?_
      refine xB ?_
      refine nS ?_
      refine sq ?_
      refine sq ?_
      refine rg ?_
      refine st (mv rfl) rfl ?_
      refine st (lnS U22 hv rfl) rfl ?_
      refine st (mv rfl) rfl ?_
      refine nl ?_
      refine nS ?_
      refine bk ?_
      refine lpc1 (fun (i : Int) C => (45, .int .i64 i) :: C) [(4, _), (43, _), (44, _)] (fun (i : Int) H => H) [_] (fun (i : Int) => 0 ≤ i ∧ i ≤ v.length ∧ ∀ o ∈ v.take i.toNat, hasP (v.map (·.dot)) o.deps) (fun (i : Int) => ((v.length : Int) - i).toNat) 0 ?_ ⟨rfl, rfl, rfl, rfl, trivial⟩ hid ?_
      · exact ⟨by omega, by omega, by simp⟩
      intro i hj
      have hc2 : (v.map (·.dot)).Nodup := by rw [take_all h27] at j5; exact j5
      have hH : HOps M kvs v := by rw [take_all h27] at j4; exact j4
      have hm := j3
      obtain ⟨j0, j1, j2⟩ := hj
      refine sq ?_
      refine rg ?_
      refine st (lt rfl rfl) rfl ?_
      refine nl ?_
      refine nS ?_
      refine sq ?_
      refine cd rfl (fun hb => ?_) (fun hb => ?_)
      · have h46 := (of_decide_eq_true hb)
        clear hb
        refine sk ?_
        refine nS ?_
        refine sq ?_
        refine bk ?_
        refine sq ?_
        refine rg ?_
        refine iaS U22 T62 hv rfl rfl (by omega) (by omega) rfl ?_; intro b18_0 p18_0 y18_0 u18_0 e18_0 c18_0 n18_0 q18_0
        obtain ⟨D18_0, G18_0, rfl, qd18_0, qg18_0, qo18_0⟩ := q18_0
        clear n18_0
        refine st (lma (us := [_, _, _, _, _, _, _, _, _, _, _]) 0 T62 c18_0 Hm.m rfl rfl rfl rfl) rfl ?_
        refine al T62 rfl rfl ?_; intro b18_2
        refine sto (cs' := [_, _, _, _, _, _, _, _, _, _, _]) (vs := [_, _, _, _, _, _, _, _, _, _, _]) T62 rfl rfl rfl rfl (allc rfl (allc rfl (allc qd18_0.isSl (allc rfl (allc rfl (allc rfl (allc rfl (allc rfl (allc rfl (allc qg18_0.isSl (allc rfl rfl))))))))))) (Nat.le_of_ble_eq_true rfl) rfl ?_
        refine nl ?_
        refine nS ?_
        refine sq ?_
        refine rg ?_
        refine st (mv rfl) rfl ?_
        refine st (fa (o3 := 2) F62_1 rfl rfl) rfl ?_
        refine st (lo1 T24 rfl rfl) rfl ?_
        refine st (cl0 C63 (fnc _) rfl (fun _ hw => has_c hw hm (Hm.i1 _ _ imS) (hH.vs) (qd18_0.mono mDot Hm.m))) rfl ?_
        refine st (nt rfl) rfl ?_
        refine nl ?_
        refine nS ?_
        refine cd rfl (fun hb => ?_) (fun hb => ?_)
        · have h53 := (of_decide_eq_false (nTF hb))
          clear hb
          refine sq ?_
          refine rg ?_
          refine st (asg rfl) rfl ?_
          refine st (asg rfl) rfl ?_
          refine nl ?_
          refine nS ?_
          refine rt ?_
          refine rB ?_
          refine rS ?_
          refine rS ?_
          refine rB ?_
          refine rS ?_
          exact ret2 rfl rfl rfl ⟨_, (by show Value.tuple #[_, _] = Value.tuple #[_, _]; rw [closed20 hc1 hc2 (List.mem_of_getElem? e18_0) (by rw [hH.1] at h53; exact h53)]), (by rw [closed20 hc1 hc2 (List.mem_of_getElem? e18_0) (by rw [hH.1] at h53; exact h53)]; intro h; cases h), fun _ => ⟨rfl, rfl⟩⟩ o0
        · have h53 := (of_decide_eq_true (nFT hb))
          clear hb
          refine sk ?_
          refine nB ?_
          refine nS ?_
          refine rg ?_
          refine st (ad rfl rfl (by omega)) rfl ?_
          refine st (mv rfl) rfl ?_
          refine nl ?_
          refine gr1 ?_
          exact le1 (i + 1) ⟨⟨by omega, by omega, forall_take j0 e18_0 j2 (by rw [hH.1] at h53; exact h53)⟩, by omega⟩ ⟨rfl, rfl, rfl, rfl, trivial⟩ hK1
      · have h46 := (of_decide_eq_false hb)
        clear hb
        refine xt ?_
        refine xS ?_
        refine xS ?_
        refine xB ?_
        refine nS ?_
        refine sq ?_
        refine rg ?_
        refine st (mv rfl) rfl ?_
        refine st (asg rfl) rfl ?_
        refine st (asg rfl) rfl ?_
        refine nl ?_
        refine nS ?_
        refine rt ?_
        exact ret2 rfl rfl rfl ⟨_, (by show Value.tuple #[_, _] = Value.tuple #[_, _]; rw [closed0 hc1 hc2 (by rw [take_all h46] at j2; exact j2)]), (fun _ => ⟨_, _, _, rfl, rfl, hm, hH⟩), (by intro h; exact absurd (closed0 hc1 hc2 (by rw [take_all h46] at j2; exact j2)) h)⟩ o1

set_option maxRecDepth 20000 in
theorem Closed_c {M : Mem} {w : World} {V : Value} {v : List Op'} (hM : RO M [] w) (hv : Sl M 11 ROp V v) : FnC prog 12 [V] w [] (fun u _ => u = .int .i64 (closedE v)) := by
  refine enter (code := _) func12 rfl 11 rfl rfl hM [] rfl [(0, _)] ⟨rfl, trivial⟩ ?_
  have l_hv := hv.bound
  refine sq ?_
  refine rg ?_
  refine st (asg rfl) rfl ?_
  refine nl ?_
  refine nS ?_
  refine sq ?_
  refine rg ?_
  refine st (mv rfl) rfl ?_
  refine ni ?_
  refine cl C42 (fnc _) rfl (fun _ hw => set_c hw (hv.mono mOp Hm.m)) rfl ?_; intro v1_1 O1_1 q1_1
  obtain ⟨m1_1, rfl, qa1_1, qb1_1⟩ := q1_1
  refine st (mv rfl) rfl ?_
  refine st (xc rfl rfl) rfl ?_
  refine st (xc rfl rfl) rfl ?_
  refine st (asg rfl) rfl ?_
  refine st (asg rfl) rfl ?_
  refine nl ?_
  refine nS ?_
  refine sq ?_
  refine rg ?_
  refine st (mv rfl) rfl ?_
  refine st (asg rfl) rfl ?_
  refine nl ?_
  refine nS ?_
  refine rt ?_
  exact ret1 rfl rfl (by first | rfl | exact trivial) o0

set_option maxRecDepth 20000 in
set_option maxHeartbeats 1000000 in
theorem Upto_c {M : Mem} {w : World} {V U : Value} {v : List Op'} {u : List Dot} (hM : RO M [] w) (hv : Sl M 11 ROp V v) (hu : Sl M 2 RDot U u) (hB : ∀ o ∈ v, o.deps.length ≤ 1000000 ∧ o.gone.length ≤ 1000000) (hlen : v.length ≤ 100000) : FnC prog 15 [V, U] w [] (fun x o => Sl (Im o) 11 ROp x (uptoL u v)) := by
  refine enter (code := _) func15 rfl 35 rfl rfl hM [] rfl [(0, _), (1, _)] ⟨rfl, rfl, trivial⟩ ?_
  have l_hv := hv.bound
  have l_hu := hu.bound
  refine sq ?_
  refine rg ?_
  refine st (asg rfl) rfl ?_
  refine nl ?_
  refine nS ?_
  refine sq ?_
  refine sq ?_
  refine rg ?_
  refine st (mv rfl) rfl ?_
  refine st (cl0 C47 (fnc _) rfl (fun _ hw => Check_c hw (hu.mono mDot Hm.m))) rfl ?_
  refine st (ne rfl rfl) rfl ?_
  refine nl ?_
  refine nS ?_
  refine cd rfl (fun hb => ?_) (fun hb => ?_)
  · have h10 := (ne_of_bneT hb)
    clear hb
    refine sq ?_
    refine rg ?_
    refine st (asg rfl) rfl ?_
    refine nl ?_
    refine nS ?_
    refine rt ?_
    refine rS ?_
    exact ret1 rfl rfl (by show Sl _ _ _ _ (uptoL u v); rw [uptoL, if_neg h10]; exact Sl.nil) o0
  · have h10 := (eq_of_bneF hb)
    clear hb
    refine sk ?_
    refine nS ?_
    refine sq ?_
    refine rg ?_
    refine st (asg rfl) rfl ?_
    refine nl ?_
    refine nS ?_
    refine sq ?_
    refine sq ?_
    refine rg ?_
    refine st (mv rfl) rfl ?_
    refine st (lnS U22 hv rfl) rfl ?_
    refine st (mv rfl) rfl ?_
    refine nl ?_
    refine nS ?_
    refine bk ?_
    refine niC ?_
    refine niC ?_
    refine gR1 ?_
    refine lpc4 (fun (i : Int) (x : Value) (o : Own) (oc : Own) C => (13, .int .i64 i) :: (5, x) :: C) [(1, _), (11, _), (12, _)] (fun (i : Int) (x : Value) (o : Own) (oc : Own) H => o :: oc :: H) [] (fun (i : Int) (x : Value) (o : Own) (oc : Own) => (0 ≤ i ∧ i ≤ v.length) ∧ ∃ vss, OS o 62 11 x vss.flatten ∧ Rows ROp (Im oc) vss ((v.take i.toNat).filter (fun o : Op' => decide (1 ≤ o.dot.seq ∧ o.dot.seq ≤ getV u o.dot.site)))) (fun (i : Int) (x : Value) (o : Own) (oc : Own) => ((v.length : Int) - i).toNat) 0 _ _ _ ?_ ⟨rfl, rfl, rfl, rfl, rfl, trivial⟩ hid ?_
    · exact ⟨by omega, [], OS.nil _ _, Rows.nil⟩
    intro i x o oc hj
    obtain ⟨⟨j0, j1⟩, vss, j2, j3⟩ := hj
    refine sq ?_
    refine rg ?_
    refine st (lt rfl rfl) rfl ?_
    refine nl ?_
    refine nS ?_
    refine sq ?_
    refine cd rfl (fun hb => ?_) (fun hb => ?_)
    · have h14 := (of_decide_eq_true hb)
      clear hb
      refine sk ?_
      refine nS ?_
      refine sq ?_
      refine bk ?_
      refine sq ?_
      refine rg ?_
      refine iaS U22 T62 hv rfl rfl (by omega) (by omega) rfl ?_; intro b6_0 p6_0 y6_0 u6_0 e6_0 c6_0 n6_0 q6_0
      obtain ⟨D6_0, G6_0, rfl, qd6_0, qg6_0, qo6_0⟩ := q6_0
      clear n6_0
      refine st (lma (us := [_, _, _, _, _, _, _, _, _, _, _]) 0 T62 c6_0 Hm.m rfl rfl rfl rfl) rfl ?_
      refine al T62 rfl rfl ?_; intro b6_2
      refine sto (cs' := [_, _, _, _, _, _, _, _, _, _, _]) (vs := [_, _, _, _, _, _, _, _, _, _, _]) T62 rfl rfl rfl rfl (allc rfl (allc rfl (allc qd6_0.isSl (allc rfl (allc rfl (allc rfl (allc rfl (allc rfl (allc rfl (allc qg6_0.isSl (allc rfl rfl))))))))))) (Nat.le_of_ble_eq_true rfl) rfl ?_
      refine nl ?_
      refine nS ?_
      refine sq ?_
      refine rg ?_
      refine st (mv rfl) rfl ?_
      refine st (fa (o3 := 0) F62_0 rfl rfl) rfl ?_
      refine st (loa (vs := [_, _]) T29 rfl rfl rfl) rfl ?_
      refine st (cl0 C48 (fnc _) rfl (fun _ hw => Has_c hw (hu.mono mDot Hm.m))) rfl ?_
      refine nl ?_
      refine nS ?_
      refine cd rfl (fun hb => ?_) (fun hb => ?_)
      · have h20 := (of_decide_eq_true hb)
        clear hb
        refine sq ?_
        refine rg ?_
        refine st (fa (o3 := 2) F62_1 rfl rfl) rfl ?_
        refine st (lo1 T24 rfl rfl) rfl ?_
        refine ni ?_
        refine cl C49 (fnc _) rfl (fun _ hw => CloneD_c hw (qd6_0.mono mDot Hm.m) (hB _ (List.mem_of_getElem? e6_0)).1) rfl ?_; intro v8_2 O8_2 q8_2
        refine st (fa (o3 := 2) F62_1 rfl rfl) rfl ?_
        refine r1 ?_
        refine sto (cs' := [_, _, _, _, _, _, _, _, _, _, _]) (vs := [_]) T24 rfl rfl q8_2.cells rfl (allc q8_2.isSl rfl) (Nat.le_of_ble_eq_true rfl) rfl ?_
        refine nl ?_
        refine nS ?_
        refine sq ?_
        refine rg ?_
        refine st (fa (o3 := 9) F62_6 rfl rfl) rfl ?_
        refine st (lo1 T60 rfl rfl) rfl ?_
        refine ni ?_
        refine cl C50 (fnc _) rfl (fun _ hw => CloneR_c hw (qg6_0.mono mRun Hm.m) (hB _ (List.mem_of_getElem? e6_0)).2) rfl ?_; intro v9_2 O9_2 q9_2
        refine st (fa (o3 := 9) F62_6 rfl rfl) rfl ?_
        refine r1 ?_
        refine sto (cs' := [_, _, _, _, _, _, _, _, _, _, _]) (vs := [_]) T60 rfl rfl q9_2.cells rfl (allc q9_2.isSl rfl) (Nat.le_of_ble_eq_true rfl) rfl ?_
        refine nl ?_
        refine nS ?_
        refine rg ?_
        refine st (mv rfl) rfl ?_
        refine st (loa (vs := [_, _, _, _, _, _, _, _, _, _, _]) T62 rfl rfl rfl) rfl ?_
        refine bs (parts := [_]) (cs := [_, _, _, _, _, _, _, _, _, _, _]) [_, _, _, _, _, _, _, _, _, _, _] [(0, [_, _, _, _, _, _, _, _, _, _, _])] U22 T62 rfl rfl rfl rfl ⟨rfl, ⟨_, rfl, rfl⟩, trivial⟩ rfl rfl ?_; intro b10_2
        refine r4 ?_
        refine ap U22 U22 T62 rfl rfl rfl rfl rfl rfl j2 ((srcI rfl).mono Hm.i1) (allc rfl (allc rfl (allc q8_2.isSl (allc rfl (allc rfl (allc rfl (allc rfl (allc rfl (allc rfl (allc q9_2.isSl (allc rfl rfl))))))))))) (upto_bound j3 (rows_len j3) hlen rfl) rfl ?_; intro v10_3 o10_3 q10_3
        refine r3 ?_
        refine r4 ?_
        refine r5 ?_
        refine jn ?_
        refine jn ?_
        refine st (asg rfl) rfl ?_
        refine nl ?_
        refine nB ?_
        refine nS ?_
        refine rg ?_
        refine st (ad rfl rfl (by omega)) rfl ?_
        refine st (mv rfl) rfl ?_
        refine nl ?_
        refine gr1 ?_
        refine gr1 ?_
        refine gr1 ?_
        exact le4 (i + 1) _ _ _ ⟨⟨by omega, _, q10_3.cast (by rw [flatten_snoc]), (by rw [filter_snoc j0 e6_0, if_pos (by simpa using h20)]; exact (j3.mono mOp (fun k ob hk => Im.l _ _ (Im.l _ _ hk))).snoc (upto_row q8_2 q9_2 qd6_0 qg6_0 qo6_0))⟩, by omega⟩ ⟨rfl, rfl, rfl, rfl, rfl, trivial⟩ hK2
      · have h20 := (of_decide_eq_false hb)
        clear hb
        refine sk ?_
        refine nB ?_
        refine nS ?_
        refine rg ?_
        refine st (ad rfl rfl (by omega)) rfl ?_
        refine st (mv rfl) rfl ?_
        refine nl ?_
        refine gr2 ?_
        refine gr2 ?_
        refine gr1 ?_
        refine gr1 ?_
        exact le4 (i + 1) _ _ _ ⟨⟨by omega, vss, j2, (by rw [filter_snoc j0 e6_0, if_neg (by simpa using h20), List.append_nil]; exact j3)⟩, by omega⟩ ⟨rfl, rfl, rfl, rfl, rfl, trivial⟩ hK2
    · have h14 := (of_decide_eq_false hb)
      clear hb
      refine xt ?_
      refine xS ?_
      refine xS ?_
      refine xB ?_
      refine nS ?_
      refine sq ?_
      refine rg ?_
      refine st (mv rfl) rfl ?_
      refine st (asg rfl) rfl ?_
      refine nl ?_
      refine nS ?_
      refine rt ?_
      exact ret1 rfl rfl (by show Sl _ _ _ _ (uptoL u v); rw [uptoL, if_pos h10]; rw [take_all h14] at j3; exact j2.rows (by decide) (rows_len j3) (by have := List.length_filter_le (fun o : Op' => decide (1 ≤ o.dot.seq ∧ o.dot.seq ≤ getV u o.dot.site)) v; omega) mOp j3) o01
end Go.W
/- Walks. Written by a program of mine. -/
namespace Go.W
open Go Go.Proofs.Tryz
set_option maxRecDepth 20000 in
theorem tz_c {M : Mem} {w : World} {k m : Nat} (hM : RO M [] w) (hk : k < 32) (hw : 2 ^ k * (2 * m + 1) < 4294967296) (hg : CellsAt M ⟨0, 0, none⟩ (tzT.map fun n : Nat => Value.int .u8 (n : Int))) : FnC prog 176 [.int .u32 ((2 ^ k * (2 * m + 1) : Nat) : Int)] w [] (fun u _ => u = .int .i64 (k : Int)) := by
  have hpos : 0 < 2 ^ k * (2 * m + 1) := Nat.mul_pos (Nat.pow_pos (by omega)) (by omega)
  refine enter (code := _) func176 rfl 14 rfl rfl hM [] rfl [(0, _)] ⟨rfl, trivial⟩ ?_
  refine sq ?_
  refine rg ?_
  refine st (asg rfl) rfl ?_
  refine nl ?_
  refine nS ?_
  refine sq ?_
  refine sq ?_
  refine rg ?_
  refine st (mv rfl) rfl ?_
  refine st (eq rfl rfl) rfl ?_
  refine cv (u := .bool false) (by rw [show (((2 ^ k * (2 * m + 1) : Nat) : Int) == 0) = false by rw [beq_eq_false_iff_ne]; omega]) ?_
  refine nl ?_
  refine nS ?_
  refine cdF rfl ?_
  refine sk ?_
  refine nS ?_
  refine sq ?_
  refine rg ?_
  refine st (mv rfl) rfl ?_
  refine st (mv rfl) rfl ?_
  refine st (ng rfl) rfl ?_
  refine cv (u := .int .u32 ((4294967296 - 2 ^ k * (2 * m + 1) : Nat) : Int)) (v_neg hw hpos) ?_
  refine st (band rfl rfl) rfl ?_
  refine cv (u := .int .u32 ((2 ^ k : Nat) : Int)) (v_low hk hw hpos) ?_
  refine st (mlw rfl rfl) rfl ?_
  refine cv (u := .int .u32 ((2 ^ k * 125613361 % 4294967296 : Nat) : Int)) (v_mul _) ?_
  refine st (shr rfl rfl (by decide)) rfl ?_
  refine cv (u := .int .u32 ((2 ^ k * 125613361 % 4294967296 / 134217728 : Nat) : Int)) (v_shr _) ?_
  refine st (iaA U269 T5 rfl rfl (by omega) (by have := tz_ix k; omega)) rfl ?_
  refine st (ld (gg := false) (vs := [.int .u8 (k : Int)]) T5 rfl ((cells1 (o := 0) hg (by rw [Int.toNat_natCast, Nat.mul_one, List.getElem?_map, tz_table ⟨k, hk⟩]; rfl)).mono Hm.m) rfl (.inr rfl)) rfl ?_
  refine st (cvi U5 U3 rfl) rfl ?_
  refine cv (u := .int .i64 (k : Int)) (v_i64 (by omega)) ?_
  refine st (asg rfl) rfl ?_
  refine nl ?_
  refine nS ?_
  refine rt ?_
  exact ret1 rfl rfl (by first | rfl | exact trivial) o0

set_option maxRecDepth 20000 in
theorem site_c {M : Mem} {w : World} {n : Int} (hM : RO M [] w) : FnC prog 146 [.int .i64 n] w [] (fun u _ => u = .bool (decide (1 ≤ n ∧ n ≤ 16))) := by
  refine enter (code := _) func146 rfl 9 rfl rfl hM [] rfl [(0, _)] ⟨rfl, trivial⟩ ?_
  refine sq ?_
  refine rg ?_
  refine st (asg rfl) rfl ?_
  refine nl ?_
  refine nS ?_
  refine sqk (fun C => (2, .bool (decide (1 ≤ n ∧ n ≤ 16))) :: C) [] trivial ?_ ?_
  · skip
    refine rg ?_
    refine st (mv rfl) rfl ?_
    refine st (gq rfl rfl) rfl ?_
    refine st (mv rfl) rfl ?_
    refine spl (fun hb => ?_) (fun hb => ?_)
    · have h5 := (of_decide_eq_true hb)
      clear hb
      refine gT rfl rfl ?_
      refine st (mv rfl) rfl ?_
      refine gT rfl rfl ?_
      refine st (lq rfl rfl) rfl ?_
      refine st (pkT rfl rfl) rfl ?_
      refine st (asg rfl) rfl ?_
      refine nl ?_
      exact le0   ⟨(by first | (refine dT rfl ?_; omega) | (refine dF rfl ?_; omega) | (refine bE rfl (decide_eq_decide.2 ?_); omega)), trivial⟩ hid
    · have h5 := (of_decide_eq_false hb)
      clear hb
      refine gF rfl rfl rfl rfl ?_
      refine gF rfl rfl rfl rfl ?_
      refine st (pkF rfl rfl) rfl ?_
      refine st (asg rfl) rfl ?_
      refine nl ?_
      exact le0   ⟨(by first | (refine dT rfl ?_; omega) | (refine dF rfl ?_; omega) | (refine bE rfl (decide_eq_decide.2 ?_); omega)), trivial⟩ hid
  refine rt ?_
  exact ret1 rfl rfl (by first | rfl | exact trivial) o0

set_option maxRecDepth 20000 in
theorem RollNew_c {M : Mem} {w : World} (hM : RO M [] w) : FnC prog 58 [] w [] (fun u o => ∃ b, u = pt b 0 ∧ o = [(b, .cells (List.toArray [.int .u32 0, .int .u32 0, .int .i64 0]) 167 (0, 0))]) := by
  refine enter (code := _) func58 rfl 3 rfl rfl hM [] rfl [] trivial ?_
  refine sq ?_
  refine rg ?_
  refine st (asg rfl) rfl ?_
  refine nl ?_
  refine nS ?_
  refine sq ?_
  refine rg ?_
  refine st (bd (cs := [_, _, _]) [] T167 Pl167 trivial rfl) rfl ?_
  refine bx (z := [_, _, _]) rfl rfl rfl ?_; intro b1_1
  refine st (asg rfl) rfl ?_
  refine nl ?_
  refine nS ?_
  refine rt ?_
  exact ret1 rfl rfl ⟨_, rfl, rfl⟩ o1

set_option maxRecDepth 20000 in
theorem RollHas_c {M : Mem} {w : World} {b j f : Nat} {e n : Int} (hM : RO M [] w) (hj : j < 131072) (hf : f < 131072) (hc : CellsAt M ⟨b, 0, none⟩ [.int .u32 (j : Int), .int .u32 (f : Int), .int .i64 e]) : FnC prog 147 [pt b 0, .int .i64 n] w [] (fun u _ => u = .bool (hasBit j f n)) := by
  refine enter (code := _) func147 rfl 26 rfl rfl hM [] rfl [(0, _), (1, _)] ⟨rfl, rfl, trivial⟩ ?_
  refine sq ?_
  refine rg ?_
  refine st (asg rfl) rfl ?_
  refine nl ?_
  refine nS ?_
  refine sq ?_
  refine rgd rfl [0, 1, 2, 3, 4, 5, 6, 7, 8, 9, 10, 11, 12, 13, 14, 15, 16, 17, 18, 19, 20, 21] [] [] [] (by kernel_rfl) ?_
  refine dst rfl rfl (mv rfl) rfl ?_
  refine dst rfl rfl (nev rfl rfl rfl gd_ptr (fun w => eq_ptr U111 _ w)) rfl ?_
  refine dst rfl rfl (mv rfl) rfl ?_
  refine dgT rfl rfl rfl rfl (mv rfl) rfl ?_
  refine dgT rfl rfl rfl rfl (cl0 C146 (fnc _) rfl (fun _ hw => site_c hw )) rfl ?_
  refine dst rfl rfl (pkT rfl rfl) rfl ?_
  refine dst rfl rfl (mv rfl) rfl ?_
  refine dspl (fun hb => ?_) (fun hb => ?_)
  · have h11 := (of_decide_eq_true hb)
    clear hb
    refine dgT rfl rfl rfl rfl (mv rfl) rfl ?_
    refine dgT rfl rfl rfl rfl (nk rfl) rfl ?_
    refine dgT rfl rfl rfl rfl (fa (o3 := 0) F167_0 rfl rfl) rfl ?_
    refine dgT rfl rfl rfl rfl (lm1 0 T165 hc Hm.m rfl rfl rfl) rfl ?_
    refine dgT rfl rfl rfl rfl (mv rfl) rfl ?_
    refine dgT rfl rfl rfl rfl (nk rfl) rfl ?_
    refine dgT rfl rfl rfl rfl (fa (o3 := 0 + 1) F167_1 rfl rfl) rfl ?_
    refine dgT rfl rfl rfl rfl (lm1 1 T165 hc Hm.m rfl rfl rfl) rfl ?_
    refine dgT rfl rfl rfl rfl (banot rfl rfl) rfl ?_
    refine dcv (u := .int .u32 ((andNot j f : Nat) : Int)) (by rw [bit_andNot32 (by omega) (by omega)]) ?_
    refine dgT rfl rfl rfl rfl (mv rfl) rfl ?_
    refine dgT rfl rfl rfl rfl (shr rfl rfl (by omega)) rfl ?_
    refine dgT rfl rfl rfl rfl (band rfl rfl) rfl ?_
    refine dgT rfl rfl rfl rfl (eq rfl rfl) rfl ?_
    refine dcv (u := .bool ((andNot j f).testBit n.toNat)) (by rw [has_bit (andNot_lt (by omega)) (by omega)]) ?_
    refine dst rfl rfl (pkT rfl rfl) rfl ?_
    refine dst rfl rfl (asg rfl) rfl ?_
    refine dend rfl ?_
    refine nl ?_
    refine nS ?_
    refine rt ?_
    exact ret1 rfl rfl (by show Value.bool _ = _; unfold hasBit; first | rw [decide_eq_false (by omega)]; rfl | rw [decide_eq_true (by omega)]; rfl) o0
  · have h11 := (of_decide_eq_false hb)
    clear hb
    refine dgF rfl rfl rfl rfl rfl ?_
    refine dgF rfl rfl rfl rfl rfl ?_
    refine dgF rfl rfl rfl rfl rfl ?_
    refine dgF rfl rfl rfl rfl rfl ?_
    refine dgF rfl rfl rfl rfl rfl ?_
    refine dgF rfl rfl rfl rfl rfl ?_
    refine dgF rfl rfl rfl rfl rfl ?_
    refine dgF rfl rfl rfl rfl rfl ?_
    refine dgF rfl rfl rfl rfl rfl ?_
    refine dgF rfl rfl rfl rfl rfl ?_
    refine dgF rfl rfl rfl rfl rfl ?_
    refine dgF rfl rfl rfl rfl rfl ?_
    refine dgF rfl rfl rfl rfl rfl ?_
    refine dst rfl rfl (pkF rfl rfl) rfl ?_
    refine dst rfl rfl (asg rfl) rfl ?_
    refine dend rfl ?_
    refine nl ?_
    refine nS ?_
    refine rt ?_
    exact ret1 rfl rfl (by show Value.bool _ = _; unfold hasBit; first | rw [decide_eq_false (by omega)]; rfl | rw [decide_eq_true (by omega)]; rfl) o0

set_option maxRecDepth 20000 in
theorem turnJ_c {M : Mem} {w : World} {b j f : Nat} {e n : Int} (hM : RO M [(b, .cells (List.toArray [.int .u32 (j : Int), .int .u32 (f : Int), .int .i64 e]) 167 (0, 0))] w) (hj : j < 131072) (hf : f < 131072) : FnC prog 107 [pt b 0, pt b 0, .int .i64 n] w [(b, .cells (List.toArray [.int .u32 (j : Int), .int .u32 (f : Int), .int .i64 e]) 167 (0, 0))] (fun u o => ∃ e' : Int, o = [(b, .cells (List.toArray [.int .u32 ((addBit j n : Nat) : Int), .int .u32 ((f : Nat) : Int), .int .i64 e']) 167 (0, 0))]) := by
  refine enter (code := _) func107 rfl 33 rfl rfl hM [[(b, .cells (List.toArray [.int .u32 (j : Int), .int .u32 (f : Int), .int .i64 e]) 167 (0, 0))]] (by simp) [(0, _), (1, _), (2, _)] ⟨rfl, rfl, rfl, trivial⟩ ?_
  refine sq ?_
  refine rg ?_
  refine st (asg rfl) rfl ?_
  refine nl ?_
  refine nS ?_
  refine sq ?_
  refine sq ?_
  refine rg ?_
  refine st (mv rfl) rfl ?_
  refine st (cl0 C146 (fnc _) rfl (fun _ hw => site_c hw )) rfl ?_
  refine st (nt rfl) rfl ?_
  refine nl ?_
  refine nS ?_
  refine cd rfl (fun hb => ?_) (fun hb => ?_)
  · have h10 := (of_decide_eq_false (nTF hb))
    clear hb
    refine sq ?_
    refine rg ?_
    refine st (asg rfl) rfl ?_
    refine nl ?_
    refine nS ?_
    refine rt ?_
    refine rS ?_
    exact ret1 rfl rfl ⟨_, (by rw [show addBit j n = j by rw [addBit, if_neg (by omega)]])⟩ o1
  · have h10 := (of_decide_eq_true (nFT hb))
    clear hb
    refine sk ?_
    refine nS ?_
    refine sq ?_
    refine rg ?_
    refine st (mv rfl) rfl ?_
    refine st (mv rfl) rfl ?_
    refine st (cl0 C147 (fnc _) rfl (fun _ hw => RollHas_c (e := e) hw hj hf (cellsI.mono Hm.i0))) rfl ?_
    refine st (asg rfl) rfl ?_
    refine nl ?_
    refine nS ?_
    refine sq ?_
    refine rgd rfl [0, 1, 2, 3, 4, 5, 6] [] [7] [] (by kernel_rfl) ?_
    refine dst rfl rfl (mv rfl) rfl ?_
    refine dst rfl rfl (nk rfl) rfl ?_
    refine dst rfl rfl (lo1 T165 rfl rfl) rfl ?_
    refine dst rfl rfl (mv rfl) rfl ?_
    refine dst rfl rfl (shl rfl rfl (by omega)) rfl ?_
    refine dst rfl rfl (bor rfl rfl) rfl ?_
    refine dcv (u := .int .u32 ((addBit j n : Nat) : Int)) (v_bit (by omega) (by omega)) ?_
    refine dst rfl rfl (nk rfl) rfl ?_
    refine dend rfl ?_
    refine sto (cs' := [_, _, _]) (vs := [_]) T165 rfl rfl rfl rfl rfl (Nat.le_of_ble_eq_true rfl) rfl ?_
    refine nl ?_
    refine nS ?_
    refine sq ?_
    refine sq ?_
    refine rg ?_
    refine st (mv rfl) rfl ?_
    refine st (mv rfl) rfl ?_
    refine st (cl0 C147 (fnc _) rfl (fun _ hw => RollHas_c (e := e) hw (addBit_lt hj) hf (cellsI.mono Hm.i0))) rfl ?_
    refine st (mv rfl) rfl ?_
    refine st (eqv rfl rfl rfl gd_bool (fun w => eq_bool U4 _ _ w)) rfl ?_
    refine nl ?_
    refine nS ?_
    refine cd rfl (fun hb => ?_) (fun hb => ?_)
    · have h25 := hb
      clear hb
      refine sq ?_
      refine rg ?_
      refine st (asg rfl) rfl ?_
      refine nl ?_
      refine nS ?_
      refine rt ?_
      refine rS ?_
      exact ret1 rfl rfl ⟨_, rfl⟩ o1
    · have h25 := hb
      clear hb
      refine sk ?_
      refine nS ?_
      refine sq ?_
      refine rg ?_
      refine st (mv rfl) rfl ?_
      refine st (nk rfl) rfl ?_
      refine st (fa (o3 := 2) F167_2 rfl rfl) rfl ?_
      refine st (lo1 T3 rfl rfl) rfl ?_
      refine st (adw rfl rfl) rfl ?_
      refine st (nk rfl) rfl ?_
      refine st (fa (o3 := 2) F167_2 rfl rfl) rfl ?_
      refine sto (cs' := [_, _, _]) (vs := [_]) T3 rfl rfl rfl rfl rfl (Nat.le_of_ble_eq_true rfl) rfl ?_
      refine nl ?_
      refine nS ?_
      refine sq ?_
      refine rg ?_
      refine st (asg rfl) rfl ?_
      refine nl ?_
      refine nS ?_
      refine rt ?_
      exact ret1 rfl rfl ⟨_, rfl⟩ o1

set_option maxRecDepth 20000 in
theorem RollJ_c {M : Mem} {w : World} {b j f : Nat} {e n : Int} (hM : RO M [(b, .cells (List.toArray [.int .u32 (j : Int), .int .u32 (f : Int), .int .i64 e]) 167 (0, 0))] w) (hj : j < 131072) (hf : f < 131072) : FnC prog 60 [pt b 0, .int .i64 n] w [(b, .cells (List.toArray [.int .u32 (j : Int), .int .u32 (f : Int), .int .i64 e]) 167 (0, 0))] (fun u o => ∃ e' : Int, o = [(b, .cells (List.toArray [.int .u32 ((addBit j n : Nat) : Int), .int .u32 ((f : Nat) : Int), .int .i64 e']) 167 (0, 0))]) := by
  refine enter (code := _) func60 rfl 15 rfl rfl hM [[(b, .cells (List.toArray [.int .u32 (j : Int), .int .u32 (f : Int), .int .i64 e]) 167 (0, 0))]] (by simp) [(0, _), (1, _)] ⟨rfl, rfl, trivial⟩ ?_
  refine sq ?_
  refine rg ?_
  refine st (asg rfl) rfl ?_
  refine nl ?_
  refine nS ?_
  refine sq ?_
  refine rg ?_
  refine st (mv rfl) rfl ?_
  refine st (nev rfl rfl rfl gd_ptr (fun w => eq_ptr U111 _ w)) rfl ?_
  refine st (mv rfl) rfl ?_
  refine gT rfl rfl ?_
  refine st (mv rfl) rfl ?_
  refine gT rfl rfl ?_
  refine st (mv rfl) rfl ?_
  refine gT rfl rfl ?_
  refine st (nk rfl) rfl ?_
  refine gT rfl rfl ?_
  refine st (fa (o3 := 0) F167_0 rfl rfl) rfl ?_
  refine gT rfl rfl ?_
  refine st (mv rfl) rfl ?_
  refine gT rfl rfl ?_
  refine cl C107 (fnc _) rfl (fun _ hw => turnJ_c hw hj hf) rfl ?_; intro v1_8 O1_8 q1_8
  obtain ⟨e1, rfl⟩ := q1_8
  refine st (pkT rfl rfl) rfl ?_
  refine st (asg rfl) rfl ?_
  refine nl ?_
  refine nS ?_
  refine rt ?_
  exact ret1 rfl rfl ⟨_, rfl⟩ o1

set_option maxRecDepth 20000 in
theorem turnL_c {M : Mem} {w : World} {b j f : Nat} {e n : Int} (hM : RO M [(b, .cells (List.toArray [.int .u32 (j : Int), .int .u32 (f : Int), .int .i64 e]) 167 (0, 0))] w) (hj : j < 131072) (hf : f < 131072) : FnC prog 107 [pt b 0, pt b 1, .int .i64 n] w [(b, .cells (List.toArray [.int .u32 (j : Int), .int .u32 (f : Int), .int .i64 e]) 167 (0, 0))] (fun u o => ∃ e' : Int, o = [(b, .cells (List.toArray [.int .u32 ((j : Nat) : Int), .int .u32 ((addBit f n : Nat) : Int), .int .i64 e']) 167 (0, 0))]) := by
  refine enter (code := _) func107 rfl 33 rfl rfl hM [[(b, .cells (List.toArray [.int .u32 (j : Int), .int .u32 (f : Int), .int .i64 e]) 167 (0, 0))]] (by simp) [(0, _), (1, _), (2, _)] ⟨rfl, rfl, rfl, trivial⟩ ?_
  refine sq ?_
  refine rg ?_
  refine st (asg rfl) rfl ?_
  refine nl ?_
  refine nS ?_
  refine sq ?_
  refine sq ?_
  refine rg ?_
  refine st (mv rfl) rfl ?_
  refine st (cl0 C146 (fnc _) rfl (fun _ hw => site_c hw )) rfl ?_
  refine st (nt rfl) rfl ?_
  refine nl ?_
  refine nS ?_
  refine cd rfl (fun hb => ?_) (fun hb => ?_)
  · have h10 := (of_decide_eq_false (nTF hb))
    clear hb
    refine sq ?_
    refine rg ?_
    refine st (asg rfl) rfl ?_
    refine nl ?_
    refine nS ?_
    refine rt ?_
    refine rS ?_
    exact ret1 rfl rfl ⟨_, (by rw [show addBit f n = f by rw [addBit, if_neg (by omega)]])⟩ o1
  · have h10 := (of_decide_eq_true (nFT hb))
    clear hb
    refine sk ?_
    refine nS ?_
    refine sq ?_
    refine rg ?_
    refine st (mv rfl) rfl ?_
    refine st (mv rfl) rfl ?_
    refine st (cl0 C147 (fnc _) rfl (fun _ hw => RollHas_c (e := e) hw hj hf (cellsI.mono Hm.i0))) rfl ?_
    refine st (asg rfl) rfl ?_
    refine nl ?_
    refine nS ?_
    refine sq ?_
    refine rgd rfl [0, 1, 2, 3, 4, 5, 6] [] [7] [] (by kernel_rfl) ?_
    refine dst rfl rfl (mv rfl) rfl ?_
    refine dst rfl rfl (nk rfl) rfl ?_
    refine dst rfl rfl (lo1 T165 rfl rfl) rfl ?_
    refine dst rfl rfl (mv rfl) rfl ?_
    refine dst rfl rfl (shl rfl rfl (by omega)) rfl ?_
    refine dst rfl rfl (bor rfl rfl) rfl ?_
    refine dcv (u := .int .u32 ((addBit f n : Nat) : Int)) (v_bit (by omega) (by omega)) ?_
    refine dst rfl rfl (nk rfl) rfl ?_
    refine dend rfl ?_
    refine sto (cs' := [_, _, _]) (vs := [_]) T165 rfl rfl rfl rfl rfl (Nat.le_of_ble_eq_true rfl) rfl ?_
    refine nl ?_
    refine nS ?_
    refine sq ?_
    refine sq ?_
    refine rg ?_
    refine st (mv rfl) rfl ?_
    refine st (mv rfl) rfl ?_
    refine st (cl0 C147 (fnc _) rfl (fun _ hw => RollHas_c (e := e) hw hj (addBit_lt hf) (cellsI.mono Hm.i0))) rfl ?_
    refine st (mv rfl) rfl ?_
    refine st (eqv rfl rfl rfl gd_bool (fun w => eq_bool U4 _ _ w)) rfl ?_
    refine nl ?_
    refine nS ?_
    refine cd rfl (fun hb => ?_) (fun hb => ?_)
    · have h25 := hb
      clear hb
      refine sq ?_
      refine rg ?_
      refine st (asg rfl) rfl ?_
      refine nl ?_
      refine nS ?_
      refine rt ?_
      refine rS ?_
      exact ret1 rfl rfl ⟨_, rfl⟩ o1
    · have h25 := hb
      clear hb
      refine sk ?_
      refine nS ?_
      refine sq ?_
      refine rg ?_
      refine st (mv rfl) rfl ?_
      refine st (nk rfl) rfl ?_
      refine st (fa (o3 := 2) F167_2 rfl rfl) rfl ?_
      refine st (lo1 T3 rfl rfl) rfl ?_
      refine st (adw rfl rfl) rfl ?_
      refine st (nk rfl) rfl ?_
      refine st (fa (o3 := 2) F167_2 rfl rfl) rfl ?_
      refine sto (cs' := [_, _, _]) (vs := [_]) T3 rfl rfl rfl rfl rfl (Nat.le_of_ble_eq_true rfl) rfl ?_
      refine nl ?_
      refine nS ?_
      refine sq ?_
      refine rg ?_
      refine st (asg rfl) rfl ?_
      refine nl ?_
      refine nS ?_
      refine rt ?_
      exact ret1 rfl rfl ⟨_, rfl⟩ o1

set_option maxRecDepth 20000 in
theorem RollL_c {M : Mem} {w : World} {b j f : Nat} {e n : Int} (hM : RO M [(b, .cells (List.toArray [.int .u32 (j : Int), .int .u32 (f : Int), .int .i64 e]) 167 (0, 0))] w) (hj : j < 131072) (hf : f < 131072) : FnC prog 61 [pt b 0, .int .i64 n] w [(b, .cells (List.toArray [.int .u32 (j : Int), .int .u32 (f : Int), .int .i64 e]) 167 (0, 0))] (fun u o => ∃ e' : Int, o = [(b, .cells (List.toArray [.int .u32 ((j : Nat) : Int), .int .u32 ((addBit f n : Nat) : Int), .int .i64 e']) 167 (0, 0))]) := by
  refine enter (code := _) func61 rfl 15 rfl rfl hM [[(b, .cells (List.toArray [.int .u32 (j : Int), .int .u32 (f : Int), .int .i64 e]) 167 (0, 0))]] (by simp) [(0, _), (1, _)] ⟨rfl, rfl, trivial⟩ ?_
  refine sq ?_
  refine rg ?_
  refine st (asg rfl) rfl ?_
  refine nl ?_
  refine nS ?_
  refine sq ?_
  refine rg ?_
  refine st (mv rfl) rfl ?_
  refine st (nev rfl rfl rfl gd_ptr (fun w => eq_ptr U111 _ w)) rfl ?_
  refine st (mv rfl) rfl ?_
  refine gT rfl rfl ?_
  refine st (mv rfl) rfl ?_
  refine gT rfl rfl ?_
  refine st (mv rfl) rfl ?_
  refine gT rfl rfl ?_
  refine st (nk rfl) rfl ?_
  refine gT rfl rfl ?_
  refine st (fa (o3 := 1) F167_1 rfl rfl) rfl ?_
  refine gT rfl rfl ?_
  refine st (mv rfl) rfl ?_
  refine gT rfl rfl ?_
  refine cl C107 (fnc _) rfl (fun _ hw => turnL_c hw hj hf) rfl ?_; intro v1_8 O1_8 q1_8
  obtain ⟨e1, rfl⟩ := q1_8
  refine st (pkT rfl rfl) rfl ?_
  refine st (asg rfl) rfl ?_
  refine nl ?_
  refine nS ?_
  refine rt ?_
  exact ret1 rfl rfl ⟨_, rfl⟩ o1

set_option maxRecDepth 20000 in
theorem setIt_c {M : Mem} {w : World} {b W lp : Nat} {oc : Own} {S : List Int → Own → Prop} {xs : List Int} (hM : RO M ([(b, .cells (List.toArray [.int .u32 (W : Int)]) 165 (0, 0))] ++ oc) w) (hW : W < 4294967296) (hg : CellsAt M ⟨0, 0, none⟩ (tzT.map fun n : Nat => Value.int .u8 (n : Int))) (hxs : xs = bitsOf W) (hS : S [] oc) (hY : ∀ p x q, xs = p ++ x :: q → ∀ oc w, RO M oc w → S p oc → Yld prog lp [.int .i64 x] w oc (S (p ++ [x]))) : FnC prog 175 [.func (.yield lp) #[] #[], pt b 0] w ([(b, .cells (List.toArray [.int .u32 (W : Int)]) 165 (0, 0))] ++ oc) (fun _ o => S xs o) := by
  refine enter (code := _) func175 rfl 14 rfl rfl hM [[(b, .cells (List.toArray [.int .u32 (W : Int)]) 165 (0, 0))], oc] (by simp) [(0, _), (1, _)] ⟨rfl, rfl, trivial⟩ ?_
  refine bk ?_
  refine gR1 ?_
  refine gR1 ?_
  refine lpc3 (fun (W : Nat) (oc : Own) (p : List Int) C => C) [(0, _), (1, _)] (fun (W : Nat) (oc : Own) (p : List Int) H => [(b, .cells (List.toArray [.int .u32 (W : Int)]) 165 (0, 0))] :: oc :: H) [] (fun (W : Nat) (oc : Own) (p : List Int) => W < 4294967296 ∧ xs = p ++ bitsOf W ∧ S p oc) (fun (W : Nat) (oc : Own) (p : List Int) => W) _ _ [] ?_ ⟨rfl, rfl, trivial⟩ hid ?_
  · exact ⟨hW, hxs, hS⟩
  intro W oc p hj
  obtain ⟨j0, j1, j2⟩ := hj
  refine sq ?_
  refine sq ?_
  refine rg ?_
  refine st (lo1 T165 rfl rfl) rfl ?_
  refine st (ne rfl rfl) rfl ?_
  refine nl ?_
  refine nS ?_
  refine cd rfl (fun hb => ?_) (fun hb => ?_)
  · have h4 := (ne_of_bneT hb)
    clear hb
    refine sk ?_
    refine nS ?_
    refine sq ?_
    refine bk ?_
    refine sq ?_
    refine rg ?_
    obtain ⟨k, m, rfl⟩ := exists_low W W (Nat.le_refl _) (by omega)
    have hk : k < 32 := low_lt (n := 32) j0
    have hpos : 0 < 2 ^ k * (2 * m) + 2 ^ k := Nat.add_pos_right _ (Nat.pow_pos (by omega))
    have hexp : 2 ^ k * (2 * m + 1) = 2 ^ k * (2 * m) + 2 ^ k := Nat.mul_succ ..
    have hp2 : 0 < 2 ^ k := Nat.pow_pos (by omega)
    refine st (mv rfl) rfl ?_
    refine st (lo1 T165 rfl rfl) rfl ?_
    refine st (cl0 C176 (fnc _) rfl (fun _ hw => tz_c hw hk j0 (hg.mono Hm.m))) rfl ?_
    refine r1 ?_
    refine ylv rfl rfl (fun w hw => hY _ _ _ (by rw [j1, bitsOf_low hk]) _ _ (hw.le Hm.m) j2) rfl ?_; intro oc2 j3
    refine st (nt rfl) rfl ?_
    refine nl ?_
    refine nS ?_
    refine cdF rfl ?_
    refine sk ?_
    refine nB ?_
    refine nS ?_
    refine rg ?_
    refine st (w1 (lo1 T165 rfl rfl)) rfl ?_
    refine st (w1 (lo1 T165 rfl rfl)) rfl ?_
    refine st (sbw rfl rfl) rfl ?_
    refine cv (u := .int .u32 ((2 ^ k * (2 * m + 1) - 1 : Nat) : Int)) (v_dec (by omega) j0) ?_
    refine st (band rfl rfl) rfl ?_
    refine cv (u := .int .u32 ((2 ^ k * (2 * m) : Nat) : Int)) (v_clear j0) ?_
    refine r1 ?_
    refine sto (cs' := [_]) (vs := [_]) T165 rfl rfl rfl rfl rfl (Nat.le_of_ble_eq_true rfl) rfl ?_
    refine nl ?_
    refine gr1 ?_
    refine gr1 ?_
    refine gr1 ?_
    refine gr1 ?_
    exact le3 _ _ _ ⟨⟨by omega, (by rw [j1, bitsOf_low hk, List.append_cons]), j3⟩, by omega⟩ ⟨rfl, rfl, trivial⟩ hid
  · have h4 := (eq_of_bneF hb)
    clear hb
    refine xt ?_
    refine xS ?_
    refine xS ?_
    refine xB ?_
    exact ret0 (.inr rfl) rfl (set_end j1 j2 (by omega)) o2

set_option maxRecDepth 20000 in
theorem set_it_c {M : Mem} {w : World} {W : Int} (hM : RO M [] w) : FnC prog 148 [.int .u32 W] w [] (fun u o => ∃ b, u = .func (.func 175) #[] #[pt b 0] ∧ o = [(b, .cells (List.toArray [.int .u32 W]) 165 (0, 0))]) := by
  refine enter (code := _) func148 rfl 4 rfl rfl hM [] rfl [(0, _)] ⟨rfl, trivial⟩ ?_
  refine sq ?_
  refine rg ?_
  refine bx (z := [_]) rfl rfl rfl ?_; intro b0_0
  refine st (asg rfl) rfl ?_
  refine nl ?_
  refine nS ?_
  refine sq ?_
  refine rg ?_
  refine st (mkf (vs := []) (us := [_]) rfl rfl) rfl ?_
  refine st (asg rfl) rfl ?_
  refine nl ?_
  refine nS ?_
  refine rt ?_
  exact ret1 rfl rfl ⟨_, rfl, rfl⟩ o1

set_option maxRecDepth 20000 in
theorem rollList_c {M : Mem} {w : World} {W : Nat} (hM : RO M [] w) (hW : W < 4294967296) (hg : CellsAt M ⟨0, 0, none⟩ (tzT.map fun n : Nat => Value.int .u8 (n : Int))) : FnC prog 108 [.int .u32 (W : Int)] w [] (fun u o => OS o 3 1 u ((bitsOf W).flatMap (fun n : Int => [Value.int .i64 n]))) := by
  refine enterM (code := _) func108 rfl 13 rfl rfl hM [] rfl [(0, _)] ⟨rfl, trivial⟩ ?_
  refine sq ?_
  refine rg ?_
  refine st (asg rfl) rfl ?_
  refine nl ?_
  refine nS ?_
  refine sq ?_
  refine rg ?_
  refine al T45 rfl rfl ?_; intro b1_0
  refine nl ?_
  refine nS ?_
  refine sq ?_
  refine sq ?_
  refine rg ?_
  refine st (mv rfl) rfl ?_
  refine ni ?_
  refine cl C148 (fnc _) rfl (fun _ hw => set_it_c hw ) rfl ?_; intro v2_1 O2_1 q2_1
  obtain ⟨b2_1, rfl, rfl⟩ := q2_1
  refine nl ?_
  refine nS ?_
  refine bk ?_
  refine niC ?_
  refine gR2 ?_
  refine gR2 ?_
  refine rf (σ := (Value × Own)) (ps := [7]) (fun n : Int => [Value.int .i64 n]) (bitsOf W) _ (fun s => [[(b1_0, .cells (List.toArray [s.1]) 45 (0, 0))], s.2]) [] (fun p s => OS s.2 3 1 s.1 (p.flatMap (fun n : Int => [Value.int .i64 n]))) (.slice none 0 0, []) rfl rfl C175 ?_ rfl (fun _ => rfl) hid ?_ ?_ ?_
  · exact OS.nil _ _
  · intro lp wi S oc hro hS hSp hY
    exact setIt_c hro hW ((hg).mono Hm.m) rfl hS hY
  · intro p x q s hx hj lp wr or_ rec_ hst hpn
    show G _ _ _ _ ((7, _) :: _) [_, _, _]
    refine rg ?_
    refine st (asg rfl) rfl ?_
    refine nl ?_
    refine nR (h := [_, _]) rfl hst ?_
    show G _ _ _ _ _ [_, _, _]
    refine bk ?_
    refine rg ?_
    refine st (lo1 T45 rfl rfl) rfl ?_
    refine st (mv rfl) rfl ?_
    refine bs (parts := [_]) (cs := [_]) [_] [(0, [_])] U45 T3 rfl rfl rfl rfl ⟨rfl, ⟨_, rfl, rfl⟩, trivial⟩ rfl rfl ?_; intro b4_2
    refine r2 ?_
    refine ap U45 U45 T3 rfl rfl rfl rfl rfl rfl hj ((srcI rfl).mono Hm.i1) rfl (by have := bitsOf_bound hx; rw [flatMap_length (sz := 1) (fun _ => rfl)]; simp only [List.length_cons, List.length_nil]; omega) rfl ?_; intro v4_3 o4_3 q4_3
    refine r2 ?_
    refine sto (cs' := [_]) (vs := [_]) T45 rfl rfl q4_3.cells rfl (allc q4_3.isSl rfl) (Nat.le_of_ble_eq_true rfl) rfl ?_
    refine nl ?_
    refine nB ?_
    refine gr2 ?_
    refine dropE ?_
    refine gr1 ?_
    refine gr1 ?_
    exact eR (h := [_, _]) hst hpn (_, _) (q4_3.cast (by rw [flatMap_snoc])) hid
  intro s rd hj
  show GE _ _ _ _ _ [_, _, _]
  refine nB ?_
  refine nS ?_
  refine sq ?_
  refine rg ?_
  refine st (lo1 T45 rfl rfl) rfl ?_
  refine st (asg rfl) rfl ?_
  refine nl ?_
  refine nS ?_
  refine rt ?_
  refine postM1 (h := [_, _]) (.inl rfl) ?_
  exact ret1 rfl rfl hj o2

set_option maxRecDepth 20000 in
theorem RollMembers_c {M : Mem} {w : World} {b j f : Nat} {e : Int} (hM : RO M [] w) (hj : j < 131072) (hf : f < 131072) (hc : CellsAt M ⟨b, 0, none⟩ [.int .u32 (j : Int), .int .u32 (f : Int), .int .i64 e]) (hg : CellsAt M ⟨0, 0, none⟩ (tzT.map fun n : Nat => Value.int .u8 (n : Int))) : FnC prog 62 [pt b 0] w [] (fun u o => OS o 3 1 u ((bitsOf (andNot j f)).flatMap (fun n : Int => [Value.int .i64 n]))) := by
  refine enter (code := _) func62 rfl 15 rfl rfl hM [] rfl [(0, _)] ⟨rfl, trivial⟩ ?_
  refine sq ?_
  refine rg ?_
  refine st (asg rfl) rfl ?_
  refine nl ?_
  refine nS ?_
  refine sq ?_
  refine sq ?_
  refine rg ?_
  refine st (mv rfl) rfl ?_
  refine st (eqv rfl rfl rfl gd_ptr (fun w => eq_ptr U111 _ w)) rfl ?_
  refine nl ?_
  refine nS ?_
  refine cdF rfl ?_
  refine sk ?_
  refine nS ?_
  refine sq ?_
  refine rgd rfl [0, 1, 2, 3, 4, 5, 6, 7, 8] [] [9, 10] [] (by kernel_rfl) ?_
  refine dst rfl rfl (mv rfl) rfl ?_
  refine dst rfl rfl (nk rfl) rfl ?_
  refine dst rfl rfl (fa (o3 := 0) F167_0 rfl rfl) rfl ?_
  refine dst rfl rfl (lm1 0 T165 hc Hm.m rfl rfl rfl) rfl ?_
  refine dst rfl rfl (mv rfl) rfl ?_
  refine dst rfl rfl (nk rfl) rfl ?_
  refine dst rfl rfl (fa (o3 := 0 + 1) F167_1 rfl rfl) rfl ?_
  refine dst rfl rfl (lm1 1 T165 hc Hm.m rfl rfl rfl) rfl ?_
  refine dst rfl rfl (banot rfl rfl) rfl ?_
  refine dcv (u := .int .u32 ((andNot j f : Nat) : Int)) (by rw [bit_andNot32 (by omega) (by omega)]) ?_
  refine dend rfl ?_
  refine ni ?_
  refine cl C108 (fnc _) rfl (fun _ hw => rollList_c hw (andNot_lt (by omega)) (hg.mono Hm.m)) rfl ?_; intro v3_9 O3_9 q3_9
  refine st (asg rfl) rfl ?_
  refine nl ?_
  refine nS ?_
  refine rt ?_
  exact ret1 rfl rfl q3_9 o1
end Go.W
/- Walks. Written by a program of mine. -/
namespace Go.W
open Go Go.Proofs.Tryz
set_option maxRecDepth 20000 in
theorem wait0_c {M : Mem} {w : World} {b1 b3 b5 : Nat} {kvs : List (Dot × Value)} {l : List Op'} {lf : Int → Int} {gone : List Dot} {s : Int} (hM : RO M [] w) (hR : RowMem M b1 b3 b5 kvs l lf gone) (hq : lookK kvs (⟨s, lf s⟩ : Dot) = none) (hg : getL l ⟨s, lf s⟩ = none) : FnC prog 102 [.int .i64 s, pt b1 0, pt b3 0, pt b5 0] w [] (fun u _ => u = .tuple #[.agg (List.toArray (zOp)), .bool (waitB l gone ⟨s, lf s⟩)]) := by
  obtain ⟨mb, mob, lb, lob, left, gv, k1, km, kp, ko, k3, kl, kq, kf, k5, kg⟩ := hR
  refine enter (code := _) func102 rfl 27 rfl rfl hM [] rfl [(0, _), (1, _), (2, _), (3, _)] ⟨rfl, rfl, rfl, rfl, trivial⟩ ?_
  refine sq ?_
  refine rg ?_
  refine al T62 rfl rfl ?_; intro b0_0
  refine st (asg rfl) rfl ?_
  refine nl ?_
  refine nS ?_
  refine sq ?_
  refine rg ?_
  refine st (lm1 0 T91 k1 Hm.m rfl rfl rfl) rfl ?_
  refine st (mv rfl) rfl ?_
  refine st (lm1 0 T168 k3 Hm.m rfl rfl rfl) rfl ?_
  refine st (mv rfl) rfl ?_
  refine st (lkt1 (z0 := (0 : Int)) (y := s) U168 (keyInt U3) T3 rfl kq (Hm.m _ _ kl) rfl rfl rfl) rfl ?_
  refine cv (u := .int .i64 (lf s)) (by rw [kf.get]) ?_
  refine st (bd (cs := [_, _]) [(0, [_]), (1, [_])] T29 Pl29 ⟨rfl, ⟨_, rfl, rfl⟩, ⟨rfl, ⟨_, rfl, rfl⟩, trivial⟩⟩ rfl) rfl ?_
  refine st (lkr2 (kvs := kvs) (y := ⟨s, lf s⟩) U91 K29 T62 kp (Hm.m _ _ km) rfl rfl rfl) rfl ?_
  refine cv (u := .tuple #[.agg (List.toArray (zOp)), .bool false]) (by rw [hq]; rfl) ?_
  refine st (mv rfl) rfl ?_
  refine st (xc rfl rfl) rfl ?_
  refine st (xc rfl rfl) rfl ?_
  refine al T62 rfl rfl ?_; intro b1_10
  refine sto (cs' := [_, _, _, _, _, _, _, _, _, _, _]) (vs := [_, _, _, _, _, _, _, _, _, _, _]) T62 rfl rfl rfl rfl rfl (Nat.le_of_ble_eq_true rfl) rfl ?_
  refine st (asg rfl) rfl ?_
  refine nl ?_
  refine nS ?_
  refine sq ?_
  refine rgd rfl [0, 1, 2, 3, 4, 5, 6, 7] [] [8, 9] [7] (by kernel_rfl) ?_
  refine dst rfl rfl (loa (vs := [_, _, _, _, _, _, _, _, _, _, _]) T62 rfl rfl rfl) rfl ?_
  refine dst rfl rfl (mv rfl) rfl ?_
  refine dst rfl rfl (mv rfl) rfl ?_
  refine dgF rfl rfl rfl rfl rfl ?_
  refine dgF rfl rfl rfl rfl rfl ?_
  refine dgF rfl rfl rfl rfl rfl ?_
  refine dgF rfl rfl rfl rfl rfl ?_
  refine dsR rfl (pkF rfl rfl) (pkFR rfl rfl) rfl ?_
  refine dend rfl ?_
  refine r1 ?_
  refine sto (cs' := [_, _, _, _, _, _, _, _, _, _, _]) (vs := [_, _, _, _, _, _, _, _, _, _, _]) T62 rfl rfl rfl rfl rfl (Nat.le_of_ble_eq_true rfl) rfl ?_
  refine st (asg rfl) rfl ?_
  refine nl ?_
  refine nS ?_
  refine rt ?_
  exact retc2 (vs := [_, _, _, _, _, _, _, _, _, _, _]) rfl rfl rfl T62 rfl rfl (.inl rfl) (by rw [waitB_none hg]; rfl) o0

set_option maxRecDepth 20000 in
theorem wait1_c {M : Mem} {w : World} {b1 b3 b5 : Nat} {kvs : List (Dot × Value)} {l : List Op'} {lf : Int → Int} {gone : List Dot} {s : Int} {o : Op'} {D G : Value} (hM : RO M [] w) (hR : RowMem M b1 b3 b5 kvs l lf gone) (hq : lookK kvs (⟨s, lf s⟩ : Dot) = some (.agg (encOp o D G).toArray)) (hg : getL l ⟨s, lf s⟩ = some o) (hD : Sl M 2 RDot D o.deps) (hG : Sl M 3 RRun G o.gone) : FnC prog 102 [.int .i64 s, pt b1 0, pt b3 0, pt b5 0] w [] (fun u _ => u = .tuple #[.agg (List.toArray (encOp o D G)), .bool (waitB l gone ⟨s, lf s⟩)]) := by
  obtain ⟨mb, mob, lb, lob, left, gv, k1, km, kp, ko, k3, kl, kq, kf, k5, kg⟩ := hR
  refine enter (code := _) func102 rfl 27 rfl rfl hM [] rfl [(0, _), (1, _), (2, _), (3, _)] ⟨rfl, rfl, rfl, rfl, trivial⟩ ?_
  refine sq ?_
  refine rg ?_
  refine al T62 rfl rfl ?_; intro b0_0
  refine st (asg rfl) rfl ?_
  refine nl ?_
  refine nS ?_
  refine sq ?_
  refine rg ?_
  refine st (lm1 0 T91 k1 Hm.m rfl rfl rfl) rfl ?_
  refine st (mv rfl) rfl ?_
  refine st (lm1 0 T168 k3 Hm.m rfl rfl rfl) rfl ?_
  refine st (mv rfl) rfl ?_
  refine st (lkt1 (z0 := (0 : Int)) (y := s) U168 (keyInt U3) T3 rfl kq (Hm.m _ _ kl) rfl rfl rfl) rfl ?_
  refine cv (u := .int .i64 (lf s)) (by rw [kf.get]) ?_
  refine st (bd (cs := [_, _]) [(0, [_]), (1, [_])] T29 Pl29 ⟨rfl, ⟨_, rfl, rfl⟩, ⟨rfl, ⟨_, rfl, rfl⟩, trivial⟩⟩ rfl) rfl ?_
  refine st (lkr2 (kvs := kvs) (y := ⟨s, lf s⟩) U91 K29 T62 kp (Hm.m _ _ km) rfl rfl rfl) rfl ?_
  refine cv (u := .tuple #[.agg (List.toArray (encOp o D G)), .bool true]) (by rw [hq]; rfl) ?_
  refine st (mv rfl) rfl ?_
  refine st (xc rfl rfl) rfl ?_
  refine st (xc rfl rfl) rfl ?_
  refine al T62 rfl rfl ?_; intro b1_10
  refine sto (cs' := [_, _, _, _, _, _, _, _, _, _, _]) (vs := [_, _, _, _, _, _, _, _, _, _, _]) T62 rfl rfl rfl rfl (allc rfl (allc rfl (allc hD.isSl (allc rfl (allc rfl (allc rfl (allc rfl (allc rfl (allc rfl (allc hG.isSl (allc rfl rfl))))))))))) (Nat.le_of_ble_eq_true rfl) rfl ?_
  refine st (asg rfl) rfl ?_
  refine nl ?_
  refine nS ?_
  refine sq ?_
  refine rgd rfl [0, 1, 2, 3, 4, 5, 6, 7] [] [8, 9] [7] (by kernel_rfl) ?_
  refine dst rfl rfl (loa (vs := [_, _, _, _, _, _, _, _, _, _, _]) T62 rfl rfl rfl) rfl ?_
  refine dst rfl rfl (mv rfl) rfl ?_
  refine dst rfl rfl (mv rfl) rfl ?_
  refine dgT rfl rfl rfl rfl (lm1 0 T24 k5 Hm.m rfl rfl rfl) rfl ?_
  refine dgT rfl rfl rfl rfl (fa (o3 := 2) F62_1 rfl rfl) rfl ?_
  refine dgT rfl rfl rfl rfl (lo1 T24 rfl rfl) rfl ?_
  refine dgT rfl rfl rfl rfl (cl0 C103 (fnc _) rfl (fun _ hw => Covers_c hw (kg.mono mDot Hm.m) (hD.mono mDot Hm.m))) rfl ?_
  refine dsR rfl (pkT rfl rfl) (pkTR rfl rfl) rfl ?_
  refine dend rfl ?_
  refine r1 ?_
  refine sto (cs' := [_, _, _, _, _, _, _, _, _, _, _]) (vs := [_, _, _, _, _, _, _, _, _, _, _]) T62 rfl rfl rfl rfl (allc rfl (allc rfl (allc hD.isSl (allc rfl (allc rfl (allc rfl (allc rfl (allc rfl (allc rfl (allc hG.isSl (allc rfl rfl))))))))))) (Nat.le_of_ble_eq_true rfl) rfl ?_
  refine st (asg rfl) rfl ?_
  refine nl ?_
  refine nS ?_
  refine rt ?_
  exact retc2 (vs := [_, _, _, _, _, _, _, _, _, _, _]) rfl rfl rfl T62 rfl rfl (.inl rfl) (by rw [waitB_some hg]; rfl) o0

theorem wait_c {M : Mem} {w : World} {b1 b3 b5 : Nat} {kvs : List (Dot × Value)} {l : List Op'} {lf : Int → Int} {gone : List Dot} {s : Int} (hM : RO M [] w) (hR : RowMem M b1 b3 b5 kvs l lf gone) : FnC prog 102 [.int .i64 s, pt b1 0, pt b3 0, pt b5 0] w [] (fun u _ => u = .tuple #[(lookK kvs (⟨s, lf s⟩ : Dot)).getD (val true zOp), .bool (waitB l gone ⟨s, lf s⟩)]) := by
  have hR2 := hR
  obtain ⟨mb, mob, lb, lob, left, gv, k1, km, kp, ko, k3, kl, kq, kf, k5, kg⟩ := hR2
  rcases ko.look ⟨s, lf s⟩ with ⟨h1, h2⟩ | ⟨o, D, G, h2, h3, h4, h1, hD, hG, hw⟩
  · refine (wait0_c hM hR h1 h2).mono fun v o hv => ?_
    rw [hv, h1]; rfl
  · refine (wait1_c hM hR h1 h2 hD hG).mono fun v o hv => ?_
    rw [hv, h1]; rfl

set_option maxRecDepth 20000 in
set_option maxHeartbeats 1000000 in
theorem firstStep_c {M : Mem} {w : World} {b1 b3 b5 b6 b7 n : Nat} {kvs : List (Dot × Value)} {l : List Op'} {lf : Int → Int} {gone : List Dot} {V : Value} {sites : List Int} (hM : RO M [] w) (hn : sites.length = n) (hv : Sl M 1 RInt V sites) (hR : RowMem M b1 b3 b5 kvs l lf gone) (k6 : CellsAt M ⟨b6, 0, none⟩ [.func (.func 102) #[] #[pt b1 0, pt b3 0, pt b5 0]]) (k7 : CellsAt M ⟨b7, 0, none⟩ [.func (.func 104) #[] #[pt b6 0, pt b7 0]]) (ih : ∀ {M : Mem} {w : World} {V : Value} {sites : List Int}, sites.length < n → RO M [] w → Sl M 1 RInt V sites → RowMem M b1 b3 b5 kvs l lf gone → CellsAt M ⟨b6, 0, none⟩ [.func (.func 102) #[] #[pt b1 0, pt b3 0, pt b5 0]] → CellsAt M ⟨b7, 0, none⟩ [.func (.func 104) #[] #[pt b6 0, pt b7 0]] → FnC prog 104 [V, pt b6 0, pt b7 0] w [] (fun u _ => u = .tuple #[valF kvs (firstF l gone lf sites), .bool (firstF l gone lf sites).isSome])) : FnC prog 104 [V, pt b6 0, pt b7 0] w [] (fun u _ => u = .tuple #[valF kvs (firstF l gone lf sites), .bool (firstF l gone lf sites).isSome]) := by
  have hvs : Vs 11 kvs := by obtain ⟨mb, mob, lb, lob, left, gv, k1, km, kp, ko, k3, kl, kq, kf, k5, kg⟩ := hR; exact ko.vs
  refine enter (code := _) func104 rfl 28 rfl rfl hM [] rfl [(0, _), (1, _), (2, _)] ⟨rfl, rfl, rfl, trivial⟩ ?_
  have l_hv := hv.bound
  refine sq ?_
  refine rg ?_
  refine al T62 rfl rfl ?_; intro b0_0
  refine st (asg rfl) rfl ?_
  refine nl ?_
  refine nS ?_
  refine sq ?_
  refine sq ?_
  refine rg ?_
  refine st (mv rfl) rfl ?_
  refine st (lnS U45 hv rfl) rfl ?_
  refine st (eq rfl rfl) rfl ?_
  refine nl ?_
  refine nS ?_
  refine cd rfl (fun hb => ?_) (fun hb => ?_)
  · have h10 := (eq_of_beq hb)
    clear hb
    refine sq ?_
    refine rg ?_
    refine st (bd (cs := [_, _, _, _, _, _, _, _, _, _, _]) [] T62 Pl62 trivial rfl) rfl ?_
    refine sto (cs' := [_, _, _, _, _, _, _, _, _, _, _]) (vs := [_, _, _, _, _, _, _, _, _, _, _]) T62 rfl rfl rfl rfl rfl (Nat.le_of_ble_eq_true rfl) rfl ?_
    refine st (asg rfl) rfl ?_
    refine nl ?_
    refine nS ?_
    refine rt ?_
    refine rS ?_
    exact retc2 (vs := [_, _, _, _, _, _, _, _, _, _, _]) rfl rfl rfl T62 rfl rfl (.inl rfl) (by rw [show sites = [] from List.eq_nil_of_length_eq_zero (by omega)]; rfl) o0
  · have h10 := (ne_of_beqF hb)
    clear hb
    refine sk ?_
    refine nS ?_
    refine sq ?_
    refine sq ?_
    refine rgd rfl [0, 1, 2, 3, 4, 5, 6, 7] [8] [9, 10] [7] (by kernel_rfl) ?_
    refine dst rfl rfl (lm1 0 T169 k6 Hm.m rfl rfl rfl) rfl ?_
    refine dst rfl rfl (mv rfl) rfl ?_
    refine diaS rfl rfl U45 T3 hv rfl rfl (Int.le_refl 0) (by omega) rfl ?_; intro b3_2 p3_2 y3_2 u3_2 e3_2 c3_2 n3_2 q3_2
    obtain rfl := q3_2
    clear n3_2
    refine dst rfl rfl (lm1 0 T3 c3_2 Hm.m rfl rfl rfl) rfl ?_
    refine dst rfl rfl (cl0 C102 (show Callee1 _ _ _ [] [pt b1 0, pt b3 0, pt b5 0] from rfl) rfl (fun _ hw => wait_c (s := y3_2) hw (hR.mono Hm.m))) rfl ?_
    refine dst rfl rfl (mv rfl) rfl ?_
    refine dst rfl rfl (xc rfl rfl) rfl ?_
    obtain ⟨v0, v1, v2, v3, v4, v5, v6, v7, v8, v9, vx, hval, f0, f1, f2, f3, f4, f5, f6, f7, f8, f9, fx⟩ := look11 hvs ⟨y3_2, lf y3_2⟩
    refine dcv hval ?_
    refine dsR rfl (xc rfl rfl) (xcR rfl rfl) rfl ?_
    refine dfor rfl ?_
    refine fal1 rfl T62 rfl rfl ?_; intro b3_8
    refine sto (cs' := [_, _, _, _, _, _, _, _, _, _, _]) (vs := [_, _, _, _, _, _, _, _, _, _, _]) T62 rfl rfl rfl rfl (allc f0 (allc f1 (allc f2 (allc f3 (allc f4 (allc f5 (allc f6 (allc f7 (allc f8 (allc f9 (allc fx rfl))))))))))) (Nat.le_of_ble_eq_true rfl) rfl ?_
    refine st (asg rfl) rfl ?_
    refine nl ?_
    refine nS ?_
    refine sq ?_
    refine rg ?_
    refine st (mv rfl) rfl ?_
    refine nl ?_
    refine nS ?_
    refine cd rfl (fun hb => ?_) (fun hb => ?_)
    · have h20 := hb
      clear hb
      refine sq ?_
      refine rg ?_
      refine st (loa (vs := [_, _, _, _, _, _, _, _, _, _, _]) T62 rfl rfl rfl) rfl ?_
      refine r1 ?_
      refine sto (cs' := [_, _, _, _, _, _, _, _, _, _, _]) (vs := [_, _, _, _, _, _, _, _, _, _, _]) T62 rfl rfl rfl rfl (allc f0 (allc f1 (allc f2 (allc f3 (allc f4 (allc f5 (allc f6 (allc f7 (allc f8 (allc f9 (allc fx rfl))))))))))) (Nat.le_of_ble_eq_true rfl) rfl ?_
      refine st (asg rfl) rfl ?_
      refine nl ?_
      refine nS ?_
      refine rt ?_
      refine rS ?_
      exact retc2 (vs := [_, _, _, _, _, _, _, _, _, _, _]) rfl rfl rfl T62 rfl rfl (.inl rfl) (by rw [firstF_at e3_2, if_pos h20]; show _ = Value.tuple #[(lookK kvs (⟨y3_2, lf y3_2⟩ : Dot)).getD (val true zOp), .bool true]; rw [hval]; rfl) o0
    · have h20 := hb
      clear hb
      refine sk ?_
      refine nS ?_
      refine sq ?_
      refine rgd rfl [0, 1, 2, 3, 4, 5] [] [6, 7] [] (by kernel_rfl) ?_
      refine dst rfl rfl (lm1 0 T170 k7 Hm.m rfl rfl rfl) rfl ?_
      refine dst rfl rfl (mv rfl) rfl ?_
      obtain ⟨V2, hV2, hop⟩ := slT (j := 1) (ik := .i64) U45 T3 hv (by omega)
      refine dst rfl rfl (hop _ _ _ _ _ _ _ _ _ _ rfl rfl rfl) rfl ?_
      refine dst rfl rfl (cl0 C104 (show Callee1 _ _ _ [] [pt b6 0, pt b7 0] from rfl) rfl (fun _ hw => ih (by rw [List.length_drop]; omega) hw (hV2.mono mInt Hm.m) (hR.mono Hm.m) (k6.mono Hm.m) (k7.mono Hm.m))) rfl ?_
      refine dst rfl rfl (xc rfl rfl) rfl ?_
      obtain ⟨u0, u1, u2, u3, u4, u5, u6, u7, u8, u9, ux, hval2, g0, g1, g2, g3, g4, g5, g6, g7, g8, g9, gx⟩ := val11 hvs (firstF l gone lf (sites.drop 1))
      refine dcv hval2 ?_
      refine dst rfl rfl (xc rfl rfl) rfl ?_
      refine dend rfl ?_
      refine r1 ?_
      refine sto (cs' := [_, _, _, _, _, _, _, _, _, _, _]) (vs := [_, _, _, _, _, _, _, _, _, _, _]) T62 rfl rfl rfl rfl (allc g0 (allc g1 (allc g2 (allc g3 (allc g4 (allc g5 (allc g6 (allc g7 (allc g8 (allc g9 (allc gx rfl))))))))))) (Nat.le_of_ble_eq_true rfl) rfl ?_
      refine st (asg rfl) rfl ?_
      refine nl ?_
      refine nS ?_
      refine rt ?_
      exact retc2 (vs := [_, _, _, _, _, _, _, _, _, _, _]) rfl rfl rfl T62 rfl rfl (.inl rfl) (by rw [firstF_at e3_2, if_neg (by rw [h20]; decide), hval2]; rfl) o0

theorem first_c {b1 b3 b5 b6 b7 : Nat} {kvs : List (Dot × Value)} {l : List Op'} {lf : Int → Int} {gone : List Dot} : ∀ (n : Nat) {M : Mem} {w : World} {V : Value} {sites : List Int}, sites.length = n → RO M [] w → Sl M 1 RInt V sites → RowMem M b1 b3 b5 kvs l lf gone → CellsAt M ⟨b6, 0, none⟩ [.func (.func 102) #[] #[pt b1 0, pt b3 0, pt b5 0]] → CellsAt M ⟨b7, 0, none⟩ [.func (.func 104) #[] #[pt b6 0, pt b7 0]] → FnC prog 104 [V, pt b6 0, pt b7 0] w [] (fun u _ => u = .tuple #[valF kvs (firstF l gone lf sites), .bool (firstF l gone lf sites).isSome]) := by
  intro n
  induction n using Nat.strongRecOn with
  | _ n ih =>
    intro M w V sites hn hM hv hR k6 k7
    exact firstStep_c hM hn hv hR k6 k7 (fun {M w V sites} h1 h2 h3 h4 h5 h6 => ih _ h1 rfl h2 h3 h4 h5 h6)

set_option maxRecDepth 20000 in
set_option maxHeartbeats 1000000 in
theorem rowIt_c {M : Mem} {w : World} {b1 mb lp : Nat} {mob : Obj} {kvs : List (Dot × Value)} {v : List Op'} {oc : Own} {S : List Op' → Own → Prop} {xs : List Op'} (hM : RO M oc w) (k1 : CellsAt M ⟨b1, 0, none⟩ [.map (some mb)]) (km : M mb mob) (kp : Mp encD mob kvs) (ko : HOps M kvs v) (hok : ∀ o ∈ v, (1 ≤ o.dot.site ∧ o.dot.site ≤ 16) ∧ 1 ≤ o.dot.seq ∧ o.dot.seq ≤ 2147483647) (hxs : xs = rowL v) (hS : S [] oc) (hY : ∀ p x q, xs = p ++ x :: q → ∀ oc w, RO M oc w → S p oc → Yld prog lp (encO kvs x) w oc (S (p ++ [x]))) : FnC prog 101 [.func (.yield lp) #[] #[], pt b1 0] w oc (fun _ o => S xs o) := by
  have hvs : Vs 11 kvs := ko.vs
  refine enter (code := _) func101 rfl 88 rfl rfl hM [oc] (by simp) [(0, _), (1, _)] ⟨rfl, rfl, trivial⟩ ?_
  refine sq ?_
  refine rg ?_
  refine mm rfl ?_; intro b0_0
  refine al T168 rfl rfl ?_; intro b0_1
  refine sto (cs' := [_]) (vs := [_]) T168 rfl rfl rfl rfl rfl (Nat.le_of_ble_eq_true rfl) rfl ?_
  refine nl ?_
  refine nS ?_
  refine sq ?_
  refine sq ?_
  refine rg ?_
  refine st (lm1 0 T91 k1 Hm.m rfl rfl rfl) rfl ?_
  refine rgm U91 kp (Hm.m _ _ km) rfl rfl ?_; intro b1_1 ib1 mi1
  refine nl ?_
  refine nS ?_
  refine bk ?_
  refine gR3 ?_
  refine gR2 ?_
  refine gR3 ?_
  refine gR3 ?_
  refine lpc4 (fun (ib : Obj) (lob : Obj) (left : List (Int × Int)) (rs : List (Dot × Value)) C => C) [(0, _), (1, _), (3, _), (16, _)] (fun (ib : Obj) (lob : Obj) (left : List (Int × Int)) (rs : List (Dot × Value)) H => [(b1_1, ib)] :: [(b0_0, lob)] :: H) [_, _] (fun (ib : Obj) (lob : Obj) (left : List (Int × Int)) (rs : List (Dot × Value)) => ∃ cur done, MI encD mb ib mob kvs rs cur ∧ Mp encN lob (encM encN left) ∧ kvs.Perm (done ++ rs) ∧ ∀ s, lookM left s = if s ∈ done.map (·.1.site) then some 1 else none) (fun (ib : Obj) (lob : Obj) (left : List (Int × Int)) (rs : List (Dot × Value)) => rs.length) _ _ [] kvs ?_ ⟨rfl, rfl, rfl, rfl, trivial⟩ hid ?_
  · exact ⟨none, [], mi1, Mp.nil _ _, List.Perm.refl _, fun s => rfl⟩
  intro ib lob left rs hj
  obtain ⟨cur, done, i0, i1, i2, i3⟩ := hj
  refine sq ?_
  refine rg ?_
  refine nxm i0 (Hm.m _ _ km) rfl rfl (fun hz2_0 => ?_) (fun pre2_0 kv2_0 post2_0 ib2_0 hr2_0 mi2_0 => ?_)
  · skip
    refine st (xc rfl rfl) rfl ?_
    refine nl ?_
    refine nS ?_
    refine sq ?_
    refine cdF rfl ?_
    refine xt ?_
    refine xS ?_
    refine xS ?_
    refine xB ?_
    refine nS ?_
    refine sq ?_
    refine rg ?_
    refine al T24 rfl rfl ?_; intro b5_0
    refine nl ?_
    refine nS ?_
    refine sq ?_
    refine rg ?_
    refine st (mkf (vs := []) (us := [_, _, _]) rfl rfl) rfl ?_
    refine al T169 rfl rfl ?_; intro b6_1
    refine sto (cs' := [_]) (vs := [_]) T169 rfl rfl rfl rfl rfl (Nat.le_of_ble_eq_true rfl) rfl ?_
    refine nl ?_
    refine nS ?_
    refine sq ?_
    refine rg ?_
    refine al T170 rfl rfl ?_; intro b7_0
    refine nl ?_
    refine nS ?_
    refine sq ?_
    refine rg ?_
    refine st (mkf (vs := []) (us := [_, _]) rfl rfl) rfl ?_
    refine sto (cs' := [_]) (vs := [_]) T170 rfl rfl rfl rfl rfl (Nat.le_of_ble_eq_true rfl) rfl ?_
    refine nl ?_
    refine nS ?_
    refine bk ?_
    refine niC ?_
    refine gR6 ?_
    refine gR5 ?_
    refine gR4 ?_
    refine gR4 ?_
    refine gR7 ?_
    refine gR5 ?_
    refine gR6 ?_
    refine gR7 ?_
    refine lpc2 (fun (n : Nat) (q : Obj × Value × Own × Own) C => C) [(0, _), (1, _), (3, _), (5, _), (7, _)] (fun (n : Nat) (q : Obj × Value × Own × Own) H => [(b0_0, q.1)] :: [(b5_0, .cells (List.toArray [q.2.1]) 24 (0, 0))] :: q.2.2.1 :: q.2.2.2 :: H) [_, _, _, _] (fun (n : Nat) (q : Obj × Value × Own × Own) => ∃ left lf gone p, xs = p ++ rowF v n lf gone ∧ (Mp encN q.1 (encM encN left) ∧ LeftOK left lf) ∧ OS q.2.2.1 29 2 q.2.1 (gone.flatMap encDot) ∧ (DotsOK gone ∧ gone.length ≤ 1000) ∧ SitesOK lf ∧ rem v lf ≤ n ∧ S p q.2.2.2) (fun (n : Nat) (q : Obj × Value × Own × Own) => n) v.length (_, _, _, _) ?_ ⟨rfl, rfl, rfl, rfl, rfl, trivial⟩ hid ?_
    · exact ⟨left, left0 v, [], [], (by rw [hxs]; rfl), ⟨i1, init_left i3 (hz2_0 ▸ i2) ko⟩, OS.nil _ _, ⟨(by intro x hx; cases hx), (by simp)⟩, init_sites hok, List.length_filter_le _ _, hS⟩
    intro n q hj
    obtain ⟨lob, gv, go, oc⟩ := q
    obtain ⟨left, lf, gone, p, j1, ⟨j3, j4⟩, j5, ⟨j6, j6l⟩, j7, j8, j9⟩ := hj
    dsimp only at j3 j5 j9 ⊢
    refine sq ?_
    refine sq ?_
    refine rg ?_
    refine st (w7 (lo1 T168 rfl rfl)) rfl ?_
    refine st (lnm U168 j3 (Hm.i0 _ _ imS) rfl) rfl ?_
    refine st (gt rfl rfl) rfl ?_
    refine nl ?_
    refine nS ?_
    refine cd rfl (fun hb => ?_) (fun hb => ?_)
    · have h28 := (of_decide_eq_true hb)
      clear hb
      refine sk ?_
      refine nS ?_
      refine bk ?_
      refine sq ?_
      refine rg ?_
      refine st (asg rfl) rfl ?_
      refine nl ?_
      refine nS ?_
      refine sq ?_
      refine sq ?_
      refine rg ?_
      refine st (w7 (lo1 T168 rfl rfl)) rfl ?_
      refine rgm U168 j3 (Hm.i0 _ _ imS) rfl rfl ?_; intro b11_1 ib11 mi11
      refine nl ?_
      refine nS ?_
      refine bk ?_
      refine niC ?_
      refine gR9 ?_
      refine gR9 ?_
      refine gR9 ?_
      refine gR9 ?_
      refine gR9 ?_
      refine gR9 ?_
      refine gR9 ?_
      refine gR9 ?_
      refine gR8 ?_
      refine gR9 ?_
      refine lpc4 (fun (ib : Obj) (rs : List (Int × Value)) (V : Value) (so : Own) C => (8, V) :: C) [(0, _), (1, _), (3, _), (5, _), (7, _), (30, _)] (fun (ib : Obj) (rs : List (Int × Value)) (V : Value) (so : Own) H => [(b11_1, ib)] :: so :: H) [_, _, _, _, _, _, _, _] (fun (ib : Obj) (rs : List (Int × Value)) (V : Value) (so : Own) => ∃ cur done, MI encN b0_0 ib lob (encM encN left) rs cur ∧ (encM encN left).Perm (done ++ rs) ∧ OS so 3 1 V ((done.map (·.1)).flatMap (fun n : Int => [Value.int .i64 n]))) (fun (ib : Obj) (rs : List (Int × Value)) (V : Value) (so : Own) => rs.length) _ (encM encN left) _ _ ?_ ⟨rfl, rfl, rfl, rfl, rfl, rfl, rfl, trivial⟩ hid ?_
      · exact ⟨none, [], mi11, List.Perm.refl _, OS.nil _ _⟩
      intro ib rs V so hj
      obtain ⟨cur, done, k0, k2, k4⟩ := hj
      refine sq ?_
      refine rg ?_
      refine nxm k0 (Hm.i1 _ _ imS) rfl rfl (fun hz12_0 => ?_) (fun pre12_0 kv12_0 post12_0 ib12_0 hr12_0 mi12_0 => ?_)
      · skip
        refine st (xc rfl rfl) rfl ?_
        refine nl ?_
        refine nS ?_
        refine sq ?_
        refine cdF rfl ?_
        refine xt ?_
        refine xS ?_
        refine xS ?_
        refine xB ?_
        refine nS ?_
        refine sq ?_
        refine rg ?_
        obtain ⟨ss, hss0⟩ : ∃ ss, ss = done.map (·.1) := ⟨_, rfl⟩
        have hso := k4
        rw [← hss0] at hso
        have hk12 : (encM encN left).Perm (done ++ []) ∧ ss = done.map (·.1) := ⟨hz12_0 ▸ k2, hss0⟩
        refine st (mv rfl) rfl ?_
        refine r1 ?_
        have hss : ss.Perm (left.map (·.1)) := sites_done hk12
        refine cl C105 (fnc _) rfl (fun _ hw => sort_c hw hso (sites_ne hss h28) (by have := hss.length_eq; have := left_len j4 j7 (by have := j3.keys; rwa [encM_keys] at this); rw [List.length_map] at *; omega)) rfl ?_; intro v15 o15 q15
        obtain ⟨rfl, q15s⟩ := q15
        rw [sites_sorted j4 j7 (by have := j3.keys; rwa [encM_keys] at this) hss] at q15s
        refine nl ?_
        refine nS ?_
        refine sq ?_
        refine rg ?_
        refine st (w6 (lo1 T170 rfl rfl)) rfl ?_
        refine st (mv rfl) rfl ?_
        refine st (cl0 C104 (show Callee1 _ _ _ [] [pt b6_1 0, pt b7_0 0] from rfl) rfl (fun _ hw => first_c (kvs := kvs) (l := v) (lf := lf) (gone := gone) (sites := sitesF lf) _ rfl hw ((ints_sl q15s (by have := sitesF_len lf; omega)).mono mInt Hm.i0) ⟨_, _, _, _, left, _, k1.mono Hm.m, Hm.m _ _ km, kp, ko.mono Hm.m, cellsI.mono Hm.i9, Hm.i2 _ _ imS, j3, j4, cellsI.mono Hm.i3, (dots_sl j5 j6 j6l).mono mDot Hm.i4⟩ (cellsI.mono Hm.i7) (cellsI.mono Hm.i6))) rfl ?_
        refine st (mv rfl) rfl ?_
        refine st (xc rfl rfl) rfl ?_
        obtain ⟨v0, v1, v2, v3, v4, v5, v6, v7, v8, v9, vx, hval, f0, f1, f2, f3, f4, f5, f6, f7, f8, f9, fx⟩ := val11 hvs (firstF v gone lf (sitesF lf))
        refine cv hval ?_
        refine st (xc rfl rfl) rfl ?_
        refine al T62 rfl rfl ?_; intro b16_6
        refine sto (cs' := [_, _, _, _, _, _, _, _, _, _, _]) (vs := [_, _, _, _, _, _, _, _, _, _, _]) T62 rfl rfl rfl rfl (allc f0 (allc f1 (allc f2 (allc f3 (allc f4 (allc f5 (allc f6 (allc f7 (allc f8 (allc f9 (allc fx rfl))))))))))) (Nat.le_of_ble_eq_true rfl) rfl ?_
        refine st (asg rfl) rfl ?_
        refine nl ?_
        refine nS ?_
        refine sq ?_
        refine sq ?_
        refine rg ?_
        refine st (mv rfl) rfl ?_
        refine st (nt rfl) rfl ?_
        refine st (mv rfl) rfl ?_
        refine spl (fun hb => ?_) (fun hb => ?_)
        · have h49 := (nTF hb)
          clear hb
          refine gF rfl rfl rfl rfl ?_
          refine gF rfl rfl rfl rfl ?_
          refine gF rfl rfl rfl rfl ?_
          refine gF rfl rfl rfl rfl ?_
          refine st (pkT rfl rfl) rfl ?_
          refine nl ?_
          refine nS ?_
          refine cdT rfl ?_
          refine rt ?_
          refine rS ?_
          refine rB ?_
          refine rS ?_
          refine rB ?_
          exact ret0 (.inl rfl) rfl (row_end j1 (by first | (rw [sitesF_nil j4 j7 h28]; rfl) | exact none_of h49) j9) o7
        · have h49 := (nFT hb)
          clear hb
          refine gT rfl rfl ?_
          refine st (mv rfl) rfl ?_
          refine gT rfl rfl ?_
          refine st (loa (vs := [_, _, _, _, _, _, _, _, _, _, _]) T62 rfl rfl rfl) rfl ?_
          refine gT rfl rfl ?_
          obtain ⟨d, hfd⟩ := Option.isSome_iff_exists.1 h49
          obtain ⟨s, o, rfl, hs, hgo, hcov⟩ := firstF_some hfd
          rcases ko.look ⟨s, lf s⟩ with ⟨-, hno⟩ | ⟨o2, D, G, hgo2, ho, hod, hlk, hD, hG, hwf⟩
          · rw [hno] at hgo; cases hgo
          rw [hgo] at hgo2; cases hgo2
          have hs1 := (mem_sitesF j7).1 hs
          have hso1 := j7 s hs1
          have hdot : o.dot.site = s ∧ o.dot.seq = lf s := by rw [hod]; exact ⟨rfl, rfl⟩
          have hn1 : 1 ≤ n := Nat.le_trans (rem_pos ho (by rw [hdot.1, hdot.2]; omega)) j8
          obtain ⟨m, rfl⟩ : ∃ m, n = m + 1 := ⟨n - 1, by omega⟩
          rw [rowF_some hfd hgo] at j1
          have heq : Value.agg (List.toArray (encOp o D G)) = .agg #[v0, v1, v2, v3, v4, v5, v6, v7, v8, v9, vx] := by rw [← hval, hfd]; show _ = (lookK kvs _).getD _; rw [hlk]; rfl
          simp only [encOp, hdot.1, hdot.2, Value.agg.injEq, Array.mk.injEq, List.cons.injEq, and_true] at heq
          obtain ⟨rfl, rfl, rfl, rfl, rfl, rfl, rfl, rfl, rfl, rfl, rfl⟩ := heq
          refine r6 ?_
          refine ylv rfl rfl (fun w hw => by have hy := hY _ _ _ j1 _ _ (hw.le Hm.m) j9; simp only [encO, hod, hlk, Option.getD_some, encOp, hdot.1, hdot.2] at hy; exact hy) rfl ?_; intro oc2 j9n
          refine gT rfl rfl ?_
          refine st (nt rfl) rfl ?_
          refine st (pkF rfl rfl) rfl ?_
          refine nl ?_
          refine nS ?_
          refine cdF rfl ?_
          refine sk ?_
          refine nS ?_
          refine sq ?_
          refine rg ?_
          refine st (w5 (lo1 T24 rfl rfl)) rfl ?_
          refine st (fa (o3 := 0) F62_0 rfl rfl) rfl ?_
          refine st (w1 (loa (vs := [_, _]) T29 rfl rfl rfl)) rfl ?_
          refine ni ?_
          refine cl C106 (fnc _) rfl (fun _ hw => Add_c (d := ⟨s, lf s⟩) hw ((dots_sl j5 j6 j6l).mono mDot Hm.i6) ⟨by dsimp only; omega, by dsimp only; omega⟩) rfl ?_; intro v18 O18 q18x
          obtain ⟨gv2, rfl, q18⟩ := q18x
          refine st (mv rfl) rfl ?_
          refine st (xc rfl rfl) rfl ?_
          refine st (xc rfl rfl) rfl ?_
          refine r7 ?_
          refine dr ?_
          refine r6 ?_
          refine sto (cs' := [_]) (vs := [_]) T24 rfl rfl q18.cells rfl (allc q18.isSl rfl) (Nat.le_of_ble_eq_true rfl) rfl ?_
          refine nl ?_
          refine nS ?_
          refine sq ?_
          refine rg ?_
          refine st (w10 (lo1 T168 rfl rfl)) rfl ?_
          refine st (fa (o3 := 0) F62_0 rfl rfl) rfl ?_
          refine st (fa (o3 := 0) F29_0 rfl rfl) rfl ?_
          refine st (w3 (lo1 T3 rfl rfl)) rfl ?_
          refine st (lkt1 (z0 := (0 : Int)) (y := s) U168 (keyInt U3) T3 rfl j3 (Hm.i6 _ _ imS) rfl rfl rfl) rfl ?_
          refine cv (u := .int .i64 (lf s)) (by rw [j4.get]) ?_
          refine st (ad rfl rfl (by omega)) rfl ?_
          refine r6 ?_
          refine mu (u := s) U168 (keyInt U3) j3 rfl rfl rfl rfl ?_; intro lob2 j3n
          rw [setK_enc encN] at j3n
          have j3m := j3n
          refine nl ?_
          refine nS ?_
          refine sq ?_
          refine rg ?_
          refine st (lm1 0 T91 k1 Hm.m rfl rfl rfl) rfl ?_
          refine st (fa (o3 := 0) F62_0 rfl rfl) rfl ?_
          refine st (fa (o3 := 0) F29_0 rfl rfl) rfl ?_
          refine st (w4 (lo1 T3 rfl rfl)) rfl ?_
          refine st (w10 (lo1 T168 rfl rfl)) rfl ?_
          refine st (fa (o3 := 0) F62_0 rfl rfl) rfl ?_
          refine st (fa (o3 := 0) F29_0 rfl rfl) rfl ?_
          refine st (w4 (lo1 T3 rfl rfl)) rfl ?_
          refine st (lkt1 (z0 := (0 : Int)) (y := s) U168 (keyInt U3) T3 rfl j3n (Hm.i0 _ _ imS) rfl rfl rfl) rfl ?_
          refine cv (u := .int .i64 (lf s + 1)) (by rw [lookM_set, if_pos rfl, Option.getD_some]) ?_
          refine st (bd (cs := [_, _]) [(0, [_]), (1, [_])] T29 Pl29 ⟨rfl, ⟨_, rfl, rfl⟩, ⟨rfl, ⟨_, rfl, rfl⟩, trivial⟩⟩ rfl) rfl ?_
          refine st (lkr2 (kvs := kvs) (y := ⟨s, lf s + 1⟩) U91 K29 T62 kp (Hm.m _ _ km) rfl rfl rfl) rfl ?_
          rw [look_isSome ko]
          refine st (mv rfl) rfl ?_
          refine st (xc rfl rfl) rfl ?_
          obtain ⟨u0, u1, u2, u3, u4, u5, u6, u7, u8, u9, ux, hval3, g0, g1, g2, g3, g4, g5, g6, g7, g8, g9, gx⟩ := look11 hvs ⟨s, lf s + 1⟩
          refine cv hval3 ?_
          refine st (xc rfl rfl) rfl ?_
          refine al T62 rfl rfl ?_; intro b20_14
          refine sto (cs' := [_, _, _, _, _, _, _, _, _, _, _]) (vs := [_, _, _, _, _, _, _, _, _, _, _]) T62 rfl rfl rfl rfl (allc g0 (allc g1 (allc g2 (allc g3 (allc g4 (allc g5 (allc g6 (allc g7 (allc g8 (allc g9 (allc gx rfl))))))))))) (Nat.le_of_ble_eq_true rfl) rfl ?_
          refine st (asg rfl) rfl ?_
          refine nl ?_
          refine nS ?_
          refine sq ?_
          refine rg ?_
          refine st (mv rfl) rfl ?_
          refine st (nt rfl) rfl ?_
          refine nl ?_
          refine nS ?_
          refine cd rfl (fun hb => ?_) (fun hb => ?_)
          · have h83 := (nTF hb)
            clear hb
            refine rg ?_
            refine st (w11 (lo1 T168 rfl rfl)) rfl ?_
            refine st (fa (o3 := 0) F62_0 rfl rfl) rfl ?_
            refine st (fa (o3 := 0) F29_0 rfl rfl) rfl ?_
            refine st (w5 (lo1 T3 rfl rfl)) rfl ?_
            refine r1 ?_
            refine dl (u := s) U168 (keyInt U3) j3n rfl rfl rfl ?_; intro lob3 j3m
            rw [delK_enc encN] at j3m
            refine nl ?_
            refine nB ?_
            refine gr11 ?_
            refine gr11 ?_
            refine gr11 ?_
            refine gr11 ?_
            refine gr8 ?_
            refine gr8 ?_
            refine gr8 ?_
            refine gr7 ?_
            refine gr7 ?_
            refine gr7 ?_
            refine gr7 ?_
            refine gr7 ?_
            refine gr7 ?_
            refine gr7 ?_
            refine gr7 ?_
            refine gr7 ?_
            exact le2 m (_, _, _, _) ⟨⟨_, _, goneF gone ⟨s, lf s⟩, _, (by rw [j1, List.append_cons]), ⟨j3m, LeftOK.del (l := v) (d := ⟨s, lf s⟩) j4 h83⟩, q18, ⟨goneF_ok (by dsimp only; omega), goneF_len _ _⟩, stepF_ok j7 (by dsimp only; omega) (fun o ho => (hok o ho).2.2), (by have := rem_step (lf := lf) hgo rfl (by dsimp only; omega); omega), j9n⟩, by omega⟩ ⟨rfl, rfl, rfl, rfl, rfl, trivial⟩ hK8
          · have h83 := (nFT hb)
            clear hb
            refine sk ?_
            refine nB ?_
            refine gr11 ?_
            refine gr11 ?_
            refine gr11 ?_
            refine gr11 ?_
            refine gr8 ?_
            refine gr8 ?_
            refine gr8 ?_
            refine gr8 ?_
            refine gr7 ?_
            refine gr7 ?_
            refine gr7 ?_
            refine gr7 ?_
            refine gr7 ?_
            refine gr7 ?_
            refine gr7 ?_
            refine gr7 ?_
            exact le2 m (_, _, _, _) ⟨⟨_, _, goneF gone ⟨s, lf s⟩, _, (by rw [j1, List.append_cons]), ⟨j3m, LeftOK.set (l := v) (d := ⟨s, lf s⟩) j4 h83 (by dsimp only; omega)⟩, q18, ⟨goneF_ok (by dsimp only; omega), goneF_len _ _⟩, stepF_ok j7 (by dsimp only; omega) (fun o ho => (hok o ho).2.2), (by have := rem_step (lf := lf) hgo rfl (by dsimp only; omega); omega), j9n⟩, by omega⟩ ⟨rfl, rfl, rfl, rfl, rfl, trivial⟩ hK8
      · skip
        refine st (xc rfl rfl) rfl ?_
        refine nl ?_
        refine nS ?_
        refine sq ?_
        refine cdT rfl ?_
        refine sk ?_
        refine nS ?_
        refine bk ?_
        refine sq ?_
        refine rg ?_
        refine st (ent mi12_0 (Hm.i1 _ _ imS) rfl) rfl ?_
        refine st (xc rfl rfl) rfl ?_
        refine st (asg rfl) rfl ?_
        refine nl ?_
        refine nS ?_
        refine rg ?_
        refine st (mv rfl) rfl ?_
        refine st (mv rfl) rfl ?_
        refine bs (parts := [_]) (cs := [_]) [_] [(0, [_])] U45 T3 rfl rfl rfl rfl ⟨rfl, ⟨_, rfl, rfl⟩, trivial⟩ rfl rfl ?_; intro b14_2
        refine r2 ?_
        refine ap U45 U45 T3 rfl rfl rfl rfl rfl rfl k4 ((srcI rfl).mono Hm.i1) rfl (by have h1 := done_len j4 j7 (by have := j3.keys; rwa [encM_keys] at this) k2; rw [flatMap_length (sz := 1) (fun _ => rfl), List.length_map]; simp only [List.length_cons, List.length_nil]; omega) rfl ?_; intro v14_3 o14_3 q14_3
        refine st (asg rfl) rfl ?_
        refine nl ?_
        refine nB ?_
        refine gr10 ?_
        refine gr10 ?_
        refine gr10 ?_
        refine gr10 ?_
        refine gr10 ?_
        refine gr10 ?_
        refine gr10 ?_
        refine gr10 ?_
        refine gr8 ?_
        refine gr10 ?_
        refine gr9 ?_
        refine gr9 ?_
        refine gr9 ?_
        refine gr9 ?_
        refine gr9 ?_
        refine gr9 ?_
        refine gr9 ?_
        refine gr9 ?_
        refine gr9 ?_
        refine gr9 ?_
        exact le4 _ _ _ _ ⟨⟨some kv12_0, done ++ [kv12_0], mi12_0, init_perm k2 hr12_0, q14_3.cast (by rw [List.map_append, List.flatMap_append]; rfl)⟩, by rw [hr12_0]; simp⟩ ⟨rfl, rfl, rfl, rfl, rfl, rfl, rfl, trivial⟩ hK10
    · have h28 := (of_decide_eq_false hb)
      clear hb
      refine xt ?_
      refine xS ?_
      refine xS ?_
      refine xB ?_
      exact ret0 (.inr rfl) rfl (row_end j1 (by first | (rw [sitesF_nil j4 j7 h28]; rfl) | exact none_of h49) j9) o4
  · skip
    refine st (xc rfl rfl) rfl ?_
    refine nl ?_
    refine nS ?_
    refine sq ?_
    refine cdT rfl ?_
    refine sk ?_
    refine nS ?_
    refine bk ?_
    refine sq ?_
    refine rg ?_
    refine st (ent mi2_0 (Hm.m _ _ km) rfl) rfl ?_
    refine st (xc rfl rfl) rfl ?_
    refine al T29 rfl rfl ?_; intro b3_2
    refine sto (cs' := [_, _]) (vs := [_, _]) T29 rfl rfl rfl rfl rfl (Nat.le_of_ble_eq_true rfl) rfl ?_
    refine nl ?_
    refine nS ?_
    refine rg ?_
    refine st (w3 (lo1 T168 rfl rfl)) rfl ?_
    refine st (fa (o3 := 0) F29_0 rfl rfl) rfl ?_
    refine st (lo1 T3 rfl rfl) rfl ?_
    refine r2 ?_
    refine mu (u := kv2_0.1.site) U168 (keyInt U3) i1 rfl rfl rfl rfl ?_; intro lob2 i1n
    rw [setK_enc encN] at i1n
    refine nl ?_
    refine nB ?_
    refine gr4 ?_
    refine gr4 ?_
    refine gr2 ?_
    refine gr4 ?_
    refine gr3 ?_
    refine gr3 ?_
    refine gr3 ?_
    refine gr3 ?_
    exact le4 _ _ _ _ ⟨⟨some kv2_0, done ++ [kv2_0], mi2_0, i1n, init_perm i2 hr2_0, init_look i3⟩, by rw [hr2_0]; simp⟩ ⟨rfl, rfl, rfl, rfl, trivial⟩ hK4

set_option maxRecDepth 20000 in
theorem row_c {M : Mem} {w : World} {m : Nat} (hM : RO M [] w) : FnC prog 59 [.map (some m)] w [] (fun u o => ∃ b, u = .func (.func 101) #[] #[pt b 0] ∧ o = [(b, .cells (List.toArray [.map (some m)]) 91 (0, 0))]) := by
  refine enter (code := _) func59 rfl 4 rfl rfl hM [] rfl [(0, _)] ⟨rfl, trivial⟩ ?_
  refine sq ?_
  refine rg ?_
  refine bx (z := [_]) rfl rfl rfl ?_; intro b0_0
  refine st (asg rfl) rfl ?_
  refine nl ?_
  refine nS ?_
  refine sq ?_
  refine rg ?_
  refine st (mkf (vs := []) (us := [_]) rfl rfl) rfl ?_
  refine st (asg rfl) rfl ?_
  refine nl ?_
  refine nS ?_
  refine rt ?_
  exact ret1 rfl rfl ⟨_, rfl, rfl⟩ o1

set_option maxRecDepth 20000 in
theorem Members_c {M : Mem} {w : World} {V : Value} {v : List Op'} (hM : RO M [] w) (hv : Sl M 11 ROp V v) (hg : CellsAt M ⟨0, 0, none⟩ (tzT.map fun n : Nat => Value.int .u8 (n : Int))) : FnC prog 22 [V] w [] (fun x o => ∃ u, x = .tuple #[u, .int .i64 (closedE v)] ∧ OS o 3 1 u ((if closedE v = 0 then membersL v else []).flatMap (fun n : Int => [Value.int .i64 n]))) := by
  refine enterM (code := _) func22 rfl 37 rfl rfl hM [] rfl [(0, _)] ⟨rfl, trivial⟩ ?_
  have l_hv := hv.bound
  refine sq ?_
  refine rg ?_
  refine st (asg rfl) rfl ?_
  refine st (asg rfl) rfl ?_
  refine nl ?_
  refine nS ?_
  refine sq ?_
  refine rg ?_
  refine st (mv rfl) rfl ?_
  refine ni ?_
  refine cl C42 (fnc _) rfl (fun _ hw => set_c hw (hv.mono mOp Hm.m)) rfl ?_; intro v1_1 O1_1 q1_1
  obtain ⟨m1, rfl, qa, qb⟩ := q1_1
  refine st (mv rfl) rfl ?_
  refine st (xc rfl rfl) rfl ?_
  refine st (xc rfl rfl) rfl ?_
  refine st (asg rfl) rfl ?_
  refine st (asg rfl) rfl ?_
  refine nl ?_
  refine nS ?_
  refine sq ?_
  refine sq ?_
  refine rg ?_
  refine st (mv rfl) rfl ?_
  refine st (ne rfl rfl) rfl ?_
  refine nl ?_
  refine nS ?_
  refine cd rfl (fun hb => ?_) (fun hb => ?_)
  · have h14 := (ne_of_bneT hb)
    clear hb
    refine sq ?_
    refine rg ?_
    refine st (mv rfl) rfl ?_
    refine st (asg rfl) rfl ?_
    refine st (asg rfl) rfl ?_
    refine nl ?_
    refine nS ?_
    refine rt ?_
    refine rS ?_
    refine postM0 (.inl rfl) ?_
    exact ret2 rfl rfl rfl ⟨_, rfl, (by rw [if_neg h14]; exact OS.nil _ _)⟩ o0
  · have h14 := (eq_of_bneF hb)
    clear hb
    refine sk ?_
    refine nS ?_
    refine sq ?_
    refine rg ?_
    have hE : closedE v = 0 := h14
    obtain ⟨mb, mob, kvs, rfl, rfl, kp, ko0⟩ := qa hE
    have ko : HOps M kvs v := ko0.mono hm_nil
    refine ni ?_
    refine cl C58 (fnc _) rfl (fun _ hw => RollNew_c hw ) rfl ?_; intro v4_0 O4_0 q4_0
    obtain ⟨b4_0, rfl, rfl⟩ := q4_0
    refine al T111 rfl rfl ?_; intro b4_1
    refine sto (cs' := [_]) (vs := [_]) T111 rfl rfl rfl rfl rfl (Nat.le_of_ble_eq_true rfl) rfl ?_
    refine nl ?_
    refine nS ?_
    refine sq ?_
    refine sq ?_
    refine rg ?_
    refine st (mv rfl) rfl ?_
    refine ni ?_
    refine cl C59 (fnc _) rfl (fun _ hw => row_c hw ) rfl ?_; intro v5_1 O5_1 q5_1
    obtain ⟨b5_1, rfl, rfl⟩ := q5_1
    refine nl ?_
    refine nS ?_
    refine bk ?_
    refine gR2 ?_
    refine gR2 ?_
    refine rf (σ := (Nat × Nat × Int)) (ps := [19]) (encO kvs) (rowL v) [] (fun s => [[(b4_1, .cells (List.toArray [pt b4_0 0]) 111 (0, 0))], [(b4_0, .cells (List.toArray [.int .u32 ((s.1 : Nat) : Int), .int .u32 ((s.2.1 : Nat) : Int), .int .i64 s.2.2]) 167 (0, 0))]]) [_, _] (fun p s => (s.1, s.2.1) = rollOf p ∧ (s.1 < 131072 ∧ s.2.1 < 131072)) (0, 0, 0) rfl rfl C101 ?_ rfl (fun _ => rfl) hidE ?_ ?_ ?_
    · exact ⟨rfl, by decide, by decide⟩
    · intro lp wi S oc hro hS hSp hY
      exact rowIt_c hro (cellsI.mono Hm.i0) (Hm.i1 _ _ imS) kp (ko.mono Hm.m) (closed_dots hE) rfl hS hY
    · intro p x q s hx hj lp wr or_ rec_ hst hpn
      show G _ _ _ _ ((19, _) :: _) [_, _, _]
      obtain ⟨j, f, e⟩ := s
      obtain ⟨hj1, hj2⟩ := hj
      dsimp only at hj1 hj2 ⊢
      obtain ⟨DD, GG, hval, hD, hG, hwf, -⟩ := row_val ko hx
      rw [hval]
      refine rg ?_
      refine al T62 rfl rfl ?_; intro b6_0
      refine sto (cs' := [_, _, _, _, _, _, _, _, _, _, _]) (vs := [_, _, _, _, _, _, _, _, _, _, _]) T62 rfl rfl rfl rfl (allc rfl (allc rfl (allc hD.isSl (allc rfl (allc rfl (allc rfl (allc rfl (allc rfl (allc rfl (allc hG.isSl (allc rfl rfl))))))))))) (Nat.le_of_ble_eq_true rfl) rfl ?_
      refine nl ?_
      refine nR (h := [_, _, _]) rfl hst ?_
      show G _ _ _ _ _ [_, _, _, _]
      refine bk ?_
      refine sq ?_
      refine rg ?_
      refine st (fa (o3 := 3) F62_2 rfl rfl) rfl ?_
      refine st (lo1 T3 rfl rfl) rfl ?_
      refine nl ?_
      refine nS ?_
      refine bk ?_
      refine sq ?_
      refine rg ?_
      refine st (eq rfl rfl) rfl ?_
      refine st (asg rfl) rfl ?_
      refine nl ?_
      refine nS ?_
      refine cd rfl (fun hb => ?_) (fun hb => ?_)
      · have h22 := (eq_of_beq hb)
        clear hb
        refine rg ?_
        refine st (w1 (lo1 T111 rfl rfl)) rfl ?_
        refine st (fa (o3 := 10) F62_7 rfl rfl) rfl ?_
        refine st (lo1 T3 rfl rfl) rfl ?_
        refine r2 ?_
        refine cl C60 (fnc _) rfl (fun _ hw => RollJ_c (e := e) hw hj2.1 hj2.2) rfl ?_; intro v9 O9 q9
        obtain ⟨e9, rfl⟩ := q9
        refine nl ?_
        refine nB ?_
        refine nB ?_
        refine gr1 ?_
        refine dropE ?_
        refine gr1 ?_
        exact eR (h := [_, _]) hst hpn (addBit j x.site, f, e9) ⟨by rw [rollOf_snoc, ← hj1, rollStep]; rw [if_pos h22], by dsimp only; exact ⟨addBit_lt hj2.1, hj2.2⟩⟩ hid
      · have h22 := (ne_of_beqF hb)
        clear hb
        refine sq ?_
        refine rg ?_
        refine st (eq rfl rfl) rfl ?_
        refine st (asg rfl) rfl ?_
        refine nl ?_
        refine nS ?_
        refine cd rfl (fun hb => ?_) (fun hb => ?_)
        · have h28 := (eq_of_beq hb)
          clear hb
          refine rg ?_
          refine st (w1 (lo1 T111 rfl rfl)) rfl ?_
          refine st (fa (o3 := 0) F62_0 rfl rfl) rfl ?_
          refine st (fa (o3 := 0) F29_0 rfl rfl) rfl ?_
          refine st (lo1 T3 rfl rfl) rfl ?_
          refine r2 ?_
          refine cl C61 (fnc _) rfl (fun _ hw => RollL_c (e := e) hw hj2.1 hj2.2) rfl ?_; intro v9 O9 q9
          obtain ⟨e9, rfl⟩ := q9
          refine nl ?_
          refine nB ?_
          refine nB ?_
          refine gr1 ?_
          refine dropE ?_
          refine gr1 ?_
          exact eR (h := [_, _]) hst hpn (j, addBit f x.dot.site, e9) ⟨by rw [rollOf_snoc, ← hj1, rollStep]; rw [if_neg h22, if_pos h28], by dsimp only; exact ⟨hj2.1, addBit_lt hj2.2⟩⟩ hid
        · have h28 := (ne_of_beqF hb)
          clear hb
          refine sk ?_
          refine nB ?_
          refine nB ?_
          refine dropE ?_
          refine gr1 ?_
          refine gr1 ?_
          exact eR (h := [_, _]) hst hpn (j, f, e) ⟨by rw [rollOf_snoc, ← hj1, rollStep]; rw [if_neg h22, if_neg h28], by dsimp only; exact hj2⟩ hid
    intro s rd hj
    show GE _ _ _ _ _ [_, _, _, _, _]
    obtain ⟨j, f, e⟩ := s
    obtain ⟨hj1, hj2⟩ := hj
    dsimp only at hj1 hj2 ⊢
    refine nB ?_
    refine nS ?_
    refine sq ?_
    refine rg ?_
    refine st (lo1 T111 rfl rfl) rfl ?_
    refine ni ?_
    refine cl C62 (fnc _) rfl (fun _ hw => RollMembers_c (e := e) hw hj2.1 hj2.2 (cellsI.mono Hm.i1) (hg.mono Hm.m)) rfl ?_; intro v12 O12 q12
    refine st (asg rfl) rfl ?_
    refine st (asg rfl) rfl ?_
    refine nl ?_
    refine nS ?_
    refine rt ?_
    refine postM1 (h := [_, _, _, _, _]) (.inl rfl) ?_
    exact ret2 rfl rfl rfl ⟨_, (by show Value.tuple #[_, _] = Value.tuple #[_, _]; rw [hE]), (by rw [if_pos hE]; exact q12.cast (by rw [membersL, ← hj1]))⟩ o1
end Go.W
