/- Lemmas for the walks of this program: Walks. Written by a program of mine. Walks. Written by a program of mine. -/
import Derived.Test.YtcjnbfpkigadeaaGreatDoorJ6
set_option linter.unusedVariables false
set_option linter.unusedSimpArgs false
/- Walks. Written by a program of mine. -/
namespace Go.W
open Go Go.Proofs.Tryz
set_option maxRecDepth 20000 in
theorem follows_c {M : Mem} {w : World} {s : ByteArray} {n a b : Int} (hM : RO M [] w) (hn : 1 ≤ n ∧ n ≤ 3) : FnC prog 180 [.string s, .int .i64 n, .int .u8 a, .int .u8 b] w [] (fun u _ => u = .bool (decide (fol s n a b))) := by
  refine enter (code := _) func180 rfl 36 rfl rfl hM [] rfl [(0, _), (1, _), (2, _), (3, _)] ⟨rfl, rfl, rfl, rfl, trivial⟩ ?_
  refine sq ?_
  refine rg ?_
  refine st (asg rfl) rfl ?_
  refine nl ?_
  refine nS ?_
  refine sq ?_
  refine sq ?_
  refine rg ?_
  refine st (mv rfl) rfl ?_
  refine st (lns U9 rfl) rfl ?_
  refine st (mv rfl) rfl ?_
  refine st (lt rfl rfl) rfl ?_
  refine st (mv rfl) rfl ?_
  refine spl (fun hb => ?_) (fun hb => ?_)
  · have h14 := (of_decide_eq_true hb)
    clear hb
    refine gF rfl rfl rfl rfl ?_
    refine gF rfl rfl rfl rfl ?_
    refine gF rfl rfl rfl rfl ?_
    refine gF rfl rfl rfl rfl ?_
    refine st (pkT rfl rfl) rfl ?_
    refine st (mv rfl) rfl ?_
    refine gF rfl rfl rfl rfl ?_
    refine gF rfl rfl rfl rfl ?_
    refine gF rfl rfl rfl rfl ?_
    refine gF rfl rfl rfl rfl ?_
    refine st (pkT rfl rfl) rfl ?_
    refine nl ?_
    refine nS ?_
    refine cdT rfl ?_
    refine sq ?_
    refine rg ?_
    refine st (asg rfl) rfl ?_
    refine nl ?_
    refine nS ?_
    refine rt ?_
    refine rS ?_
    exact ret1 rfl rfl (congrArg Value.bool (decide_eq_false (fun q => by obtain ⟨q1, q2, q3, q4⟩ := q; omega)).symm) o0
  · have h14 := (of_decide_eq_false hb)
    clear hb
    refine gT rfl rfl ?_
    refine st (mv rfl) rfl ?_
    refine gT rfl rfl ?_
    refine st (ixb0 U9 rfl (by omega)) rfl ?_
    refine gT rfl rfl ?_
    refine st (mv rfl) rfl ?_
    refine gT rfl rfl ?_
    refine st (lt rfl rfl) rfl ?_
    refine st (pkF rfl rfl) rfl ?_
    refine st (mv rfl) rfl ?_
    refine spl (fun hb => ?_) (fun hb => ?_)
    · have h20 := (of_decide_eq_true hb)
      clear hb
      refine gF rfl rfl rfl rfl ?_
      refine gF rfl rfl rfl rfl ?_
      refine gF rfl rfl rfl rfl ?_
      refine gF rfl rfl rfl rfl ?_
      refine st (pkT rfl rfl) rfl ?_
      refine nl ?_
      refine nS ?_
      refine cdT rfl ?_
      refine sq ?_
      refine rg ?_
      refine st (asg rfl) rfl ?_
      refine nl ?_
      refine nS ?_
      refine rt ?_
      refine rS ?_
      exact ret1 rfl rfl (congrArg Value.bool (decide_eq_false (fun q => by obtain ⟨q1, q2, q3, q4⟩ := q; omega)).symm) o0
    · have h20 := (of_decide_eq_false hb)
      clear hb
      refine gT rfl rfl ?_
      refine st (mv rfl) rfl ?_
      refine gT rfl rfl ?_
      refine st (ixb0 U9 rfl (by omega)) rfl ?_
      refine gT rfl rfl ?_
      refine st (mv rfl) rfl ?_
      refine gT rfl rfl ?_
      refine st (gt rfl rfl) rfl ?_
      refine st (pkF rfl rfl) rfl ?_
      refine nl ?_
      refine nS ?_
      refine cd rfl (fun hb => ?_) (fun hb => ?_)
      · have h25 := (of_decide_eq_true hb)
        clear hb
        refine sq ?_
        refine rg ?_
        refine st (asg rfl) rfl ?_
        refine nl ?_
        refine nS ?_
        refine rt ?_
        refine rS ?_
        exact ret1 rfl rfl (congrArg Value.bool (decide_eq_false (fun q => by obtain ⟨q1, q2, q3, q4⟩ := q; omega)).symm) o0
      · have h25 := (of_decide_eq_false hb)
        clear hb
        refine sk ?_
        refine nS ?_
        refine sq ?_
        refine sq ?_
        refine rg ?_
        refine st (asg rfl) rfl ?_
        refine nl ?_
        refine nS ?_
        refine bk ?_
        refine lpc1 (fun (i : Int) C => (9, .int .i64 i) :: C) [(0, _), (1, _)] (fun (i : Int) H => H) [] (fun (i : Int) => 1 ≤ i ∧ i ≤ n ∧ ∀ k : Nat, (k : Int) < i → 1 ≤ k → bt s k / 64 = 2) (fun (i : Int) => (n - i).toNat) 1 ?_ ⟨rfl, rfl, rfl, trivial⟩ hid ?_
        · exact ⟨by omega, by omega, fun k h1 h2 => by omega⟩
        intro i hj
        obtain ⟨j0, j1, j2⟩ := hj
        refine sq ?_
        refine sq ?_
        refine rg ?_
        refine st (mv rfl) rfl ?_
        refine st (mv rfl) rfl ?_
        refine st (lt rfl rfl) rfl ?_
        refine nl ?_
        refine nS ?_
        refine cd rfl (fun hb => ?_) (fun hb => ?_)
        · have h28 := (of_decide_eq_true hb)
          clear hb
          refine sk ?_
          refine nS ?_
          refine sq ?_
          refine bk ?_
          refine sq ?_
          refine rg ?_
          refine st (mv rfl) rfl ?_
          refine st (mv rfl) rfl ?_
          refine st (ixb U9 rfl rfl (by omega) (by omega)) rfl ?_
          refine st (band rfl rfl) rfl ?_
          refine st (ne rfl rfl) rfl ?_
          refine nl ?_
          refine nS ?_
          refine cd rfl (fun hb => ?_) (fun hb => ?_)
          · have h35 := (ne_of_bneT hb)
            clear hb
            refine sq ?_
            refine rg ?_
            refine st (asg rfl) rfl ?_
            refine nl ?_
            refine nS ?_
            refine rt ?_
            refine rB ?_
            refine rS ?_
            refine rS ?_
            refine rB ?_
            refine rS ?_
            exact ret1 rfl rfl (congrArg Value.bool (decide_eq_false (fun q => by obtain ⟨q1, q2, q3, q4⟩ := q; exact h35 ((and192_bt s i.toNat).2 (q4 i.toNat (by omega) (by omega))))).symm) o0
          · have h35 := (eq_of_bneF hb)
            clear hb
            refine sk ?_
            refine nB ?_
            refine nS ?_
            refine rg ?_
            refine st (mv rfl) rfl ?_
            refine st (ad rfl rfl (by omega)) rfl ?_
            refine st (asg rfl) rfl ?_
            refine nl ?_
            exact le1 (i + 1) ⟨⟨by omega, by omega, fun k h1 h2 => fol_go j2 ((and192_bt s i.toNat).1 h35) k h1 h2⟩, by omega⟩ ⟨rfl, rfl, rfl, trivial⟩ hid
        · have h28 := (of_decide_eq_false hb)
          clear hb
          refine xt ?_
          refine xS ?_
          refine xS ?_
          refine xB ?_
          refine nS ?_
          refine sq ?_
          refine rg ?_
          refine st (asg rfl) rfl ?_
          refine nl ?_
          refine nS ?_
          refine rt ?_
          exact ret1 rfl rfl (congrArg Value.bool (decide_eq_true ⟨by omega, by omega, by omega, fun k hk1 hk2 => j2 k (by omega) hk2⟩).symm) o0

set_option maxRecDepth 20000 in
theorem width_c {M : Mem} {w : World} {s : ByteArray} (hM : RO M [] w) (hs : 0 < s.size) : FnC prog 154 [.string s] w [] (fun u _ => u = .int .i64 (widthB s)) := by
  refine enter (code := _) func154 rfl 46 rfl rfl hM [] rfl [(0, _)] ⟨rfl, trivial⟩ ?_
  refine sq ?_
  refine rg ?_
  refine st (asg rfl) rfl ?_
  refine nl ?_
  refine nS ?_
  refine sq ?_
  refine rg ?_
  refine st (asg rfl) rfl ?_
  refine st (asg rfl) rfl ?_
  refine st (asg rfl) rfl ?_
  refine nl ?_
  refine nS ?_
  refine sq ?_
  refine sq ?_
  refine rg ?_
  refine st (mv rfl) rfl ?_
  refine st (ixb0 U9 rfl (by omega)) rfl ?_
  refine st (asg rfl) rfl ?_
  refine nl ?_
  refine nS ?_
  refine bk ?_
  refine sq ?_
  refine bk ?_
  refine sq ?_
  refine bk ?_
  refine sq ?_
  refine bk ?_
  refine sq ?_
  refine bk ?_
  refine sq ?_
  refine bk ?_
  refine sq ?_
  refine bk ?_
  refine sq ?_
  refine bk ?_
  refine sq ?_
  refine bk ?_
  refine sq ?_
  refine bk ?_
  refine sq ?_
  refine sq ?_
  refine sq ?_
  refine rg ?_
  refine st (mv rfl) rfl ?_
  refine st (lt rfl rfl) rfl ?_
  refine st (asg rfl) rfl ?_
  refine nl ?_
  refine nS ?_
  refine cd rfl (fun hb => ?_) (fun hb => ?_)
  · have h9 := (of_decide_eq_true hb)
    clear hb
    refine xt ?_
    refine xS ?_
    refine xS ?_
    refine xB ?_
    refine nS ?_
    refine sq ?_
    refine sq ?_
    refine rg ?_
    refine st (asg rfl) rfl ?_
    refine nl ?_
    refine nS ?_
    refine rt ?_
    refine rS ?_
    refine rB ?_
    refine rS ?_
    refine rB ?_
    refine rS ?_
    refine rB ?_
    refine rS ?_
    refine rB ?_
    refine rS ?_
    refine rB ?_
    refine rS ?_
    refine rB ?_
    refine rS ?_
    refine rB ?_
    refine rS ?_
    refine rB ?_
    refine rS ?_
    refine rB ?_
    refine rS ?_
    exact ret1 rfl rfl (by show Value.int _ _ = _; rw [widthB, if_pos (by omega)]) o0
  · have h9 := (of_decide_eq_false hb)
    clear hb
    refine sk ?_
    refine nS ?_
    refine sq ?_
    refine sq ?_
    refine rg ?_
    refine st (mv rfl) rfl ?_
    refine st (lt rfl rfl) rfl ?_
    refine st (mv rfl) rfl ?_
    refine spl (fun hb => ?_) (fun hb => ?_)
    · have h15 := (of_decide_eq_true hb)
      clear hb
      refine gF rfl rfl rfl rfl ?_
      refine gF rfl rfl rfl rfl ?_
      refine st (pkT rfl rfl) rfl ?_
      refine st (asg rfl) rfl ?_
      refine nl ?_
      refine nS ?_
      refine cdT rfl ?_
      refine xt ?_
      refine xS ?_
      refine xS ?_
      refine xN rfl ?_
      refine xS ?_
      refine xB ?_
      refine nS ?_
      refine sq ?_
      refine sq ?_
      refine rg ?_
      refine st (asg rfl) rfl ?_
      refine nl ?_
      refine nS ?_
      refine rt ?_
      refine rS ?_
      refine rB ?_
      refine rS ?_
      refine rB ?_
      refine rS ?_
      refine rB ?_
      refine rS ?_
      refine rB ?_
      refine rS ?_
      refine rB ?_
      refine rS ?_
      refine rB ?_
      refine rS ?_
      refine rB ?_
      refine rS ?_
      refine rB ?_
      refine rS ?_
      exact ret1 rfl rfl (by show Value.int _ _ = _; rw [widthB, if_neg (by omega), if_pos (by omega)]) o0
    · have h15 := (of_decide_eq_false hb)
      clear hb
      refine gT rfl rfl ?_
      refine st (mv rfl) rfl ?_
      refine gT rfl rfl ?_
      refine st (gt rfl rfl) rfl ?_
      refine st (pkF rfl rfl) rfl ?_
      refine st (asg rfl) rfl ?_
      refine nl ?_
      refine nS ?_
      refine cd rfl (fun hb => ?_) (fun hb => ?_)
      · have h12 := (of_decide_eq_true hb)
        clear hb
        refine xt ?_
        refine xS ?_
        refine xS ?_
        refine xN rfl ?_
        refine xS ?_
        refine xB ?_
        refine nS ?_
        refine sq ?_
        refine sq ?_
        refine rg ?_
        refine st (asg rfl) rfl ?_
        refine nl ?_
        refine nS ?_
        refine rt ?_
        refine rS ?_
        refine rB ?_
        refine rS ?_
        refine rB ?_
        refine rS ?_
        refine rB ?_
        refine rS ?_
        refine rB ?_
        refine rS ?_
        refine rB ?_
        refine rS ?_
        refine rB ?_
        refine rS ?_
        refine rB ?_
        refine rS ?_
        refine rB ?_
        refine rS ?_
        exact ret1 rfl rfl (by show Value.int _ _ = _; rw [widthB, if_neg (by omega), if_pos (by omega)]) o0
      · have h12 := (of_decide_eq_false hb)
        clear hb
        refine sk ?_
        refine nS ?_
        refine sq ?_
        refine sq ?_
        refine rg ?_
        refine st (mv rfl) rfl ?_
        refine st (lt rfl rfl) rfl ?_
        refine st (asg rfl) rfl ?_
        refine nl ?_
        refine nS ?_
        refine cd rfl (fun hb => ?_) (fun hb => ?_)
        · have h19 := (of_decide_eq_true hb)
          clear hb
          refine xt ?_
          refine xS ?_
          refine xS ?_
          refine xN rfl ?_
          refine xS ?_
          refine xN rfl ?_
          refine xS ?_
          refine xB ?_
          refine nS ?_
          refine sq ?_
          refine rg ?_
          refine st (asg rfl) rfl ?_
          refine nl ?_
          refine nS ?_
          refine xt ?_
          refine xN rfl ?_
          refine xS ?_
          refine xN rfl ?_
          refine xS ?_
          refine xN rfl ?_
          refine xS ?_
          refine xN rfl ?_
          refine xS ?_
          refine xN rfl ?_
          refine xS ?_
          refine xN rfl ?_
          refine xS ?_
          refine xB ?_
          refine nS ?_
          refine sq ?_
          refine sq ?_
          refine rg ?_
          refine st (mv rfl) rfl ?_
          refine st (sls1 U9 rfl (by omega)) rfl ?_
          refine st (mv rfl) rfl ?_
          refine st (mv rfl) rfl ?_
          refine st (mv rfl) rfl ?_
          refine st (cl0 C180 (fnc _) rfl (fun _ hw => follows_c hw (by omega))) rfl ?_
          refine st (nt rfl) rfl ?_
          refine nl ?_
          refine nS ?_
          refine cd rfl (fun hb => ?_) (fun hb => ?_)
          · have h43 := (of_decide_eq_false (nTF hb))
            clear hb
            refine sq ?_
            refine rg ?_
            refine st (asg rfl) rfl ?_
            refine nl ?_
            refine nS ?_
            refine rt ?_
            refine rS ?_
            exact ret1 rfl rfl (by show Value.int _ _ = _; rw [widthB, if_neg (by omega), if_neg (by omega), if_pos (by omega), fw, if_neg h43]) o0
          · have h43 := (of_decide_eq_true (nFT hb))
            clear hb
            refine sk ?_
            refine nS ?_
            refine sq ?_
            refine rg ?_
            refine st (mv rfl) rfl ?_
            refine st (ad rfl rfl (by omega)) rfl ?_
            refine st (asg rfl) rfl ?_
            refine nl ?_
            refine nS ?_
            refine rt ?_
            exact ret1 rfl rfl (by show Value.int _ _ = _; rw [widthB, if_neg (by omega), if_neg (by omega), if_pos (by omega), fw, if_pos h43]) o0
        · have h19 := (of_decide_eq_false hb)
          clear hb
          refine sk ?_
          refine nS ?_
          refine sq ?_
          refine sq ?_
          refine rg ?_
          refine st (mv rfl) rfl ?_
          refine st (eq rfl rfl) rfl ?_
          refine st (asg rfl) rfl ?_
          refine nl ?_
          refine nS ?_
          refine cd rfl (fun hb => ?_) (fun hb => ?_)
          · have h22 := (eq_of_beq hb)
            clear hb
            refine xt ?_
            refine xS ?_
            refine xS ?_
            refine xN rfl ?_
            refine xS ?_
            refine xN rfl ?_
            refine xS ?_
            refine xN rfl ?_
            refine xS ?_
            refine xB ?_
            refine nS ?_
            refine sq ?_
            refine rg ?_
            refine st (asg rfl) rfl ?_
            refine st (asg rfl) rfl ?_
            refine nl ?_
            refine nS ?_
            refine xt ?_
            refine xN rfl ?_
            refine xS ?_
            refine xN rfl ?_
            refine xS ?_
            refine xN rfl ?_
            refine xS ?_
            refine xN rfl ?_
            refine xS ?_
            refine xN rfl ?_
            refine xS ?_
            refine xB ?_
            refine nS ?_
            refine sq ?_
            refine sq ?_
            refine rg ?_
            refine st (mv rfl) rfl ?_
            refine st (sls1 U9 rfl (by omega)) rfl ?_
            refine st (mv rfl) rfl ?_
            refine st (mv rfl) rfl ?_
            refine st (mv rfl) rfl ?_
            refine st (cl0 C180 (fnc _) rfl (fun _ hw => follows_c hw (by omega))) rfl ?_
            refine st (nt rfl) rfl ?_
            refine nl ?_
            refine nS ?_
            refine cd rfl (fun hb => ?_) (fun hb => ?_)
            · have h43 := (of_decide_eq_false (nTF hb))
              clear hb
              refine sq ?_
              refine rg ?_
              refine st (asg rfl) rfl ?_
              refine nl ?_
              refine nS ?_
              refine rt ?_
              refine rS ?_
              exact ret1 rfl rfl (by show Value.int _ _ = _; rw [widthB, if_neg (by omega), if_neg (by omega), if_neg (by omega), if_pos (by omega), fw, if_neg h43]) o0
            · have h43 := (of_decide_eq_true (nFT hb))
              clear hb
              refine sk ?_
              refine nS ?_
              refine sq ?_
              refine rg ?_
              refine st (mv rfl) rfl ?_
              refine st (ad rfl rfl (by omega)) rfl ?_
              refine st (asg rfl) rfl ?_
              refine nl ?_
              refine nS ?_
              refine rt ?_
              exact ret1 rfl rfl (by show Value.int _ _ = _; rw [widthB, if_neg (by omega), if_neg (by omega), if_neg (by omega), if_pos (by omega), fw, if_pos h43]) o0
          · have h22 := (ne_of_beqF hb)
            clear hb
            refine sk ?_
            refine nS ?_
            refine sq ?_
            refine sq ?_
            refine rg ?_
            refine st (mv rfl) rfl ?_
            refine st (eq rfl rfl) rfl ?_
            refine st (asg rfl) rfl ?_
            refine nl ?_
            refine nS ?_
            refine cd rfl (fun hb => ?_) (fun hb => ?_)
            · have h25 := (eq_of_beq hb)
              clear hb
              refine xt ?_
              refine xS ?_
              refine xS ?_
              refine xN rfl ?_
              refine xS ?_
              refine xN rfl ?_
              refine xS ?_
              refine xN rfl ?_
              refine xS ?_
              refine xN rfl ?_
              refine xS ?_
              refine xB ?_
              refine nS ?_
              refine sq ?_
              refine rg ?_
              refine st (asg rfl) rfl ?_
              refine st (asg rfl) rfl ?_
              refine nl ?_
              refine nS ?_
              refine xt ?_
              refine xN rfl ?_
              refine xS ?_
              refine xN rfl ?_
              refine xS ?_
              refine xN rfl ?_
              refine xS ?_
              refine xN rfl ?_
              refine xS ?_
              refine xB ?_
              refine nS ?_
              refine sq ?_
              refine sq ?_
              refine rg ?_
              refine st (mv rfl) rfl ?_
              refine st (sls1 U9 rfl (by omega)) rfl ?_
              refine st (mv rfl) rfl ?_
              refine st (mv rfl) rfl ?_
              refine st (mv rfl) rfl ?_
              refine st (cl0 C180 (fnc _) rfl (fun _ hw => follows_c hw (by omega))) rfl ?_
              refine st (nt rfl) rfl ?_
              refine nl ?_
              refine nS ?_
              refine cd rfl (fun hb => ?_) (fun hb => ?_)
              · have h43 := (of_decide_eq_false (nTF hb))
                clear hb
                refine sq ?_
                refine rg ?_
                refine st (asg rfl) rfl ?_
                refine nl ?_
                refine nS ?_
                refine rt ?_
                refine rS ?_
                exact ret1 rfl rfl (by show Value.int _ _ = _; rw [widthB, if_neg (by omega), if_neg (by omega), if_neg (by omega), if_neg (by omega), if_pos (by omega), fw, if_neg h43]) o0
              · have h43 := (of_decide_eq_true (nFT hb))
                clear hb
                refine sk ?_
                refine nS ?_
                refine sq ?_
                refine rg ?_
                refine st (mv rfl) rfl ?_
                refine st (ad rfl rfl (by omega)) rfl ?_
                refine st (asg rfl) rfl ?_
                refine nl ?_
                refine nS ?_
                refine rt ?_
                exact ret1 rfl rfl (by show Value.int _ _ = _; rw [widthB, if_neg (by omega), if_neg (by omega), if_neg (by omega), if_neg (by omega), if_pos (by omega), fw, if_pos h43]) o0
            · have h25 := (ne_of_beqF hb)
              clear hb
              refine sk ?_
              refine nS ?_
              refine sq ?_
              refine sq ?_
              refine rg ?_
              refine st (mv rfl) rfl ?_
              refine st (lt rfl rfl) rfl ?_
              refine st (asg rfl) rfl ?_
              refine nl ?_
              refine nS ?_
              refine cd rfl (fun hb => ?_) (fun hb => ?_)
              · have h28 := (of_decide_eq_true hb)
                clear hb
                refine xt ?_
                refine xS ?_
                refine xS ?_
                refine xN rfl ?_
                refine xS ?_
                refine xN rfl ?_
                refine xS ?_
                refine xN rfl ?_
                refine xS ?_
                refine xN rfl ?_
                refine xS ?_
                refine xN rfl ?_
                refine xS ?_
                refine xB ?_
                refine nS ?_
                refine sq ?_
                refine rg ?_
                refine st (asg rfl) rfl ?_
                refine nl ?_
                refine nS ?_
                refine xt ?_
                refine xN rfl ?_
                refine xS ?_
                refine xN rfl ?_
                refine xS ?_
                refine xN rfl ?_
                refine xS ?_
                refine xB ?_
                refine nS ?_
                refine sq ?_
                refine sq ?_
                refine rg ?_
                refine st (mv rfl) rfl ?_
                refine st (sls1 U9 rfl (by omega)) rfl ?_
                refine st (mv rfl) rfl ?_
                refine st (mv rfl) rfl ?_
                refine st (mv rfl) rfl ?_
                refine st (cl0 C180 (fnc _) rfl (fun _ hw => follows_c hw (by omega))) rfl ?_
                refine st (nt rfl) rfl ?_
                refine nl ?_
                refine nS ?_
                refine cd rfl (fun hb => ?_) (fun hb => ?_)
                · have h43 := (of_decide_eq_false (nTF hb))
                  clear hb
                  refine sq ?_
                  refine rg ?_
                  refine st (asg rfl) rfl ?_
                  refine nl ?_
                  refine nS ?_
                  refine rt ?_
                  refine rS ?_
                  exact ret1 rfl rfl (by show Value.int _ _ = _; rw [widthB, if_neg (by omega), if_neg (by omega), if_neg (by omega), if_neg (by omega), if_neg (by omega), if_pos (by omega), fw, if_neg h43]) o0
                · have h43 := (of_decide_eq_true (nFT hb))
                  clear hb
                  refine sk ?_
                  refine nS ?_
                  refine sq ?_
                  refine rg ?_
                  refine st (mv rfl) rfl ?_
                  refine st (ad rfl rfl (by omega)) rfl ?_
                  refine st (asg rfl) rfl ?_
                  refine nl ?_
                  refine nS ?_
                  refine rt ?_
                  exact ret1 rfl rfl (by show Value.int _ _ = _; rw [widthB, if_neg (by omega), if_neg (by omega), if_neg (by omega), if_neg (by omega), if_neg (by omega), if_pos (by omega), fw, if_pos h43]) o0
              · have h28 := (of_decide_eq_false hb)
                clear hb
                refine sk ?_
                refine nS ?_
                refine sq ?_
                refine sq ?_
                refine rg ?_
                refine st (mv rfl) rfl ?_
                refine st (eq rfl rfl) rfl ?_
                refine st (asg rfl) rfl ?_
                refine nl ?_
                refine nS ?_
                refine cd rfl (fun hb => ?_) (fun hb => ?_)
                · have h31 := (eq_of_beq hb)
                  clear hb
                  refine xt ?_
                  refine xS ?_
                  refine xS ?_
                  refine xN rfl ?_
                  refine xS ?_
                  refine xN rfl ?_
                  refine xS ?_
                  refine xN rfl ?_
                  refine xS ?_
                  refine xN rfl ?_
                  refine xS ?_
                  refine xN rfl ?_
                  refine xS ?_
                  refine xN rfl ?_
                  refine xS ?_
                  refine xB ?_
                  refine nS ?_
                  refine sq ?_
                  refine rg ?_
                  refine st (asg rfl) rfl ?_
                  refine st (asg rfl) rfl ?_
                  refine nl ?_
                  refine nS ?_
                  refine xt ?_
                  refine xN rfl ?_
                  refine xS ?_
                  refine xN rfl ?_
                  refine xS ?_
                  refine xB ?_
                  refine nS ?_
                  refine sq ?_
                  refine sq ?_
                  refine rg ?_
                  refine st (mv rfl) rfl ?_
                  refine st (sls1 U9 rfl (by omega)) rfl ?_
                  refine st (mv rfl) rfl ?_
                  refine st (mv rfl) rfl ?_
                  refine st (mv rfl) rfl ?_
                  refine st (cl0 C180 (fnc _) rfl (fun _ hw => follows_c hw (by omega))) rfl ?_
                  refine st (nt rfl) rfl ?_
                  refine nl ?_
                  refine nS ?_
                  refine cd rfl (fun hb => ?_) (fun hb => ?_)
                  · have h43 := (of_decide_eq_false (nTF hb))
                    clear hb
                    refine sq ?_
                    refine rg ?_
                    refine st (asg rfl) rfl ?_
                    refine nl ?_
                    refine nS ?_
                    refine rt ?_
                    refine rS ?_
                    exact ret1 rfl rfl (by show Value.int _ _ = _; rw [widthB, if_neg (by omega), if_neg (by omega), if_neg (by omega), if_neg (by omega), if_neg (by omega), if_neg (by omega), if_pos (by omega), fw, if_neg h43]) o0
                  · have h43 := (of_decide_eq_true (nFT hb))
                    clear hb
                    refine sk ?_
                    refine nS ?_
                    refine sq ?_
                    refine rg ?_
                    refine st (mv rfl) rfl ?_
                    refine st (ad rfl rfl (by omega)) rfl ?_
                    refine st (asg rfl) rfl ?_
                    refine nl ?_
                    refine nS ?_
                    refine rt ?_
                    exact ret1 rfl rfl (by show Value.int _ _ = _; rw [widthB, if_neg (by omega), if_neg (by omega), if_neg (by omega), if_neg (by omega), if_neg (by omega), if_neg (by omega), if_pos (by omega), fw, if_pos h43]) o0
                · have h31 := (ne_of_beqF hb)
                  clear hb
                  refine sk ?_
                  refine nS ?_
                  refine sq ?_
                  refine rg ?_
                  refine st (mv rfl) rfl ?_
                  refine st (eq rfl rfl) rfl ?_
                  refine st (asg rfl) rfl ?_
                  refine nl ?_
                  refine nS ?_
                  refine cd rfl (fun hb => ?_) (fun hb => ?_)
                  · have h34 := (eq_of_beq hb)
                    clear hb
                    refine xt ?_
                    refine xS ?_
                    refine xN rfl ?_
                    refine xS ?_
                    refine xN rfl ?_
                    refine xS ?_
                    refine xN rfl ?_
                    refine xS ?_
                    refine xN rfl ?_
                    refine xS ?_
                    refine xN rfl ?_
                    refine xS ?_
                    refine xN rfl ?_
                    refine xS ?_
                    refine xN rfl ?_
                    refine xS ?_
                    refine xB ?_
                    refine nS ?_
                    refine rg ?_
                    refine st (asg rfl) rfl ?_
                    refine nl ?_
                    refine nB ?_
                    refine nS ?_
                    refine sq ?_
                    refine rg ?_
                    refine st (asg rfl) rfl ?_
                    refine nl ?_
                    refine nS ?_
                    refine xt ?_
                    refine xB ?_
                    refine nS ?_
                    refine sq ?_
                    refine sq ?_
                    refine rg ?_
                    refine st (mv rfl) rfl ?_
                    refine st (sls1 U9 rfl (by omega)) rfl ?_
                    refine st (mv rfl) rfl ?_
                    refine st (mv rfl) rfl ?_
                    refine st (mv rfl) rfl ?_
                    refine st (cl0 C180 (fnc _) rfl (fun _ hw => follows_c hw (by omega))) rfl ?_
                    refine st (nt rfl) rfl ?_
                    refine nl ?_
                    refine nS ?_
                    refine cd rfl (fun hb => ?_) (fun hb => ?_)
                    · have h43 := (of_decide_eq_false (nTF hb))
                      clear hb
                      refine sq ?_
                      refine rg ?_
                      refine st (asg rfl) rfl ?_
                      refine nl ?_
                      refine nS ?_
                      refine rt ?_
                      refine rS ?_
                      exact ret1 rfl rfl (by show Value.int _ _ = _; rw [widthB, if_neg (by omega), if_neg (by omega), if_neg (by omega), if_neg (by omega), if_neg (by omega), if_neg (by omega), if_neg (by omega), if_pos (by omega), fw, if_neg h43]) o0
                    · have h43 := (of_decide_eq_true (nFT hb))
                      clear hb
                      refine sk ?_
                      refine nS ?_
                      refine sq ?_
                      refine rg ?_
                      refine st (mv rfl) rfl ?_
                      refine st (ad rfl rfl (by omega)) rfl ?_
                      refine st (asg rfl) rfl ?_
                      refine nl ?_
                      refine nS ?_
                      refine rt ?_
                      exact ret1 rfl rfl (by show Value.int _ _ = _; rw [widthB, if_neg (by omega), if_neg (by omega), if_neg (by omega), if_neg (by omega), if_neg (by omega), if_neg (by omega), if_neg (by omega), if_pos (by omega), fw, if_pos h43]) o0
                  · have h34 := (ne_of_beqF hb)
                    clear hb
                    refine sk ?_
                    refine nS ?_
                    refine xt ?_
                    refine xN rfl ?_
                    refine xS ?_
                    refine xN rfl ?_
                    refine xS ?_
                    refine xN rfl ?_
                    refine xS ?_
                    refine xN rfl ?_
                    refine xS ?_
                    refine xN rfl ?_
                    refine xS ?_
                    refine xN rfl ?_
                    refine xS ?_
                    refine xN rfl ?_
                    refine xS ?_
                    refine xN rfl ?_
                    refine xS ?_
                    refine xB ?_
                    refine nS ?_
                    refine sq ?_
                    refine rg ?_
                    refine st (asg rfl) rfl ?_
                    refine nl ?_
                    refine nS ?_
                    refine xt ?_
                    refine xB ?_
                    refine nS ?_
                    refine sq ?_
                    refine sq ?_
                    refine rg ?_
                    refine st (mv rfl) rfl ?_
                    refine st (sls1 U9 rfl (by omega)) rfl ?_
                    refine st (mv rfl) rfl ?_
                    refine st (mv rfl) rfl ?_
                    refine st (mv rfl) rfl ?_
                    refine st (cl0 C180 (fnc _) rfl (fun _ hw => follows_c hw (by omega))) rfl ?_
                    refine st (nt rfl) rfl ?_
                    refine nl ?_
                    refine nS ?_
                    refine cd rfl (fun hb => ?_) (fun hb => ?_)
                    · have h43 := (of_decide_eq_false (nTF hb))
                      clear hb
                      refine sq ?_
                      refine rg ?_
                      refine st (asg rfl) rfl ?_
                      refine nl ?_
                      refine nS ?_
                      refine rt ?_
                      refine rS ?_
                      exact ret1 rfl rfl (by show Value.int _ _ = _; rw [widthB, if_neg (by omega), if_neg (by omega), if_neg (by omega), if_neg (by omega), if_neg (by omega), if_neg (by omega), if_neg (by omega), if_neg (by omega), fw, if_neg h43]) o0
                    · have h43 := (of_decide_eq_true (nFT hb))
                      clear hb
                      refine sk ?_
                      refine nS ?_
                      refine sq ?_
                      refine rg ?_
                      refine st (mv rfl) rfl ?_
                      refine st (ad rfl rfl (by omega)) rfl ?_
                      refine st (asg rfl) rfl ?_
                      refine nl ?_
                      refine nS ?_
                      refine rt ?_
                      exact ret1 rfl rfl (by show Value.int _ _ = _; rw [widthB, if_neg (by omega), if_neg (by omega), if_neg (by omega), if_neg (by omega), if_neg (by omega), if_neg (by omega), if_neg (by omega), if_neg (by omega), fw, if_pos h43]) o0

set_option maxRecDepth 20000 in
theorem BadAt_c {M : Mem} {w : World} {s : ByteArray} (hM : RO M [] w) : FnC prog 126 [.string s] w [] (fun u _ => u = .int .i64 (badB s (decS s 0))) := by
  refine enter (code := _) func126 rfl 21 rfl rfl hM [] rfl [(0, _)] ⟨rfl, trivial⟩ ?_
  refine sq ?_
  refine rg ?_
  refine st (asg rfl) rfl ?_
  refine nl ?_
  refine nS ?_
  refine sq ?_
  refine sq ?_
  refine rg ?_
  refine st (mv rfl) rfl ?_
  refine rgs U9 rfl rfl ?_; intro b1_1
  refine nl ?_
  refine nS ?_
  refine bk ?_
  refine lpc1 (fun (p : Nat) C => C) [(0, _), (6, _)] (fun (p : Nat) H => [(b1_1, .stringIter s p)] :: H) [] (fun (p : Nat) => badB s (decS s 0) = badB s (decS s p)) (fun (p : Nat) => s.size - p) 0 ?_ ⟨rfl, rfl, trivial⟩ hid ?_
  · exact rfl
  intro p hj
  have j0 := hj
  refine sq ?_
  refine rg ?_
  refine nxs rfl rfl (fun hn2_0 => ?_) (fun hn2_0 => ?_)
  · skip
    refine st (xc rfl rfl) rfl ?_
    refine nl ?_
    refine nS ?_
    refine sq ?_
    refine cdF rfl ?_
    refine xt ?_
    refine xS ?_
    refine xS ?_
    refine xB ?_
    refine nS ?_
    refine sq ?_
    refine rg ?_
    refine st (asg rfl) rfl ?_
    refine nl ?_
    refine nS ?_
    refine rt ?_
    exact ret1 rfl rfl (by show Value.int _ _ = _; rw [j0, decS_end hn2_0]; rfl) o0
  · skip
    refine st (xc rfl rfl) rfl ?_
    refine nl ?_
    refine nS ?_
    refine sq ?_
    refine cdT rfl ?_
    refine sk ?_
    refine nS ?_
    refine bk ?_
    refine sq ?_
    refine rg ?_
    refine st (xc rfl rfl) rfl ?_
    refine st (xc rfl rfl) rfl ?_
    refine st (asg rfl) rfl ?_
    refine st (asg rfl) rfl ?_
    refine nl ?_
    refine nS ?_
    refine sq ?_
    refine rg ?_
    refine st (mv rfl) rfl ?_
    refine st (eq rfl rfl) rfl ?_
    refine st (mv rfl) rfl ?_
    refine spl (fun hb => ?_) (fun hb => ?_)
    · have h13 := (eq_of_beq hb)
      clear hb
      refine gT rfl rfl ?_
      refine st (mv rfl) rfl ?_
      refine gT rfl rfl ?_
      refine st (mv rfl) rfl ?_
      refine gT rfl rfl ?_
      refine st (slsN U9 rfl rfl (by omega)) rfl ?_
      refine gT rfl rfl ?_
      refine st (cl0 C154 (fnc _) rfl (fun _ hw => width_c hw (by rw [extract_size s p (by omega)]; omega))) rfl ?_
      refine gT rfl rfl ?_
      refine st (eq rfl rfl) rfl ?_
      refine st (pkT rfl rfl) rfl ?_
      refine nl ?_
      refine nS ?_
      refine cd rfl (fun hb => ?_) (fun hb => ?_)
      · have h19 := (eq_of_beq hb)
        clear hb
        refine sq ?_
        refine rg ?_
        refine st (mv rfl) rfl ?_
        refine st (asg rfl) rfl ?_
        refine nl ?_
        refine nS ?_
        refine rt ?_
        refine rB ?_
        refine rS ?_
        refine rB ?_
        refine rS ?_
        exact ret1 rfl rfl (by show Value.int _ _ = _; rw [j0, decS_at hn2_0, badB_yes ⟨h13, h19⟩]) o0
      · have h19 := (ne_of_beqF hb)
        clear hb
        refine sk ?_
        refine nB ?_
        exact le1 _ ⟨by rw [j0, decS_at hn2_0, badB_no (by omega)], by have := decode_pos s p; omega⟩ ⟨rfl, rfl, trivial⟩ hid
    · have h13 := (ne_of_beqF hb)
      clear hb
      refine gF rfl rfl rfl rfl ?_
      refine gF rfl rfl rfl rfl ?_
      refine gF rfl rfl rfl rfl ?_
      refine gF rfl rfl rfl rfl ?_
      refine gF rfl rfl rfl rfl ?_
      refine st (pkF rfl rfl) rfl ?_
      refine nl ?_
      refine nS ?_
      refine cdF rfl ?_
      refine sk ?_
      refine nB ?_
      exact le1 _ ⟨by rw [j0, decS_at hn2_0, badB_no (by omega)], by have := decode_pos s p; omega⟩ ⟨rfl, rfl, trivial⟩ hid

set_option maxRecDepth 20000 in
theorem Count_c {M : Mem} {w : World} {s : ByteArray} (hM : RO M [] w) (hs : s.size ≤ 1152921504606846975) : FnC prog 127 [.string s] w [] (fun u _ => u = .int .i64 ((decS s 0).length : Int)) := by
  have hl := decS_len s 0
  refine enter (code := _) func127 rfl 11 rfl rfl hM [] rfl [(0, _)] ⟨rfl, trivial⟩ ?_
  refine sq ?_
  refine rg ?_
  refine st (asg rfl) rfl ?_
  refine nl ?_
  refine nS ?_
  refine sq ?_
  refine rg ?_
  refine st (asg rfl) rfl ?_
  refine nl ?_
  refine nS ?_
  refine sq ?_
  refine sq ?_
  refine rg ?_
  refine st (mv rfl) rfl ?_
  refine rgs U9 rfl rfl ?_; intro b2_1
  refine nl ?_
  refine nS ?_
  refine bk ?_
  refine lpc2 (fun (p : Nat) (n : Int) C => (3, .int .i64 n) :: C) [(5, _)] (fun (p : Nat) (n : Int) H => [(b2_1, .stringIter s p)] :: H) [] (fun (p : Nat) (n : Int) => n + (decS s p).length = (decS s 0).length ∧ 0 ≤ n) (fun (p : Nat) (n : Int) => s.size - p) 0 0 ?_ ⟨rfl, rfl, trivial⟩ hid ?_
  · exact ⟨by omega, by omega⟩
  intro p n hj
  obtain ⟨j0, j1⟩ := hj
  refine sq ?_
  refine rg ?_
  refine nxs rfl rfl (fun hn3_0 => ?_) (fun hn3_0 => ?_)
  · skip
    refine st (xc rfl rfl) rfl ?_
    refine nl ?_
    refine nS ?_
    refine sq ?_
    refine cdF rfl ?_
    refine xt ?_
    refine xS ?_
    refine xS ?_
    refine xB ?_
    refine nS ?_
    refine sq ?_
    refine rg ?_
    refine st (mv rfl) rfl ?_
    refine st (asg rfl) rfl ?_
    refine nl ?_
    refine nS ?_
    refine rt ?_
    exact ret1 rfl rfl (by show Value.int _ _ = _; rw [decS_end hn3_0, List.length_nil] at j0; rw [show n = ((decS s 0).length : Int) by omega]) o0
  · skip
    refine st (xc rfl rfl) rfl ?_
    refine nl ?_
    refine nS ?_
    refine sq ?_
    refine cdT rfl ?_
    refine sk ?_
    refine nS ?_
    refine bk ?_
    refine rg ?_
    refine st (mv rfl) rfl ?_
    refine st (ad rfl rfl (by omega)) rfl ?_
    refine st (asg rfl) rfl ?_
    refine nl ?_
    refine nB ?_
    exact le2 _ (n + 1) ⟨⟨by rw [decS_at hn3_0, List.length_cons] at j0; omega, by omega⟩, by have := decode_pos s p; omega⟩ ⟨rfl, rfl, trivial⟩ hid

set_option maxRecDepth 20000 in
theorem Encode_c {M : Mem} {w : World} {n : Int} (hM : RO M [] w) : FnC prog 93 [.int .i32 n] w [] (fun u _ => u = .string (Utf8.encode n)) := by
  refine enter (code := _) func93 rfl 5 rfl rfl hM [] rfl [(0, _)] ⟨rfl, trivial⟩ ?_
  refine sq ?_
  refine rg ?_
  refine st (asg rfl) rfl ?_
  refine nl ?_
  refine nS ?_
  refine sq ?_
  refine rg ?_
  refine st (mv rfl) rfl ?_
  refine st (cvs U21 U9 rfl) rfl ?_
  refine st (asg rfl) rfl ?_
  refine nl ?_
  refine nS ?_
  refine rt ?_
  exact ret1 rfl rfl (by first | rfl | exact trivial) o0
end Go.W
/- Walks. Written by a program of mine. -/
namespace Go.W
open Go Go.Proofs.Tryz
theorem NI229 : NI prog 229 := ⟨by kernel_rfl⟩
theorem NI231 : NI prog 231 := ⟨by kernel_rfl⟩
theorem NI233 : NI prog 233 := ⟨by kernel_rfl⟩
theorem NI235 : NI prog 235 := ⟨by kernel_rfl⟩
theorem IF197 : IF prog 197 := ⟨by kernel_rfl⟩
theorem M229 : Mt prog 229 "hearsay/op.right" 218 := ⟨by kernel_rfl, by kernel_rfl, by kernel_rfl⟩
theorem M231 : Mt prog 231 "hearsay/op.right" 223 := ⟨by kernel_rfl, by kernel_rfl, by kernel_rfl⟩
theorem M233 : Mt prog 233 "hearsay/op.right" 229 := ⟨by kernel_rfl, by kernel_rfl, by kernel_rfl⟩
theorem M235 : Mt prog 235 "hearsay/op.right" 233 := ⟨by kernel_rfl, by kernel_rfl, by kernel_rfl⟩
def whatV (o : Op') (GG : Value) : Value := if o.kind = 1 then .iface 229 (.agg #[.int .i64 o.id.time, .int .i64 o.id.site, .int .i64 o.ref.time, .int .i64 o.ref.site, .string o.text]) else if o.kind = 2 then .iface 231 (.agg #[GG]) else if o.kind = 3 then .iface 233 (.agg #[.int .i64 o.site]) else if o.kind = 4 then .iface 235 (.agg #[]) else .nilIface

set_option maxRecDepth 20000 in
theorem opof_c {M : Mem} {w : World} {o : Op'} {DD GG : Value} (hM : RO M [] w) (hG : Sl M 3 RRun GG o.gone) : FnC prog 119 [.agg #[.int .i64 o.dot.site, .int .i64 o.dot.seq, DD, .int .i64 o.kind, .int .i64 o.id.time, .int .i64 o.id.site, .int .i64 o.ref.time, .int .i64 o.ref.site, .string o.text, GG, .int .i64 o.site]] w [] (fun u _ => u = whatV o GG) := by
  refine enter (code := _) func119 rfl 31 rfl rfl hM [] rfl [(0, _)] ⟨rfl, trivial⟩ ?_
  refine sq ?_
  refine rg ?_
  refine bx (z := [_, _, _, _, _, _, _, _, _, _, _]) rfl rfl rfl ?_; intro b0_0
  refine st (asg rfl) rfl ?_
  refine nl ?_
  refine nS ?_
  refine sq ?_
  refine sq ?_
  refine rg ?_
  refine st (fa (o3 := 3) F62_2 rfl rfl) rfl ?_
  refine st (lo1 T3 rfl rfl) rfl ?_
  refine nl ?_
  refine nS ?_
  refine bk ?_
  refine sq ?_
  refine rg ?_
  refine st (eq rfl rfl) rfl ?_
  refine st (asg rfl) rfl ?_
  refine nl ?_
  refine nS ?_
  refine cd rfl (fun hb => ?_) (fun hb => ?_)
  · have h5 := (eq_of_beq hb)
    clear hb
    refine sq ?_
    refine rg ?_
    refine st (fa (o3 := 4) F62_3 rfl rfl) rfl ?_
    refine st (loa (vs := [_, _]) T59 rfl rfl rfl) rfl ?_
    refine st (fa (o3 := 6) F62_4 rfl rfl) rfl ?_
    refine st (loa (vs := [_, _]) T59 rfl rfl rfl) rfl ?_
    refine st (fa (o3 := 8) F62_5 rfl rfl) rfl ?_
    refine st (lo1 T9 rfl rfl) rfl ?_
    refine st (bd (cs := [_, _, _, _, _]) [(0, [_, _]), (1, [_, _]), (2, [_])] T229 Pl229 ⟨rfl, ⟨_, rfl, rfl⟩, ⟨rfl, ⟨_, rfl, rfl⟩, ⟨rfl, ⟨_, rfl, rfl⟩, trivial⟩⟩⟩ rfl) rfl ?_
    refine st (mkn NI229 rfl) rfl ?_
    refine st (asg rfl) rfl ?_
    refine nl ?_
    refine nS ?_
    refine rt ?_
    refine rB ?_
    refine rS ?_
    exact ret1 rfl rfl (by show _ = whatV o GG; rw [whatV, if_pos (by omega)]; try rfl) o0
  · have h5 := (ne_of_beqF hb)
    clear hb
    refine sq ?_
    refine rg ?_
    refine st (eq rfl rfl) rfl ?_
    refine st (asg rfl) rfl ?_
    refine nl ?_
    refine nS ?_
    refine cd rfl (fun hb => ?_) (fun hb => ?_)
    · have h15 := (eq_of_beq hb)
      clear hb
      refine sq ?_
      refine rg ?_
      refine st (fa (o3 := 9) F62_6 rfl rfl) rfl ?_
      refine st (lo1 T60 rfl rfl) rfl ?_
      refine st (bd (cs := [_]) [(0, [_])] T231 Pl231 ⟨rfl, ⟨_, rfl, hG.cells⟩, trivial⟩ rfl) rfl ?_
      refine st (mkn NI231 rfl) rfl ?_
      refine st (asg rfl) rfl ?_
      refine nl ?_
      refine nS ?_
      refine rt ?_
      refine rB ?_
      refine rS ?_
      exact ret1 rfl rfl (by show _ = whatV o GG; rw [whatV, if_neg (by omega), if_pos (by omega)]; try rfl) o0
    · have h15 := (ne_of_beqF hb)
      clear hb
      refine sq ?_
      refine rg ?_
      refine st (eq rfl rfl) rfl ?_
      refine st (asg rfl) rfl ?_
      refine nl ?_
      refine nS ?_
      refine cd rfl (fun hb => ?_) (fun hb => ?_)
      · have h21 := (eq_of_beq hb)
        clear hb
        refine sq ?_
        refine rg ?_
        refine st (fa (o3 := 10) F62_7 rfl rfl) rfl ?_
        refine st (lo1 T3 rfl rfl) rfl ?_
        refine st (bd (cs := [_]) [(0, [_])] T233 Pl233 ⟨rfl, ⟨_, rfl, rfl⟩, trivial⟩ rfl) rfl ?_
        refine st (mkn NI233 rfl) rfl ?_
        refine st (asg rfl) rfl ?_
        refine nl ?_
        refine nS ?_
        refine rt ?_
        refine rB ?_
        refine rS ?_
        exact ret1 rfl rfl (by show _ = whatV o GG; rw [whatV, if_neg (by omega), if_neg (by omega), if_pos (by omega)]; try rfl) o0
      · have h21 := (ne_of_beqF hb)
        clear hb
        refine sq ?_
        refine rg ?_
        refine st (eq rfl rfl) rfl ?_
        refine st (asg rfl) rfl ?_
        refine nl ?_
        refine nS ?_
        refine cd rfl (fun hb => ?_) (fun hb => ?_)
        · have h27 := (eq_of_beq hb)
          clear hb
          refine sq ?_
          refine rg ?_
          refine st (bd (cs := []) [] T235 Pl235 trivial rfl) rfl ?_
          refine st (mkn NI235 rfl) rfl ?_
          refine st (asg rfl) rfl ?_
          refine nl ?_
          refine nS ?_
          refine rt ?_
          refine rB ?_
          refine rS ?_
          exact ret1 rfl rfl (by show _ = whatV o GG; rw [whatV, if_neg (by omega), if_neg (by omega), if_neg (by omega), if_pos (by omega)]; try rfl) o0
        · have h27 := (ne_of_beqF hb)
          clear hb
          refine sk ?_
          refine nB ?_
          refine nS ?_
          refine sq ?_
          refine rg ?_
          refine st (asg rfl) rfl ?_
          refine nl ?_
          refine nS ?_
          refine rt ?_
          exact ret1 rfl rfl (by show _ = whatV o GG; rw [whatV, if_neg (by omega), if_neg (by omega), if_neg (by omega), if_neg (by omega)]; try rfl) o0

set_option maxRecDepth 20000 in
theorem restOf_c {M : Mem} {w : World} {o : Op'} {DD GG : Value} (hM : RO M [] w) : FnC prog 219 [.agg #[.int .i64 o.dot.site, .int .i64 o.dot.seq, DD, .int .i64 o.kind, .int .i64 o.id.time, .int .i64 o.id.site, .int .i64 o.ref.time, .int .i64 o.ref.site, .string o.text, GG, .int .i64 o.site]] w [] (fun u _ => u = .agg #[.int .i64 o.id.time, .int .i64 o.id.site, .int .i64 o.ref.time, .int .i64 o.ref.site, .string o.text, .int .i64 o.site]) := by
  refine enter (code := _) func219 rfl 12 rfl rfl hM [] rfl [(0, _)] ⟨rfl, trivial⟩ ?_
  refine sq ?_
  refine rg ?_
  refine bx (z := [_, _, _, _, _, _, _, _, _, _, _]) rfl rfl rfl ?_; intro b0_0
  refine al T292 rfl rfl ?_; intro b0_1
  refine nl ?_
  refine nS ?_
  refine sq ?_
  refine rg ?_
  refine st (fa (o3 := 4) F62_3 rfl rfl) rfl ?_
  refine st (w1 (loa (vs := [_, _]) T59 rfl rfl rfl)) rfl ?_
  refine st (fa (o3 := 6) F62_4 rfl rfl) rfl ?_
  refine st (w1 (loa (vs := [_, _]) T59 rfl rfl rfl)) rfl ?_
  refine st (fa (o3 := 8) F62_5 rfl rfl) rfl ?_
  refine st (w1 (lo1 T9 rfl rfl)) rfl ?_
  refine st (fa (o3 := 10) F62_7 rfl rfl) rfl ?_
  refine st (w1 (lo1 T3 rfl rfl)) rfl ?_
  refine st (bd (cs := [_, _, _, _, _, _]) [(0, [_, _]), (1, [_, _]), (2, [_]), (3, [_])] T292 Pl292 ⟨rfl, ⟨_, rfl, rfl⟩, ⟨rfl, ⟨_, rfl, rfl⟩, ⟨rfl, ⟨_, rfl, rfl⟩, ⟨rfl, ⟨_, rfl, rfl⟩, trivial⟩⟩⟩⟩ rfl) rfl ?_
  refine sto (cs' := [_, _, _, _, _, _]) (vs := [_, _, _, _, _, _]) T292 rfl rfl rfl rfl rfl (Nat.le_of_ble_eq_true rfl) rfl ?_
  refine nl ?_
  refine nS ?_
  refine rt ?_
  exact retc (vs := [_, _, _, _, _, _]) rfl rfl T292 rfl rfl (.inl rfl) (by first | rfl | exact trivial) o0

set_option maxRecDepth 20000 in
theorem join_c {M : Mem} {w : World} {o : Op'} {DD GG : Value} (hM : RO M [] w) (hD : Sl M 2 RDot DD o.deps) (hG : Sl M 3 RRun GG o.gone) (ho : wfOp o) : FnC prog 229 [.agg #[.int .i64 o.site], .agg #[.int .i64 o.dot.site, .int .i64 o.dot.seq, DD, .int .i64 o.kind, .int .i64 o.id.time, .int .i64 o.id.site, .int .i64 o.ref.time, .int .i64 o.ref.site, .string o.text, GG, .int .i64 o.site]] w [] (fun u _ => u = .bool (decide (joinOK o))) := by
  have ho' := ho
  obtain ⟨⟨of1, of2, of3, of4⟩, ⟨⟨of5, of6⟩, of7, of8⟩, of9⟩ := ho'
  refine enter (code := _) func229 rfl 27 rfl rfl hM [] rfl [(0, _), (1, _)] ⟨rfl, rfl, trivial⟩ ?_
  refine sq ?_
  refine rg ?_
  refine bx (z := [_]) rfl rfl rfl ?_; intro b0_0
  refine bx (z := [_, _, _, _, _, _, _, _, _, _, _]) rfl rfl rfl ?_; intro b0_1
  refine st (asg rfl) rfl ?_
  refine nl ?_
  refine nS ?_
  refine sqk (fun C => (4, .bool (decide (joinOK o))) :: C) [] trivial ?_ ?_
  · skip
    refine rgd rfl [0, 1, 2, 3, 4, 5, 6, 7, 8, 9, 10, 11, 12, 13, 14, 15, 16, 17, 18, 19, 20, 21, 22] [] [] [] (by kernel_rfl) ?_
    refine dst rfl rfl (fa (o3 := 9) F62_6 rfl rfl) rfl ?_
    refine dst rfl rfl (lo1 T60 rfl rfl) rfl ?_
    refine dst rfl rfl (lnS U60 hG rfl) rfl ?_
    refine dst rfl rfl (eq rfl rfl) rfl ?_
    refine dst rfl rfl (mv rfl) rfl ?_
    refine dspl (fun hb => ?_) (fun hb => ?_)
    · have h9 := (eq_of_beq hb)
      clear hb
      refine dgT rfl rfl rfl rfl (loa (vs := [_, _, _, _, _, _, _, _, _, _, _]) T62 rfl rfl rfl) rfl ?_
      refine dgT rfl rfl rfl rfl (cl0 C219 (fnc _) rfl (fun _ hw => restOf_c hw (o := o))) rfl ?_
      refine dgT rfl rfl rfl rfl (fa (o3 := 0) F233_0 rfl rfl) rfl ?_
      refine dgT rfl rfl rfl rfl (w1 (lo1 T3 rfl rfl)) rfl ?_
      refine dgT rfl rfl rfl rfl (bd (cs := [_, _, _, _, _, _]) [(3, [_])] T292 Pl292 ⟨rfl, ⟨_, rfl, rfl⟩, trivial⟩ rfl) rfl ?_
      refine dgT rfl rfl rfl rfl (eqs (r := decide (restOK o)) rfl rfl G292 (fun w => (E292 9997 _ _ _ _ _ _ _ _ _ _ _ _ w).trans (by rw [eq_rest]; simp [restOK, id0, empty_toList]))) rfl ?_
      refine dst rfl rfl (pkT rfl rfl) rfl ?_
      refine dst rfl rfl (mv rfl) rfl ?_
      refine dspl (fun hb => ?_) (fun hb => ?_)
      · have h17 := (of_decide_eq_true hb)
        clear hb
        refine dgT rfl rfl rfl rfl (fa (o3 := 0) F233_0 rfl rfl) rfl ?_
        refine dgT rfl rfl rfl rfl (w1 (lo1 T3 rfl rfl)) rfl ?_
        refine dgT rfl rfl rfl rfl (gq rfl rfl) rfl ?_
        refine dst rfl rfl (pkT rfl rfl) rfl ?_
        refine dst rfl rfl (mv rfl) rfl ?_
        refine dspl (fun hb => ?_) (fun hb => ?_)
        · have h22 := (of_decide_eq_true hb)
          clear hb
          refine dgT rfl rfl rfl rfl (fa (o3 := 0) F233_0 rfl rfl) rfl ?_
          refine dgT rfl rfl rfl rfl (w1 (lo1 T3 rfl rfl)) rfl ?_
          refine dgT rfl rfl rfl rfl (lq rfl rfl) rfl ?_
          refine dst rfl rfl (pkT rfl rfl) rfl ?_
          refine dst rfl rfl (asg rfl) rfl ?_
          refine dend rfl ?_
          refine nl ?_
          refine gr1 ?_
          refine gr1 ?_
          refine gr1 ?_
          refine gr1 ?_
          exact le0   ⟨(by first | (refine dF rfl ?_; rintro ⟨q1, q2, q3, q4⟩; first | contradiction | omega | (rcases q8 with q8 | q8 <;> contradiction)) | (refine bE rfl (decide_eq_decide.2 ⟨fun hq => ⟨?_, ?_, ?_, ?_⟩, fun hq => ?_⟩) <;> first | assumption | omega | exact Or.inl (by assumption) | exact Or.inr (by assumption) | exact hq.2.2.2)), trivial⟩ hid
        · have h22 := (of_decide_eq_false hb)
          clear hb
          refine dgF rfl rfl rfl rfl rfl ?_
          refine dgF rfl rfl rfl rfl rfl ?_
          refine dgF rfl rfl rfl rfl rfl ?_
          refine dst rfl rfl (pkF rfl rfl) rfl ?_
          refine dst rfl rfl (asg rfl) rfl ?_
          refine dend rfl ?_
          refine nl ?_
          refine gr1 ?_
          refine gr1 ?_
          refine gr1 ?_
          refine gr1 ?_
          exact le0   ⟨(by first | (refine dF rfl ?_; rintro ⟨q1, q2, q3, q4⟩; first | contradiction | omega | (rcases q8 with q8 | q8 <;> contradiction)) | (refine bE rfl (decide_eq_decide.2 ⟨fun hq => ⟨?_, ?_, ?_, ?_⟩, fun hq => ?_⟩) <;> first | assumption | omega | exact Or.inl (by assumption) | exact Or.inr (by assumption) | exact hq.2.2.2)), trivial⟩ hid
      · have h17 := (of_decide_eq_false hb)
        clear hb
        refine dgF rfl rfl rfl rfl rfl ?_
        refine dgF rfl rfl rfl rfl rfl ?_
        refine dgF rfl rfl rfl rfl rfl ?_
        refine dst rfl rfl (pkF rfl rfl) rfl ?_
        refine dst rfl rfl (mv rfl) rfl ?_
        refine dgF rfl rfl rfl rfl rfl ?_
        refine dgF rfl rfl rfl rfl rfl ?_
        refine dgF rfl rfl rfl rfl rfl ?_
        refine dst rfl rfl (pkF rfl rfl) rfl ?_
        refine dst rfl rfl (asg rfl) rfl ?_
        refine dend rfl ?_
        refine nl ?_
        refine gr1 ?_
        refine gr1 ?_
        refine gr1 ?_
        refine gr1 ?_
        exact le0   ⟨(by first | (refine dF rfl ?_; rintro ⟨q1, q2, q3, q4⟩; first | contradiction | omega | (rcases q8 with q8 | q8 <;> contradiction)) | (refine bE rfl (decide_eq_decide.2 ⟨fun hq => ⟨?_, ?_, ?_, ?_⟩, fun hq => ?_⟩) <;> first | assumption | omega | exact Or.inl (by assumption) | exact Or.inr (by assumption) | exact hq.2.2.2)), trivial⟩ hid
    · have h9 := (ne_of_beqF hb)
      clear hb
      refine dgF rfl rfl rfl rfl rfl ?_
      refine dgF rfl rfl rfl rfl rfl ?_
      refine dgF rfl rfl rfl rfl rfl ?_
      refine dgF rfl rfl rfl rfl rfl ?_
      refine dgF rfl rfl rfl rfl rfl ?_
      refine dgF rfl rfl rfl rfl rfl ?_
      refine dst rfl rfl (pkF rfl rfl) rfl ?_
      refine dst rfl rfl (mv rfl) rfl ?_
      refine dgF rfl rfl rfl rfl rfl ?_
      refine dgF rfl rfl rfl rfl rfl ?_
      refine dgF rfl rfl rfl rfl rfl ?_
      refine dst rfl rfl (pkF rfl rfl) rfl ?_
      refine dst rfl rfl (mv rfl) rfl ?_
      refine dgF rfl rfl rfl rfl rfl ?_
      refine dgF rfl rfl rfl rfl rfl ?_
      refine dgF rfl rfl rfl rfl rfl ?_
      refine dst rfl rfl (pkF rfl rfl) rfl ?_
      refine dst rfl rfl (asg rfl) rfl ?_
      refine dend rfl ?_
      refine nl ?_
      refine gr1 ?_
      refine gr1 ?_
      refine gr1 ?_
      refine gr1 ?_
      exact le0   ⟨(by first | (refine dF rfl ?_; rintro ⟨q1, q2, q3, q4⟩; first | contradiction | omega | (rcases q8 with q8 | q8 <;> contradiction)) | (refine bE rfl (decide_eq_decide.2 ⟨fun hq => ⟨?_, ?_, ?_, ?_⟩, fun hq => ?_⟩) <;> first | assumption | omega | exact Or.inl (by assumption) | exact Or.inr (by assumption) | exact hq.2.2.2)), trivial⟩ hid
  refine rt ?_
  exact ret1 rfl rfl (by first | rfl | exact trivial) o0

set_option maxRecDepth 20000 in
theorem leave_c {M : Mem} {w : World} {o : Op'} {DD GG : Value} (hM : RO M [] w) (hD : Sl M 2 RDot DD o.deps) (hG : Sl M 3 RRun GG o.gone) (ho : wfOp o) : FnC prog 233 [.agg #[], .agg #[.int .i64 o.dot.site, .int .i64 o.dot.seq, DD, .int .i64 o.kind, .int .i64 o.id.time, .int .i64 o.id.site, .int .i64 o.ref.time, .int .i64 o.ref.site, .string o.text, GG, .int .i64 o.site]] w [] (fun u _ => u = .bool (decide (leaveOK o))) := by
  have ho' := ho
  obtain ⟨⟨of1, of2, of3, of4⟩, ⟨⟨of5, of6⟩, of7, of8⟩, of9⟩ := ho'
  refine enter (code := _) func233 rfl 15 rfl rfl hM [] rfl [(0, _), (1, _)] ⟨rfl, rfl, trivial⟩ ?_
  refine sq ?_
  refine rg ?_
  refine bx (z := []) rfl rfl rfl ?_; intro b0_0
  refine bx (z := [_, _, _, _, _, _, _, _, _, _, _]) rfl rfl rfl ?_; intro b0_1
  refine st (asg rfl) rfl ?_
  refine nl ?_
  refine nS ?_
  refine sqk (fun C => (4, .bool (decide (leaveOK o))) :: C) [] trivial ?_ ?_
  · skip
    refine rg ?_
    refine st (fa (o3 := 9) F62_6 rfl rfl) rfl ?_
    refine st (lo1 T60 rfl rfl) rfl ?_
    refine st (lnS U60 hG rfl) rfl ?_
    refine st (eq rfl rfl) rfl ?_
    refine st (mv rfl) rfl ?_
    refine spl (fun hb => ?_) (fun hb => ?_)
    · have h9 := (eq_of_beq hb)
      clear hb
      refine gT rfl rfl ?_
      refine st (loa (vs := [_, _, _, _, _, _, _, _, _, _, _]) T62 rfl rfl rfl) rfl ?_
      refine gT rfl rfl ?_
      refine st (cl0 C219 (fnc _) rfl (fun _ hw => restOf_c hw (o := o))) rfl ?_
      refine gT rfl rfl ?_
      refine st (bd (cs := [_, _, _, _, _, _]) [] T292 Pl292 trivial rfl) rfl ?_
      refine gT rfl rfl ?_
      refine st (eqs (r := decide (restOK o ∧ o.site = 0)) rfl rfl G292 (fun w => (E292 9997 _ _ _ _ _ _ _ _ _ _ _ _ w).trans (by rw [eq_rest]; simp [restOK, id0, empty_toList, and_assoc]))) rfl ?_
      refine st (pkT rfl rfl) rfl ?_
      refine st (asg rfl) rfl ?_
      refine nl ?_
      refine gr1 ?_
      refine gr1 ?_
      refine gr1 ?_
      refine gr1 ?_
      exact le0   ⟨(by first | (refine dF rfl ?_; rintro ⟨q1, q2⟩; first | contradiction | omega | (rcases q8 with q8 | q8 <;> contradiction)) | (refine bE rfl (decide_eq_decide.2 ⟨fun hq => ⟨?_, ?_⟩, fun hq => ?_⟩) <;> first | assumption | omega | exact Or.inl (by assumption) | exact Or.inr (by assumption) | exact hq.2)), trivial⟩ hid
    · have h9 := (ne_of_beqF hb)
      clear hb
      refine gF rfl rfl rfl rfl ?_
      refine gF rfl rfl rfl rfl ?_
      refine gF rfl rfl rfl rfl ?_
      refine gF rfl rfl rfl rfl ?_
      refine st (pkF rfl rfl) rfl ?_
      refine st (asg rfl) rfl ?_
      refine nl ?_
      refine gr1 ?_
      refine gr1 ?_
      refine gr1 ?_
      refine gr1 ?_
      exact le0   ⟨(by first | (refine dF rfl ?_; rintro ⟨q1, q2⟩; first | contradiction | omega | (rcases q8 with q8 | q8 <;> contradiction)) | (refine bE rfl (decide_eq_decide.2 ⟨fun hq => ⟨?_, ?_⟩, fun hq => ?_⟩) <;> first | assumption | omega | exact Or.inl (by assumption) | exact Or.inr (by assumption) | exact hq.2)), trivial⟩ hid
  refine rt ?_
  exact ret1 rfl rfl (by first | rfl | exact trivial) o0

set_option maxRecDepth 20000 in
theorem remove_c {M : Mem} {w : World} {o : Op'} {DD GG : Value} (hM : RO M [] w) (hD : Sl M 2 RDot DD o.deps) (hG : Sl M 3 RRun GG o.gone) (ho : wfOp o) : FnC prog 223 [.agg #[GG], .agg #[.int .i64 o.dot.site, .int .i64 o.dot.seq, DD, .int .i64 o.kind, .int .i64 o.id.time, .int .i64 o.id.site, .int .i64 o.ref.time, .int .i64 o.ref.site, .string o.text, GG, .int .i64 o.site]] w [] (fun u _ => u = .bool (decide (remOK o))) := by
  have ho' := ho
  obtain ⟨⟨of1, of2, of3, of4⟩, ⟨⟨of5, of6⟩, of7, of8⟩, of9⟩ := ho'
  refine enter (code := _) func223 rfl 27 rfl rfl hM [] rfl [(0, _), (1, _)] ⟨rfl, rfl, trivial⟩ ?_
  refine sq ?_
  refine rg ?_
  refine bx (z := [_]) rfl rfl rfl ?_; intro b0_0
  refine bx (z := [_, _, _, _, _, _, _, _, _, _, _]) rfl rfl rfl ?_; intro b0_1
  refine st (asg rfl) rfl ?_
  refine nl ?_
  refine nS ?_
  refine sqk (fun C => (4, .bool (decide (remOK o))) :: C) [] trivial ?_ ?_
  · skip
    refine rg ?_
    refine st (loa (vs := [_, _, _, _, _, _, _, _, _, _, _]) T62 rfl rfl rfl) rfl ?_
    refine st (cl0 C219 (fnc _) rfl (fun _ hw => restOf_c hw (o := o))) rfl ?_
    refine st (bd (cs := [_, _, _, _, _, _]) [] T292 Pl292 trivial rfl) rfl ?_
    refine st (eqs (r := decide (restOK o ∧ o.site = 0)) rfl rfl G292 (fun w => (E292 9997 _ _ _ _ _ _ _ _ _ _ _ _ w).trans (by rw [eq_rest]; simp [restOK, id0, empty_toList, and_assoc]))) rfl ?_
    refine st (mv rfl) rfl ?_
    refine spl (fun hb => ?_) (fun hb => ?_)
    · have h9 := (of_decide_eq_true hb)
      clear hb
      refine gT rfl rfl ?_
      refine st (fa (o3 := 0) F231_0 rfl rfl) rfl ?_
      refine gT rfl rfl ?_
      refine st (w1 (lo1 T60 rfl rfl)) rfl ?_
      refine gT rfl rfl ?_
      refine st (lnS U60 hG rfl) rfl ?_
      refine gT rfl rfl ?_
      refine st (gt rfl rfl) rfl ?_
      refine st (pkT rfl rfl) rfl ?_
      refine st (mv rfl) rfl ?_
      refine spl (fun hb => ?_) (fun hb => ?_)
      · have h15 := (of_decide_eq_true hb)
        clear hb
        refine gT rfl rfl ?_
        refine st (fa (o3 := 0) F231_0 rfl rfl) rfl ?_
        refine gT rfl rfl ?_
        refine st (w1 (lo1 T60 rfl rfl)) rfl ?_
        refine gT rfl rfl ?_
        refine st (lnS U60 hG rfl) rfl ?_
        refine gT rfl rfl ?_
        refine st (lq rfl rfl) rfl ?_
        refine st (pkT rfl rfl) rfl ?_
        refine st (mv rfl) rfl ?_
        refine spl (fun hb => ?_) (fun hb => ?_)
        · have h21 := (of_decide_eq_true hb)
          clear hb
          refine gT rfl rfl ?_
          refine st (fa (o3 := 0) F231_0 rfl rfl) rfl ?_
          refine gT rfl rfl ?_
          refine st (w1 (lo1 T60 rfl rfl)) rfl ?_
          refine gT rfl rfl ?_
          refine st (cl0 C224 (fnc _) rfl (fun _ hw => chkR_c hw (hG.mono mRun Hm.m))) rfl ?_
          refine gT rfl rfl ?_
          refine st (eq rfl rfl) rfl ?_
          refine st (pkT rfl rfl) rfl ?_
          refine st (asg rfl) rfl ?_
          refine nl ?_
          refine gr1 ?_
          refine gr1 ?_
          refine gr1 ?_
          refine gr1 ?_
          exact le0   ⟨(by first | (refine dF rfl ?_; rintro ⟨q1, q2, q3, q4⟩; first | contradiction | omega | (rcases q8 with q8 | q8 <;> contradiction)) | (refine bE rfl (decide_eq_decide.2 ⟨fun hq => ⟨?_, ?_, ?_, ?_⟩, fun hq => ?_⟩) <;> first | assumption | omega | exact Or.inl (by assumption) | exact Or.inr (by assumption) | exact hq.2.2.2)), trivial⟩ hid
        · have h21 := (of_decide_eq_false hb)
          clear hb
          refine gF rfl rfl rfl rfl ?_
          refine gF rfl rfl rfl rfl ?_
          refine gF rfl rfl rfl rfl ?_
          refine gF rfl rfl rfl rfl ?_
          refine st (pkF rfl rfl) rfl ?_
          refine st (asg rfl) rfl ?_
          refine nl ?_
          refine gr1 ?_
          refine gr1 ?_
          refine gr1 ?_
          refine gr1 ?_
          exact le0   ⟨(by first | (refine dF rfl ?_; rintro ⟨q1, q2, q3, q4⟩; first | contradiction | omega | (rcases q8 with q8 | q8 <;> contradiction)) | (refine bE rfl (decide_eq_decide.2 ⟨fun hq => ⟨?_, ?_, ?_, ?_⟩, fun hq => ?_⟩) <;> first | assumption | omega | exact Or.inl (by assumption) | exact Or.inr (by assumption) | exact hq.2.2.2)), trivial⟩ hid
      · have h15 := (of_decide_eq_false hb)
        clear hb
        refine gF rfl rfl rfl rfl ?_
        refine gF rfl rfl rfl rfl ?_
        refine gF rfl rfl rfl rfl ?_
        refine gF rfl rfl rfl rfl ?_
        refine st (pkF rfl rfl) rfl ?_
        refine st (mv rfl) rfl ?_
        refine gF rfl rfl rfl rfl ?_
        refine gF rfl rfl rfl rfl ?_
        refine gF rfl rfl rfl rfl ?_
        refine gF rfl rfl rfl rfl ?_
        refine st (pkF rfl rfl) rfl ?_
        refine st (asg rfl) rfl ?_
        refine nl ?_
        refine gr1 ?_
        refine gr1 ?_
        refine gr1 ?_
        refine gr1 ?_
        exact le0   ⟨(by first | (refine dF rfl ?_; rintro ⟨q1, q2, q3, q4⟩; first | contradiction | omega | (rcases q8 with q8 | q8 <;> contradiction)) | (refine bE rfl (decide_eq_decide.2 ⟨fun hq => ⟨?_, ?_, ?_, ?_⟩, fun hq => ?_⟩) <;> first | assumption | omega | exact Or.inl (by assumption) | exact Or.inr (by assumption) | exact hq.2.2.2)), trivial⟩ hid
    · have h9 := (of_decide_eq_false hb)
      clear hb
      refine gF rfl rfl rfl rfl ?_
      refine gF rfl rfl rfl rfl ?_
      refine gF rfl rfl rfl rfl ?_
      refine gF rfl rfl rfl rfl ?_
      refine st (pkF rfl rfl) rfl ?_
      refine st (mv rfl) rfl ?_
      refine gF rfl rfl rfl rfl ?_
      refine gF rfl rfl rfl rfl ?_
      refine gF rfl rfl rfl rfl ?_
      refine gF rfl rfl rfl rfl ?_
      refine st (pkF rfl rfl) rfl ?_
      refine st (mv rfl) rfl ?_
      refine gF rfl rfl rfl rfl ?_
      refine gF rfl rfl rfl rfl ?_
      refine gF rfl rfl rfl rfl ?_
      refine gF rfl rfl rfl rfl ?_
      refine st (pkF rfl rfl) rfl ?_
      refine st (asg rfl) rfl ?_
      refine nl ?_
      refine gr1 ?_
      refine gr1 ?_
      refine gr1 ?_
      refine gr1 ?_
      exact le0   ⟨(by first | (refine dF rfl ?_; rintro ⟨q1, q2, q3, q4⟩; first | contradiction | omega | (rcases q8 with q8 | q8 <;> contradiction)) | (refine bE rfl (decide_eq_decide.2 ⟨fun hq => ⟨?_, ?_, ?_, ?_⟩, fun hq => ?_⟩) <;> first | assumption | omega | exact Or.inl (by assumption) | exact Or.inr (by assumption) | exact hq.2.2.2)), trivial⟩ hid
  refine rt ?_
  exact ret1 rfl rfl (by first | rfl | exact trivial) o0

set_option maxRecDepth 20000 in
theorem insert_c {M : Mem} {w : World} {o : Op'} {DD GG : Value} (hM : RO M [] w) (hD : Sl M 2 RDot DD o.deps) (hG : Sl M 3 RRun GG o.gone) (ho : wfOp o) : FnC prog 218 [.agg #[.int .i64 o.id.time, .int .i64 o.id.site, .int .i64 o.ref.time, .int .i64 o.ref.site, .string o.text], .agg #[.int .i64 o.dot.site, .int .i64 o.dot.seq, DD, .int .i64 o.kind, .int .i64 o.id.time, .int .i64 o.id.site, .int .i64 o.ref.time, .int .i64 o.ref.site, .string o.text, GG, .int .i64 o.site]] w [] (fun u _ => u = .bool (decide (insOK o))) := by
  have ho' := ho
  obtain ⟨⟨of1, of2, of3, of4⟩, ⟨⟨of5, of6⟩, of7, of8⟩, of9⟩ := ho'
  have ht : lenT o.text = ((decS o.text 0).length : Int) := rfl
  refine enter (code := _) func218 rfl 80 rfl rfl hM [] rfl [(0, _), (1, _)] ⟨rfl, rfl, trivial⟩ ?_
  refine sq ?_
  refine rg ?_
  refine bx (z := [_, _, _, _, _]) rfl rfl rfl ?_; intro b0_0
  refine bx (z := [_, _, _, _, _, _, _, _, _, _, _]) rfl rfl rfl ?_; intro b0_1
  refine st (asg rfl) rfl ?_
  refine nl ?_
  refine nS ?_
  refine sq ?_
  refine rg ?_
  refine st (fa (o3 := 4) F229_2 rfl rfl) rfl ?_
  refine st (w1 (lo1 T9 rfl rfl)) rfl ?_
  refine st (cl0 C127 (fnc _) rfl (fun _ hw => Count_c hw (by omega))) rfl ?_
  refine st (asg rfl) rfl ?_
  refine nl ?_
  refine nS ?_
  refine sqk (fun C => (4, .bool (decide (insOK o))) :: C) [] trivial ?_ ?_
  · skip
    refine rgd rfl [0, 1, 2, 3, 4, 5, 6, 7, 8, 9, 10, 11, 12, 13, 14, 15, 16, 17, 18, 19, 20, 21, 22, 23, 24, 25, 26, 27, 28, 29, 30, 31, 32, 33, 34, 35, 36, 37, 38, 39, 40, 41, 42, 43, 44, 45, 46, 47, 48, 49, 50, 51, 52, 53, 54, 55, 56, 57, 58, 59, 60, 61, 62, 63, 64, 65, 66, 67, 68, 69, 70, 71] [] [] [] (by kernel_rfl) ?_
    refine dst rfl rfl (fa (o3 := 9) F62_6 rfl rfl) rfl ?_
    refine dst rfl rfl (lo1 T60 rfl rfl) rfl ?_
    refine dst rfl rfl (lnS U60 hG rfl) rfl ?_
    refine dst rfl rfl (eq rfl rfl) rfl ?_
    refine dst rfl rfl (mv rfl) rfl ?_
    refine dspl (fun hb => ?_) (fun hb => ?_)
    · have h13 := (eq_of_beq hb)
      clear hb
      refine dgT rfl rfl rfl rfl (loa (vs := [_, _, _, _, _, _, _, _, _, _, _]) T62 rfl rfl rfl) rfl ?_
      refine dgT rfl rfl rfl rfl (cl0 C219 (fnc _) rfl (fun _ hw => restOf_c hw (o := o))) rfl ?_
      refine dgT rfl rfl rfl rfl (fa (o3 := 0) F229_0 rfl rfl) rfl ?_
      refine dgT rfl rfl rfl rfl (w1 (loa (vs := [_, _]) T59 rfl rfl rfl)) rfl ?_
      refine dgT rfl rfl rfl rfl (fa (o3 := 2) F229_1 rfl rfl) rfl ?_
      refine dgT rfl rfl rfl rfl (w1 (loa (vs := [_, _]) T59 rfl rfl rfl)) rfl ?_
      refine dgT rfl rfl rfl rfl (fa (o3 := 4) F229_2 rfl rfl) rfl ?_
      refine dgT rfl rfl rfl rfl (w1 (lo1 T9 rfl rfl)) rfl ?_
      refine dgT rfl rfl rfl rfl (bd (cs := [_, _, _, _, _, _]) [(0, [_, _]), (1, [_, _]), (2, [_]), (3, [_])] T292 Pl292 ⟨rfl, ⟨_, rfl, rfl⟩, ⟨rfl, ⟨_, rfl, rfl⟩, ⟨rfl, ⟨_, rfl, rfl⟩, ⟨rfl, ⟨_, rfl, rfl⟩, trivial⟩⟩⟩⟩ rfl) rfl ?_
      refine dgT rfl rfl rfl rfl (eqs (r := decide (o.site = 0)) rfl rfl G292 (fun w => (E292 9997 _ _ _ _ _ _ _ _ _ _ _ _ w).trans (by rw [eq_rest]; simp))) rfl ?_
      refine dst rfl rfl (pkT rfl rfl) rfl ?_
      refine dst rfl rfl (mv rfl) rfl ?_
      refine dspl (fun hb => ?_) (fun hb => ?_)
      · have h25 := (of_decide_eq_true hb)
        clear hb
        refine dgT rfl rfl rfl rfl (mv rfl) rfl ?_
        refine dgT rfl rfl rfl rfl (gt rfl rfl) rfl ?_
        refine dst rfl rfl (pkT rfl rfl) rfl ?_
        refine dst rfl rfl (mv rfl) rfl ?_
        refine dspl (fun hb => ?_) (fun hb => ?_)
        · have h29 := (of_decide_eq_true hb)
          clear hb
          refine dgT rfl rfl rfl rfl (mv rfl) rfl ?_
          refine dgT rfl rfl rfl rfl (lq rfl rfl) rfl ?_
          refine dst rfl rfl (pkT rfl rfl) rfl ?_
          refine dst rfl rfl (mv rfl) rfl ?_
          refine dspl (fun hb => ?_) (fun hb => ?_)
          · have h33 := (of_decide_eq_true hb)
            clear hb
            refine dgT rfl rfl rfl rfl (fa (o3 := 4) F229_2 rfl rfl) rfl ?_
            refine dgT rfl rfl rfl rfl (w1 (lo1 T9 rfl rfl)) rfl ?_
            refine dgT rfl rfl rfl rfl (cl0 C126 (fnc _) rfl (fun _ hw => BadAt_c hw )) rfl ?_
            refine dgT rfl rfl rfl rfl (lt rfl rfl) rfl ?_
            refine dst rfl rfl (pkT rfl rfl) rfl ?_
            refine dst rfl rfl (mv rfl) rfl ?_
            refine dspl (fun hb => ?_) (fun hb => ?_)
            · have h39 := (of_decide_eq_true hb)
              clear hb
              refine dgT rfl rfl rfl rfl (fa (o3 := 0) F229_0 rfl rfl) rfl ?_
              refine dgT rfl rfl rfl rfl (fa (o3 := 1) F59_1 rfl rfl) rfl ?_
              refine dgT rfl rfl rfl rfl (w1 (lo1 T3 rfl rfl)) rfl ?_
              refine dgT rfl rfl rfl rfl (fa (o3 := 0) F62_0 rfl rfl) rfl ?_
              refine dgT rfl rfl rfl rfl (fa (o3 := 0) F29_0 rfl rfl) rfl ?_
              refine dgT rfl rfl rfl rfl (lo1 T3 rfl rfl) rfl ?_
              refine dgT rfl rfl rfl rfl (eq rfl rfl) rfl ?_
              refine dst rfl rfl (pkT rfl rfl) rfl ?_
              refine dst rfl rfl (mv rfl) rfl ?_
              refine dspl (fun hb => ?_) (fun hb => ?_)
              · have h48 := (eq_of_beq hb)
                clear hb
                refine dgT rfl rfl rfl rfl (fa (o3 := 0) F229_0 rfl rfl) rfl ?_
                refine dgT rfl rfl rfl rfl (w1 (loa (vs := [_, _]) T59 rfl rfl rfl)) rfl ?_
                refine dgT rfl rfl rfl rfl (mv rfl) rfl ?_
                refine dgT rfl rfl rfl rfl (sb rfl rfl (by omega)) rfl ?_
                refine dgT rfl rfl rfl rfl (cl0 C129 (fnc _) rfl (fun _ hw => After_c hw (by omega))) rfl ?_
                refine dgT rfl rfl rfl rfl (bd (cs := [_, _]) [] T59 Pl59 trivial rfl) rfl ?_
                refine dgT rfl rfl rfl rfl (nes rfl rfl G59 (fun w => eqID (afterID o.id (lenT o.text - 1)) ⟨0, 0⟩ w)) rfl ?_
                refine dst rfl rfl (pkT rfl rfl) rfl ?_
                refine dst rfl rfl (mv rfl) rfl ?_
                refine dspl (fun hb => ?_) (fun hb => ?_)
                · have h57 := (of_decide_eq_false (nTF hb))
                  clear hb
                  refine dgT rfl rfl rfl rfl (fa (o3 := 2) F229_1 rfl rfl) rfl ?_
                  refine dgT rfl rfl rfl rfl (w1 (loa (vs := [_, _]) T59 rfl rfl rfl)) rfl ?_
                  refine dgT rfl rfl rfl rfl (bd (cs := [_, _]) [] T59 Pl59 trivial rfl) rfl ?_
                  refine dgT rfl rfl rfl rfl (eqs rfl rfl G59 (fun w => eqID (o.ref) (⟨0, 0⟩) w)) rfl ?_
                  refine dgT rfl rfl rfl rfl (mv rfl) rfl ?_
                  refine dspl (fun hb => ?_) (fun hb => ?_)
                  · have h62 := (of_decide_eq_true hb)
                    clear hb
                    refine dgF rfl rfl rfl rfl rfl ?_
                    refine dgF rfl rfl rfl rfl rfl ?_
                    refine dgF rfl rfl rfl rfl rfl ?_
                    refine dgF rfl rfl rfl rfl rfl ?_
                    refine dgF rfl rfl rfl rfl rfl ?_
                    refine dgF rfl rfl rfl rfl rfl ?_
                    refine dgT rfl rfl rfl rfl (pkT rfl rfl) rfl ?_
                    refine dst rfl rfl (pkT rfl rfl) rfl ?_
                    refine dst rfl rfl (mv rfl) rfl ?_
                    refine dgT rfl rfl rfl rfl (fa (o3 := 2) F229_1 rfl rfl) rfl ?_
                    refine dgT rfl rfl rfl rfl (fa (o3 := 2) F59_0 rfl rfl) rfl ?_
                    refine dgT rfl rfl rfl rfl (w1 (lo1 T3 rfl rfl)) rfl ?_
                    refine dgT rfl rfl rfl rfl (fa (o3 := 0) F229_0 rfl rfl) rfl ?_
                    refine dgT rfl rfl rfl rfl (fa (o3 := 0) F59_0 rfl rfl) rfl ?_
                    refine dgT rfl rfl rfl rfl (w1 (lo1 T3 rfl rfl)) rfl ?_
                    refine dgT rfl rfl rfl rfl (lt rfl rfl) rfl ?_
                    refine dst rfl rfl (pkT rfl rfl) rfl ?_
                    refine dst rfl rfl (asg rfl) rfl ?_
                    refine dend rfl ?_
                    refine nl ?_
                    refine gr1 ?_
                    refine gr1 ?_
                    refine gr1 ?_
                    refine gr1 ?_
                    exact le0   ⟨(by first | (refine dF rfl ?_; rintro ⟨q1, q2, q3, q4, q5, q6, q7, q8, q9⟩; first | contradiction | omega | (rcases q8 with q8 | q8 <;> contradiction)) | (refine bE rfl (decide_eq_decide.2 ⟨fun hq => ⟨?_, ?_, ?_, ?_, ?_, ?_, ?_, ?_, ?_⟩, fun hq => ?_⟩) <;> first | assumption | omega | exact Or.inl (by assumption) | exact Or.inr (by assumption) | exact hq.2.2.2.2.2.2.2.2)), trivial⟩ hid
                  · have h62 := (of_decide_eq_false hb)
                    clear hb
                    refine dgT rfl rfl rfl rfl (fa (o3 := 2) F229_1 rfl rfl) rfl ?_
                    refine dgT rfl rfl rfl rfl (w1 (loa (vs := [_, _]) T59 rfl rfl rfl)) rfl ?_
                    refine dgT rfl rfl rfl rfl (cl0 C129 (fnc _) rfl (fun _ hw => After_c hw (by omega))) rfl ?_
                    refine dgT rfl rfl rfl rfl (fa (o3 := 2) F229_1 rfl rfl) rfl ?_
                    refine dgT rfl rfl rfl rfl (w1 (loa (vs := [_, _]) T59 rfl rfl rfl)) rfl ?_
                    refine dgT rfl rfl rfl rfl (eqs rfl rfl G59 (fun w => eqID (afterID o.ref 0) (o.ref) w)) rfl ?_
                    refine dgT rfl rfl rfl rfl (pkF rfl rfl) rfl ?_
                    refine dst rfl rfl (pkT rfl rfl) rfl ?_
                    refine dst rfl rfl (mv rfl) rfl ?_
                    refine dspl (fun hb => ?_) (fun hb => ?_)
                    · have h71 := (of_decide_eq_true hb)
                      clear hb
                      refine dgT rfl rfl rfl rfl (fa (o3 := 2) F229_1 rfl rfl) rfl ?_
                      refine dgT rfl rfl rfl rfl (fa (o3 := 2) F59_0 rfl rfl) rfl ?_
                      refine dgT rfl rfl rfl rfl (w1 (lo1 T3 rfl rfl)) rfl ?_
                      refine dgT rfl rfl rfl rfl (fa (o3 := 0) F229_0 rfl rfl) rfl ?_
                      refine dgT rfl rfl rfl rfl (fa (o3 := 0) F59_0 rfl rfl) rfl ?_
                      refine dgT rfl rfl rfl rfl (w1 (lo1 T3 rfl rfl)) rfl ?_
                      refine dgT rfl rfl rfl rfl (lt rfl rfl) rfl ?_
                      refine dst rfl rfl (pkT rfl rfl) rfl ?_
                      refine dst rfl rfl (asg rfl) rfl ?_
                      refine dend rfl ?_
                      refine nl ?_
                      refine gr1 ?_
                      refine gr1 ?_
                      refine gr1 ?_
                      refine gr1 ?_
                      exact le0   ⟨(by first | (refine dF rfl ?_; rintro ⟨q1, q2, q3, q4, q5, q6, q7, q8, q9⟩; first | contradiction | omega | (rcases q8 with q8 | q8 <;> contradiction)) | (refine bE rfl (decide_eq_decide.2 ⟨fun hq => ⟨?_, ?_, ?_, ?_, ?_, ?_, ?_, ?_, ?_⟩, fun hq => ?_⟩) <;> first | assumption | omega | exact Or.inl (by assumption) | exact Or.inr (by assumption) | exact hq.2.2.2.2.2.2.2.2)), trivial⟩ hid
                    · have h71 := (of_decide_eq_false hb)
                      clear hb
                      refine dgF rfl rfl rfl rfl rfl ?_
                      refine dgF rfl rfl rfl rfl rfl ?_
                      refine dgF rfl rfl rfl rfl rfl ?_
                      refine dgF rfl rfl rfl rfl rfl ?_
                      refine dgF rfl rfl rfl rfl rfl ?_
                      refine dgF rfl rfl rfl rfl rfl ?_
                      refine dgF rfl rfl rfl rfl rfl ?_
                      refine dst rfl rfl (pkF rfl rfl) rfl ?_
                      refine dst rfl rfl (asg rfl) rfl ?_
                      refine dend rfl ?_
                      refine nl ?_
                      refine gr1 ?_
                      refine gr1 ?_
                      refine gr1 ?_
                      refine gr1 ?_
                      exact le0   ⟨(by first | (refine dF rfl ?_; rintro ⟨q1, q2, q3, q4, q5, q6, q7, q8, q9⟩; first | contradiction | omega | (rcases q8 with q8 | q8 <;> contradiction)) | (refine bE rfl (decide_eq_decide.2 ⟨fun hq => ⟨?_, ?_, ?_, ?_, ?_, ?_, ?_, ?_, ?_⟩, fun hq => ?_⟩) <;> first | assumption | omega | exact Or.inl (by assumption) | exact Or.inr (by assumption) | exact hq.2.2.2.2.2.2.2.2)), trivial⟩ hid
                · have h57 := (of_decide_eq_true (nFT hb))
                  clear hb
                  refine dgF rfl rfl rfl rfl rfl ?_
                  refine dgF rfl rfl rfl rfl rfl ?_
                  refine dgF rfl rfl rfl rfl rfl ?_
                  refine dgF rfl rfl rfl rfl rfl ?_
                  refine dgF rfl rfl rfl rfl rfl ?_
                  refine dgU rfl rfl rfl rfl ?_
                  refine dgU rfl rfl rfl rfl ?_
                  refine dgU rfl rfl rfl rfl ?_
                  refine dgU rfl rfl rfl rfl ?_
                  refine dgU rfl rfl rfl rfl ?_
                  refine dgU rfl rfl rfl rfl ?_
                  refine dgF rfl rfl rfl rfl rfl ?_
                  refine dst rfl rfl (pkF rfl rfl) rfl ?_
                  refine dst rfl rfl (mv rfl) rfl ?_
                  refine dgF rfl rfl rfl rfl rfl ?_
                  refine dgF rfl rfl rfl rfl rfl ?_
                  refine dgF rfl rfl rfl rfl rfl ?_
                  refine dgF rfl rfl rfl rfl rfl ?_
                  refine dgF rfl rfl rfl rfl rfl ?_
                  refine dgF rfl rfl rfl rfl rfl ?_
                  refine dgF rfl rfl rfl rfl rfl ?_
                  refine dst rfl rfl (pkF rfl rfl) rfl ?_
                  refine dst rfl rfl (asg rfl) rfl ?_
                  refine dend rfl ?_
                  refine nl ?_
                  refine gr1 ?_
                  refine gr1 ?_
                  refine gr1 ?_
                  refine gr1 ?_
                  exact le0   ⟨(by first | (refine dF rfl ?_; rintro ⟨q1, q2, q3, q4, q5, q6, q7, q8, q9⟩; first | contradiction | omega | (rcases q8 with q8 | q8 <;> contradiction)) | (refine bE rfl (decide_eq_decide.2 ⟨fun hq => ⟨?_, ?_, ?_, ?_, ?_, ?_, ?_, ?_, ?_⟩, fun hq => ?_⟩) <;> first | assumption | omega | exact Or.inl (by assumption) | exact Or.inr (by assumption) | exact hq.2.2.2.2.2.2.2.2)), trivial⟩ hid
              · have h48 := (ne_of_beqF hb)
                clear hb
                refine dgF rfl rfl rfl rfl rfl ?_
                refine dgF rfl rfl rfl rfl rfl ?_
                refine dgF rfl rfl rfl rfl rfl ?_
                refine dgF rfl rfl rfl rfl rfl ?_
                refine dgF rfl rfl rfl rfl rfl ?_
                refine dgF rfl rfl rfl rfl rfl ?_
                refine dgF rfl rfl rfl rfl rfl ?_
                refine dst rfl rfl (pkF rfl rfl) rfl ?_
                refine dst rfl rfl (mv rfl) rfl ?_
                refine dgF rfl rfl rfl rfl rfl ?_
                refine dgF rfl rfl rfl rfl rfl ?_
                refine dgF rfl rfl rfl rfl rfl ?_
                refine dgF rfl rfl rfl rfl rfl ?_
                refine dgF rfl rfl rfl rfl rfl ?_
                refine dgU rfl rfl rfl rfl ?_
                refine dgU rfl rfl rfl rfl ?_
                refine dgU rfl rfl rfl rfl ?_
                refine dgU rfl rfl rfl rfl ?_
                refine dgU rfl rfl rfl rfl ?_
                refine dgU rfl rfl rfl rfl ?_
                refine dgF rfl rfl rfl rfl rfl ?_
                refine dst rfl rfl (pkF rfl rfl) rfl ?_
                refine dst rfl rfl (mv rfl) rfl ?_
                refine dgF rfl rfl rfl rfl rfl ?_
                refine dgF rfl rfl rfl rfl rfl ?_
                refine dgF rfl rfl rfl rfl rfl ?_
                refine dgF rfl rfl rfl rfl rfl ?_
                refine dgF rfl rfl rfl rfl rfl ?_
                refine dgF rfl rfl rfl rfl rfl ?_
                refine dgF rfl rfl rfl rfl rfl ?_
                refine dst rfl rfl (pkF rfl rfl) rfl ?_
                refine dst rfl rfl (asg rfl) rfl ?_
                refine dend rfl ?_
                refine nl ?_
                refine gr1 ?_
                refine gr1 ?_
                refine gr1 ?_
                refine gr1 ?_
                exact le0   ⟨(by first | (refine dF rfl ?_; rintro ⟨q1, q2, q3, q4, q5, q6, q7, q8, q9⟩; first | contradiction | omega | (rcases q8 with q8 | q8 <;> contradiction)) | (refine bE rfl (decide_eq_decide.2 ⟨fun hq => ⟨?_, ?_, ?_, ?_, ?_, ?_, ?_, ?_, ?_⟩, fun hq => ?_⟩) <;> first | assumption | omega | exact Or.inl (by assumption) | exact Or.inr (by assumption) | exact hq.2.2.2.2.2.2.2.2)), trivial⟩ hid
            · have h39 := (of_decide_eq_false hb)
              clear hb
              refine dgF rfl rfl rfl rfl rfl ?_
              refine dgF rfl rfl rfl rfl rfl ?_
              refine dgF rfl rfl rfl rfl rfl ?_
              refine dgF rfl rfl rfl rfl rfl ?_
              refine dgF rfl rfl rfl rfl rfl ?_
              refine dgF rfl rfl rfl rfl rfl ?_
              refine dgF rfl rfl rfl rfl rfl ?_
              refine dst rfl rfl (pkF rfl rfl) rfl ?_
              refine dst rfl rfl (mv rfl) rfl ?_
              refine dgF rfl rfl rfl rfl rfl ?_
              refine dgF rfl rfl rfl rfl rfl ?_
              refine dgF rfl rfl rfl rfl rfl ?_
              refine dgF rfl rfl rfl rfl rfl ?_
              refine dgF rfl rfl rfl rfl rfl ?_
              refine dgF rfl rfl rfl rfl rfl ?_
              refine dgF rfl rfl rfl rfl rfl ?_
              refine dst rfl rfl (pkF rfl rfl) rfl ?_
              refine dst rfl rfl (mv rfl) rfl ?_
              refine dgF rfl rfl rfl rfl rfl ?_
              refine dgF rfl rfl rfl rfl rfl ?_
              refine dgF rfl rfl rfl rfl rfl ?_
              refine dgF rfl rfl rfl rfl rfl ?_
              refine dgF rfl rfl rfl rfl rfl ?_
              refine dgU rfl rfl rfl rfl ?_
              refine dgU rfl rfl rfl rfl ?_
              refine dgU rfl rfl rfl rfl ?_
              refine dgU rfl rfl rfl rfl ?_
              refine dgU rfl rfl rfl rfl ?_
              refine dgU rfl rfl rfl rfl ?_
              refine dgF rfl rfl rfl rfl rfl ?_
              refine dst rfl rfl (pkF rfl rfl) rfl ?_
              refine dst rfl rfl (mv rfl) rfl ?_
              refine dgF rfl rfl rfl rfl rfl ?_
              refine dgF rfl rfl rfl rfl rfl ?_
              refine dgF rfl rfl rfl rfl rfl ?_
              refine dgF rfl rfl rfl rfl rfl ?_
              refine dgF rfl rfl rfl rfl rfl ?_
              refine dgF rfl rfl rfl rfl rfl ?_
              refine dgF rfl rfl rfl rfl rfl ?_
              refine dst rfl rfl (pkF rfl rfl) rfl ?_
              refine dst rfl rfl (asg rfl) rfl ?_
              refine dend rfl ?_
              refine nl ?_
              refine gr1 ?_
              refine gr1 ?_
              refine gr1 ?_
              refine gr1 ?_
              exact le0   ⟨(by first | (refine dF rfl ?_; rintro ⟨q1, q2, q3, q4, q5, q6, q7, q8, q9⟩; first | contradiction | omega | (rcases q8 with q8 | q8 <;> contradiction)) | (refine bE rfl (decide_eq_decide.2 ⟨fun hq => ⟨?_, ?_, ?_, ?_, ?_, ?_, ?_, ?_, ?_⟩, fun hq => ?_⟩) <;> first | assumption | omega | exact Or.inl (by assumption) | exact Or.inr (by assumption) | exact hq.2.2.2.2.2.2.2.2)), trivial⟩ hid
          · have h33 := (of_decide_eq_false hb)
            clear hb
            refine dgF rfl rfl rfl rfl rfl ?_
            refine dgF rfl rfl rfl rfl rfl ?_
            refine dgF rfl rfl rfl rfl rfl ?_
            refine dgF rfl rfl rfl rfl rfl ?_
            refine dst rfl rfl (pkF rfl rfl) rfl ?_
            refine dst rfl rfl (mv rfl) rfl ?_
            refine dgF rfl rfl rfl rfl rfl ?_
            refine dgF rfl rfl rfl rfl rfl ?_
            refine dgF rfl rfl rfl rfl rfl ?_
            refine dgF rfl rfl rfl rfl rfl ?_
            refine dgF rfl rfl rfl rfl rfl ?_
            refine dgF rfl rfl rfl rfl rfl ?_
            refine dgF rfl rfl rfl rfl rfl ?_
            refine dst rfl rfl (pkF rfl rfl) rfl ?_
            refine dst rfl rfl (mv rfl) rfl ?_
            refine dgF rfl rfl rfl rfl rfl ?_
            refine dgF rfl rfl rfl rfl rfl ?_
            refine dgF rfl rfl rfl rfl rfl ?_
            refine dgF rfl rfl rfl rfl rfl ?_
            refine dgF rfl rfl rfl rfl rfl ?_
            refine dgF rfl rfl rfl rfl rfl ?_
            refine dgF rfl rfl rfl rfl rfl ?_
            refine dst rfl rfl (pkF rfl rfl) rfl ?_
            refine dst rfl rfl (mv rfl) rfl ?_
            refine dgF rfl rfl rfl rfl rfl ?_
            refine dgF rfl rfl rfl rfl rfl ?_
            refine dgF rfl rfl rfl rfl rfl ?_
            refine dgF rfl rfl rfl rfl rfl ?_
            refine dgF rfl rfl rfl rfl rfl ?_
            refine dgU rfl rfl rfl rfl ?_
            refine dgU rfl rfl rfl rfl ?_
            refine dgU rfl rfl rfl rfl ?_
            refine dgU rfl rfl rfl rfl ?_
            refine dgU rfl rfl rfl rfl ?_
            refine dgU rfl rfl rfl rfl ?_
            refine dgF rfl rfl rfl rfl rfl ?_
            refine dst rfl rfl (pkF rfl rfl) rfl ?_
            refine dst rfl rfl (mv rfl) rfl ?_
            refine dgF rfl rfl rfl rfl rfl ?_
            refine dgF rfl rfl rfl rfl rfl ?_
            refine dgF rfl rfl rfl rfl rfl ?_
            refine dgF rfl rfl rfl rfl rfl ?_
            refine dgF rfl rfl rfl rfl rfl ?_
            refine dgF rfl rfl rfl rfl rfl ?_
            refine dgF rfl rfl rfl rfl rfl ?_
            refine dst rfl rfl (pkF rfl rfl) rfl ?_
            refine dst rfl rfl (asg rfl) rfl ?_
            refine dend rfl ?_
            refine nl ?_
            refine gr1 ?_
            refine gr1 ?_
            refine gr1 ?_
            refine gr1 ?_
            exact le0   ⟨(by first | (refine dF rfl ?_; rintro ⟨q1, q2, q3, q4, q5, q6, q7, q8, q9⟩; first | contradiction | omega | (rcases q8 with q8 | q8 <;> contradiction)) | (refine bE rfl (decide_eq_decide.2 ⟨fun hq => ⟨?_, ?_, ?_, ?_, ?_, ?_, ?_, ?_, ?_⟩, fun hq => ?_⟩) <;> first | assumption | omega | exact Or.inl (by assumption) | exact Or.inr (by assumption) | exact hq.2.2.2.2.2.2.2.2)), trivial⟩ hid
        · have h29 := (of_decide_eq_false hb)
          clear hb
          refine dgF rfl rfl rfl rfl rfl ?_
          refine dgF rfl rfl rfl rfl rfl ?_
          refine dst rfl rfl (pkF rfl rfl) rfl ?_
          refine dst rfl rfl (mv rfl) rfl ?_
          refine dgF rfl rfl rfl rfl rfl ?_
          refine dgF rfl rfl rfl rfl rfl ?_
          refine dgF rfl rfl rfl rfl rfl ?_
          refine dgF rfl rfl rfl rfl rfl ?_
          refine dst rfl rfl (pkF rfl rfl) rfl ?_
          refine dst rfl rfl (mv rfl) rfl ?_
          refine dgF rfl rfl rfl rfl rfl ?_
          refine dgF rfl rfl rfl rfl rfl ?_
          refine dgF rfl rfl rfl rfl rfl ?_
          refine dgF rfl rfl rfl rfl rfl ?_
          refine dgF rfl rfl rfl rfl rfl ?_
          refine dgF rfl rfl rfl rfl rfl ?_
          refine dgF rfl rfl rfl rfl rfl ?_
          refine dst rfl rfl (pkF rfl rfl) rfl ?_
          refine dst rfl rfl (mv rfl) rfl ?_
          refine dgF rfl rfl rfl rfl rfl ?_
          refine dgF rfl rfl rfl rfl rfl ?_
          refine dgF rfl rfl rfl rfl rfl ?_
          refine dgF rfl rfl rfl rfl rfl ?_
          refine dgF rfl rfl rfl rfl rfl ?_
          refine dgF rfl rfl rfl rfl rfl ?_
          refine dgF rfl rfl rfl rfl rfl ?_
          refine dst rfl rfl (pkF rfl rfl) rfl ?_
          refine dst rfl rfl (mv rfl) rfl ?_
          refine dgF rfl rfl rfl rfl rfl ?_
          refine dgF rfl rfl rfl rfl rfl ?_
          refine dgF rfl rfl rfl rfl rfl ?_
          refine dgF rfl rfl rfl rfl rfl ?_
          refine dgF rfl rfl rfl rfl rfl ?_
          refine dgU rfl rfl rfl rfl ?_
          refine dgU rfl rfl rfl rfl ?_
          refine dgU rfl rfl rfl rfl ?_
          refine dgU rfl rfl rfl rfl ?_
          refine dgU rfl rfl rfl rfl ?_
          refine dgU rfl rfl rfl rfl ?_
          refine dgF rfl rfl rfl rfl rfl ?_
          refine dst rfl rfl (pkF rfl rfl) rfl ?_
          refine dst rfl rfl (mv rfl) rfl ?_
          refine dgF rfl rfl rfl rfl rfl ?_
          refine dgF rfl rfl rfl rfl rfl ?_
          refine dgF rfl rfl rfl rfl rfl ?_
          refine dgF rfl rfl rfl rfl rfl ?_
          refine dgF rfl rfl rfl rfl rfl ?_
          refine dgF rfl rfl rfl rfl rfl ?_
          refine dgF rfl rfl rfl rfl rfl ?_
          refine dst rfl rfl (pkF rfl rfl) rfl ?_
          refine dst rfl rfl (asg rfl) rfl ?_
          refine dend rfl ?_
          refine nl ?_
          refine gr1 ?_
          refine gr1 ?_
          refine gr1 ?_
          refine gr1 ?_
          exact le0   ⟨(by first | (refine dF rfl ?_; rintro ⟨q1, q2, q3, q4, q5, q6, q7, q8, q9⟩; first | contradiction | omega | (rcases q8 with q8 | q8 <;> contradiction)) | (refine bE rfl (decide_eq_decide.2 ⟨fun hq => ⟨?_, ?_, ?_, ?_, ?_, ?_, ?_, ?_, ?_⟩, fun hq => ?_⟩) <;> first | assumption | omega | exact Or.inl (by assumption) | exact Or.inr (by assumption) | exact hq.2.2.2.2.2.2.2.2)), trivial⟩ hid
      · have h25 := (of_decide_eq_false hb)
        clear hb
        refine dgF rfl rfl rfl rfl rfl ?_
        refine dgF rfl rfl rfl rfl rfl ?_
        refine dst rfl rfl (pkF rfl rfl) rfl ?_
        refine dst rfl rfl (mv rfl) rfl ?_
        refine dgF rfl rfl rfl rfl rfl ?_
        refine dgF rfl rfl rfl rfl rfl ?_
        refine dst rfl rfl (pkF rfl rfl) rfl ?_
        refine dst rfl rfl (mv rfl) rfl ?_
        refine dgF rfl rfl rfl rfl rfl ?_
        refine dgF rfl rfl rfl rfl rfl ?_
        refine dgF rfl rfl rfl rfl rfl ?_
        refine dgF rfl rfl rfl rfl rfl ?_
        refine dst rfl rfl (pkF rfl rfl) rfl ?_
        refine dst rfl rfl (mv rfl) rfl ?_
        refine dgF rfl rfl rfl rfl rfl ?_
        refine dgF rfl rfl rfl rfl rfl ?_
        refine dgF rfl rfl rfl rfl rfl ?_
        refine dgF rfl rfl rfl rfl rfl ?_
        refine dgF rfl rfl rfl rfl rfl ?_
        refine dgF rfl rfl rfl rfl rfl ?_
        refine dgF rfl rfl rfl rfl rfl ?_
        refine dst rfl rfl (pkF rfl rfl) rfl ?_
        refine dst rfl rfl (mv rfl) rfl ?_
        refine dgF rfl rfl rfl rfl rfl ?_
        refine dgF rfl rfl rfl rfl rfl ?_
        refine dgF rfl rfl rfl rfl rfl ?_
        refine dgF rfl rfl rfl rfl rfl ?_
        refine dgF rfl rfl rfl rfl rfl ?_
        refine dgF rfl rfl rfl rfl rfl ?_
        refine dgF rfl rfl rfl rfl rfl ?_
        refine dst rfl rfl (pkF rfl rfl) rfl ?_
        refine dst rfl rfl (mv rfl) rfl ?_
        refine dgF rfl rfl rfl rfl rfl ?_
        refine dgF rfl rfl rfl rfl rfl ?_
        refine dgF rfl rfl rfl rfl rfl ?_
        refine dgF rfl rfl rfl rfl rfl ?_
        refine dgF rfl rfl rfl rfl rfl ?_
        refine dgU rfl rfl rfl rfl ?_
        refine dgU rfl rfl rfl rfl ?_
        refine dgU rfl rfl rfl rfl ?_
        refine dgU rfl rfl rfl rfl ?_
        refine dgU rfl rfl rfl rfl ?_
        refine dgU rfl rfl rfl rfl ?_
        refine dgF rfl rfl rfl rfl rfl ?_
        refine dst rfl rfl (pkF rfl rfl) rfl ?_
        refine dst rfl rfl (mv rfl) rfl ?_
        refine dgF rfl rfl rfl rfl rfl ?_
        refine dgF rfl rfl rfl rfl rfl ?_
        refine dgF rfl rfl rfl rfl rfl ?_
        refine dgF rfl rfl rfl rfl rfl ?_
        refine dgF rfl rfl rfl rfl rfl ?_
        refine dgF rfl rfl rfl rfl rfl ?_
        refine dgF rfl rfl rfl rfl rfl ?_
        refine dst rfl rfl (pkF rfl rfl) rfl ?_
        refine dst rfl rfl (asg rfl) rfl ?_
        refine dend rfl ?_
        refine nl ?_
        refine gr1 ?_
        refine gr1 ?_
        refine gr1 ?_
        refine gr1 ?_
        exact le0   ⟨(by first | (refine dF rfl ?_; rintro ⟨q1, q2, q3, q4, q5, q6, q7, q8, q9⟩; first | contradiction | omega | (rcases q8 with q8 | q8 <;> contradiction)) | (refine bE rfl (decide_eq_decide.2 ⟨fun hq => ⟨?_, ?_, ?_, ?_, ?_, ?_, ?_, ?_, ?_⟩, fun hq => ?_⟩) <;> first | assumption | omega | exact Or.inl (by assumption) | exact Or.inr (by assumption) | exact hq.2.2.2.2.2.2.2.2)), trivial⟩ hid
    · have h13 := (ne_of_beqF hb)
      clear hb
      refine dgF rfl rfl rfl rfl rfl ?_
      refine dgF rfl rfl rfl rfl rfl ?_
      refine dgF rfl rfl rfl rfl rfl ?_
      refine dgF rfl rfl rfl rfl rfl ?_
      refine dgF rfl rfl rfl rfl rfl ?_
      refine dgF rfl rfl rfl rfl rfl ?_
      refine dgF rfl rfl rfl rfl rfl ?_
      refine dgF rfl rfl rfl rfl rfl ?_
      refine dgF rfl rfl rfl rfl rfl ?_
      refine dgF rfl rfl rfl rfl rfl ?_
      refine dst rfl rfl (pkF rfl rfl) rfl ?_
      refine dst rfl rfl (mv rfl) rfl ?_
      refine dgF rfl rfl rfl rfl rfl ?_
      refine dgF rfl rfl rfl rfl rfl ?_
      refine dst rfl rfl (pkF rfl rfl) rfl ?_
      refine dst rfl rfl (mv rfl) rfl ?_
      refine dgF rfl rfl rfl rfl rfl ?_
      refine dgF rfl rfl rfl rfl rfl ?_
      refine dst rfl rfl (pkF rfl rfl) rfl ?_
      refine dst rfl rfl (mv rfl) rfl ?_
      refine dgF rfl rfl rfl rfl rfl ?_
      refine dgF rfl rfl rfl rfl rfl ?_
      refine dgF rfl rfl rfl rfl rfl ?_
      refine dgF rfl rfl rfl rfl rfl ?_
      refine dst rfl rfl (pkF rfl rfl) rfl ?_
      refine dst rfl rfl (mv rfl) rfl ?_
      refine dgF rfl rfl rfl rfl rfl ?_
      refine dgF rfl rfl rfl rfl rfl ?_
      refine dgF rfl rfl rfl rfl rfl ?_
      refine dgF rfl rfl rfl rfl rfl ?_
      refine dgF rfl rfl rfl rfl rfl ?_
      refine dgF rfl rfl rfl rfl rfl ?_
      refine dgF rfl rfl rfl rfl rfl ?_
      refine dst rfl rfl (pkF rfl rfl) rfl ?_
      refine dst rfl rfl (mv rfl) rfl ?_
      refine dgF rfl rfl rfl rfl rfl ?_
      refine dgF rfl rfl rfl rfl rfl ?_
      refine dgF rfl rfl rfl rfl rfl ?_
      refine dgF rfl rfl rfl rfl rfl ?_
      refine dgF rfl rfl rfl rfl rfl ?_
      refine dgF rfl rfl rfl rfl rfl ?_
      refine dgF rfl rfl rfl rfl rfl ?_
      refine dst rfl rfl (pkF rfl rfl) rfl ?_
      refine dst rfl rfl (mv rfl) rfl ?_
      refine dgF rfl rfl rfl rfl rfl ?_
      refine dgF rfl rfl rfl rfl rfl ?_
      refine dgF rfl rfl rfl rfl rfl ?_
      refine dgF rfl rfl rfl rfl rfl ?_
      refine dgF rfl rfl rfl rfl rfl ?_
      refine dgU rfl rfl rfl rfl ?_
      refine dgU rfl rfl rfl rfl ?_
      refine dgU rfl rfl rfl rfl ?_
      refine dgU rfl rfl rfl rfl ?_
      refine dgU rfl rfl rfl rfl ?_
      refine dgU rfl rfl rfl rfl ?_
      refine dgF rfl rfl rfl rfl rfl ?_
      refine dst rfl rfl (pkF rfl rfl) rfl ?_
      refine dst rfl rfl (mv rfl) rfl ?_
      refine dgF rfl rfl rfl rfl rfl ?_
      refine dgF rfl rfl rfl rfl rfl ?_
      refine dgF rfl rfl rfl rfl rfl ?_
      refine dgF rfl rfl rfl rfl rfl ?_
      refine dgF rfl rfl rfl rfl rfl ?_
      refine dgF rfl rfl rfl rfl rfl ?_
      refine dgF rfl rfl rfl rfl rfl ?_
      refine dst rfl rfl (pkF rfl rfl) rfl ?_
      refine dst rfl rfl (asg rfl) rfl ?_
      refine dend rfl ?_
      refine nl ?_
      refine gr1 ?_
      refine gr1 ?_
      refine gr1 ?_
      refine gr1 ?_
      exact le0   ⟨(by first | (refine dF rfl ?_; rintro ⟨q1, q2, q3, q4, q5, q6, q7, q8, q9⟩; first | contradiction | omega | (rcases q8 with q8 | q8 <;> contradiction)) | (refine bE rfl (decide_eq_decide.2 ⟨fun hq => ⟨?_, ?_, ?_, ?_, ?_, ?_, ?_, ?_, ?_⟩, fun hq => ?_⟩) <;> first | assumption | omega | exact Or.inl (by assumption) | exact Or.inr (by assumption) | exact hq.2.2.2.2.2.2.2.2)), trivial⟩ hid
  refine rt ?_
  exact ret1 rfl rfl (by first | rfl | exact trivial) o0

theorem whatNil {r : Option Nat} {N : Nat} {M : Mem} {w0 : World} {o0 : Own} {l : Env} {h : List Own} {ty : TypeId} {pos : String} {af : Array Edge} {g : Option (Nat × Bool)} {dst : Option Tmp} {o : Op'} {DD GG : Value} {x : Operand} {t' : TypeId} (hx : ev l x = some (whatV o GG)) : OpV ⟨prog, r, N, M, w0, o0⟩ ⟨dst, .binOp .eql 197 x (.const .nilIface) t', ty, pos, af, g⟩ l h (.bool (decide ¬ (1 ≤ o.kind ∧ o.kind ≤ 4))) := by
  have key : ∀ (v : Value) (b : Bool), ev l x = some v → (match v with | .iface _ _ => some false | .nilIface => some true | _ => none) = some b → b = decide ¬ (1 ≤ o.kind ∧ o.kind ≤ 4) → OpV ⟨prog, r, N, M, w0, o0⟩ ⟨dst, .binOp .eql 197 x (.const .nilIface) t', ty, pos, af, g⟩ l h (.bool (decide ¬ (1 ≤ o.kind ∧ o.kind ≤ 4))) := by
    intro v b h1 h2 h3
    rw [← h3]
    refine eqv (c := ⟨prog, r, N, M, w0, o0⟩) h1 rfl (by cases v <;> first | rfl | cases h2) (fun w => gd_if (by cases v <;> first | rfl | cases h2) w) (fun w => eq_if' IF197 h2 w)
  unfold whatV at hx
  by_cases h1 : o.kind = 1
  · rw [if_pos h1] at hx; exact key _ false hx rfl (by rw [eq_comm, decide_eq_false_iff_not]; omega)
  rw [if_neg h1] at hx
  by_cases h2 : o.kind = 2
  · rw [if_pos h2] at hx; exact key _ false hx rfl (by rw [eq_comm, decide_eq_false_iff_not]; omega)
  rw [if_neg h2] at hx
  by_cases h3 : o.kind = 3
  · rw [if_pos h3] at hx; exact key _ false hx rfl (by rw [eq_comm, decide_eq_false_iff_not]; omega)
  rw [if_neg h3] at hx
  by_cases h4 : o.kind = 4
  · rw [if_pos h4] at hx; exact key _ false hx rfl (by rw [eq_comm, decide_eq_false_iff_not]; omega)
  rw [if_neg h4] at hx
  exact key _ true hx rfl (by rw [eq_comm, decide_eq_true_iff]; omega)
theorem whatRight {r : Option Nat} {N : Nat} {M : Mem} {w0 : World} {o0 : Own} {l : Env} {h : List Own} {ty : TypeId} {pos : String} {af : Array Edge} {g : Option (Nat × Bool)} {dst : Option Tmp} {o : Op'} {DD GG : Value} {x : Operand} {xs : Array Operand} {tys : Array TypeId} (hk : 1 ≤ o.kind ∧ o.kind ≤ 4) (hx : ev l x = some (whatV o GG)) (hy : evs l xs.toList = some [.agg #[.int .i64 o.dot.site, .int .i64 o.dot.seq, DD, .int .i64 o.kind, .int .i64 o.id.time, .int .i64 o.id.site, .int .i64 o.ref.time, .int .i64 o.ref.site, .string o.text, GG, .int .i64 o.site]]) (hD : Sl (Hm M h) 2 RDot DD o.deps) (hG : Sl (Hm M h) 3 RRun GG o.gone) (ho : wfOp o) : OpV ⟨prog, r, N, M, w0, o0⟩ ⟨dst, .call { callee := .invoke x "hearsay/op.right", args := xs, argTypes := tys }, ty, pos, af, g⟩ l h (.bool (decide (rightOK o))) := by
  unfold whatV at hx
  by_cases h1 : o.kind = 1
  · rw [if_pos h1] at hx
    have e : rightOK o = insOK o := by unfold rightOK; rw [if_pos h1]
    simp only [e]
    exact cli0 (c := ⟨prog, r, N, M, w0, o0⟩) C218 M229 hx hy (fun w hw => insert_c hw hD hG ho)
  rw [if_neg h1] at hx
  by_cases h2 : o.kind = 2
  · rw [if_pos h2] at hx
    have e : rightOK o = remOK o := by unfold rightOK; rw [if_neg h1, if_pos h2]
    simp only [e]
    exact cli0 (c := ⟨prog, r, N, M, w0, o0⟩) C223 M231 hx hy (fun w hw => remove_c hw hD hG ho)
  rw [if_neg h2] at hx
  by_cases h3 : o.kind = 3
  · rw [if_pos h3] at hx
    have e : rightOK o = joinOK o := by unfold rightOK; rw [if_neg h1, if_neg h2, if_pos h3]
    simp only [e]
    exact cli0 (c := ⟨prog, r, N, M, w0, o0⟩) C229 M233 hx hy (fun w hw => join_c hw hD hG ho)
  rw [if_neg h3] at hx
  have h4 : o.kind = 4 := by omega
  rw [if_pos h4] at hx
  have e : rightOK o = leaveOK o := by unfold rightOK; rw [if_neg h1, if_neg h2, if_neg h3]
  simp only [e]
  exact cli0 (c := ⟨prog, r, N, M, w0, o0⟩) C233 M235 hx hy (fun w hw => leave_c hw hD hG ho)

set_option maxRecDepth 20000 in
theorem chkOp_c {M : Mem} {w : World} {o : Op'} {DD GG : Value} (hM : RO M [] w) (hD : Sl M 2 RDot DD o.deps) (hG : Sl M 3 RRun GG o.gone) (ho : wfOp o) : FnC prog 79 [.agg #[.int .i64 o.dot.site, .int .i64 o.dot.seq, DD, .int .i64 o.kind, .int .i64 o.id.time, .int .i64 o.id.site, .int .i64 o.ref.time, .int .i64 o.ref.site, .string o.text, GG, .int .i64 o.site]] w [] (fun u _ => u = .int .i64 (chkOp o)) := by
  have ho' := ho
  obtain ⟨⟨of1, of2, of3, of4⟩, ⟨⟨of5, of6⟩, of7, of8⟩, of9⟩ := ho'
  refine enter (code := _) func79 rfl 44 rfl rfl hM [] rfl [(0, _)] ⟨rfl, trivial⟩ ?_
  refine sq ?_
  refine rg ?_
  refine bx (z := [_, _, _, _, _, _, _, _, _, _, _]) rfl rfl rfl ?_; intro b0_0
  refine st (asg rfl) rfl ?_
  refine nl ?_
  refine nS ?_
  refine sq ?_
  refine rg ?_
  refine st (loa (vs := [_, _, _, _, _, _, _, _, _, _, _]) T62 rfl rfl rfl) rfl ?_
  refine st (cl0 C119 (fnc _) rfl (fun _ hw => opof_c (o := o) hw (hG.mono mRun Hm.m))) rfl ?_
  refine st (asg rfl) rfl ?_
  refine nl ?_
  refine nS ?_
  refine sq ?_
  refine bk ?_
  refine sq ?_
  refine sq ?_
  refine rg ?_
  refine st (mv rfl) rfl ?_
  refine st (whatNil (o := o) (DD := DD) (GG := GG) rfl) rfl ?_
  refine st (asg rfl) rfl ?_
  refine nl ?_
  refine nS ?_
  refine cdS rfl (fun hb => ?_) (fun hb => ?_)
  · have h6 := (of_decide_eq_true hb)
    clear hb
    refine sk ?_
    refine nS ?_
    refine cdT rfl ?_
    refine sq ?_
    refine rg ?_
    refine st (asg rfl) rfl ?_
    refine nl ?_
    refine nS ?_
    refine rt ?_
    refine rB ?_
    refine rS ?_
    exact ret1 rfl rfl (by show Value.int _ _ = _; rw [chkOp, if_neg (by rintro ⟨q1, q2, q3, q4, q5, q6, q7, q8⟩; first | contradiction | omega)]) o0
  · have h6 := (of_decide_eq_false hb)
    clear hb
    refine sq ?_
    refine rg ?_
    refine st (fa (o3 := 0) F62_0 rfl rfl) rfl ?_
    refine st (fa (o3 := 0) F29_0 rfl rfl) rfl ?_
    refine st (lo1 T3 rfl rfl) rfl ?_
    refine st (lt rfl rfl) rfl ?_
    refine st (asg rfl) rfl ?_
    refine nl ?_
    refine nS ?_
    refine cdS rfl (fun hb => ?_) (fun hb => ?_)
    · have h6 := (of_decide_eq_true hb)
      clear hb
      refine sk ?_
      refine nS ?_
      refine cdT rfl ?_
      refine sq ?_
      refine rg ?_
      refine st (asg rfl) rfl ?_
      refine nl ?_
      refine nS ?_
      refine rt ?_
      refine rB ?_
      refine rS ?_
      exact ret1 rfl rfl (by show Value.int _ _ = _; rw [chkOp, if_neg (by rintro ⟨q1, q2, q3, q4, q5, q6, q7, q8⟩; first | contradiction | omega)]) o0
    · have h6 := (of_decide_eq_false hb)
      clear hb
      refine sq ?_
      refine rg ?_
      refine st (fa (o3 := 0) F62_0 rfl rfl) rfl ?_
      refine st (fa (o3 := 0) F29_0 rfl rfl) rfl ?_
      refine st (lo1 T3 rfl rfl) rfl ?_
      refine st (gt rfl rfl) rfl ?_
      refine st (asg rfl) rfl ?_
      refine nl ?_
      refine nS ?_
      refine cdS rfl (fun hb => ?_) (fun hb => ?_)
      · have h6 := (of_decide_eq_true hb)
        clear hb
        refine sk ?_
        refine nS ?_
        refine cdT rfl ?_
        refine sq ?_
        refine rg ?_
        refine st (asg rfl) rfl ?_
        refine nl ?_
        refine nS ?_
        refine rt ?_
        refine rB ?_
        refine rS ?_
        exact ret1 rfl rfl (by show Value.int _ _ = _; rw [chkOp, if_neg (by rintro ⟨q1, q2, q3, q4, q5, q6, q7, q8⟩; first | contradiction | omega)]) o0
      · have h6 := (of_decide_eq_false hb)
        clear hb
        refine sq ?_
        refine rg ?_
        refine st (fa (o3 := 0) F62_0 rfl rfl) rfl ?_
        refine st (fa (o3 := 1) F29_1 rfl rfl) rfl ?_
        refine st (lo1 T3 rfl rfl) rfl ?_
        refine st (lt rfl rfl) rfl ?_
        refine st (asg rfl) rfl ?_
        refine nl ?_
        refine nS ?_
        refine cdS rfl (fun hb => ?_) (fun hb => ?_)
        · have h6 := (of_decide_eq_true hb)
          clear hb
          refine sk ?_
          refine nS ?_
          refine cdT rfl ?_
          refine sq ?_
          refine rg ?_
          refine st (asg rfl) rfl ?_
          refine nl ?_
          refine nS ?_
          refine rt ?_
          refine rB ?_
          refine rS ?_
          exact ret1 rfl rfl (by show Value.int _ _ = _; rw [chkOp, if_neg (by rintro ⟨q1, q2, q3, q4, q5, q6, q7, q8⟩; first | contradiction | omega)]) o0
        · have h6 := (of_decide_eq_false hb)
          clear hb
          refine sq ?_
          refine rg ?_
          refine st (fa (o3 := 0) F62_0 rfl rfl) rfl ?_
          refine st (fa (o3 := 1) F29_1 rfl rfl) rfl ?_
          refine st (lo1 T3 rfl rfl) rfl ?_
          refine st (gt rfl rfl) rfl ?_
          refine st (asg rfl) rfl ?_
          refine nl ?_
          refine nS ?_
          refine cdS rfl (fun hb => ?_) (fun hb => ?_)
          · have h6 := (of_decide_eq_true hb)
            clear hb
            refine sk ?_
            refine nS ?_
            refine cdT rfl ?_
            refine sq ?_
            refine rg ?_
            refine st (asg rfl) rfl ?_
            refine nl ?_
            refine nS ?_
            refine rt ?_
            refine rB ?_
            refine rS ?_
            exact ret1 rfl rfl (by show Value.int _ _ = _; rw [chkOp, if_neg (by rintro ⟨q1, q2, q3, q4, q5, q6, q7, q8⟩; first | contradiction | omega)]) o0
          · have h6 := (of_decide_eq_false hb)
            clear hb
            refine sq ?_
            refine rg ?_
            refine st (fa (o3 := 2) F62_1 rfl rfl) rfl ?_
            refine st (lo1 T24 rfl rfl) rfl ?_
            refine st (cl0 C47 (fnc _) rfl (fun _ hw => Check_c hw (hD.mono mDot Hm.m))) rfl ?_
            refine st (ne rfl rfl) rfl ?_
            refine st (asg rfl) rfl ?_
            refine nl ?_
            refine nS ?_
            refine cdS rfl (fun hb => ?_) (fun hb => ?_)
            · have h6 := (ne_of_bneT hb)
              clear hb
              refine sk ?_
              refine nS ?_
              refine cdT rfl ?_
              refine sq ?_
              refine rg ?_
              refine st (asg rfl) rfl ?_
              refine nl ?_
              refine nS ?_
              refine rt ?_
              refine rB ?_
              refine rS ?_
              exact ret1 rfl rfl (by show Value.int _ _ = _; rw [chkOp, if_neg (by rintro ⟨q1, q2, q3, q4, q5, q6, q7, q8⟩; first | contradiction | omega)]) o0
            · have h6 := (eq_of_bneF hb)
              clear hb
              refine sq ?_
              refine rgd rfl [0, 1, 2, 3, 4, 5, 6, 7, 8, 9, 10, 11] [] [] [] (by kernel_rfl) ?_
              refine dst rfl rfl (fa (o3 := 2) F62_1 rfl rfl) rfl ?_
              refine dst rfl rfl (lo1 T24 rfl rfl) rfl ?_
              refine dst rfl rfl (fa (o3 := 0) F62_0 rfl rfl) rfl ?_
              refine dst rfl rfl (fa (o3 := 0) F29_0 rfl rfl) rfl ?_
              refine dst rfl rfl (lo1 T3 rfl rfl) rfl ?_
              refine dst rfl rfl (cl0 C85 (fnc _) rfl (fun _ hw => Get_c hw (hD.mono mDot Hm.m))) rfl ?_
              refine dst rfl rfl (fa (o3 := 0) F62_0 rfl rfl) rfl ?_
              refine dst rfl rfl (fa (o3 := 1) F29_1 rfl rfl) rfl ?_
              refine dst rfl rfl (lo1 T3 rfl rfl) rfl ?_
              refine dst rfl rfl (sb rfl rfl (by omega)) rfl ?_
              refine dst rfl rfl (ne rfl rfl) rfl ?_
              refine dst rfl rfl (asg rfl) rfl ?_
              refine dend rfl ?_
              refine nl ?_
              refine nS ?_
              refine cdS rfl (fun hb => ?_) (fun hb => ?_)
              · have h6 := (ne_of_bneT hb)
                clear hb
                refine sk ?_
                refine nS ?_
                refine cdT rfl ?_
                refine sq ?_
                refine rg ?_
                refine st (asg rfl) rfl ?_
                refine nl ?_
                refine nS ?_
                refine rt ?_
                refine rB ?_
                refine rS ?_
                exact ret1 rfl rfl (by show Value.int _ _ = _; rw [chkOp, if_neg (by rintro ⟨q1, q2, q3, q4, q5, q6, q7, q8⟩; first | contradiction | omega)]) o0
              · have h6 := (eq_of_bneF hb)
                clear hb
                refine rg ?_
                refine st (mv rfl) rfl ?_
                refine st (loa (vs := [_, _, _, _, _, _, _, _, _, _, _]) T62 rfl rfl rfl) rfl ?_
                refine st (whatRight (o := o) (DD := DD) (GG := GG) (by omega) rfl rfl (hD.mono mDot Hm.m) (hG.mono mRun Hm.m) ho) rfl ?_
                refine st (nt rfl) rfl ?_
                refine st (asg rfl) rfl ?_
                refine nl ?_
                refine nS ?_
                refine cd rfl (fun hb => ?_) (fun hb => ?_)
                · have h6 := (of_decide_eq_false (nTF hb))
                  clear hb
                  refine sq ?_
                  refine rg ?_
                  refine st (asg rfl) rfl ?_
                  refine nl ?_
                  refine nS ?_
                  refine rt ?_
                  refine rB ?_
                  refine rS ?_
                  exact ret1 rfl rfl (by show Value.int _ _ = _; rw [chkOp, if_neg (by rintro ⟨q1, q2, q3, q4, q5, q6, q7, q8⟩; first | contradiction | omega)]) o0
                · have h6 := (of_decide_eq_true (nFT hb))
                  clear hb
                  refine sk ?_
                  refine nB ?_
                  refine nS ?_
                  refine sq ?_
                  refine rg ?_
                  refine st (asg rfl) rfl ?_
                  refine nl ?_
                  refine nS ?_
                  refine rt ?_
                  exact ret1 rfl rfl (by show Value.int _ _ = _; rw [chkOp, if_pos ⟨by omega, by omega, by omega, by omega, by omega, by omega, by omega, by assumption⟩]) o0
end Go.W
