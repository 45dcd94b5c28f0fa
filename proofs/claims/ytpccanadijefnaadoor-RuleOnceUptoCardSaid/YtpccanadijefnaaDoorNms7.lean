/- 'RuleNormals' walked. No condition. -/
import Derived.Test.YtpccanadijefnaaDoorSeq7
import Derived.Test.YtpccanadijefnaaDoorNorm7
import Derived.Test.YtpccanadijefnaaDoorAlv7
namespace Go.Proofs.YtpccanadijefnaaDoor
open Go Go.RowKit
/-- What Normal answers. -/
def NrmOut (xs ys : List T3) (r : Int) : Prop :=
  (allR xs ≠ 0 ∧ r = allR xs ∧ ys = []) ∨ (allR xs = 0 ∧ ∃ zs, Nrm xs zs ∧ zs.length ≤ xs.length ∧ ((4096 < zs.length ∧ r = 6 ∧ ys = []) ∨ (zs.length ≤ 4096 ∧ r = 0 ∧ ys = zs)))
theorem NrmOut.uniq {xs ys ys' : List T3} {r r' : Int} (h : NrmOut xs ys r) (k : NrmOut xs ys' r') : ys = ys' ∧ r = r' := by
  rcases h with ⟨h1, h2, h3⟩ | ⟨h1, zs, h2, _, h3⟩ <;> rcases k with ⟨k1, k2, k3⟩ | ⟨k1, zs', k2, _, k3⟩
  · exact ⟨h3.trans k3.symm, h2.trans k2.symm⟩
  · exact absurd k1 h1
  · exact absurd h1 k1
  · have e := h2.uniq k2 fun _ => Iff.rfl
    subst e
    rcases h3 with ⟨h3, h4, h5⟩ | ⟨h3, h4, h5⟩ <;> rcases k3 with ⟨k3, k4, k5⟩ | ⟨k3, k4, k5⟩
    · exact ⟨h5.trans k5.symm, h4.trans k4.symm⟩
    · omega
    · omega
    · exact ⟨h5.trans k5.symm, h4.trans k4.symm⟩
theorem NrmOut.small {xs ys : List T3} {r : Int} (h : NrmOut xs ys r) (hm : Small xs) : Small ys := by
  rcases h with ⟨_, _, rfl⟩ | ⟨_, zs, h2, h3, ⟨_, _, rfl⟩ | ⟨_, _, rfl⟩⟩
  · exact ⟨by simp, fun b hb => by cases hb⟩
  · exact ⟨by simp, fun b hb => by cases hb⟩
  · exact h2.small h3 hm
theorem rfind_form (l : List T3) (f t : ByteArray) : ∃ n e : Int, rfindV l f t = .tuple #[.int .i64 n, .int .i64 e] := by
  unfold rfindV
  split
  · exact ⟨_, _, rfl⟩
  · split
    · exact ⟨_, _, rfl⟩
    · exact ⟨_, _, rfl⟩
theorem same_self (l : List T3) : sameT l l = true := by unfold sameT; simp
set_option maxHeartbeats 2000000 in
set_option maxRecDepth 100000 in
theorem normals_c (A : Option Addr) (c : Nat) (xs : List T3) (f t : ByteArray) (w : World) (hU : U w) (hs : SlA eT3 w A xs) (hm : Small xs) :
    Calls Tryd.prog 17 #[.slice A xs.length c, .string f, .string t] w (Ret w (.bool true)) := by
  have hl := hm.1
  cases hg : greatT xs
  all_goals
    have HG := Lib.hid hg
    clear hg
    go_enter Tryd.func17, Tryd.ntmps17
    go_wp2_with fail
    refine (alive7_c _ (hU.to Bel)).mono ?_
    rintro e w1 ⟨rfl, hb1⟩
    go_wp2_with fail
    refine (rgreat_c A c xs _ (hs.below Bel) hm).mono ?_
    rintro e w2 ⟨rfl, hb2⟩
    rw [HG.out]
  · obtain ⟨n3, e3, h3⟩ := rfind_form xs f t
    have H3 := Lib.hid h3
    clear h3
    go_wp2_with fail
    refine (norm_c A c xs _ (hU.to Bel) (hs.below Bel) hm).mono ?_
    rintro e w3 ⟨A1, c1, ys, r, rfl, hs1, hb3, hyl, hout⟩
    have hsm := NrmOut.small (r := r) hout hm
    have HO : Hid (NrmOut xs ys r) := hout
    clear hout
    obtain ⟨n1, e1, h1⟩ := rfind_form ys f t
    have H1 := Lib.hid h1
    clear h1
    go_wp2_with fail
    refine (r7norm_c A c xs _ (hs.below Bel) hm).mono ?_
    rintro e w4 ⟨A2, c2, ys2, r2, rfl, hs2, hb4, _, hout2⟩
    obtain ⟨rfl, rfl⟩ := HO.out.uniq hout2
    clear hout2
    go_wp2_with fail
    refine (rfind_c A1 c1 ys f t _ (hU.to Bel) (hs1.below Bel) hsm).mono ?_
    rintro e w5 ⟨rfl, hb5⟩
    rw [H1.out]
    go_wp2_with fail
    refine (r7find_c A2 c2 ys f t _ (hs2.below Bel) hsm).mono ?_
    rintro e w6 ⟨rfl, hb6⟩
    rw [H1.out]
    go_wp2_with fail
    refine (rfind_c A c xs f t _ (hU.to Bel) (hs.below Bel) hm).mono ?_
    rintro e w7 ⟨rfl, hb7⟩
    rw [H3.out]
    go_wp2_with fail
    refine (r7find_c A c xs f t _ (hs.below Bel) hm).mono ?_
    rintro e w8 ⟨rfl, hb8⟩
    rw [H3.out]
    go_wp2_with fail
    refine (rsame_c A1 A2 c1 c2 ys ys _ (hs1.below Bel) (hs2.below Bel) (by omega) (by omega)).mono ?_
    rintro e w9 ⟨rfl, hb9⟩
    rw [same_self]
    go_wp2
    go_ret
    exact ⟨by simp, Bel⟩
  · go_wp2
    go_ret
    exact ⟨rfl, Bel⟩
end Go.Proofs.YtpccanadijefnaaDoor
