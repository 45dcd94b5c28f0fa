/- slices.Reverse over steps. No condition. -/
import Derived.Test.YtpnhmapkdbnkmaaGreatDoorStl
namespace Go.Proofs.YtpnhmapkdbnkmaaGreatDoor
open Go Go.RowKit
def RevTo (l : List St) (i : Nat) (cur : List St) : Prop := cur.length = l.length ∧ ∀ p, p < l.length → cur[p]? = if p < i ∨ l.length - 1 - p < i then l.reverse[p]? else l[p]?
theorem RevTo.start (l : List St) : RevTo l 0 l := ⟨rfl, fun p _ => by rw [if_neg (by omega)]⟩
theorem RevTo.all {l cur : List St} {i : Nat} (h : RevTo l i cur) (hi : l.length ≤ 2 * i + 1) : cur = l.reverse := by
  refine List.ext_getElem? fun p => ?_
  by_cases hp : p < l.length
  · rw [h.2 p hp]
    split
    · rfl
    · rename_i hc
      rw [List.getElem?_reverse hp]
      congr 1
      omega
  · rw [List.getElem?_eq_none (by rw [h.1]; omega), List.getElem?_eq_none (by simp; omega)]
theorem RevTo.step {l cur : List St} {i j : Nat} (h : RevTo l i cur) (hij : i < j) (hj : j + i + 1 = l.length) (hi1 : i < cur.length) (hj1 : j < cur.length) : RevTo l (i + 1) ((cur.set i cur[j]).set j cur[i]) := by
  refine ⟨by simp [h.1], fun p hp => ?_⟩
  have ei := h.2 i (by omega)
  have ej := h.2 j (by omega)
  rw [if_neg (by omega), List.getElem?_eq_getElem hi1, List.getElem?_eq_getElem (by omega)] at ei
  rw [if_neg (by omega), List.getElem?_eq_getElem hj1, List.getElem?_eq_getElem (by omega)] at ej
  injection ei with ei
  injection ej with ej
  rw [ei, ej]
  by_cases e1 : p = j
  · subst e1
    rw [List.getElem?_set_self (by simp [h.1]; omega), if_pos (.inr (by omega)), List.getElem?_reverse hp, List.getElem?_eq_getElem (by omega)]
    congr 2
    omega
  · rw [List.getElem?_set_ne (by omega)]
    by_cases e2 : p = i
    · subst e2
      rw [List.getElem?_set_self (by omega), if_pos (.inl (by omega)), List.getElem?_reverse hp, List.getElem?_eq_getElem (by omega)]
      congr 2
      omega
    · rw [List.getElem?_set_ne (by omega), h.2 p hp]
      by_cases hc : p < i ∨ l.length - 1 - p < i
      · rw [if_pos hc, if_pos (by omega)]
      · rw [if_neg hc, if_neg (by omega)]
theorem Own.putS {base : Nat} {e : TypeId} {w : World} {g cap : Nat} {xs : List St} (h : Own eSt base e w (.slice (some ⟨g, 0, none⟩) xs.length cap) xs) (j : Nat) (hj : j < xs.length) (y : St) :
    Own eSt base e (((w.setCell ⟨g, j * 3, none⟩ (.int .i64 y.k)).setCell ⟨g, j * 3 + 1, none⟩ (.int .i32 y.a)).setCell ⟨g, j * 3 + 2, none⟩ (.int .i32 y.b)) (.slice (some ⟨g, 0, none⟩) xs.length cap) (xs.set j y) ∧
      w.grownBy (((w.setCell ⟨g, j * 3, none⟩ (.int .i64 y.k)).setCell ⟨g, j * 3 + 1, none⟩ (.int .i32 y.a)).setCell ⟨g, j * 3 + 2, none⟩ (.int .i32 y.b)) (some g) := by
  have h1 := h.cellset j hj 0 (by decide) (.int .i64 y.k) ⟨y.k, xs[j].a, xs[j].b⟩ rfl
  have e1 : (xs.set j ⟨y.k, xs[j].a, xs[j].b⟩).length = xs.length := by simp
  have h1' := h1.1
  rw [← e1] at h1'
  have h2 := h1'.cellset j (by simp; exact hj) 1 (by decide) (.int .i32 y.a) ⟨y.k, y.a, xs[j].b⟩ (by simp [eSt])
  have e2 : ((xs.set j ⟨y.k, xs[j].a, xs[j].b⟩).set j ⟨y.k, y.a, xs[j].b⟩).length = (xs.set j ⟨y.k, xs[j].a, xs[j].b⟩).length := by simp
  have h2' := h2.1
  rw [← e2] at h2'
  have h3 := h2'.cellset j (by simp; exact hj) 2 (by decide) (.int .i32 y.b) y (by simp [eSt])
  refine ⟨?_, (h1.2.trans h2.2).trans h3.2⟩
  have h3' := h3.1
  simpa [show eSt.k = 3 from rfl] using h3'
set_option maxRecDepth 100000 in
set_option maxHeartbeats 2000000 in
theorem srev_c (base : Nat) (v : Value) (l : List St) (w : World) (hO : Own eSt base 265 w v l) (hl : l.length ≤ 1048576) :
    Calls Tryz.prog 158 #[v] w fun e w' => e = .returned (.tuple #[]) ∧ Own eSt base 265 w' v l.reverse ∧ Kb w w' v.ownBlock.toList := by
  by_cases h0 : l = []
  · subst h0
    obtain ⟨A, c, rfl, _, _, _⟩ := hO.slv
    go_enter Tryz.func158, Tryz.ntmps158
    go_wp2
    go_loopw [2, 3] (fun si sj wr => ∃ x : Int, si = .int .i64 0 ∧ sj = .int .i64 x ∧ x = -1 ∧ wr = w) (fun _ _ _ => 0)
    case atStart => exact ⟨_, rfl, rfl, by first | rfl | simp, rfl⟩
    case round =>
      obtain ⟨x, rfl, rfl, hx, rfl⟩ := hrel
      have hx0 : ¬ (0 : Int) < x := by omega
      clear hx
      go_wp2
      go_end0
      exact ⟨rfl, by simpa using hO, Kb.refl _ _⟩
  · have hpos := List.length_pos_iff.2 h0
    obtain ⟨g, cap, rfl, hb, hg, hc1, hc2, _⟩ := hO.form hpos
    go_enter Tryz.func158, Tryz.ntmps158
    go_wp2
    go_loopw [2, 3] (fun si sj wr => ∃ (i j : Nat) (cur : List St), si = .int .i64 i ∧ sj = .int .i64 j ∧ i + j + 1 = l.length ∧ Hid (RevTo l i cur) ∧ Own eSt base 265 wr (.slice (some ⟨g, 0, none⟩) l.length cap) cur ∧ Kb w wr [g]) (fun si sj _ => (intOf sj).toNat)
    case atStart => exact ⟨0, l.length - 1, l, rfl, by go_num, by omega, RevTo.start l, hO, Kb.refl _ _⟩
    case round =>
      obtain ⟨i, j, cur, rfl, rfl, hij, HR, HO, hk⟩ := hrel
      rename World => wo
      have hcl := HR.out.1
      by_cases hlt : i < j
      · have hlt' : (i : Int) < j := by omega
        obtain ⟨si, hsi⟩ : ∃ s, cur[i] = s := ⟨_, rfl⟩
        obtain ⟨sj, hsj⟩ : ∃ s, cur[j] = s := ⟨_, rfl⟩
        have q0 := HO.at i (by omega) 0 (.int .i64 cur[i].k) rfl
        have q1 := HO.at i (by omega) 1 (.int .i32 cur[i].a) rfl
        have q2 := HO.at i (by omega) 2 (.int .i32 cur[i].b) rfl
        have r0 := HO.at j (by omega) 0 (.int .i64 cur[j].k) rfl
        have r1 := HO.at j (by omega) 1 (.int .i32 cur[j].a) rfl
        have r2 := HO.at j (by omega) 2 (.int .i32 cur[j].b) rfl
        rw [hsi] at q0 q1 q2
        rw [hsj] at r0 r1 r2
        have fz : ∀ p, wo.frozen? ⟨g, p, none⟩ = false := fun p => by
          have h := HO
          unfold Own at h
          rw [hcl] at h
          exact World.ownsRow.frozenAt h p
        have hil : (i : Int) < l.length := by omega
        have hjl : (j : Int) < l.length := by omega
        simp only [show eSt.k = 3 from rfl, Nat.add_zero] at q0 q1 q2 r0 r1 r2
        go_wp2_with fail
        go_region
        have HOc : Own eSt base 265 wo (.slice (some ⟨g, 0, none⟩) cur.length cap) cur := by rw [hcl]; exact HO
        obtain ⟨a1, b1⟩ := HOc.putS i (by omega) sj
        have HOd : Own eSt base 265 (((wo.setCell ⟨g, i * 3, none⟩ (.int .i64 sj.k)).setCell ⟨g, i * 3 + 1, none⟩ (.int .i32 sj.a)).setCell ⟨g, i * 3 + 2, none⟩ (.int .i32 sj.b)) (.slice (some ⟨g, 0, none⟩) (cur.set i sj).length cap) (cur.set i sj) := by rw [List.length_set]; exact a1
        obtain ⟨a2, b2⟩ := HOd.putS j (by simp; omega) si
        have hst := HR.out.step hlt (by omega) (by omega) (by omega)
        rw [hsi, hsj] at hst
        rw [List.length_set, hcl] at a2
        have hk2 := (hk.trans' (Kb.grown b1)).trans' (Kb.grown b2)
        generalize ((((((wo.setCell ⟨g, i * 3, none⟩ (.int .i64 sj.k)).setCell ⟨g, i * 3 + 1, none⟩ (.int .i32 sj.a)).setCell ⟨g, i * 3 + 2, none⟩ (.int .i32 sj.b)).setCell ⟨g, j * 3, none⟩ (.int .i64 si.k)).setCell ⟨g, j * 3 + 1, none⟩ (.int .i32 si.a)).setCell ⟨g, j * 3 + 2, none⟩ (.int .i32 si.b)) = w9 at *
        have hd : Below w9.heap.size w9 w9.drew := (Below.refl _ _).drew
        go_wp2
        exact ⟨⟨i + 1, j - 1, _, by go_num, by go_num, by omega, hst, a2.below hd, hk2.trans' (Kb.weak (Kb.below hd) (by simp))⟩, by simp [intOf]; omega⟩
      · have hlt' : ¬ (i : Int) < j := by omega
        go_wp2
        go_end0
        have hall := HR.out.all (by omega)
        rw [hall] at HO
        exact ⟨rfl, HO, by simpa [Value.ownBlock] using hk⟩
end Go.Proofs.YtpnhmapkdbnkmaaGreatDoor
