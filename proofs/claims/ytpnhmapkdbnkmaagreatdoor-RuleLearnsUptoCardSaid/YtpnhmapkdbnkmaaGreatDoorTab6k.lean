/- The reference's Table, Total and Find; CountTables walked. No condition. -/
import Derived.Test.YtpnhmapkdbnkmaaGreatDoorGathk
import Derived.Test.YtpnhmapkdbnkmaaGreatDoorMks7k
namespace Go.Proofs.YtpnhmapkdbnkmaaGreatDoor
open Go Go.RowKit
theorem Tab.of {l ys : List T3} (h : Tab l ys) : TabOf l ys := by
  have hA := rise_aps h.rise
  have hn : ∀ {l : List T3}, ApS l → l.Nodup := fun {l} ha => List.Pairwise.imp (fun {a b} hab (e : a = b) => hab (by subst e; exact ⟨rfl, rfl⟩)) ha
  refine ⟨(List.perm_ext_iff_of_nodup (hn hA) (hn (gath_aps l))).2 fun b => ?_, h.rise.imp fun {a b} hab => ?_⟩
  · rw [h.mem]
    constructor
    · rintro ⟨h1, h2⟩
      obtain ⟨x, hx, e⟩ := List.mem_map.1 ((gath_keys l _).2 h1)
      injection e with e1 e2
      have h3 := tot_mem (gath_aps l) hx
      rw [gath_tot, e1, e2] at h3
      have : x = b := by cases x; cases b; simp_all
      exact this ▸ hx
    · intro hb
      refine ⟨(gath_keys l _).1 (mem_keys hb), ?_⟩
      have h3 := tot_mem (gath_aps l) hb
      rw [gath_tot] at h3
      exact h3.symm
  · cases e : ltT b a
    · rfl
    · have := ltT_trans hab e
      rw [ltT_irrefl] at this; cases this
set_option maxHeartbeats 2000000 in
set_option maxRecDepth 100000 in
theorem r6tab_c (A : Option Addr) (c : Nat) (xs : List T3) (w : World) (hs : SlA eT3 w A xs) (hm : Small xs) :
    Calls Tryz.prog 63 #[.slice A xs.length c] w (TabPost w xs) := by
  have hl := hm.1
  go_enter Tryz.func63, Tryz.ntmps63
  go_wp2
  go_loopw [2, 3, 10] (fun _ _ i wr => ∃ k : Nat, k ≤ xs.length ∧ i = .int .i64 k ∧ Hid (eachT (xs.drop k) = eachT xs) ∧ Below w.heap.size w wr) (fun _ _ i _ => xs.length - (intOf i).toNat)
  case atStart => exact ⟨0, by omega, rfl, rfl, Bel⟩
  case round =>
    obtain ⟨k, hk, rfl, HE, hb⟩ := hrel
    by_cases hlt : k < xs.length
    · obtain ⟨b, o, rfl, c1, c2, c3⟩ := hs.at3 (fun _ => rfl) hb k hlt
      have hd := each_drop xs k hlt
      obtain ⟨z1, z2⟩ := hm.at k hlt
      by_cases hz : bchk xs[k] = 0
      · rw [if_pos hz] at hd
        have HD := Lib.hid hd; have HZ := Lib.hid hz
        clear hd hz
        go_wp2_with (go_at_call 107; refine (r5chk_c xs[k] _ (by omega) (by omega)).mono ?_; rintro e w2 ⟨rfl, hb2⟩; rw [HZ.out])
        go_roundw
        case rel => exact ⟨k + 1, by omega, by go_num, HD.out.symm.trans HE.out, Bel⟩
        case measure => simp [intOf]; omega
      · rw [if_neg hz] at hd
        have hn : (bchk xs[k] != 0) = true := by simp [hz]
        have HV : Hid (tabE xs = bchk xs[k] ∧ tabE xs ≠ 0) := by
          have h := hd.symm.trans HE.out
          have h2 : tabE xs = bchk xs[k] := by unfold tabE; rw [← h, if_pos hz]
          exact ⟨h2, by rw [h2]; exact hz⟩
        clear hd hz
        go_wp2_with (go_at_call 107; refine (r5chk_c xs[k] _ (by omega) (by omega)).mono ?_; rintro e w2 ⟨rfl, hb2⟩)
        go_ret2
        exact ⟨[], _, by rw [HV.out.1]; rfl, SlV.nil, Bel, fun h => absurd h HV.out.2, fun _ => rfl⟩
    · have he : eachT xs = 0 := by have h := HE.out; rw [List.drop_of_length_le (by omega)] at h; exact h.symm
      have HN := Lib.hid (fun b hb => by have := bchk_n b ((each_all xs).1 he b hb); omega : ∀ b ∈ xs, 0 ≤ b.n ∧ b.n ≤ 1073741824)
      have HZ := Lib.hid he
      clear HE he
      go_wp2_with fail
      refine (r6gath_c A c xs _ (hs.below Bel) hm HN.out).mono ?_
      rintro e w3 ⟨v, ys, rfl, hys, hb3, HT, hyl⟩
      replace HT := Lib.hid HT
      obtain ⟨A1, c1, rfl, hc11, hc12, hys1⟩ := hys
      have hlen := Lib.hid HT.out.of.len
      by_cases h4 : 4096 < ys.length
      · have h4i : (4096 : Int) < ys.length := by omega
        have HV : Hid (tabE xs = 6) := by
          show tabE xs = 6
          unfold tabE
          rw [if_neg (by simp [HZ.out]), ← hlen.out, if_pos h4]; split <;> rfl
        go_wp2_with (go_at_call 66; refine (r6sum_c A c xs _ (hs.below Bel) (by omega) HN.out).mono ?_; rintro e w4 ⟨rfl, hb4⟩)
        go_ret2
        exact ⟨[], _, by rw [HV.out]; rfl, SlV.nil, Bel, fun h => absurd (HV.out.symm.trans h) (by decide), fun _ => rfl⟩
      · have h4i : ¬ (4096 : Int) < ys.length := by omega
        by_cases h5 : 1073741824 < sumT xs
        · have HV : Hid (tabE xs = 6) := by
            show tabE xs = 6
            unfold tabE
            rw [if_neg (by simp [HZ.out]), if_pos h5]
          go_wp2_with (go_at_call 66; refine (r6sum_c A c xs _ (hs.below Bel) (by omega) HN.out).mono ?_; rintro e w4 ⟨rfl, hb4⟩)
          go_ret2
          exact ⟨[], _, by rw [HV.out]; rfl, SlV.nil, Bel, fun h => absurd (HV.out.symm.trans h) (by decide), fun _ => rfl⟩
        · have HV : Hid (tabE xs = 0) := by
            show tabE xs = 0
            unfold tabE
            rw [if_neg (by simp [HZ.out]), if_neg h5, ← hlen.out, if_neg h4]
          go_wp2_with (go_at_call 66; refine (r6sum_c A c xs _ (hs.below Bel) (by omega) HN.out).mono ?_; rintro e w4 ⟨rfl, hb4⟩)
          go_ret2
          exact ⟨ys, _, by rw [HV.out]; rfl, ⟨A1, c1, rfl, hc11, hc12, hys1.below Bel⟩, Bel, fun _ => HT.out.of, fun h => absurd HV.out h⟩
/-- Two tables of one list are the same. -/
theorem TabOf.uniq {l ys zs : List T3} (h : TabOf l ys) (k : TabOf l zs) : ys = zs := h.perm k (List.Perm.refl _)
theorem TabOf.le {l ys : List T3} (h : TabOf l ys) : ys.length ≤ l.length := by rw [h.len]; exact gath_len l
end Go.Proofs.YtpnhmapkdbnkmaaGreatDoor
