/- CountFinds walked. No condition. -/
import Derived.Test.YtpccanadijefnaaDoorAlv6k
import Derived.Test.YtpccanadijefnaaDoorK807
namespace Go.Proofs.YtpccanadijefnaaDoor
open Go Go.RowKit
theorem tot_take (l : List T3) (f t : ByteArray) (k : Nat) (h : k < l.length) : tot (l.take (k + 1)) f t = tot (l.take k) f t + if l[k].f = f ∧ l[k].t = t then l[k].n else 0 := by
  rw [List.take_succ_eq_append_getElem h, tot_append, tot_cons, tot_nil]; omega
theorem tot_nonneg (l : List T3) (h : ∀ b ∈ l, 0 ≤ b.n) (f t : ByteArray) : 0 ≤ tot l f t := by
  induction l with
  | nil => simp [tot_nil]
  | cons b l ih =>
    have h1 := h b (by simp)
    have h2 := ih fun x hx => h x (by simp [hx])
    rw [tot_cons]; split <;> omega
theorem tot_le (l : List T3) (h : ∀ b ∈ l, 0 ≤ b.n) (f t : ByteArray) : tot l f t ≤ sumT l := by
  induction l with
  | nil => simp [tot_nil, sumT]
  | cons b l ih =>
    have h1 := h b (by simp)
    have h2 := ih fun x hx => h x (by simp [hx])
    have h3 : sumT (b :: l) = b.n + sumT l := by simp [sumT]
    rw [tot_cons, h3]; split <;> omega
theorem tot_ge (l : List T3) (h : ∀ b ∈ l, 0 ≤ b.n) {x : T3} (hx : x ∈ l) : x.n ≤ tot l x.f x.t := by
  induction l with
  | nil => cases hx
  | cons b l ih =>
    have h1 := h b (by simp)
    have h2 := tot_nonneg l (fun y hy => h y (by simp [hy])) x.f x.t
    rw [tot_cons]
    rcases List.mem_cons.1 hx with rfl | hx
    · simp; omega
    · have := ih (fun y hy => h y (by simp [hy])) hx
      split <;> omega
theorem TabOf.small {l ys : List T3} (h : TabOf l ys) (hl : Small l) : Small ys := by
  have h1 := h.len
  have h2 := gath_len l
  refine ⟨by have := hl.1; omega, fun b hb => ?_⟩
  have hk := (h.tab.keys (b.f, b.t)).1 (mem_keys hb)
  obtain ⟨x, hx, e⟩ := List.mem_map.1 hk
  injection e with e1 e2
  rw [← e1, ← e2]; exact hl.2 x hx
theorem str_eq (a b : ByteArray) : (a.toList == b.toList) = decide (a = b) := by
  by_cases h : a = b
  · simp [h]
  · simp only [h, decide_false, beq_eq_false_iff_ne, ne_eq]; exact fun e => h (ba_ext e)
set_option maxHeartbeats 1000000 in
set_option maxRecDepth 100000 in
theorem finds_c (A : Option Addr) (c : Nat) (xs : List T3) (f t : ByteArray) (w : World) (hU : U w) (hs : SlA eT3 w A xs) (hm : Small xs) :
    Calls Tryd.prog 9 #[.slice A xs.length c, .string f, .string t] w (Ret w (.bool true)) := by
  have hl := hm.1
  cases hg : greatT xs
  · have HG := Lib.hid hg
    clear hg
    by_cases h0 : tabE xs = 0
    · have hz := tabE_zero.1 h0
      have hn : ∀ b ∈ xs, 1 ≤ b.n ∧ b.n ≤ 1073741824 := fun b hb => bchk_n b ((each_all xs).1 hz.1 b hb)
      have hp : ∀ b ∈ xs, 0 ≤ b.n := fun b hb => by have := hn b hb; omega
      have HN := Lib.hid hn; have HP := Lib.hid hp; have HS := Lib.hid hz.2.1
      have H0 := Lib.hid h0
      clear hz hn hp h0
      go_enter Tryd.func9, Tryd.ntmps9
      go_wp2_with (first
        | (go_at_call 35; refine (alive_c _ (hU.to Bel)).mono ?_; rintro e w1 ⟨rfl, hb1⟩)
        | (go_at_call 36; refine (great_c A c xs _ (hs.below Bel) hm).mono ?_; rintro e w2 ⟨rfl, hb2⟩; rw [HG.out])
        | (go_at_call 37; refine (tab_c A c xs _ (hU.to Bel) (hs.below Bel) hm).mono ?_; rintro e w3 ⟨ys, r, rfl, hys, hb3, hok, hno⟩; rw [H0.out]; obtain ⟨A1, c1, rfl, hc11, hc12, hys1⟩ := hys; have HT := Lib.hid (hok H0.out); clear hok hno))
      have hck := Lib.hid (HT.out.ok H0.out)
      have hysm := HT.out.small hm
      have hb3w : Below w.heap.size w w3 := Bel
      have hf0 : ∀ f t, findV ys f t = .tuple #[.int .i64 (tot xs f t), .int .i64 0] := fun f t => by unfold findV; rw [hck.out, if_pos rfl, HT.out.tab.tot]
      have HF := Lib.hid hf0
      clear hf0
      go_loopw [9, 31] (fun v s wr => ∃ k : Nat, k ≤ xs.length ∧ s = .int .i64 k ∧ v = .int .i64 (tot (xs.take k) f t) ∧ Below w3.heap.size w3 wr) (fun _ s _ => xs.length - (intOf s).toNat)
      case atStart => exact ⟨0, by omega, rfl, rfl, Bel⟩
      case round =>
        obtain ⟨k, hk, rfl, rfl, hbr⟩ := hrel
        have hbw : Below w.heap.size w wr := Bst hb3w hbr
        have hys2 := hys1.below hbr
        by_cases hlt : k < xs.length
        · obtain ⟨b, o, rfl, hbs, p1, p2, p3⟩ := hs.n3 (fun _ => rfl) hbw k hlt
          have htk := tot_take xs f t k hlt
          have hge := tot_ge xs HP.out (List.getElem_mem hlt)
          have hle := tot_le xs HP.out xs[k].f xs[k].t
          have hp1 := tot_nonneg (xs.take k) (fun b hb => HP.out b (List.mem_of_mem_take hb)) f t
          have hp2 := tot_le (xs.take k) (fun b hb => HP.out b (List.mem_of_mem_take hb)) f t
          have hp3 := sum_take_le xs k HP.out
          have hnk := HN.out _ (List.getElem_mem hlt)
          have hss := HS.out
          have e1 := str_eq xs[k].f f
          have e2 := str_eq xs[k].t t
          obtain ⟨b1, hb1'⟩ : ∃ b1, decide (xs[k].f = f) = b1 := ⟨_, rfl⟩
          obtain ⟨b2, hb2'⟩ : ∃ b2, decide (xs[k].t = t) = b2 := ⟨_, rfl⟩
          rw [hb1'] at e1
          rw [hb2'] at e2
          have HTK : Hid (tot (xs.take (k + 1)) f t = tot (xs.take k) f t + if (b1 && b2) = true then xs[k].n else 0) := by
            show tot (xs.take (k + 1)) f t = _
            rw [htk, ← hb1', ← hb2']
            by_cases q1 : xs[k].f = f <;> by_cases q2 : xs[k].t = t <;> simp [q1, q2]
          clear htk hb1' hb2'
          cases b1 <;> cases b2
          all_goals
            go_wp2_with (go_at_call 34; refine (find_c A1 c1 ys xs[k].f xs[k].t _ (hU.to Bel) (hys2.below Bel) hysm).mono ?_; rintro e w5 ⟨rfl, hb5⟩; rw [HF.out]; obtain ⟨hc5, hz5⟩ := bcell hb5; have hs5 : wr.heap.size < w5.heap.size := Nat.lt_of_lt_of_le (by simp) hb5.size)
            exact ⟨⟨k + 1, by omega, by go_num, by rw [HTK.out]; simp, Bel⟩, by simp [intOf]; omega⟩
        · have hkk : xs.take k = xs := List.take_of_length_le (by omega)
          rw [hkk]
          clear hkk
          go_wp2_with (go_at_call 34; refine (find_c A1 c1 ys f t _ (hU.to Bel) (hys2.below Bel) hysm).mono ?_; rintro e w5 ⟨rfl, hb5⟩; rw [HF.out])
          go_ret
          exact ⟨rfl, Bel⟩
    · have hn : (tabE xs != 0) = true := by simp [h0]
      clear h0
      go_enter Tryd.func9, Tryd.ntmps9
      go_wp2_with (first
        | (go_at_call 35; refine (alive_c _ (hU.to Bel)).mono ?_; rintro e w1 ⟨rfl, hb1⟩)
        | (go_at_call 36; refine (great_c A c xs _ (hs.below Bel) hm).mono ?_; rintro e w2 ⟨rfl, hb2⟩; rw [HG.out])
        | (go_at_call 37; refine (tab_c A c xs _ (hU.to Bel) (hs.below Bel) hm).mono ?_; rintro e w3 ⟨ys, r, rfl, hys, hb3, hok, hno⟩))
      go_ret
      exact ⟨rfl, Bel⟩
  · go_enter Tryd.func9, Tryd.ntmps9
    go_wp2_with (first
      | (go_at_call 35; refine (alive_c _ (hU.to Bel)).mono ?_; rintro e w1 ⟨rfl, hb1⟩)
      | (go_at_call 36; refine (great_c A c xs _ (hs.below Bel) hm).mono ?_; rintro e w2 ⟨rfl, hb2⟩; rw [hg])
      | (go_at_call 37; refine (tab_c A c xs _ (hU.to Bel) (hs.below Bel) hm).mono ?_; rintro e w3 ⟨ys, r, rfl, hys, hb3, hok, hno⟩))
    go_ret
    exact ⟨rfl, Bel⟩
end Go.Proofs.YtpccanadijefnaaDoor
