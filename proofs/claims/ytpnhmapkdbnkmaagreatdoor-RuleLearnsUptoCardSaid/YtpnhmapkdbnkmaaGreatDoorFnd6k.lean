/- CountFinds walked. No condition. -/
import Derived.Test.YtpnhmapkdbnkmaaGreatDoorAlv6k
import Derived.Test.YtpnhmapkdbnkmaaGreatDoorK807
namespace Go.Proofs.YtpnhmapkdbnkmaaGreatDoor
open Go Go.RowKit
theorem tot_take (l : List T3) (f t : ByteArray) (k : Nat) (h : k < l.length) : tot (l.take (k + 1)) f t = tot (l.take k) f t + if l[k].f = f ∧ l[k].t = t then l[k].n else 0 := by
  rw [List.take_succ_eq_append_getElem h, tot_append, tot_cons, tot_nil]; omega
theorem tot_nonneg (l : List T3) (h : ∀ b ∈ l, 0 ≤ b.n) (f t : ByteArray) : 0 ≤ tot l f t := by
  induction l with
  | nil => simp [tot_nil]
  | cons b l ih =>
    have h1 := h b (by simp)
    have h2 := ih fun x hx => h x (by simp [hx])
    rw [tot_cons]; split <;> omega
theorem tot_le (l : List T3) (h : ∀ b ∈ l, 0 ≤ b.n) (f t : ByteArray) : tot l f t ≤ sumT l := by
  induction l with
  | nil => simp [tot_nil, sumT]
  | cons b l ih =>
    have h1 := h b (by simp)
    have h2 := ih fun x hx => h x (by simp [hx])
    have h3 : sumT (b :: l) = b.n + sumT l := by simp [sumT]
    rw [tot_cons, h3]; split <;> omega
theorem tot_ge (l : List T3) (h : ∀ b ∈ l, 0 ≤ b.n) {x : T3} (hx : x ∈ l) : x.n ≤ tot l x.f x.t := by
  induction l with
  | nil => cases hx
  | cons b l ih =>
    have h1 := h b (by simp)
    have h2 := tot_nonneg l (fun y hy => h y (by simp [hy])) x.f x.t
    rw [tot_cons]
    rcases List.mem_cons.1 hx with rfl | hx
    · simp; omega
    · have := ih (fun y hy => h y (by simp [hy])) hx
      split <;> omega
theorem TabOf.small {l ys : List T3} (h : TabOf l ys) (hl : Small l) : Small ys := by
  have h1 := h.len
  have h2 := gath_len l
  refine ⟨by have := hl.1; omega, fun b hb => ?_⟩
  have hk := (h.tab.keys (b.f, b.t)).1 (mem_keys hb)
  obtain ⟨x, hx, e⟩ := List.mem_map.1 hk
  injection e with e1 e2
  rw [← e1, ← e2]; exact hl.2 x hx
theorem str_eq (a b : ByteArray) : (a.toList == b.toList) = decide (a = b) := by
  by_cases h : a = b
  · simp [h]
  · simp only [h, decide_false, beq_eq_false_iff_ne, ne_eq]; exact fun e => h (ba_ext e)
end Go.Proofs.YtpnhmapkdbnkmaaGreatDoor
