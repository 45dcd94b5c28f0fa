/- Parts of these proofs, one behind the other: At8, Mat8, Al8, Eq8, Sts8, Mm8, Ml8. No condition. -/
import Derived.Test.YtmpoihejacklnaaDoorK814
import Derived.KernelRfl
import Derived.Test.YtmpoihejacklnaaDoorK810
import Derived.Test.YtmpoihejacklnaaDoorK815
import Derived.Test.YtmpoihejacklnaaDoorK812
/- errataref08.At, Ints, Same. No condition. -/
namespace Go.Proofs.YtmpoihejacklnaaDoor
open Go Go.RowKit
/-- The rules of a place among hits. -/
def atL (hs : List (Nat × Nat)) (a : Int) : List Int := (hs.filter fun h => decide ((h.1 : Int) = a)).map fun h => (h.2 : Int)
theorem atL_take (hs : List (Nat × Nat)) (a : Int) (k : Nat) (hk : k < hs.length) : atL (hs.take (k + 1)) a = atL (hs.take k) a ++ if (hs[k].1 : Int) = a then [(hs[k].2 : Int)] else [] := by
  unfold atL
  rw [List.take_succ_eq_append_getElem hk, List.filter_append, List.map_append]
  by_cases h : (hs[k].1 : Int) = a <;> simp [h]
theorem atL_len (hs : List (Nat × Nat)) (a : Int) : (atL hs a).length ≤ hs.length := by unfold atL; rw [List.length_map]; exact List.length_filter_le _ _
theorem hitsL_len {fs : List (List Int)} {l : List Int} (hl : l.length ≤ 64) (hf : fs.length ≤ 1048576) : (hitsL fs l).length ≤ 68157440 := by
  have h := hitsTo_len fs l (l.length + 1)
  rw [hitsTo_all] at h
  have : (l.length + 1) * fs.length ≤ 65 * 1048576 := Nat.mul_le_mul (by omega) hf
  omega
/-- A place's error. -/
def atE (s : ByteArray) (a : Int) : Int := if tokE s ≠ 0 then tokE s else if a < 0 ∨ (((decS s).getD []).length : Int) < a then 2 else 0
def AtPost (w : World) (fs : List (List Int)) (s : ByteArray) (a : Int) (e : Ending) (w' : World) : Prop :=
  Below w.heap.size w w' ∧ (atE s a = 0 → ∃ v l, decS s = some l ∧ e = .returned (.tuple #[v, .int .i64 0]) ∧ Own (eInt .i64) w.heap.size 3 w' v (atL (hitsL fs l) a)) ∧
    (atE s a ≠ 0 → e = .returned (.tuple #[.slice none 0 0, .int .i64 (atE s a)]))
theorem info_int8 : (Tryd.prog.info? 3).map (fun i => (i.zero, i.size, i.bytes)) = some (some (.int .i64 0), 1, 8) := by kernel_rfl
end Go.Proofs.YtmpoihejacklnaaDoor
/- (*Machine).At, over what Hits answers. No condition. -/
namespace Go.Proofs.YtmpoihejacklnaaDoor
open Go Go.RowKit
end Go.Proofs.YtmpoihejacklnaaDoor
/- The document's example of chapter 08, in plain Lean. No condition. -/
namespace Go.Proofs.YtmpoihejacklnaaDoor
open Go Go.RowKit
def exR : List T3 := [⟨⟨#[110]⟩, ⟨#[120]⟩, 1⟩, ⟨⟨#[114, 110]⟩, ⟨#[109]⟩, 1⟩]
theorem ex_froms : froms exR = [[110], [114, 110]] := by kernel_rfl
theorem ex_is : isE exR = 0 := by kernel_rfl
theorem ex_arn : decS ⟨#[97, 114, 110]⟩ = some [97, 114, 110] := by kernel_rfl
theorem ex_tok : tokE ⟨#[97, 114, 110]⟩ = 0 := by kernel_rfl
theorem ex_states : (statesT [[110], [114, 110]]).length = 4 := by decide
theorem ex_hits : hitsL [[110], [114, 110]] [97, 114, 110] = [(1, 1), (2, 0)] := by decide
end Go.Proofs.YtmpoihejacklnaaDoor
/- errataref08's Ints and Same; erratalaw08's hits. No condition. -/
namespace Go.Proofs.YtmpoihejacklnaaDoor
open Go Go.RowKit
theorem take_eq {α : Type} {xs ys : List α} {i : Nat} (h : xs.take i = ys.take i) (hx : i < xs.length) (hy : i < ys.length) (e : xs[i] = ys[i]) : xs.take (i + 1) = ys.take (i + 1) := by
  rw [List.take_succ_eq_append_getElem hx, List.take_succ_eq_append_getElem hy, h, e]
end Go.Proofs.YtmpoihejacklnaaDoor
/- errataref08.States: how many beginnings there are. No condition. -/
namespace Go.Proofs.YtmpoihejacklnaaDoor
open Go Go.RowKit
theorem info_str : (Tryd.prog.info? 9).map (fun i => (i.zero, i.size, i.bytes)) = some (some (.string .empty), 1, 16) := by kernel_rfl
/-- Runes alone. -/
def AllR (T : List (List Int)) : Prop := ∀ p ∈ T, ∀ r ∈ p, IsR r
theorem txt_eq {p q : List Int} (hp : ∀ r ∈ p, IsR r) (hq : ∀ r ∈ q, IsR r) : ((txt p).toList == (txt q).toList) = decide (p = q) := by
  rw [Bool.eq_iff_iff]
  simp only [beq_iff_eq, decide_eq_true_eq]
  constructor
  · intro h
    have h2 : txt p = txt q := ba_ext h
    have h3 := txt_dec hp
    rw [h2, txt_dec hq] at h3
    injection h3 with h3; exact h3.symm
  · intro h; rw [h]
theorem AllR.addP {T : List (List Int)} (h : AllR T) {q : List Int} (hq : ∀ r ∈ q, IsR r) : AllR (addP T q) := fun p hp => by
  rw [addP_mem] at hp
  rcases hp with hp | rfl
  · exact h p hp
  · exact hq
theorem isR_from (s : ByteArray) : ∀ r ∈ (decS s).getD [], IsR r := by
  cases h : decS s with
  | none => simp
  | some l => exact decS_isR h
theorem len_from (s : ByteArray) : ((decS s).getD []).length ≤ s.size := by
  cases h : decS s with
  | none => simp
  | some l => exact decS_len h
theorem froms_take (xs : List T3) (k : Nat) (hk : k < xs.length) : (froms xs).take (k + 1) = (froms xs).take k ++ [(decS xs[k].f).getD []] := by
  have hk' : k < (froms xs).length := by unfold froms; simpa using hk
  rw [List.take_succ_eq_append_getElem hk']
  simp [froms]
theorem take_memR {l : List Int} (h : ∀ r ∈ l, IsR r) (n : Nat) : ∀ r ∈ l.take n, IsR r := fun r hr => h r (List.mem_of_mem_take hr)
theorem r1dec_anyO (s : ByteArray) (w : World) (hs : s.size ≤ 17592186044416) :
    Calls Tryd.prog 55 #[.string s] w fun e w' => ∃ A c z, e = .returned (.tuple #[.slice A ((decS s).getD []).length c, .int .i64 z]) ∧ Own (eInt .i32) 0 21 w' (.slice A ((decS s).getD []).length c) ((decS s).getD []) ∧ ((decS s).getD []).length ≤ c ∧ c ≤ 9223372036854775807 ∧ Below w.heap.size w w' :=
  (r1dec_own s w hs).mono fun e w' ⟨hb, h⟩ => by
    cases hd : decS s with
    | none => rw [hd] at h; exact ⟨none, 0, 3, h, Own.nil _, by simp, by decide, hb⟩
    | some l => rw [hd] at h; obtain ⟨v, he, hO⟩ := h; obtain ⟨A, c, rfl, h1, h2, _⟩ := hO.slv; exact ⟨A, c, 0, he, hO.lower (Nat.zero_le _), h1, h2, hb⟩
theorem Own.sla {α : Type} {E : Enc α} {base : Nat} {e : TypeId} {w : World} {A : Option Addr} {n c : Nat} {xs : List α} (h : Own E base e w (.slice A n c) xs) : SlA E w A xs := by
  obtain ⟨A', c', hv, _, _, hA⟩ := h.slv
  injection hv with e1 _ _
  rw [e1]; exact hA
theorem mem_more {P : List (List Int)} {q : List Int} (i : Nat) (h : i < P.length) : q ∈ P.take (i + 1) ↔ q ∈ P.take i ∨ P[i] = q := by
  rw [List.take_succ_eq_append_getElem h, List.mem_append, List.mem_singleton]
  exact or_congr Iff.rfl ⟨fun e => e.symm, fun e => e.symm⟩
end Go.Proofs.YtmpoihejacklnaaDoor
/- The machine of rules as one thing: made, asked, told; the document's example of chapter 08. No condition. -/
namespace Go.Proofs.YtmpoihejacklnaaDoor
open Go Go.RowKit
theorem sum_map_le {α : Type} (f : α → Nat) (c : Nat) : ∀ l : List α, (∀ x ∈ l, f x ≤ c) → (l.map f).sum ≤ l.length * c
  | [], _ => by simp
  | x :: l, h => by
    have h1 := h x (by simp)
    have h2 := sum_map_le f c l fun y hy => h y (by simp [hy])
    rw [List.map_cons, List.sum_cons, List.length_cons, Nat.succ_mul]; omega
theorem froms_small {xs : List T3} (h : isE xs = 0) : (froms xs).length ≤ 4096 ∧ (statesT (froms xs)).length ≤ 12289 ∧ ∀ f ∈ froms xs, f.length ≤ 3 := by
  obtain ⟨h1, h2⟩ := isE_ok h
  have h3 : ∀ f ∈ froms xs, f.length ≤ 3 := fun f hf => by
    obtain ⟨b, hb, rfl⟩ := List.mem_map.1 hf
    exact (bchk_from (h2 b hb)).2
  have h4 := states_len (froms xs)
  have h5 := sum_map_le List.length 3 (froms xs) h3
  have h6 : (froms xs).length = xs.length := by simp [froms]
  exact ⟨by omega, by omega, h3⟩
theorem new8_c (A : Option Addr) (c : Nat) (xs : List T3) (w : World) (hU : U w) (hs : SlA eT3 w A xs) (hm : Small xs) :
    Calls Tryd.prog 51 #[.slice A xs.length c] w fun e w' => Below w.heap.size w w' ∧ (isE xs = 0 → ∃ M, e = .returned (.tuple #[.pointer (some ⟨M, 0, none⟩), .int .i64 0]) ∧ MM w' M (froms xs)) ∧ (isE xs ≠ 0 → e = .returned (.tuple #[.pointer none, .int .i64 (isE xs)])) :=
  (new_c A c xs w hU hs hm).mono fun e w' ⟨h1, h2, h3⟩ => ⟨h1, fun h0 => by
    obtain ⟨M, v, N, sts, bk, he, hM, hB⟩ := h2 h0
    obtain ⟨k1, k2, _⟩ := froms_small h0
    exact ⟨M, he, _, v, N, sts, bk, hM, hB, by omega, k1⟩, h3⟩
theorem mhits_c (s : ByteArray) (M : Nat) (fs : List (List Int)) (w : World) (hU : U w) (hM : MM w M fs) (hz : s.size ≤ 17592186044416) :
    Calls Tryd.prog 52 #[.pointer (some ⟨M, 0, none⟩), .string s] w (HitPost 118 w fs s) := by
  by_cases h0 : tokE s = 0
  · exact mhits_ok s M fs w hU hM hz h0
  · exact (mhits_err s M w hU hz h0).mono fun e w' ⟨h1, h2⟩ => ⟨h2, fun h => absurd h h0, fun _ => h1⟩
theorem mhit_equal (xa xb ya yb : Nat) (w : World) : (Op.equalIn 10000 118 (.agg #[.int .i64 xa, .int .i64 xb]) (.agg #[.int .i64 ya, .int .i64 yb])).run Tryd.prog w = .ok (decide ((xa, xb) = (ya, yb))) w := by
  rw [run_equalIn_agg w 9999 _ _ _ (by kernel_rfl) (by kernel_rfl)]
  have he : decide ((xa, xb) = (ya, yb)) = (decide ((xa : Int) = ya) && decide ((xb : Int) = yb)) := by rw [Bool.eq_iff_iff]; simp; omega
  rw [he]
  simp [go_sem, Op.eqFields, Program.fieldsOf, Tryd.underlying118, Tryd.underlying3]
  by_cases h1 : (xa : Int) = ya <;> by_cases h2 : (xb : Int) = yb <;> simp [h1, h2]
theorem ex_small : Small exR := ⟨by decide, fun b hb => by
  simp only [exR, List.mem_cons, List.not_mem_nil, or_false] at hb
  rcases hb with rfl | rfl <;> decide⟩
end Go.Proofs.YtmpoihejacklnaaDoor
/- 'MatchHits' walked. No condition. -/
namespace Go.Proofs.YtmpoihejacklnaaDoor
open Go Go.RowKit
theorem great8_no {xs : List T3} {s : ByteArray} (h : great8 xs s = false) : xs.length ≤ 200 ∧ s.size + bulkT xs ≤ 3000 := by
  unfold great8 at h
  rw [Bool.or_eq_false_iff, decide_eq_false_iff_not, decide_eq_false_iff_not] at h
  omega
theorem hits_len8 {fs : List (List Int)} {s : ByteArray} {l : List Int} (h : tokE s = 0) (hd : decS s = some l) (hf : fs.length ≤ 4096) : (hitsL fs l).length ≤ 68157440 := by
  obtain ⟨l', hd', hl'⟩ := tokE_ok h
  rw [hd] at hd'
  injection hd' with e
  subst e
  exact hitsL_len hl' (by omega)
end Go.Proofs.YtmpoihejacklnaaDoor
