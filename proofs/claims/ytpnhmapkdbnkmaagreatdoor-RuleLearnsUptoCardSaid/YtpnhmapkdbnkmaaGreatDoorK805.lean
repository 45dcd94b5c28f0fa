/- Parts of these proofs, one behind the other: Tab, Tab2, Pl6, Law6, Cnt3. No condition. -/
import Derived.Test.YtpnhmapkdbnkmaaGreatDoorK804
import Derived.Deep.AppendLies
import Derived.Laws.StructEq
/- count.Table: what it gathers, and in which order. No condition. -/
namespace Go.Proofs.YtpnhmapkdbnkmaaGreatDoor
open Go Go.RowKit Go.Shelf
open Go.Sort (SWO)
/-- Of the same sides. -/
def SameS (a b : T3) : Prop := a.f = b.f ∧ a.t = b.t
noncomputable instance (a b : T3) : Decidable (SameS a b) := Classical.propDecidable _
theorem kv_inj {a b : T3} : kv a = kv b ↔ SameS a b := by
  unfold kv SameS
  constructor
  · intro h; injection h with h; simp at h; exact h
  · rintro ⟨h1, h2⟩; rw [h1, h2]
/-- A block put to those that are gathered. -/
noncomputable def addL : List T3 → T3 → List T3
  | [], x => [x]
  | y :: ys, x => if SameS y x then ⟨y.f, y.t, y.n + x.n⟩ :: ys else y :: addL ys x
noncomputable def gathL (l : List T3) : List T3 := l.foldl addL []
/-- No sides twice. -/
def ApS (l : List T3) : Prop := l.Pairwise (fun a b => ¬ SameS a b)
theorem addL_none : ∀ (l : List T3) (x : T3), (∀ y ∈ l, ¬ SameS y x) → addL l x = l ++ [x]
  | [], _, _ => rfl
  | y :: ys, x, h => by
    unfold addL
    rw [if_neg (h y (by simp)), addL_none ys x fun z hz => h z (by simp [hz])]; rfl
theorem addL_some : ∀ (l : List T3) (x : T3) (j : Nat) (hj : j < l.length), ApS l → SameS l[j] x → addL l x = l.set j ⟨l[j].f, l[j].t, l[j].n + x.n⟩
  | y :: ys, x, 0, _, _, h => by
    unfold addL
    rw [if_pos (show SameS y x from h)]; rfl
  | y :: ys, x, j + 1, hj, hA, h => by
    have hj' : j < ys.length := by simpa using hj
    have h' : ¬ SameS y x := fun h1 => by
      have := (List.pairwise_cons.1 hA).1 ys[j] (List.getElem_mem _)
      exact this ⟨h1.1.trans h.1.symm, h1.2.trans h.2.symm⟩
    unfold addL
    rw [if_neg h', addL_some ys x j (by simpa using hj) (List.pairwise_cons.1 hA).2 h]; rfl
/-- What the sides are. -/
def keysT (l : List T3) : List (ByteArray × ByteArray) := l.map fun x => (x.f, x.t)
theorem keys_set (l : List T3) (j : Nat) (hj : j < l.length) (n : Int) : keysT (l.set j ⟨l[j].f, l[j].t, n⟩) = keysT l := by
  unfold keysT
  rw [List.map_set]
  exact List.ext_getElem (by simp) fun i h1 h2 => by
    rw [List.getElem_set]
    split
    · subst_vars; simp
    · rfl
theorem aps_iff (l : List T3) : ApS l ↔ (keysT l).Nodup := by
  unfold ApS keysT List.Nodup
  rw [List.pairwise_map]
  constructor <;> exact fun h => h.imp fun {a b} h => by simpa [SameS] using h
theorem addL_cases (l : List T3) (x : T3) (hA : ApS l) : (∃ j, ∃ hj : j < l.length, SameS l[j] x ∧ addL l x = l.set j ⟨l[j].f, l[j].t, l[j].n + x.n⟩) ∨ ((∀ y ∈ l, ¬ SameS y x) ∧ addL l x = l ++ [x]) := by
  by_cases h : ∃ y ∈ l, SameS y x
  · obtain ⟨y, hy, hs⟩ := h
    obtain ⟨j, hj, rfl⟩ := List.getElem_of_mem hy
    exact .inl ⟨j, hj, hs, addL_some l x j hj hA hs⟩
  · have h' : ∀ y ∈ l, ¬ SameS y x := fun y hy hs => h ⟨y, hy, hs⟩
    exact .inr ⟨h', addL_none l x h'⟩
theorem addL_aps (l : List T3) (x : T3) (hA : ApS l) : ApS (addL l x) := by
  rcases addL_cases l x hA with ⟨j, hj, _, h⟩ | ⟨hn, h⟩
  · rw [h, aps_iff, keys_set, ← aps_iff]; exact hA
  · rw [h]
    exact List.pairwise_append.2 ⟨hA, List.pairwise_singleton _ _, fun a ha b hb => by obtain rfl := List.mem_singleton.1 hb; exact hn a ha⟩
theorem gath_take (l : List T3) (k : Nat) (h : k < l.length) : gathL (l.take (k + 1)) = addL (gathL (l.take k)) l[k] := by
  unfold gathL; rw [List.take_succ_eq_append_getElem h, List.foldl_append]; rfl
theorem foldl_aps (l : List T3) : ∀ a, ApS a → ApS (l.foldl addL a) := by
  induction l with
  | nil => exact fun a h => h
  | cons x l ih => exact fun a h => ih _ (addL_aps a x h)
theorem gath_aps (l : List T3) : ApS (gathL l) := foldl_aps l [] List.Pairwise.nil
theorem addL_len (l : List T3) (x : T3) : (addL l x).length ≤ l.length + 1 := by
  induction l with
  | nil => simp [addL]
  | cons y l ih => unfold addL; split <;> simp; omega
theorem addL_sum (l : List T3) (x : T3) : sumT (addL l x) = sumT l + x.n := by
  induction l with
  | nil => simp [addL, sumT]
  | cons y l ih =>
    unfold addL
    unfold sumT at ih ⊢
    split
    · simp; omega
    · simp at ih ⊢; omega
theorem addL_pos (l : List T3) (x : T3) (h : ∀ b ∈ l, 0 ≤ b.n) (hx : 0 ≤ x.n) : ∀ b ∈ addL l x, 0 ≤ b.n := by
  induction l with
  | nil => simpa [addL] using hx
  | cons y l ih =>
    have hy := h y (by simp)
    have ih := ih fun b hb => h b (by simp [hb])
    unfold addL
    split
    · intro b hb
      rcases List.mem_cons.1 hb with rfl | hb
      · show 0 ≤ y.n + x.n; omega
      · exact h b (by simp [hb])
    · intro b hb
      rcases List.mem_cons.1 hb with rfl | hb
      · exact hy
      · exact ih b hb
theorem mem_sum (l : List T3) (h : ∀ b ∈ l, 0 ≤ b.n) : ∀ b ∈ l, b.n ≤ sumT l := by
  induction l with
  | nil => simp
  | cons y l ih =>
    have hy := h y (by simp)
    have hs := sum_nonneg l fun b hb => h b (by simp [hb])
    have ih := ih fun b hb => h b (by simp [hb])
    intro b hb
    unfold sumT at *
    simp only [List.map_cons, List.sum_cons]
    rcases List.mem_cons.1 hb with rfl | hb
    · omega
    · have := ih b hb; omega
/-- The map's keys and places. -/
def mpL (l : List T3) : List (Value × Value) := l.mapIdx fun j x => (kv x, .int .i64 j)
theorem mpL_get (l : List T3) (j : Nat) : (mpL l)[j]? = l[j]?.map fun x => (kv x, Value.int .i64 j) := by unfold mpL; simp [List.getElem?_mapIdx]
theorem mpL_keys {l m : List T3} (h : keysT l = keysT m) : mpL l = mpL m := by
  unfold keysT at h
  refine List.ext_getElem? fun j => ?_
  rw [mpL_get, mpL_get]
  have h1 : (l.map fun x => (x.f, x.t))[j]? = (m.map fun x => (x.f, x.t))[j]? := by rw [h]
  simp only [List.getElem?_map] at h1
  cases hl : l[j]? <;> cases hm : m[j]? <;> rw [hl, hm] at h1 <;> simp at h1
  all_goals simp [kv, h1]
theorem mpL_snoc (l : List T3) (x : T3) : mpL (l ++ [x]) = mpL l ++ [(kv x, .int .i64 l.length)] := by unfold mpL; simp [List.mapIdx_append]
theorem mpL_mem {l : List T3} {p : Value × Value} (h : p ∈ mpL l) : ∃ x ∈ l, p.1 = kv x := by
  obtain ⟨j, hj⟩ := List.mem_iff_getElem?.1 h
  rw [mpL_get] at hj
  obtain ⟨x, hx, rfl⟩ := Option.map_eq_some_iff.1 hj
  exact ⟨x, List.mem_of_getElem? hx, rfl⟩
theorem mpL_apart {l : List T3} (h : ApS l) : Apart (mpL l) := by
  unfold Apart
  rw [List.pairwise_iff_getElem]
  intro i j hi hj hij
  have e1 := List.getElem?_eq_getElem hi
  have e2 := List.getElem?_eq_getElem hj
  rw [mpL_get] at e1 e2
  obtain ⟨x, hx, e1⟩ := Option.map_eq_some_iff.1 e1
  obtain ⟨y, hy, e2⟩ := Option.map_eq_some_iff.1 e2
  rw [← e1, ← e2]
  obtain ⟨hi', rfl⟩ := List.getElem?_eq_some_iff.1 hx
  obtain ⟨hj', rfl⟩ := List.getElem?_eq_some_iff.1 hy
  intro hk
  exact List.pairwise_iff_getElem.1 h i j hi' hj' hij (kv_inj.1 hk)
theorem mpL_finds {l : List T3} {x : T3} {j : Nat} (hj : j < l.length) (h : SameS l[j] x) : Finds (mpL l) (kv x) (.int .i64 0) (.int .i64 j, true) :=
  .inr ⟨j, .int .i64 j, by rw [mpL_get, List.getElem?_eq_getElem hj]; simp [kv_inj.2 h], rfl⟩
theorem mpL_misses {l : List T3} {x : T3} (h : ∀ y ∈ l, ¬ SameS y x) : (∀ p ∈ mpL l, p.1 ≠ kv x) ∧ Finds (mpL l) (kv x) (.int .i64 0) (.int .i64 0, false) := by
  have h1 : ∀ p ∈ mpL l, p.1 ≠ kv x := fun p hp => by
    obtain ⟨y, hy, e⟩ := mpL_mem hp
    rw [e]; exact fun e => h y hy (kv_inj.1 e)
  exact ⟨h1, .inl ⟨h1, rfl⟩⟩
theorem mpL_key {l : List T3} (h : ∀ b ∈ l, b.f.size ≤ maxLen ∧ b.t.size ≤ maxLen) : ∀ p ∈ mpL l, ∃ q, keyOf Tryz.prog 191 p.1 = some q := fun p hp => by
  obtain ⟨y, hy, e⟩ := mpL_mem hp
  rw [e]; exact kv_key (h y hy).1 (h y hy).2
/-- A count laid anew in a row that the call owns. -/
theorem flat_set (l : List T3) (j : Nat) (hj : j < l.length) (n : Int) : (l.flatMap eT3.e).set (j * 3 + 2) (.int .i64 n) = (l.set j ⟨l[j].f, l[j].t, n⟩).flatMap eT3.e := by
  induction l generalizing j with
  | nil => simp at hj
  | cons y l ih =>
    cases j with
    | zero => simp [eT3]
    | succ j =>
      have := ih j (by simpa using hj)
      simp only [List.flatMap_cons, List.set_cons_succ, List.getElem_cons_succ]
      rw [← this, List.set_append_right _ _ (by simp [eT3]; omega)]
      congr 2
      simp [eT3]; omega
theorem Own.count {base : Nat} {e : TypeId} {w : World} {g cap : Nat} {l : List T3} (h : Own eT3 base e w (.slice (some ⟨g, 0, none⟩) l.length cap) l) (j : Nat) (hj : j < l.length) (n : Int) :
    Own eT3 base e (w.setCell ⟨g, j * 3 + 2, none⟩ (.int .i64 n)) (.slice (some ⟨g, 0, none⟩) l.length cap) (l.set j ⟨l[j].f, l[j].t, n⟩) ∧ w.grownBy (w.setCell ⟨g, j * 3 + 2, none⟩ (.int .i64 n)) (some g) := by
  have h1 := World.ownsRow.stored h (j * 3 + 2) (.int .i64 n)
  refine ⟨?_, h1.2⟩
  unfold Own
  rw [List.length_set, ← flat_set l j hj n]
  exact h1.1
theorem addL_mem {l : List T3} {x b : T3} (h : b ∈ addL l x) : (∃ y ∈ l, y.f = b.f ∧ y.t = b.t) ∨ (x.f = b.f ∧ x.t = b.t) := by
  induction l with
  | nil => simp [addL] at h; subst h; exact .inr ⟨rfl, rfl⟩
  | cons y l ih =>
    unfold addL at h
    split at h
    · rcases List.mem_cons.1 h with rfl | h
      · exact .inl ⟨y, by simp, rfl, rfl⟩
      · exact .inl ⟨b, by simp [h], rfl, rfl⟩
    · rcases List.mem_cons.1 h with rfl | h
      · exact .inl ⟨b, by simp, rfl, rfl⟩
      · rcases ih h with ⟨z, hz, e⟩ | e
        · exact .inl ⟨z, by simp [hz], e⟩
        · exact .inr e
theorem addL_sizes {l : List T3} {x : T3} {M : Nat} (h : ∀ b ∈ l, b.f.size ≤ M ∧ b.t.size ≤ M) (hx : x.f.size ≤ M ∧ x.t.size ≤ M) : ∀ b ∈ addL l x, b.f.size ≤ M ∧ b.t.size ≤ M := fun b hb => by
  rcases addL_mem hb with ⟨y, hy, e1, e2⟩ | ⟨e1, e2⟩
  · rw [← e1, ← e2]; exact h y hy
  · rw [← e1, ← e2]; exact hx
end Go.Proofs.YtpnhmapkdbnkmaaGreatDoor
/- count.Table walked. No condition. -/
namespace Go.Proofs.YtpnhmapkdbnkmaaGreatDoor
open Go Go.RowKit Go.Shelf
noncomputable def tabE (l : List T3) : Int := if eachT l ≠ 0 then eachT l else if 1073741824 < sumT l then 6 else if 4096 < (gathL l).length then 6 else 0
/-- A table of a list. -/
def TabOf (l ys : List T3) : Prop := ys.Perm (gathL l) ∧ ys.Pairwise fun x y => ltT y x = false
def TabPost (w : World) (l : List T3) (e : Ending) (w' : World) : Prop :=
  ∃ ys r, e = .returned (.tuple #[r, .int .i64 (tabE l)]) ∧ SlV eT3 w' r ys ∧ Below w.heap.size w w' ∧ (tabE l = 0 → TabOf l ys) ∧ (tabE l ≠ 0 → ys = [])
theorem info_blk : (Tryz.prog.info? 71).map (fun i => (i.zero, i.size, i.bytes)) = some (some (.agg #[.string .empty, .string .empty, .int .i64 0]), 3, 40) := by kernel_rfl
theorem gath_sizes {M : Nat} (l : List T3) (h : ∀ b ∈ l, b.f.size ≤ M ∧ b.t.size ≤ M) : ∀ b ∈ gathL l, b.f.size ≤ M ∧ b.t.size ≤ M := by
  have : ∀ (l a : List T3), (∀ b ∈ l, b.f.size ≤ M ∧ b.t.size ≤ M) → (∀ b ∈ a, b.f.size ≤ M ∧ b.t.size ≤ M) → ∀ b ∈ l.foldl addL a, b.f.size ≤ M ∧ b.t.size ≤ M := fun l => by
    induction l with
    | nil => exact fun a _ h => h
    | cons x l ih => exact fun a h1 h2 => ih _ (fun b hb => h1 b (by simp [hb])) (addL_sizes h2 (h1 x (by simp)))
  exact this l [] h (by simp)
theorem gath_len (l : List T3) : (gathL l).length ≤ l.length := by
  have : ∀ (l a : List T3), (l.foldl addL a).length ≤ a.length + l.length := fun l => by
    induction l with
    | nil => simp
    | cons x l ih => exact fun a => by have h1 := ih (addL a x); have h2 := addL_len a x; simp only [List.foldl_cons, List.length_cons]; omega
  have h := this l []
  simpa [gathL] using h
theorem gath_sum (l : List T3) : sumT (gathL l) = sumT l := by
  have : ∀ (l a : List T3), sumT (l.foldl addL a) = sumT a + sumT l := fun l => by
    induction l with
    | nil => simp [sumT]
    | cons x l ih => exact fun a => by simp only [List.foldl_cons]; rw [ih, addL_sum]; simp [sumT]; omega
  have h := this l []
  simpa [gathL, sumT] using h
theorem gath_pos (l : List T3) (h : ∀ b ∈ l, 0 ≤ b.n) : ∀ b ∈ gathL l, 0 ≤ b.n := by
  have : ∀ (l a : List T3), (∀ b ∈ l, 0 ≤ b.n) → (∀ b ∈ a, 0 ≤ b.n) → ∀ b ∈ l.foldl addL a, 0 ≤ b.n := fun l => by
    induction l with
    | nil => exact fun a _ h => h
    | cons x l ih => exact fun a h1 h2 => ih _ (fun b hb => h1 b (by simp [hb])) (addL_pos a x h2 (h1 x (by simp)))
  exact this l [] h (by simp)
theorem Own.cells3 {base : Nat} {e : TypeId} {w : World} {g cap : Nat} {l : List T3} (h : Own eT3 base e w (.slice (some ⟨g, 0, none⟩) l.length cap) l) (j : Nat) (hj : j < l.length) :
    g < w.heap.size ∧ w.cell? ⟨g, j * 3, none⟩ = some (.string l[j].f) ∧ w.cell? ⟨g, j * 3 + 1, none⟩ = some (.string l[j].t) ∧ w.cell? ⟨g, j * 3 + 2, none⟩ = some (.int .i64 l[j].n) := by
  obtain ⟨A, c, h1, _, _, h4⟩ := h.slv
  obtain ⟨b, o, hA, h5, h6, h7, h8⟩ := h4.n3 (fun _ => rfl) (Below.refl _ _) j hj
  subst hA
  injection h1 with h1 _ _
  injection h1 with h1
  injection h1 with h1 h2
  subst h1 h2
  simp only [Nat.zero_add] at h6 h7 h8
  exact ⟨h5, h6, h7, h8⟩
theorem cmpS_neg (a b : ByteArray) : cmpS a b = if Op.bytesLess a.toList b.toList = true then -1 else if (a.toList == b.toList) = true then 0 else 1 := rfl
def cmpB (a b : T3) : Int := if ltT a b = true then -1 else if ltT b a = true then 1 else 0
theorem lt_cmpB (a b : T3) : ltOf cmpB a b = ltT a b := by
  unfold ltOf cmpB
  cases h : ltT a b
  · cases h2 : ltT b a <;> simp
  · simp
instance : Inhabited T3 := ⟨⟨.empty, .empty, 0⟩⟩
theorem sortB_c (base : Nat) (w : World) (v : Value) (xs : List T3) (hown : Own eT3 base 71 w v xs) (hm : xs.length < 4611686018427387904) :
    Calls Tryz.prog 103 #[v, .func (.func 104) #[] #[]] w fun e' w' => e' = .returned (.tuple #[]) ∧ ∃ ys, ys.Perm xs ∧ ys.Pairwise (fun x y => ltT y x = false) ∧ SlV eT3 w' v ys ∧ w.grownBy w' v.ownBlock := by
  refine (sort_c (E := eT3) Tryz.sortBlocks (fun w => by kernel_rfl) (fun w => by kernel_rfl) cmpB ?_ 104 (fun args w => enters_of Tryz.func104 (by kernel_rfl) rfl args w) (fun x y W => ccomp_g x y W) w v xs hown hm).mono ?_
  · exact (show ltOf cmpB = ltT from funext fun a => funext fun b => lt_cmpB a b) ▸ swoT
  · rintro e' w' ⟨h1, ys, h2, h3, h4, h5⟩
    exact ⟨h1, ys, h2, h3.imp (fun {a b} h => by rwa [lt_cmpB] at h), h4, h5⟩
def TabRel (w0 : World) (B : Nat) (ys : List T3) (v : Value) (wr : World) : Prop :=
  Own eT3 w0.heap.size 71 wr v ys ∧ Mp wr B (mpL ys) ∧ v.ownBlock ≠ some B ∧ Below w0.heap.size w0 wr
set_option maxHeartbeats 2000000 in
set_option maxRecDepth 100000 in
theorem tab_c (A : Option Addr) (c : Nat) (xs : List T3) (w : World) (hU : U w) (hs : SlA eT3 w A xs) (hm : Small xs) :
    Calls Tryz.prog 61 #[.slice A xs.length c] w (TabPost w xs) := by
  have hl := hm.1
  have hmm := @run_makeMap Tryz.prog
  by_cases h0 : eachT xs = 0
  · have HE := Lib.hid h0
    have hn : ∀ b ∈ xs, 0 ≤ b.n ∧ b.n ≤ 2147483648 := fun b hb => by have := bchk_n b ((each_all xs).1 h0 b hb); omega
    have HN := Lib.hid hn
    clear h0 hn
    by_cases hsum : sumT xs ≤ 1073741824
    · have HV : Hid (sumV xs = .tuple #[.int .i64 (sumT xs), .bool true]) := by unfold sumV; rw [if_pos hsum]; rfl
      go_enter Tryz.func61, Tryz.ntmps61
      go_wp2_with (first
        | (go_at_call 102; refine (each_c A c xs _ hU hs hm).mono ?_; rintro e w1 ⟨rfl, hb1⟩; rw [HE.out])
        | (go_at_call 97; refine (sum_c A c xs _ (hs.below Bel) (by omega) HN.out).mono ?_; rintro e w2 ⟨rfl, hb2⟩; rw [HV.out]))
      go_loopw [8, 28] (fun v i wr => ∃ k : Nat, k ≤ xs.length ∧ i = .int .i64 k ∧ TabRel w w2.heap.size (gathL (xs.take k)) v wr) (fun _ i _ => xs.length - (intOf i).toNat)
      case atStart => exact ⟨0, by omega, rfl, Own.nil _, (Mp.made _), by simp [Value.ownBlock], Bel⟩
      case round =>
        obtain ⟨k, hk, rfl, HO, HM, hne, hb⟩ := hrel
        have hB : w.heap.size ≤ w2.heap.size := Nat.le_trans hb1.size hb2.size
        by_cases hlt : k < xs.length
        · obtain ⟨b, o, rfl, hbs, c1, c2, c3⟩ := hs.n3 (fun _ => rfl) hb k hlt
          obtain ⟨z1, z2⟩ := hm.at k hlt
          have hgt := gath_take xs k hlt
          have hA := gath_aps (xs.take k)
          have hsz : ∀ y ∈ gathL (xs.take k), y.f.size ≤ maxLen ∧ y.t.size ≤ maxLen := gath_sizes _ fun y hy => by
            have := hm.2 y (List.mem_of_mem_take hy); simp only [maxLen]; omega
          obtain ⟨lx, hkx⟩ := kv_key (b := xs[k]) (by simp only [maxLen]; omega) (by simp only [maxLen]; omega)
          have hlen : (gathL (xs.take k)).length ≤ k := by have := gath_len (xs.take k); simp at this; omega
          rcases addL_cases _ xs[k] hA with ⟨j, hj, hsm, hadd⟩ | ⟨hno, hadd⟩
          · have hr := mpL_finds hj hsm
            rw [hadd] at hgt
            have HG := Lib.hid hgt
            have hpos := gath_pos (xs.take k) fun y hy => (HN.out y (List.mem_of_mem_take hy)).1
            have hle := mem_sum _ hpos _ (List.getElem_mem hj)
            rw [gath_sum] at hle
            have hp0 := hpos _ (List.getElem_mem hj)
            have hp1 := HN.out _ (List.getElem_mem hlt)
            have hst := sum_take xs k hlt
            have hst2 := sum_take_le xs (k + 1) fun y hy => (HN.out y hy).1
            rw [hst] at hst2
            clear hgt hadd hst hpos
            generalize gathL (xs.take k) = ys at *
            have hn1 : -9223372036854775808 ≤ ys[j].n + xs[k].n ∧ ys[j].n + xs[k].n ≤ 9223372036854775807 := by omega
            clear hst2 hle
            have HO' := HO
            rcases HO.2 with ⟨rfl, h0⟩ | ⟨g, cap, cur, rfl, hgb, hgg, hg1, hg2, _⟩
            · omega
            have hmx : cap ≤ 9223372036854775807 := by simpa [maxLen] using hg2
            clear hgg hg1 hg2
            obtain ⟨hgs, d1, d2, d3⟩ := HO'.cells3 j hj
            have hfz := World.ownsRow.frozenAt HO' (j * 3 + 2)
            have hj1 : (j : Int) < ys.length := by omega
            have hw1 : IntKind.i64.wrap (ys[j].n + xs[k].n) = ys[j].n + xs[k].n := IntWalk.i64_in _ (by omega)
            go_wp2_with (at_lookup; refine wpList_lookup_mp rfl _ _ 189 rfl 191 3 sides_keyed Tryz.underlying189 (.int .i64 0) (by rfl) _ (mpL ys) rfl (HM.below Bel) (mpL_apart hA) (mpL_key hsz) (kv xs[k]) lx rfl hkx _ hr ?_)
            have q3 : (wr.alloc (.cells #[.string xs[k].f, .string xs[k].t, .int .i64 xs[k].n] 71)).cell? ⟨g, j * 3 + 2, none⟩ = some (.int .i64 ys[j].n) := by simp [go_sem, d3, hgs]
            have qf : (wr.alloc (.cells #[.string xs[k].f, .string xs[k].t, .int .i64 xs[k].n] 71)).frozen? ⟨g, j * 3 + 2, none⟩ = false := by simp [go_sem, hfz, hgs]
            refine region_qtail 10 (by kernel_rfl) (by kernel_rfl) (fun W => ∃ n, W = World.drewN _ n) ⟨1, rfl⟩ ?_
            simp only [List.take_succ_cons, List.take_zero, List.drop_succ_cons, List.drop_zero]
            repeat (quiet_step (fail))
            refine wpQuiet_nil ?_
            intro _ hw'
            obtain ⟨nq, rfl⟩ := hw'
            go_wp2
            refine ⟨⟨k + 1, by omega, by go_num, ?_⟩, by simp [intOf]; omega⟩
            rw [HG.out]
            have hB1 : Below wr.heap.size wr ((wr.alloc (.cells #[.string xs[k].f, .string xs[k].t, .int .i64 xs[k].n] 71)).drewN nq) := Bel
            have HO6 := (HO'.below hB1).count j hj (ys[j].n + xs[k].n)
            refine ⟨HO6.1, ?_, hne, Bsc (Bdn (Bal hb _) _) hgb _⟩
            rw [mpL_keys (keys_set ys j hj _)]
            exact (HM.below hB1).setCell _ (fun e => hne (by simp only [Value.ownBlock]; rw [← e])) _
          · have hr := mpL_misses hno
            rw [hadd] at hgt
            have HG := Lib.hid hgt
            clear hgt hadd hno
            generalize gathL (xs.take k) = ys at *
            obtain ⟨Av, cv, rfl, hvc, hvm, hvs⟩ := HO.slv
            go_wp2_with (first
              | (at_lookup; (refine wpList_lookup_mp rfl _ _ 189 rfl 191 3 sides_keyed Tryz.underlying189 (.int .i64 0) (by rfl) _ (mpL ys) rfl (HM.below Bel) (mpL_apart hA) (mpL_key hsz) (kv xs[k]) lx rfl hkx _ hr.2 ?_))
              | (at_mapUpdate
                 go_loud (
                  refine wpList_mapUpdate_mp rfl _ _ _ 189 rfl 191 3 sides_keyed Tryz.underlying189 _ (mpL ys) rfl (HM.below Bel) (mpL_key hsz) (kv xs[k]) _ lx rfl rfl hkx hr.1 ?_
                  intro w4 HM4 hg4
                  have hlt2 := HM.lt
                  have hs4 := hg4.size
                  have d0 : w4.cell? ⟨wr.heap.size, 0, none⟩ = some (.string xs[k].f) := (hg4.cell_far _ (by simp) (by simp; omega)).trans (by simp [go_sem])
                  have d1 : w4.cell? ⟨wr.heap.size, 1, none⟩ = some (.string xs[k].t) := (hg4.cell_far _ (by simp) (by simp; omega)).trans (by simp [go_sem])
                  have d2 : w4.cell? ⟨wr.heap.size, 2, none⟩ = some (.int .i64 xs[k].n) := (hg4.cell_far _ (by simp) (by simp; omega)).trans (by simp [go_sem])
                  have HO4 := (HO.alloc (.cells #[.string xs[k].f, .string xs[k].t, .int .i64 xs[k].n] 71)).kept hg4 (.inr hne)
                  have hb4 := Bgr (Bal hb (.cells #[.string xs[k].f, .string xs[k].t, .int .i64 xs[k].n] 71)) hg4 (fun q hq => by injection hq with hq; omega)))
              | (at_builtin; refine app (E := eT3) _ _ 72 71 (.agg #[.string .empty, .string .empty, .int .i64 0]) 40 rfl rfl Tryz.underlying72 info_blk rfl (by decide) (by decide) _ ys [xs[k]] ⟨_, 0, none⟩ 1 1 rfl rfl rfl (HO4.below Bel) (SlA.new _ _ _ _ _ rfl _ rfl) Bel (by simp; omega) ?_; intro v1 w5 HO5 hb5 hg5 hm5))
            refine ⟨⟨k + 1, by omega, by go_num, ?_⟩, by simp [intOf]; omega⟩
            rw [HG.out]
            refine ⟨HO5, by rw [mpL_snoc]; exact (HM4.below Bel).kept hg5 (fun e => hne e.symm), ?_, hb5⟩
            have hl4 := HM4.lt
            rcases hm5 with h | h
            · rw [h]; exact hne
            · rw [h]; intro e; injection e with e; simp at e; omega
        · have hkk : xs.take k = xs := List.take_of_length_le (by omega)
          rw [hkk] at HO HM
          clear hkk
          have hap := gath_aps xs
          have hgl := gath_len xs
          obtain ⟨Av, cv, rfl, hvc, hvm, hvs⟩ := HO.slv
          by_cases h4 : 4096 < (gathL xs).length
          · have HV : Hid (tabE xs = 6) := by unfold tabE; rw [if_neg (fun h => h HE.out), if_neg (by omega), if_pos h4]; rfl
            go_wp2
            go_ret2
            exact ⟨[], _, by rw [HV.out]; rfl, SlV.nil, Bel, fun h => absurd h (by rw [HV.out]; decide), fun _ => rfl⟩
          · have HV : Hid (tabE xs = 0) := by unfold tabE; rw [if_neg (fun h => h HE.out), if_neg (by omega), if_neg h4]; rfl
            go_wp2_with (go_at_call 103; refine (sortB_c _ _ _ _ HO (by omega)).mono ?_; rintro e w3 ⟨rfl, ys, hp, hso, hys, hg3⟩)
            go_ret2
            exact ⟨ys, _, by rw [HV.out]; rfl, hys, Bgr hb hg3 HO.ge, fun _ => ⟨hp, hso⟩, fun h => absurd HV.out h⟩
    · have HV : Hid (sumV xs = .tuple #[.int .i64 0, .bool false]) := by unfold sumV; rw [if_neg hsum]; rfl
      have HT : Hid (tabE xs = 6) := by unfold tabE; rw [if_neg (fun h => h HE.out), if_pos (by omega)]; rfl
      go_enter Tryz.func61, Tryz.ntmps61
      go_wp2_with (first
        | (go_at_call 102; refine (each_c A c xs _ hU hs hm).mono ?_; rintro e w1 ⟨rfl, hb1⟩; rw [HE.out])
        | (go_at_call 97; refine (sum_c A c xs _ (hs.below Bel) (by omega) HN.out).mono ?_; rintro e w2 ⟨rfl, hb2⟩; rw [HV.out]))
      go_ret2
      exact ⟨[], _, by rw [HT.out]; rfl, SlV.nil, Bel, fun h => absurd h (by rw [HT.out]; decide), fun _ => rfl⟩
  · have hn : (eachT xs != 0) = true := by simp [h0]
    have HT : Hid (tabE xs = eachT xs) := by unfold tabE; rw [if_pos h0]; rfl
    have H0 := Lib.hid h0
    clear h0
    go_enter Tryz.func61, Tryz.ntmps61
    go_wp2_with (go_at_call 102; refine (each_c A c xs _ hU hs hm).mono ?_; rintro e w1 ⟨rfl, hb1⟩)
    go_ret2
    exact ⟨[], _, by rw [HT.out]; rfl, SlV.nil, Bel, fun h => absurd (HT.out.symm.trans h) H0.out, fun _ => rfl⟩
end Go.Proofs.YtpnhmapkdbnkmaaGreatDoor
/- What a table of blocks is, in plain words: sides that rise, each with all that the list has of it. No condition. -/
namespace Go.Proofs.YtpnhmapkdbnkmaaGreatDoor
open Go Go.RowKit
theorem sum_perm {l m : List Int} (h : l.Perm m) : l.sum = m.sum := by
  induction h with
  | nil => rfl
  | cons x _ ih => simp [ih]
  | swap x y l => simp only [List.sum_cons]; omega
  | trans _ _ h1 h2 => exact h1.trans h2
/-- How much of a list is of the sides f, t. -/
noncomputable def tot (l : List T3) (f t : ByteArray) : Int := (l.map fun x => if x.f = f ∧ x.t = t then x.n else 0).sum
theorem tot_nil (f t : ByteArray) : tot [] f t = 0 := rfl
theorem tot_cons (x : T3) (l : List T3) (f t : ByteArray) : tot (x :: l) f t = (if x.f = f ∧ x.t = t then x.n else 0) + tot l f t := by simp [tot]
theorem tot_append (l m : List T3) (f t : ByteArray) : tot (l ++ m) f t = tot l f t + tot m f t := by simp [tot]
theorem tot_perm {l m : List T3} (h : l.Perm m) (f t : ByteArray) : tot l f t = tot m f t := sum_perm (h.map _)
theorem tot_none {l : List T3} {f t : ByteArray} (h : (f, t) ∉ keysT l) : tot l f t = 0 := by
  induction l with
  | nil => rfl
  | cons x l ih =>
    simp only [keysT, List.map_cons, List.mem_cons, not_or] at h
    rw [tot_cons, if_neg (fun e => h.1 (by rw [e.1, e.2])), ih h.2]; rfl
theorem mem_keys {l : List T3} {x : T3} (h : x ∈ l) : (x.f, x.t) ∈ keysT l := List.mem_map.2 ⟨x, h, rfl⟩
theorem tot_mem {l : List T3} (hA : ApS l) {x : T3} (h : x ∈ l) : tot l x.f x.t = x.n := by
  induction l with
  | nil => cases h
  | cons y l ih =>
    obtain ⟨h1, h2⟩ := List.pairwise_cons.1 hA
    rw [tot_cons]
    rcases List.mem_cons.1 h with rfl | h
    · rw [if_pos ⟨rfl, rfl⟩, tot_none]
      · omega
      · intro hk
        obtain ⟨z, hz, e⟩ := List.mem_map.1 hk
        injection e with e1 e2
        exact h1 z hz ⟨e1.symm, e2.symm⟩
    · rw [if_neg (fun e : y.f = x.f ∧ y.t = x.t => h1 x h e), ih h2 h]; omega
theorem tot_addL (l : List T3) (x : T3) (f t : ByteArray) : tot (addL l x) f t = tot l f t + if x.f = f ∧ x.t = t then x.n else 0 := by
  induction l with
  | nil => simp [addL, tot_cons, tot_nil]
  | cons y l ih =>
    unfold addL
    split
    · rename_i h
      rw [tot_cons, tot_cons]
      show (if y.f = f ∧ y.t = t then y.n + x.n else 0) + _ = _
      obtain ⟨e1, e2⟩ := h
      rw [← e1, ← e2]
      split <;> omega
    · rw [tot_cons, tot_cons, ih]; omega
theorem keys_addL (l : List T3) (x : T3) (k : ByteArray × ByteArray) : k ∈ keysT (addL l x) ↔ k ∈ keysT l ∨ k = (x.f, x.t) := by
  induction l with
  | nil => simp [addL, keysT]
  | cons y l ih =>
    unfold addL
    split
    · rename_i h
      simp only [keysT, List.map_cons, List.mem_cons]
      rw [← h.1, ← h.2]
      constructor
      · exact .inl
      · rintro (h | h)
        · exact h
        · exact .inl h
    · simp only [keysT, List.map_cons, List.mem_cons] at ih ⊢
      rw [ih]; simp only [or_assoc]
theorem gath_tot (l : List T3) (f t : ByteArray) : tot (gathL l) f t = tot l f t := by
  have : ∀ (l a : List T3), tot (l.foldl addL a) f t = tot a f t + tot l f t := fun l => by
    induction l with
    | nil => simp [tot_nil]
    | cons x l ih => exact fun a => by simp only [List.foldl_cons]; rw [ih, tot_addL, tot_cons]; omega
  have h := this l []
  simpa [gathL, tot_nil] using h
theorem gath_keys (l : List T3) (k : ByteArray × ByteArray) : k ∈ keysT (gathL l) ↔ k ∈ keysT l := by
  have : ∀ (l a : List T3), (k ∈ keysT (l.foldl addL a) ↔ k ∈ keysT a ∨ k ∈ keysT l) := by
    intro l
    induction l with
    | nil => simp [keysT]
    | cons x l ih =>
      intro a
      simp only [List.foldl_cons]
      rw [ih, keys_addL]
      simp [keysT, or_assoc]
  have h := this l []
  simpa [gathL, keysT] using h
/-- ys is the table of l. -/
structure Tab (l ys : List T3) : Prop where
  rise : ys.Pairwise fun x y => ltT x y = true
  keys : ∀ k, k ∈ keysT ys ↔ k ∈ keysT l
  tot : ∀ f t, tot ys f t = tot l f t
theorem rise_aps {ys : List T3} (h : ys.Pairwise fun x y => ltT x y = true) : ApS ys := h.imp fun {a b} h e => by
  rw [ltT_same e.1 e.2 rfl rfl, ltT_irrefl] at h; cases h
theorem TabOf.tab {l ys : List T3} (h : TabOf l ys) : Tab l ys := by
  have hA : ApS ys := by rw [aps_iff]; exact ((h.1.map _).nodup_iff).2 ((aps_iff _).1 (gath_aps l))
  refine ⟨?_, fun k => ?_, fun f t => by rw [tot_perm h.1, gath_tot]⟩
  · have h2 := List.Pairwise.and h.2 hA
    refine h2.imp fun {a b} h => ?_
    cases e : ltT a b
    · exact absurd (ltT_tri e h.1) h.2
    · rfl
  · exact (List.Perm.map (fun x : T3 => (x.f, x.t)) h.1).mem_iff.trans (gath_keys l k)
theorem rise_eq : ∀ {xs ys : List T3}, (xs.Pairwise fun x y => ltT x y = true) → (ys.Pairwise fun x y => ltT x y = true) → (∀ b, b ∈ xs ↔ b ∈ ys) → xs = ys
  | [], [], _, _, _ => rfl
  | [], y :: ys, _, _, h => absurd ((h y).2 (by simp)) (by simp)
  | x :: xs, [], _, _, h => absurd ((h x).1 (by simp)) (by simp)
  | x :: xs, y :: ys, hx, hy, h => by
    obtain ⟨x1, x2⟩ := List.pairwise_cons.1 hx
    obtain ⟨y1, y2⟩ := List.pairwise_cons.1 hy
    have e : x = y := by
      rcases List.mem_cons.1 ((h x).1 (by simp)) with e | hm
      · exact e
      · rcases List.mem_cons.1 ((h y).2 (by simp)) with e | hm'
        · exact e.symm
        · have := ltT_asymm (y1 x hm)
          rw [x1 y hm'] at this; cases this
    subst e
    congr 1
    refine rise_eq x2 y2 fun b => ⟨fun hb => ?_, fun hb => ?_⟩
    · rcases List.mem_cons.1 ((h b).1 (by simp [hb])) with e | hm
      · have := x1 b hb; rw [e, ltT_irrefl] at this; cases this
      · exact hm
    · rcases List.mem_cons.1 ((h b).2 (by simp [hb])) with e | hm
      · have := y1 b hb; rw [e, ltT_irrefl] at this; cases this
      · exact hm
theorem Tab.mem {l ys : List T3} (h : Tab l ys) (b : T3) : b ∈ ys ↔ (b.f, b.t) ∈ keysT l ∧ b.n = Go.Proofs.YtpnhmapkdbnkmaaGreatDoor.tot l b.f b.t := by
  have hA := rise_aps h.rise
  rw [← h.keys, ← h.tot]
  constructor
  · exact fun hb => ⟨mem_keys hb, (tot_mem hA hb).symm⟩
  · rintro ⟨hk, hn⟩
    obtain ⟨x, hx, e⟩ := List.mem_map.1 hk
    injection e with e1 e2
    have h3 := tot_mem hA hx
    rw [e1, e2, ← hn] at h3
    have : b = x := by cases b; cases x; simp_all
    rw [this]; exact hx
theorem Tab.uniq {l m ys zs : List T3} (h : Tab l ys) (k : Tab m zs) (hk : ∀ q, q ∈ keysT l ↔ q ∈ keysT m) (ht : ∀ f t, Go.Proofs.YtpnhmapkdbnkmaaGreatDoor.tot l f t = Go.Proofs.YtpnhmapkdbnkmaaGreatDoor.tot m f t) : ys = zs :=
  rise_eq h.rise k.rise fun b => by rw [h.mem, k.mem, hk, ht]
theorem Tab.self {ys : List T3} (h : ys.Pairwise fun x y => ltT x y = true) : Tab ys ys := ⟨h, fun _ => Iff.rfl, fun _ _ => rfl⟩
theorem TabOf.sum {l ys : List T3} (h : TabOf l ys) : sumT ys = sumT l := (sum_perm (h.1.map _)).trans (gath_sum l)
theorem TabOf.len {l ys : List T3} (h : TabOf l ys) : ys.length = (gathL l).length := h.1.length_eq
theorem rise_of {ys : List T3} (h : ys.Pairwise fun x y => ltT x y = true) : riseT ys = true := (rise_iff ys).2 fun i hi => List.pairwise_iff_getElem.1 h i (i + 1) (by omega) hi (by omega)
theorem of_rise {ys : List T3} (h : riseT ys = true) : ys.Pairwise fun x y => ltT x y = true := by
  have h' := (rise_iff ys).1 h
  rw [List.pairwise_iff_getElem]
  intro i j hi hj hij
  obtain ⟨d, rfl⟩ : ∃ d, j = i + 1 + d := ⟨j - i - 1, by omega⟩
  clear hij
  induction d with
  | zero => exact h' i hj
  | succ d ih => exact ltT_trans (ih (by omega)) (h' (i + 1 + d) hj)
theorem bchk_with {b x : T3} (h1 : b.f = x.f) (h2 : b.t = x.t) (hx : bchk x = 0) (hn : 1 ≤ b.n) (hm : b.n ≤ 1073741824) : bchk b = 0 := by
  unfold bchk at *
  rw [h1, h2]
  have h3 : ¬ (b.n < 1 ∨ 1073741824 < b.n) := by omega
  rw [if_neg h3]
  repeat' split at hx
  all_goals first | (exfalso; omega) | skip
  all_goals simp_all
theorem addL_one (l : List T3) (x : T3) (h : ∀ b ∈ l, 1 ≤ b.n) (hx : 1 ≤ x.n) : ∀ b ∈ addL l x, 1 ≤ b.n := by
  induction l with
  | nil => simpa [addL] using hx
  | cons y l ih =>
    have hy := h y (by simp)
    have ih := ih fun b hb => h b (by simp [hb])
    unfold addL
    split
    · intro b hb
      rcases List.mem_cons.1 hb with rfl | hb
      · show 1 ≤ y.n + x.n; omega
      · exact h b (by simp [hb])
    · intro b hb
      rcases List.mem_cons.1 hb with rfl | hb
      · exact hy
      · exact ih b hb
theorem gath_one (l : List T3) (h : ∀ b ∈ l, 1 ≤ b.n) : ∀ b ∈ gathL l, 1 ≤ b.n := by
  have : ∀ (l a : List T3), (∀ b ∈ l, 1 ≤ b.n) → (∀ b ∈ a, 1 ≤ b.n) → ∀ b ∈ l.foldl addL a, 1 ≤ b.n := fun l => by
    induction l with
    | nil => exact fun a _ h => h
    | cons x l ih => exact fun a h1 h2 => ih _ (fun b hb => h1 b (by simp [hb])) (addL_one a x h2 (h1 x (by simp)))
  exact this l [] h (by simp)
theorem tabE_zero {l : List T3} : tabE l = 0 ↔ eachT l = 0 ∧ sumT l ≤ 1073741824 ∧ (gathL l).length ≤ 4096 := by
  unfold tabE
  by_cases h : eachT l = 0
  · simp only [h, ne_eq, not_true_eq_false, if_false, true_and]
    repeat' split
    all_goals omega
  · simp [h]
/-- A table may be. -/
theorem TabOf.ok {l ys : List T3} (h : TabOf l ys) (he : tabE l = 0) : tchk ys = 0 := by
  obtain ⟨h1, h2, h3⟩ := tabE_zero.1 he
  have h1' := (each_all l).1 h1
  have ht := h.tab
  have hs := h.sum
  have hone : ∀ b ∈ ys, 1 ≤ b.n := fun b hb => gath_one l (fun x hx => (bchk_n x (h1' x hx)).1) b (h.1.mem_iff.1 hb)
  have hle := mem_sum ys fun b hb => by have := hone b hb; omega
  have he' : eachT ys = 0 := (each_all ys).2 fun b hb => by
    have hk := (ht.keys (b.f, b.t)).1 (mem_keys hb)
    obtain ⟨x, hx, e⟩ := List.mem_map.1 hk
    injection e with e1 e2
    exact bchk_with e1.symm e2.symm (h1' x hx) (hone b hb) (by have := hle b hb; omega)
  unfold tchk
  rw [if_neg (by simp [he']), if_neg (by rw [rise_of ht.rise]; simp), if_neg (by rw [h.len]; omega)]
theorem tabE_perm {l m : List T3} (h : l.Perm m) : tabE l = 0 ↔ tabE m = 0 := by
  have h1 : eachT l = 0 ↔ eachT m = 0 := by
    rw [each_all, each_all]
    exact ⟨fun k b hb => k b (h.mem_iff.2 hb), fun k b hb => k b (h.mem_iff.1 hb)⟩
  have h2 : sumT l = sumT m := sum_perm (h.map _)
  have h3 : (keysT (gathL l)).length = (keysT (gathL m)).length := by
    refine List.Perm.length_eq ?_
    refine (List.perm_ext_iff_of_nodup ((aps_iff _).1 (gath_aps l)) ((aps_iff _).1 (gath_aps m))).2 fun k => ?_
    rw [gath_keys, gath_keys]
    exact (h.map fun x : T3 => (x.f, x.t)).mem_iff
  simp only [keysT, List.length_map] at h3
  rw [tabE_zero, tabE_zero, h1, h2, h3]
theorem TabOf.perm {l m ys zs : List T3} (h : TabOf l ys) (k : TabOf m zs) (hp : l.Perm m) : ys = zs :=
  h.tab.uniq k.tab (fun _ => (hp.map fun x : T3 => (x.f, x.t)).mem_iff) fun f t => tot_perm hp f t
end Go.Proofs.YtpnhmapkdbnkmaaGreatDoor
/- Whether two tables are the same; what is too great; how many there are. No condition. -/
namespace Go.Proofs.YtpnhmapkdbnkmaaGreatDoor
open Go Go.RowKit
noncomputable instance : DecidableEq T3 := fun _ _ => Classical.propDecidable _
noncomputable def sameT (xs ys : List T3) : Bool := decide (xs = ys)
theorem t3_ne {a b : T3} : a ≠ b ↔ ¬ (a.f = b.f ∧ a.t = b.t ∧ a.n = b.n) := by cases a; cases b; simp
theorem blk_equal (a b : T3) (w : World) : (Op.equalIn 10000 71 (.agg #[.string a.f, .string a.t, .int .i64 a.n]) (.agg #[.string b.f, .string b.t, .int .i64 b.n])).run Tryz.prog w = .ok (decide (a = b)) w := by
  rw [run_equalIn_agg w 9999 _ _ _ (by kernel_rfl) (by kernel_rfl)]
  have hs : ∀ x y : ByteArray, x.toList = y.toList ↔ x = y := fun x y => ⟨ba_ext, fun h => by rw [h]⟩
  have he : (decide (a = b)) = (decide (a.f = b.f) && (decide (a.t = b.t) && decide (a.n = b.n))) := by cases a; cases b; simp
  rw [he]
  simp [go_sem, Op.eqFields, Program.fieldsOf, Tryz.underlying71, Tryz.underlying9, Tryz.underlying3, hs]
  by_cases h1 : a.f = b.f <;> by_cases h2 : a.t = b.t <;> by_cases h3 : a.n = b.n <;> simp [h1, h2, h3]
/-- The texts' bytes. -/
def szT (l : List T3) : Nat := (l.map fun b => b.f.size + b.t.size).sum
theorem sz_take (l : List T3) (k : Nat) (h : k < l.length) : szT (l.take (k + 1)) = szT (l.take k) + (l[k].f.size + l[k].t.size) := by
  unfold szT; rw [List.take_succ_eq_append_getElem h, List.map_append, List.sum_append]; simp
def greatT (l : List T3) : Bool := decide (500 < l.length ∨ 8000 < szT l)
/-- What 'Total' hands back. -/
def totV (l : List T3) : Value := .tuple #[.int .i64 (if tchk l = 0 then sumT l else 0), .int .i64 (tchk l)]
theorem tchk_zero {l : List T3} (h : tchk l = 0) : eachT l = 0 ∧ riseT l = true ∧ sumT l ≤ 1073741824 ∧ l.length ≤ 4096 := by
  unfold tchk at h
  by_cases h1 : eachT l = 0
  · rw [if_neg (by simp [h1])] at h
    cases h2 : riseT l
    · rw [if_pos h2] at h; cases h
    · rw [if_neg (by simp [h2])] at h
      split at h
      · cases h
      · exact ⟨h1, rfl, by omega, by omega⟩
  · rw [if_pos h1] at h; exact absurd h h1
set_option maxHeartbeats 1000000 in
set_option maxRecDepth 100000 in
theorem total_c (A : Option Addr) (c : Nat) (xs : List T3) (w : World) (hU : U w) (hs : SlA eT3 w A xs) (hm : Small xs) :
    Calls Tryz.prog 57 #[.slice A xs.length c] w (Ret w (totV xs)) := by
  have hl := hm.1
  by_cases h0 : tchk xs = 0
  · have hz := tchk_zero h0
    have hn : ∀ b ∈ xs, 0 ≤ b.n ∧ b.n ≤ 2147483648 := fun b hb => by have := bchk_n b ((each_all xs).1 hz.1 b hb); omega
    have HT : Hid (totV xs = .tuple #[.int .i64 (sumT xs), .int .i64 0]) := by unfold totV; rw [h0]; rfl
    have HV : Hid (sumV xs = .tuple #[.int .i64 (sumT xs), .bool true]) := by unfold sumV; rw [if_pos hz.2.2.1]; rfl
    have HE := Lib.hid h0
    have HN := Lib.hid hn
    clear h0 hz hn
    go_enter Tryz.func57, Tryz.ntmps57
    go_wp2_with (first
      | (go_at_call 96; refine (tchk_c A c xs _ hU hs hm).mono ?_; rintro e w1 ⟨rfl, hb1⟩; rw [HE.out])
      | (go_at_call 97; refine (sum_c A c xs _ (hs.below Bel) (by omega) HN.out).mono ?_; rintro e w2 ⟨rfl, hb2⟩; rw [HV.out]))
    go_ret2
    exact ⟨by rw [HT.out]; rfl, Bel⟩
  · have hn : (tchk xs != 0) = true := by simp [h0]
    have HT : Hid (totV xs = .tuple #[.int .i64 0, .int .i64 (tchk xs)]) := by unfold totV; rw [if_neg h0]; rfl
    clear h0
    go_enter Tryz.func57, Tryz.ntmps57
    go_wp2_with (go_at_call 96; refine (tchk_c A c xs _ hU hs hm).mono ?_; rintro e w1 ⟨rfl, hb1⟩)
    go_ret2
    exact ⟨by rw [HT.out]; rfl, Bel⟩
def bA : T3 := ⟨⟨#[114, 110]⟩, ⟨#[109]⟩, 1⟩
def bB : T3 := ⟨⟨#[108]⟩, ⟨#[105]⟩, 1⟩
theorem bchk_A : bchk bA = 0 := by
  have h1 : okS bA.f = 0 := by decide
  have h2 : okS bA.t = 0 := by decide
  have h3 : lenS bA.f = 2 := by decide
  have h4 : lenS bA.t = 1 := by decide
  have h5 : (bA.f.toList == bA.t.toList) = false := by rw [ByteArray.toList_eq, ByteArray.toList_eq]; decide
  unfold bchk
  rw [h1, h2, h3, h4, h5]
  decide
theorem bchk_B : bchk bB = 0 := by
  have h1 : okS bB.f = 0 := by decide
  have h2 : okS bB.t = 0 := by decide
  have h3 : lenS bB.f = 1 := by decide
  have h4 : lenS bB.t = 1 := by decide
  have h5 : (bB.f.toList == bB.t.toList) = false := by rw [ByteArray.toList_eq, ByteArray.toList_eq]; decide
  unfold bchk
  rw [h1, h2, h3, h4, h5]
  decide
theorem AB_lt (n : Int) : ltT bB ⟨bA.f, bA.t, n⟩ = true := by
  rw [ltT_two]
  have h : lts bB.f bA.f = true := by unfold lts; rw [ByteArray.toList_eq, ByteArray.toList_eq]; decide
  show (lts bB.f bA.f || _) = true
  rw [h]; rfl
theorem AB_not : ¬ SameS bA bB ∧ ¬ SameS bB bA := by
  unfold SameS bA bB
  constructor
  · rintro ⟨h, _⟩; injection h with h; simp at h
  · rintro ⟨h, _⟩; injection h with h; simp at h
theorem alive_gath : gathL [bA, bB, bA] = [⟨bA.f, bA.t, 2⟩, bB] := by
  show addL (addL (addL [] bA) bB) bA = _
  have h1 : addL [] bA = [bA] := rfl
  have h2 : addL [bA] bB = [bA, bB] := by unfold addL; rw [if_neg AB_not.1]; rfl
  have h3 : addL [bA, bB] bA = [⟨bA.f, bA.t, 2⟩, bB] := by unfold addL; rw [if_pos ⟨rfl, rfl⟩]; rfl
  rw [h1, h2, h3]
theorem alive_E : tabE [bA, bB, bA] = 0 := by
  rw [tabE_zero]
  refine ⟨(each_all _).2 fun b hb => ?_, by decide, by rw [alive_gath]; decide⟩
  simp only [List.mem_cons, List.not_mem_nil, or_false] at hb
  rcases hb with h | h | h <;> rw [h]
  · exact bchk_A
  · exact bchk_B
  · exact bchk_A
theorem alive_tab {ys : List T3} (h : TabOf [bA, bB, bA] ys) : ys = [bB, ⟨bA.f, bA.t, 2⟩] := by
  have hr : ltT bB ⟨bA.f, bA.t, 2⟩ = true := AB_lt 2
  refine rise_eq h.tab.rise (by simpa using hr) fun b => ?_
  rw [h.1.mem_iff, alive_gath]
  simp only [List.mem_cons, List.not_mem_nil, or_false]
  exact Or.comm
end Go.Proofs.YtpnhmapkdbnkmaaGreatDoor
/- The reference of layer 6: order, Check, Sum. No condition. -/
namespace Go.Proofs.YtpnhmapkdbnkmaaGreatDoor
open Go.RowKit
theorem ltT_eq (a b : T3) : ltT a b = (Op.bytesLess a.f.toList b.f.toList || (a.f.toList == b.f.toList && Op.bytesLess a.t.toList b.t.toList)) := by
  unfold ltT cmpT cmpS
  cases h1 : Op.bytesLess a.f.toList b.f.toList <;> cases h2 : a.f.toList == b.f.toList <;> cases h3 : Op.bytesLess a.t.toList b.t.toList <;> cases h4 : a.t.toList == b.t.toList <;> simp [orL]
set_option maxHeartbeats 1000000 in
set_option maxRecDepth 100000 in
theorem r5less_c (a b : T3) (w : World) : Calls Tryz.prog 109 #[.agg #[.string a.f, .string a.t, .int .i64 a.n], .agg #[.string b.f, .string b.t, .int .i64 b.n]] w (Ret w (.bool (ltT a b))) := by
  rw [ltT_eq]
  cases h1 : Op.bytesLess a.f.toList b.f.toList <;> cases h2 : a.f.toList == b.f.toList <;> cases h3 : Op.bytesLess a.t.toList b.t.toList
  all_goals
    go_enter Tryz.func109, Tryz.ntmps109
    go_wp2
    go_ret
    exact ⟨rfl, Bel⟩
set_option maxHeartbeats 1000000 in
set_option maxRecDepth 100000 in
theorem r7less_c (a b : T3) (w : World) : Calls Tryz.prog 139 #[.agg #[.string a.f, .string a.t, .int .i64 a.n], .agg #[.string b.f, .string b.t, .int .i64 b.n]] w (Ret w (.bool (ltT a b))) := by
  rw [ltT_eq]
  cases h1 : Op.bytesLess a.f.toList b.f.toList <;> cases h2 : a.f.toList == b.f.toList <;> cases h3 : Op.bytesLess a.t.toList b.t.toList
  all_goals
    go_enter Tryz.func139, Tryz.ntmps139
    go_wp2
    go_ret
    exact ⟨rfl, Bel⟩
set_option maxHeartbeats 1000000 in
set_option maxRecDepth 100000 in
theorem r6sum_c (A : Option Addr) (c : Nat) (xs : List T3) (w : World) (hs : SlA eT3 w A xs) (hl : xs.length ≤ 4294967296) (hn : ∀ b ∈ xs, 0 ≤ b.n ∧ b.n ≤ 1073741824) :
    Calls Tryz.prog 66 #[.slice A xs.length c] w (Ret w (.int .i64 (sumT xs))) := by
  have hM := sum_le xs 1073741824 fun b hb => (hn b hb).2
  have HN := Lib.hid hn
  clear hn
  go_enter Tryz.func66, Tryz.ntmps66
  go_wp2
  go_loopw [3, 5, 8] (fun s _ i wr => ∃ k : Nat, k ≤ xs.length ∧ i = .int .i64 k ∧ s = .int .i64 (sumT (xs.take k)) ∧ 0 ≤ sumT (xs.take k) ∧ sumT (xs.take k) ≤ sumT xs ∧ Below w.heap.size w wr) (fun _ _ i _ => xs.length - (intOf i).toNat)
  case atStart => exact ⟨0, by omega, rfl, rfl, by simp [sumT], by have := sum_nonneg xs fun b hb => (HN.out b hb).1; simpa [sumT] using this, Bel⟩
  case round =>
    obtain ⟨k, hk, rfl, rfl, hs0, hs1, hb⟩ := hrel
    by_cases hlt : k < xs.length
    · obtain ⟨b, o, rfl, c1, c2, c3⟩ := hs.at3 (fun _ => rfl) hb k hlt
      have hd := sum_take xs k hlt
      have hle := sum_take_le xs (k + 1) fun b hb => (HN.out b hb).1
      obtain ⟨n0, n1⟩ := HN.out _ (List.getElem_mem hlt)
      rw [hd] at hle
      have HD := Lib.hid hd
      clear hd
      go_wp2
      go_roundw
      case rel => exact ⟨k + 1, by omega, by go_num, by rw [HD.out], by rw [HD.out]; omega, by rw [HD.out]; omega, Bel⟩
      case measure => simp [intOf]; omega
    · have HT : Hid (sumT (xs.take k) = sumT xs) := by rw [List.take_of_length_le (by omega)]; rfl
      go_wp2
      go_ret
      exact ⟨by rw [← HT.out]; rfl, Bel⟩
set_option maxHeartbeats 4000000 in
set_option maxRecDepth 100000 in
theorem r6chk_c (A : Option Addr) (c : Nat) (xs : List T3) (w : World) (hs : SlA eT3 w A xs) (hm : Small xs) :
    Calls Tryz.prog 64 #[.slice A xs.length c] w (Ret w (.int .i64 (tchk xs))) := by
  have hl := hm.1
  go_enter Tryz.func64, Tryz.ntmps64
  go_wp2
  go_loopw [5, 6, 12] (fun _ _ i wr => ∃ k : Nat, k ≤ xs.length ∧ i = .int .i64 k ∧ Hid (eachT (xs.drop k) = eachT xs) ∧ Below w.heap.size w wr) (fun _ _ i _ => xs.length - (intOf i).toNat)
  case atStart => exact ⟨0, by omega, rfl, rfl, Bel⟩
  case round =>
    obtain ⟨k, hk, rfl, HE, hb⟩ := hrel
    by_cases hlt : k < xs.length
    · obtain ⟨b, o, rfl, c1, c2, c3⟩ := hs.at3 (fun _ => rfl) hb k hlt
      have hd := each_drop xs k hlt
      obtain ⟨z1, z2⟩ := hm.at k hlt
      by_cases hz : bchk xs[k] = 0
      · rw [if_pos hz] at hd
        have HD := Lib.hid hd; have HZ := Lib.hid hz
        clear hd hz
        go_wp2_with (go_at_call 107; refine (r5chk_c xs[k] _ (by omega) (by omega)).mono ?_; rintro e w2 ⟨rfl, hb2⟩; rw [HZ.out])
        go_roundw
        case rel => exact ⟨k + 1, by omega, by go_num, HD.out.symm.trans HE.out, Bel⟩
        case measure => simp [intOf]; omega
      · rw [if_neg hz] at hd
        have hn : (bchk xs[k] != 0) = true := by simp [hz]
        have HV : Hid (tchk xs = bchk xs[k]) := by have h := hd.symm.trans HE.out; unfold tchk; rw [← h, if_pos hz]; rfl
        clear hd hz
        go_wp2_with (go_at_call 107; refine (r5chk_c xs[k] _ (by omega) (by omega)).mono ?_; rintro e w2 ⟨rfl, hb2⟩)
        go_ret
        exact ⟨by rw [HV.out]; rfl, Bel⟩
    · have he : eachT xs = 0 := by have h := HE.out; rw [List.drop_of_length_le (by omega)] at h; exact h.symm
      have HN := Lib.hid (fun b hb => bchk_n b ((each_all xs).1 he b hb) : ∀ b ∈ xs, 1 ≤ b.n ∧ b.n ≤ 1073741824)
      have HZ := Lib.hid he
      clear HE he
      go_wp2
      clear hlt hk
      go_loopw [7, 24] (fun _ i wr => ∃ k : Nat, k ≤ xs.length ∧ i = .int .i64 k ∧ Hid (upTo xs k) ∧ Below w.heap.size w wr) (fun _ i _ => xs.length - (intOf i).toNat)
      case atStart => exact ⟨0, by omega, rfl, fun i h h1 => by omega, Bel⟩
      case round =>
        obtain ⟨k, hk, rfl, HR, hb⟩ := hrel
        by_cases hlt : k < xs.length
        · rcases Nat.eq_zero_or_pos k with rfl | hp
          · go_wp2_with fail
            refine region_seq [(0, true), (1, true), (2, true), (3, true), (4, true), (5, true), (6, true), (7, true), (8, true), (9, true), (10, true), (11, true), (12, false), (13, true), (14, true)] (by kernel_rfl) (by kernel_rfl) (fun c a d v w h => by cases d <;> exact h) ?_
            intro W hW
            repeat (first
              | (refine seq_q rfl (fun K hK => ?_); unfold takeQ; go_simp; refine hK _ ?_; clear hK K)
              | (refine seq_t rfl (fun K hK => ?_); go_simp; refine hK _ _ (.of Bel) ?_; clear hK K))
            refine seq_nil ?_
            go_wp2
            go_roundw
            case rel => exact ⟨1, by omega, rfl, fun i h h1 => by omega, Bel⟩
            case measure => simp [intOf]; omega
          · obtain ⟨j, rfl⟩ : ∃ j, k = j + 1 := ⟨k - 1, by omega⟩
            obtain ⟨b, o, rfl, hbs, c1, c2, c3⟩ := hs.n3 (fun _ => rfl) hb j (by omega)
            obtain ⟨b', o', h', _, d1, d2, d3⟩ := hs.n3 (fun _ => rfl) hb (j + 1) (by omega)
            obtain ⟨rfl, rfl⟩ : b = b' ∧ o = o' := by injection h' with h'; injection h' with h1 h2; exact ⟨h1, h2⟩
            clear h'
            have hjl : j < xs.length := by omega
            have hj1 : (j : Int) + 1 < xs.length := by omega
            have hj0 : 0 ≤ (j : Int) + 1 := by omega
            have ht1 : ((j : Int) + 1).toNat = j + 1 := by omega
            have hwj : IntKind.i64.wrap (j : Int) = j := IntWalk.i64_in _ (by omega)
            cases hy : ltT xs[j] xs[j + 1]
            all_goals
              have HY := Lib.hid hy
              clear hy
              go_wp2_with fail
              refine region_seq [(0, true), (1, true), (2, true), (3, true), (4, true), (5, true), (6, true), (7, true), (8, true), (9, true), (10, true), (11, true), (12, false), (13, true), (14, true)] (by kernel_rfl) (by kernel_rfl) (fun c a d v w h => by cases d <;> exact h) ?_
              intro W hW
              obtain ⟨hcW, hzW⟩ := bcell hW
              repeat (first
                | (refine seq_q rfl (fun K hK => ?_); unfold takeQ; go_simp; refine hK _ ?_; clear hK K)
                | (refine seq_t rfl (fun K hK => ?_); go_simp; go_at_call 109; refine (r5less_c xs[j] xs[j + 1] _).mono ?_; rintro e w3 ⟨rfl, hb3⟩; rw [HY.out]; go_simp; refine hK _ _ (.of Bel) ?_; clear hK K))
              refine seq_nil ?_
              go_wp2
            · have HV : Hid (tchk xs = 7) := by unfold tchk; rw [if_neg (fun h => h HZ.out), if_pos (rise_no hlt HY.out)]; rfl
              go_ret
              exact ⟨by rw [HV.out]; rfl, Bel⟩
            · exact ⟨⟨j + 1 + 1, by omega, by go_num, upTo_succ hlt HR.out HY.out, Bel⟩, by simp [intOf]; omega⟩
        · obtain rfl : k = xs.length := by omega
          have HR2 := Lib.hid (upTo_all HR.out)
          have HS : Hid (tchk xs = if 1073741824 < sumT xs ∨ 4096 < xs.length then 6 else 0) := by
            unfold tchk; rw [if_neg (fun h => h HZ.out), if_neg (by rw [HR2.out]; simp)]; rfl
          clear HR HR2 hk hlt
          by_cases hm4 : 4096 < xs.length
          · go_wp2
            go_ret
            exact ⟨ret_int (by rw [HS.out, if_pos (.inr hm4)]), Bel⟩
          · have hM := sum_le xs 1073741824 fun b hb => (HN.out b hb).2
            have h0N := Lib.hid (fun b hb => by have := HN.out b hb; omega : ∀ b ∈ xs, 0 ≤ b.n)
            go_wp2
            go_loopw [3, 9, 48] (fun s _ i wr => ∃ k : Nat, k ≤ xs.length ∧ i = .int .i64 k ∧ s = .int .i64 (sumT (xs.take k)) ∧ 0 ≤ sumT (xs.take k) ∧ sumT (xs.take k) ≤ sumT xs ∧ Below w.heap.size w wr) (fun _ _ i _ => xs.length - (intOf i).toNat)
            case atStart => exact ⟨0, by omega, rfl, rfl, by simp [sumT], by have := sum_nonneg xs h0N.out; simpa [sumT] using this, Bel⟩
            case round =>
              obtain ⟨k, hk, rfl, rfl, hs0, hs1, hb⟩ := hrel
              by_cases hlt : k < xs.length
              · obtain ⟨b, o, rfl, c1, c2, c3⟩ := hs.at3 (fun _ => rfl) hb k hlt
                have hd := sum_take xs k hlt
                have hle := sum_take_le xs (k + 1) h0N.out
                obtain ⟨n0, n1⟩ := HN.out _ (List.getElem_mem hlt)
                rw [hd] at hle
                have HD := Lib.hid hd
                clear hd
                go_wp2
                go_roundw
                case rel => exact ⟨k + 1, by omega, by go_num, by rw [HD.out], by rw [HD.out]; omega, by rw [HD.out]; omega, Bel⟩
                case measure => simp [intOf]; omega
              · have HT : Hid (sumT (xs.take k) = sumT xs) := by rw [List.take_of_length_le (by omega)]; rfl
                go_wp2
                all_goals
                  rename_i hq
                  rw [HT.out] at hq
                  go_ret
                  exact ⟨ret_int (by rw [HS.out]; split <;> first | rfl | omega), Bel⟩
end Go.Proofs.YtpnhmapkdbnkmaaGreatDoor
