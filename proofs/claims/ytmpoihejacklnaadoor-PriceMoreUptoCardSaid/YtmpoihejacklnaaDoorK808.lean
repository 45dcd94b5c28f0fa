/- Parts of these proofs, one behind the other: Nrm, App. No condition. -/
import Derived.Test.YtmpoihejacklnaaDoorK807
import Derived.Test.YtmpoihejacklnaaDoorK805
import Derived.Test.YtmpoihejacklnaaDoorK801
/- What normal rules are, in plain words: sides that rise, each at the least that the list has of it. No condition. -/
namespace Go.Proofs.YtmpoihejacklnaaDoor
open Go Go.RowKit Go.Shelf
theorem SameS.symm {a b : T3} (h : SameS a b) : SameS b a := ⟨h.1.symm, h.2.symm⟩
theorem SameS.trans {a b c : T3} (h : SameS a b) (k : SameS b c) : SameS a c := ⟨h.1.trans k.1, h.2.trans k.2⟩
theorem SameS.not_lt {a b : T3} (h : SameS a b) : ltT a b = false := by rw [ltT_same h.1 h.2 rfl rfl, ltT_irrefl]
/-- ys are the rules of l, each once, in order, at the least. -/
structure Nrm (l ys : List T3) : Prop where
  rise : ys.Pairwise fun x y => ltT x y = true
  keys : ∀ k, k ∈ keysT ys ↔ k ∈ keysT l
  mem : ∀ y ∈ ys, y ∈ l
  low : ∀ y ∈ ys, ∀ x ∈ l, SameS x y → y.n ≤ x.n
theorem t3_ext {a b : T3} (h : SameS a b) (k : a.n = b.n) : a = b := by cases a; cases b; obtain ⟨h1, h2⟩ := h; simp_all
theorem key_mem {l : List T3} {x : T3} (h : (x.f, x.t) ∈ keysT l) : ∃ y ∈ l, SameS y x := by
  obtain ⟨y, hy, e⟩ := List.mem_map.1 h
  injection e with e1 e2
  exact ⟨y, hy, e1, e2⟩
theorem key_of {l : List T3} {x y : T3} (hy : y ∈ l) (h : SameS y x) : (x.f, x.t) ∈ keysT l := by
  have := mem_keys hy
  rwa [h.1, h.2] at this
theorem Nrm.uniq {l m ys zs : List T3} (h : Nrm l ys) (k : Nrm m zs) (hm : ∀ x, x ∈ l ↔ x ∈ m) : ys = zs := by
  have half : ∀ {l m ys zs : List T3}, Nrm l ys → Nrm m zs → (∀ x, x ∈ l ↔ x ∈ m) → ∀ b ∈ ys, b ∈ zs := by
    intro l m ys zs h k hm b hb
    have hbl := h.mem b hb
    obtain ⟨z, hz, hs⟩ := key_mem ((k.keys (b.f, b.t)).2 (mem_keys ((hm b).1 hbl)))
    have h1 := h.low b hb z ((hm z).2 (k.mem z hz)) hs
    have h2 := k.low z hz b ((hm b).1 hbl) hs.symm
    rw [t3_ext hs.symm (by omega)]; exact hz
  exact rise_eq h.rise k.rise fun b => ⟨half h k hm b, half k h (fun x => (hm x).symm) b⟩
theorem Nrm.self {ys : List T3} (h : ys.Pairwise fun x y => ltT x y = true) : Nrm ys ys := ⟨h, fun _ => Iff.rfl, fun _ h => h, fun y hy x hx hs => by
  have h1 := tot_mem (rise_aps h) hy
  have h2 := tot_mem (rise_aps h) hx
  rw [hs.1, hs.2] at h2
  omega⟩
theorem Nrm.nil : Nrm [] [] := Nrm.self List.Pairwise.nil
theorem nrm_set {l ys : List T3} (h : Nrm l ys) (j : Nat) (hj : j < ys.length) (x : T3) (hs : SameS ys[j] x) : Nrm (l ++ [x]) (ys.set j ⟨ys[j].f, ys[j].t, min ys[j].n x.n⟩) := by
  have hrise : (ys.set j ⟨ys[j].f, ys[j].t, min ys[j].n x.n⟩).Pairwise fun x y => ltT x y = true := by
    rw [List.pairwise_iff_getElem]
    intro p q hp hq hpq
    have hp' : p < ys.length := by simpa using hp
    have hq' : q < ys.length := by simpa using hq
    have h1 := List.pairwise_iff_getElem.1 h.rise p q hp' hq' hpq
    rw [← h1, List.getElem_set, List.getElem_set]
    split <;> split <;> rename_i q1 q2 <;> try subst q1 <;> try subst q2
    all_goals first | rfl | exact ltT_same rfl rfl rfl rfl | (subst q1; exact ltT_same rfl rfl rfl rfl) | (subst q2; exact ltT_same rfl rfl rfl rfl)
  have hyj := List.getElem_mem hj
  have hcase : (⟨ys[j].f, ys[j].t, min ys[j].n x.n⟩ : T3) ∈ l ++ [x] := by
    rcases Int.le_total ys[j].n x.n with hc | hc
    · rw [Int.min_eq_left hc]; exact List.mem_append.2 (.inl (h.mem _ hyj))
    · rw [Int.min_eq_right hc]; exact List.mem_append.2 (.inr (by rw [hs.1, hs.2]; simp))
  refine ⟨hrise, fun k => ?_, fun y hy => ?_, fun y hy z hz hsz => ?_⟩
  · rw [keys_set, h.keys]
    have hx : (x.f, x.t) ∈ keysT l := (h.keys _).1 (key_of hyj hs)
    constructor
    · intro hk; simp [keysT] at hk ⊢; exact .inl hk
    · intro hk
      simp only [keysT, List.map_append, List.mem_append, List.map_cons, List.map_nil, List.mem_singleton] at hk
      rcases hk with hk | rfl
      · exact hk
      · exact hx
  · rcases List.mem_or_eq_of_mem_set hy with hy | rfl
    · exact List.mem_append.2 (.inl (h.mem _ hy))
    · exact hcase
  · have hle : ∀ y0 ∈ ys, (SameS y0 ys[j] → y.n ≤ min ys[j].n x.n) → SameS y0 y → (¬ SameS y0 ys[j] → y = y0) → y.n ≤ z.n := by
      intro y0 hy0 h1 h2 h3
      by_cases hq : SameS y0 ys[j]
      · have h4 := h1 hq
        rcases List.mem_append.1 hz with hz | hz
        · have := h.low _ hyj z hz (hsz.trans (h2.symm.trans hq)); omega
        · obtain rfl := List.mem_singleton.1 hz; omega
      · have h5 := h3 hq
        subst h5
        rcases List.mem_append.1 hz with hz | hz
        · exact h.low _ hy0 z hz hsz
        · obtain rfl := List.mem_singleton.1 hz
          exact absurd (hsz.symm.trans hs.symm) hq
    obtain ⟨i, hi, rfl⟩ := List.getElem_of_mem hy
    have hi' : i < ys.length := by simpa using hi
    by_cases hij : j = i
    · subst hij
      refine hle ys[j] hyj (fun _ => by simp) (by simp [SameS]) (fun hn => absurd ⟨rfl, rfl⟩ hn)
    · have e : (ys.set j ⟨ys[j].f, ys[j].t, min ys[j].n x.n⟩)[i] = ys[i] := by rw [List.getElem_set_ne hij]
      refine hle ys[i] (List.getElem_mem hi') (fun hsm => ?_) (by rw [e]; exact ⟨rfl, rfl⟩) (fun _ => e)
      exfalso
      rcases Nat.lt_or_gt_of_ne hij with hlt | hlt
      · have := List.pairwise_iff_getElem.1 h.rise j i hj hi' hlt
        rw [hsm.symm.not_lt] at this; cases this
      · have := List.pairwise_iff_getElem.1 h.rise i j hi' hj hlt
        rw [hsm.not_lt] at this; cases this
theorem nrm_ins {l ys : List T3} (h : Nrm l ys) (j : Nat) (hj : j ≤ ys.length) (x : T3) (hlo : ∀ i (hi : i < ys.length), i < j → ltT ys[i] x = true) (hhi : ∀ hi : j < ys.length, ltT ys[j] x = false ∧ ¬ SameS ys[j] x) : Nrm (l ++ [x]) (ys.take j ++ [x] ++ ys.drop j) := by
  have hup : ∀ y ∈ ys.drop j, ltT x y = true := fun y hy => by
    obtain ⟨i, hi, rfl⟩ := List.getElem_of_mem hy
    rw [List.length_drop] at hi
    obtain ⟨h1, h2⟩ := hhi (by omega)
    have h3 : ltT x ys[j] = true := by
      cases h4 : ltT x ys[j]
      · exact absurd (ltT_tri h1 h4) h2
      · rfl
    rw [List.getElem_drop]
    rcases Nat.eq_zero_or_pos i with rfl | hp
    · exact h3
    · exact ltT_trans h3 (List.pairwise_iff_getElem.1 h.rise j (j + i) (by omega) (by omega) (by omega))
  have hdn : ∀ y ∈ ys.take j, ltT y x = true := fun y hy => by
    obtain ⟨i, hi, rfl⟩ := List.getElem_of_mem hy
    rw [List.length_take] at hi
    rw [List.getElem_take]
    exact hlo i (by omega) (by omega)
  have hsp : ∀ y, y ∈ ys ↔ y ∈ ys.take j ∨ y ∈ ys.drop j := fun y => by
    conv => lhs; rw [← List.take_append_drop j ys]
    rw [List.mem_append]
  have hno : ∀ y ∈ ys, ¬ SameS y x := fun y hy hs => by
    rcases (hsp y).1 hy with hy | hy
    · have := hdn y hy; rw [hs.not_lt] at this; cases this
    · have := hup y hy; rw [hs.symm.not_lt] at this; cases this
  have hmem : ∀ y, y ∈ ys.take j ++ [x] ++ ys.drop j ↔ y ∈ ys ∨ y = x := fun y => by
    rw [hsp]; simp only [List.mem_append, List.mem_singleton]
    constructor
    · rintro ((a | a) | a)
      · exact .inl (.inl a)
      · exact .inr a
      · exact .inl (.inr a)
    · rintro ((a | a) | a)
      · exact .inl (.inl a)
      · exact .inr a
      · exact .inl (.inr a)
  refine ⟨?_, fun k => ?_, fun y hy => ?_, fun y hy z hz hsz => ?_⟩
  · rw [List.append_assoc]
    refine List.pairwise_append.2 ⟨h.rise.sublist (List.take_sublist _ _), List.pairwise_append.2 ⟨List.pairwise_singleton _ _, h.rise.sublist (List.drop_sublist _ _), fun a ha b hb => ?_⟩, fun a ha b hb => ?_⟩
    · obtain rfl := List.mem_singleton.1 ha; exact hup b hb
    · rcases List.mem_append.1 hb with hb | hb
      · obtain rfl := List.mem_singleton.1 hb; exact hdn a ha
      · exact ltT_trans (hdn a ha) (hup b hb)
  · have e1 : ∀ m : List T3, k ∈ keysT m ↔ ∃ y ∈ m, (y.f, y.t) = k := fun m => List.mem_map
    have h2 := h.keys k
    rw [e1, e1] at h2
    rw [e1, e1]
    constructor
    · rintro ⟨y, hy, rfl⟩
      rcases (hmem y).1 hy with hy | rfl
      · obtain ⟨z, hz, e⟩ := h2.1 ⟨y, hy, rfl⟩
        exact ⟨z, List.mem_append.2 (.inl hz), e⟩
      · exact ⟨y, by simp, rfl⟩
    · rintro ⟨z, hz, rfl⟩
      rcases List.mem_append.1 hz with hz | hz
      · obtain ⟨y, hy, e⟩ := h2.2 ⟨z, hz, rfl⟩
        exact ⟨y, (hmem y).2 (.inl hy), e⟩
      · obtain rfl := List.mem_singleton.1 hz
        exact ⟨z, (hmem z).2 (.inr rfl), rfl⟩
  · rcases (hmem y).1 hy with hy | rfl
    · exact List.mem_append.2 (.inl (h.mem y hy))
    · simp
  · rcases (hmem y).1 hy with hy1 | hy1
    · rcases List.mem_append.1 hz with hz | hz
      · exact h.low y hy1 z hz hsz
      · have e := List.mem_singleton.1 hz
        rw [e] at hsz
        exact absurd hsz.symm (hno y hy1)
    · rcases List.mem_append.1 hz with hz | hz
      · rw [hy1] at hsz
        obtain ⟨v, hv, hvs⟩ := key_mem ((h.keys _).2 (key_of hz hsz))
        exact absurd hvs (hno v hv)
      · rw [List.mem_singleton.1 hz, hy1]; omega
/-! ### sorted, then each once -/
/-- By sides, then by number. -/
def cmpI (a b : Int) : Int := if a < b then -1 else if a = b then 0 else 1
def cmpN (a b : T3) : Int := orL [cmpT a b, cmpI a.n b.n]
theorem ltN_iff (a b : T3) : ltOf cmpN a b = true ↔ ltT a b = true ∨ (SameS a b ∧ a.n < b.n) := by
  unfold ltOf cmpN
  rw [decide_eq_true_iff]
  show (if cmpT a b = 0 then (if cmpI a.n b.n = 0 then 0 else cmpI a.n b.n) else cmpT a b) < 0 ↔ _
  by_cases h : cmpT a b = 0
  · rw [if_pos h]
    have hs := cmpT_zero.1 h
    rw [hs.not_lt]
    unfold cmpI
    constructor
    · intro h1
      refine .inr ⟨hs, ?_⟩
      by_cases hc : a.n < b.n
      · exact hc
      · exfalso
        rw [if_neg hc] at h1
        by_cases hd : a.n = b.n
        · rw [if_pos hd] at h1; simp at h1
        · rw [if_neg hd] at h1; simp at h1
    · rintro (h1 | ⟨_, h1⟩)
      · cases h1
      · rw [if_pos h1]; decide
  · rw [if_neg h]
    have hs : ¬ SameS a b := fun hs => h (cmpT_zero.2 hs)
    unfold ltT
    rw [decide_eq_true_iff]
    constructor
    · exact .inl
    · rintro (h1 | ⟨h1, _⟩)
      · exact h1
      · exact absurd h1 hs
theorem ltN_not (a b : T3) : ltOf cmpN a b = false ↔ ltT b a = true ∨ (SameS a b ∧ b.n ≤ a.n) := by
  rw [← Bool.not_eq_true, ltN_iff]
  constructor
  · intro h
    cases h2 : ltT b a
    · right
      cases h1 : ltT a b
      · have hs := ltT_tri h1 h2
        refine ⟨hs, ?_⟩
        rcases Int.lt_or_le a.n b.n with hc | hc
        · exact absurd (.inr ⟨hs, hc⟩) h
        · exact hc
      · exact absurd (.inl h1) h
    · exact .inl rfl
  · rintro (h | ⟨h, h1⟩) (k | ⟨k, k1⟩)
    · rw [ltT_asymm h] at k; cases k
    · rw [k.symm.not_lt] at h; cases h
    · rw [h.not_lt] at k; cases k
    · omega
theorem swoN : Go.Sort.SWO (ltOf cmpN) where
  irrefl := fun a => (ltN_not a a).2 (.inr ⟨⟨rfl, rfl⟩, by omega⟩)
  trans := fun a b c h k => by
    rw [ltN_iff] at *
    rcases h with h | ⟨h, h1⟩ <;> rcases k with k | ⟨k, k1⟩
    · exact .inl (ltT_trans h k)
    · left; rw [← ltT_same (a := a) rfl rfl k.1 k.2]; exact h
    · left; rw [ltT_same h.1 h.2 rfl rfl]; exact k
    · exact .inr ⟨h.trans k, by omega⟩
  ntrans := fun a b c h k => by
    rw [ltN_not] at *
    rcases h with h | ⟨h, h1⟩ <;> rcases k with k | ⟨k, k1⟩
    · exact .inl (ltT_trans k h)
    · left; rw [← ltT_same k.1 k.2 rfl rfl]; exact h
    · left; rw [ltT_same (b := a) rfl rfl h.1 h.2]; exact k
    · exact .inr ⟨h.trans k, by omega⟩
/-- Of a row, behind p, each that is not of the sides of the one ahead. -/
noncomputable def cmpL : T3 → List T3 → List T3
  | _, [] => []
  | p, x :: xs => if SameS x p then cmpL x xs else x :: cmpL x xs
theorem cmpL_len (p : T3) (xs : List T3) : (cmpL p xs).length ≤ xs.length := by
  induction xs generalizing p with
  | nil => simp [cmpL]
  | cons x xs ih =>
    have := ih x
    unfold cmpL; split <;> simp <;> omega
theorem cmpL_ok : ∀ (zs : List T3) (p : T3), zs.Pairwise (fun x y => ltOf cmpN y x = false) → (∀ y ∈ zs, ltOf cmpN y p = false) →
    (cmpL p zs).Pairwise (fun x y => ltT x y = true) ∧ (∀ y ∈ cmpL p zs, ltT p y = true ∧ y ∈ zs) ∧ (∀ x ∈ zs, SameS x p ∨ ∃ y ∈ cmpL p zs, SameS y x) ∧ (∀ y ∈ cmpL p zs, ∀ x ∈ zs, SameS x y → y.n ≤ x.n)
  | [], p, _, _ => ⟨List.Pairwise.nil, fun y hy => by simp [cmpL] at hy, fun x hx => by simp at hx, fun y hy => by simp [cmpL] at hy⟩
  | x :: zs, p, hp, hlo => by
    obtain ⟨h1, h2⟩ := List.pairwise_cons.1 hp
    obtain ⟨i1, i2, i3, i4⟩ := cmpL_ok zs x h2 h1
    have hx := (ltN_not x p).1 (hlo x (by simp))
    unfold cmpL
    by_cases hs : SameS x p
    · rw [if_pos hs]
      refine ⟨i1, fun y hy => ⟨?_, by simp [(i2 y hy).2]⟩, fun z hz => ?_, fun y hy z hz hsz => ?_⟩
      · rw [← ltT_same hs.1 hs.2 rfl rfl]; exact (i2 y hy).1
      · rcases List.mem_cons.1 hz with rfl | hz
        · exact .inl hs
        · rcases i3 z hz with h | h
          · exact .inl (h.trans hs)
          · exact .inr h
      · rcases List.mem_cons.1 hz with rfl | hz
        · have := (i2 y hy).1; rw [hsz.not_lt] at this; cases this
        · exact i4 y hy z hz hsz
    · rw [if_neg hs]
      have hpx : ltT p x = true := hx.resolve_right fun h => hs h.1
      refine ⟨List.pairwise_cons.2 ⟨fun y hy => (i2 y hy).1, i1⟩, fun y hy => ?_, fun z hz => ?_, fun y hy z hz hsz => ?_⟩
      · rcases List.mem_cons.1 hy with rfl | hy
        · exact ⟨hpx, by simp⟩
        · exact ⟨ltT_trans hpx (i2 y hy).1, by simp [(i2 y hy).2]⟩
      · rcases List.mem_cons.1 hz with rfl | hz
        · exact .inr ⟨z, by simp, rfl, rfl⟩
        · rcases i3 z hz with h | ⟨y, hy, h⟩
          · exact .inr ⟨x, by simp, h.symm⟩
          · exact .inr ⟨y, by simp [hy], h⟩
      · rcases List.mem_cons.1 hy with rfl | hy
        · rcases List.mem_cons.1 hz with rfl | hz
          · omega
          · rcases (ltN_not z y).1 (h1 z hz) with h | ⟨_, h⟩
            · rw [hsz.symm.not_lt] at h; cases h
            · exact h
        · rcases List.mem_cons.1 hz with rfl | hz
          · have := (i2 y hy).1; rw [hsz.not_lt] at this; cases this
          · exact i4 y hy z hz hsz
/-- Each once. -/
noncomputable def onceL : List T3 → List T3
  | [] => []
  | p :: xs => p :: cmpL p xs
theorem onceL_len (xs : List T3) : (onceL xs).length ≤ xs.length := by
  cases xs with
  | nil => simp [onceL]
  | cons p xs => have := cmpL_len p xs; simp [onceL]; omega
theorem nrm_once {l zs : List T3} (hp : zs.Perm l) (hs : zs.Pairwise fun x y => ltOf cmpN y x = false) : Nrm l (onceL zs) := by
  have h0 : Nrm zs (onceL zs) := by
    cases zs with
    | nil => exact Nrm.nil
    | cons p zs =>
      obtain ⟨h1, h2⟩ := List.pairwise_cons.1 hs
      obtain ⟨i1, i2, i3, i4⟩ := cmpL_ok zs p h2 h1
      refine ⟨List.pairwise_cons.2 ⟨fun y hy => (i2 y hy).1, i1⟩, fun k => ?_, fun y hy => ?_, fun y hy z hz hsz => ?_⟩
      · have e1 : ∀ m : List T3, k ∈ keysT m ↔ ∃ y ∈ m, (y.f, y.t) = k := fun m => List.mem_map
        rw [e1, e1]
        constructor
        · rintro ⟨y, hy, rfl⟩
          rcases List.mem_cons.1 hy with rfl | hy
          · exact ⟨y, by simp, rfl⟩
          · exact ⟨y, by simp [(i2 y hy).2], rfl⟩
        · rintro ⟨z, hz, rfl⟩
          rcases List.mem_cons.1 hz with rfl | hz
          · exact ⟨z, by simp [onceL], rfl⟩
          · rcases i3 z hz with h | ⟨y, hy, h⟩
            · exact ⟨p, by simp [onceL], by rw [h.1, h.2]⟩
            · exact ⟨y, by simp [onceL, hy], by rw [h.1, h.2]⟩
      · rcases List.mem_cons.1 hy with rfl | hy
        · simp
        · simp [(i2 y hy).2]
      · rcases List.mem_cons.1 hy with rfl | hy
        · rcases List.mem_cons.1 hz with rfl | hz
          · omega
          · rcases (ltN_not z y).1 (h1 z hz) with h | ⟨_, h⟩
            · rw [hsz.symm.not_lt] at h; cases h
            · exact h
        · rcases List.mem_cons.1 hz with rfl | hz
          · have := (i2 y hy).1; rw [hsz.not_lt] at this; cases this
          · exact i4 y hy z hz hsz
  exact ⟨h0.rise, fun k => (h0.keys k).trans (hp.map fun x : T3 => (x.f, x.t)).mem_iff, fun y hy => hp.mem_iff.1 (h0.mem y hy), fun y hy x hx => h0.low y hy x (hp.mem_iff.2 hx)⟩
/-! ### what is normal may be; what is found in it -/
theorem errR_nil {l : List T3} : errR l = [] ↔ ∀ x ∈ l, rchk x = 0 := by
  unfold errR
  rw [List.filter_eq_nil_iff]
  constructor
  · intro h x hx; simpa using h (rchk x) (List.mem_map_of_mem hx)
  · intro h e he; obtain ⟨x, hx, rfl⟩ := List.mem_map.1 he; simp [h x hx]
theorem Nrm.is {l ys : List T3} (h : Nrm l ys) (h0 : allR l = 0) (h1 : ys.length ≤ 4096) : isE ys = 0 := by
  have he : errR ys = [] := errR_nil.2 fun y hy => errR_nil.1 ((allR_zero l).1 h0) y (h.mem y hy)
  unfold isE
  rw [if_neg (by simp [he]), if_neg (by rw [rise_of h.rise]; simp), if_neg (by omega)]
theorem Nrm.small {l ys : List T3} (h : Nrm l ys) (hl : ys.length ≤ l.length) (hm : Small l) : Small ys := ⟨Nat.le_trans hl hm.1, fun y hy => hm.2 y (h.mem y hy)⟩
/-- What 'Normal' hands back. -/
def NrmPost (w : World) (xs : List T3) (e : Ending) (w' : World) : Prop :=
  ∃ (A : Option Addr) (c : Nat) (ys : List T3) (r : Int), e = .returned (.tuple #[.slice A ys.length c, .int .i64 r]) ∧ SlA eT3 w' A ys ∧ Below w.heap.size w w' ∧ ys.length ≤ xs.length ∧
    ((allR xs ≠ 0 ∧ r = allR xs ∧ ys = []) ∨ (allR xs = 0 ∧ ∃ zs, Nrm xs zs ∧ zs.length ≤ xs.length ∧ ((4096 < zs.length ∧ r = 6 ∧ ys = []) ∨ (zs.length ≤ 4096 ∧ r = 0 ∧ ys = zs))))
end Go.Proofs.YtmpoihejacklnaaDoor
/- 'append' at one operation of a drawn region; parts of slices. No condition. -/
namespace Go.Proofs.YtmpoihejacklnaaDoor
open Go Go.RowKit
theorem app_op {α : Type} {E : Enc α} {P : Program} {o : Oper} {a : Act} {K : Act → World → Prop} {Q : Exit → Act → World → Prop} {w0 W : World} (s x : Operand) (t e : TypeId) (z : Value) (bytes : Nat)
    (_ : o.guard = none) (ho : o.op = .call { callee := .builtin .append, args := #[s, x], argTypes := #[t, t] })
    (ht : P.underlying t = some (.slice e)) (hinfo : (P.info? e).map (fun i => (i.zero, i.size, i.bytes)) = some (some z, E.k, bytes)) (hz : z.cells.size = E.k) (hk : 0 < E.k) (hby : 0 < bytes)
    (v : Value) (xs ys : List α) (A : Addr) (m c : Nat) (hs : a.eval s = v) (hx : a.eval x = .slice (some A) m c) (hm : m = ys.length)
    (HO : Own E w0.heap.size e W v xs) (HS : SlA E W (some A) ys) (hb : Below w0.heap.size w0 W) (hl : (xs.length + ys.length) * bytes ≤ 140737488355328)
    (h : ∀ v' w1, Own E w0.heap.size e w1 v' (xs ++ ys) → Below w0.heap.size w0 w1 → W.grownBy w1 v.ownBlock → Moved W v v' → K (a.put o.dst v') w1) : o.wp P a W K Q := by
  obtain ⟨i0, hi, hzz⟩ := Option.map_eq_some_iff.1 hinfo
  simp only [Prod.mk.injEq] at hzz
  obtain ⟨hz0, hz1, hz2⟩ := hzz
  subst hm
  have hlen : xs.length + ys.length ≤ 140737488355328 := Nat.le_trans (Nat.le_mul_of_pos_right _ hby) hl
  have hfl : ∀ l : List α, (l.flatMap E.e).length = l.length * E.k := fun l => by
    induction l with
    | nil => simp
    | cons y l ih => simp only [List.flatMap_cons, List.length_append, E.len, ih, List.length_cons, Nat.add_mul]; omega
  obtain ⟨v', w', hr, h2, h3, _, h5⟩ := run_append_own_at (P := P) W w0.heap.size t o.type e i0 z E.k bytes ht hi hz0 hz1 hz2 hz hk v xs.length _ HO A ys.length c (ys.flatMap E.e) (hfl ys) (fun j u hu => by
    have hj : j < (ys.flatMap E.e).length := (List.getElem?_eq_some_iff.1 hu).1
    rw [hfl] at hj
    have hq : j / E.k < ys.length := Nat.div_lt_of_lt_mul (by rw [Nat.mul_comm]; exact hj)
    obtain ⟨b, o', hA, _, hc⟩ := HS (j / E.k) _ (List.getElem?_eq_getElem hq)
    obtain rfl : A = ⟨b, o', none⟩ := by injection hA
    have hr : j % E.k < (E.e ys[j / E.k]).length := by rw [E.len]; exact Nat.mod_lt _ hk
    have h1 := flat_get E ys (j / E.k) _ (j % E.k) _ (List.getElem?_eq_getElem hq) (List.getElem?_eq_getElem hr)
    have hjj : j / E.k * E.k + j % E.k = j := by rw [Nat.mul_comm]; exact Nat.div_add_mod j E.k
    rw [hjj, hu] at h1
    have h2 := hc (j % E.k) _ (List.getElem?_eq_getElem hr)
    have ha : (⟨b, o', none⟩ : Addr).add j = ⟨b, o' + j, none⟩ := by unfold Addr.add; split <;> simp_all
    rw [ha, h1, ← h2, Nat.add_assoc, hjj]) (fun u hu => by
    obtain ⟨y, _, hy⟩ := List.mem_flatMap.1 hu
    exact E.one y u hy) (by simp only [maxLen]; omega) hl hb.size
  unfold Oper.wp execOp
  simp only [ho, resolve, invoke, builtin, Sem.run_bind, Sem.run_pure, Result.andThen_ok, List.map_toArray, List.map_cons, List.map_nil, hs, hx, hr]
  exact h v' w' (by unfold Own; rw [List.length_append, List.flatMap_append]; exact h2) (Bgr hb h3 (Own.ge HO)) h3 h5
/-- A slice value without room is the zero slice. -/
theorem SlA.drop {α : Type} {E : Enc α} {w : World} {b o : Nat} {xs : List α} (h : SlA E w (some ⟨b, o, none⟩) xs) (k : Nat) : SlA E w (some ⟨b, o + k * E.k, none⟩) (xs.drop k) := fun j x hx => by
  rw [List.getElem?_drop] at hx
  obtain ⟨b', o', hA, hlt, hc⟩ := h _ x hx
  injection hA with hA
  injection hA with h1 h2
  subst h1 h2
  exact ⟨b, _, rfl, hlt, fun i u hu => by rw [← hc i u hu, Nat.add_mul]; congr 2; omega⟩
theorem SlA.take {α : Type} {E : Enc α} {w : World} {A : Option Addr} {xs : List α} (h : SlA E w A xs) (k : Nat) : SlA E w A (xs.take k) := fun j x hx => by
  rw [List.getElem?_take] at hx
  split at hx
  · exact h j x hx
  · cases hx
theorem Own.lit {α : Type} (E : Enc α) (base : Nat) (e : TypeId) (w : World) (hb : base ≤ w.heap.size) : Own E base e (w.alloc (.cells #[] e)) (.slice (some ⟨w.heap.size, 0, none⟩) 0 0) [] :=
  World.ownsRow_lit w #[] 0 hb (Nat.zero_le _) (by simp)
theorem SlA.part {α : Type} {E : Enc α} {w : World} {ad : Addr} {xs : List α} (h : SlA E w (some ad) xs) (k s : Nat) (hs : s = E.k) : SlA E w (some (ad.add (k * s))) (xs.drop k) := fun j x hx => by
  subst hs
  have hx' := hx
  rw [List.getElem?_drop] at hx'
  obtain ⟨b', o', hA, hlt, hc⟩ := h _ x hx'
  injection hA with hA
  subst hA
  have ha : (⟨b', o', none⟩ : Addr).add (k * E.k) = ⟨b', o' + k * E.k, none⟩ := by unfold Addr.add; split <;> simp_all
  rw [ha]
  exact SlA.drop h k j x hx
theorem app_none {P : Program} {o : Oper} {a : Act} {K : Act → World → Prop} {Q : Exit → Act → World → Prop} {W : World} {α : Type} {E : Enc α} {base : Nat} (s x : Operand) (t e : TypeId)
    (ho : o.op = .call { callee := .builtin .append, args := #[s, x], argTypes := #[t, t] })
    (ht : P.underlying t = some (.slice e)) {z : Value} {bytes : Nat} (hinfo : (P.info? e).map (fun i => (i.zero, i.size, i.bytes)) = some (some z, E.k, bytes))
    (v : Value) (xs : List α) (hs : a.eval s = v) (hx : a.eval x = .slice none 0 0) (HO : Own E base e W v xs) (h : K (a.put o.dst v) W) : o.wp P a W K Q := by
  obtain ⟨i0, hi, hzz⟩ := Option.map_eq_some_iff.1 hinfo
  have hrun := run_append_owned_none (P := P) (w := W) base t o.type e i0 E.k ht hi v xs.length _ HO
  unfold Oper.wp
  simp [execOp, ho, resolve, invoke, builtin, hs, hx, hrun, Result.andThen]
  exact h
end Go.Proofs.YtmpoihejacklnaaDoor
