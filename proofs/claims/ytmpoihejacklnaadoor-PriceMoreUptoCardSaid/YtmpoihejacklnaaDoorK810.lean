/- Parts of these proofs, one behind the other: Enc, Txt8, En8, RegI, RgC, Dec1. No condition. -/
import Derived.Test.YtmpoihejacklnaaDoorK804
import Derived.Test.YtmpoihejacklnaaDoorK803
import Derived.Laws.BytesArg
import Derived.Test.YtmpoihejacklnaaDoorShelf
import Derived.Test.YtmpoihejacklnaaDoorK801
import Derived.Sort.QuietThIn
import Derived.RangeFuncNested
import Derived.RangeFuncBound
import Derived.RangeFuncCalls
import Derived.RangeFuncLeaves
import Derived.RangeFuncOne
import Derived.RangeFuncBox
import Derived.Shelf.Abstract
import Derived.WalkKit
import Derived.OwnWalkIn
import Derived.TacticsInMore
import Derived.LoopNIn
import Derived.LoopIn
import Derived.Test.YtmpoihejacklnaaDoorK806
import Derived.Maps.AppendAt
/- Texts of runes, there and back: plain. No condition. -/
namespace Go.Proofs.YtmpoihejacklnaaDoor
open Go Go.RowKit
/-- Runes' bytes. -/
def encT (l : List Int) : List UInt8 := l.flatMap Lib.encodeRune
theorem encT_nil : encT [] = [] := rfl
theorem encT_cons (r : Int) (l : List Int) : encT (r :: l) = Lib.encodeRune r ++ encT l := rfl
theorem encT_app (a b : List Int) : encT (a ++ b) = encT a ++ encT b := by unfold encT; rw [List.flatMap_append]
theorem enc_len (r : Int) : 1 ≤ (Lib.encodeRune r).length ∧ (Lib.encodeRune r).length ≤ 4 := by
  have h : (Lib.encodeRune r).length = (Lib.encodeRuneZ r).length := by simp [Lib.encodeRune]
  rw [h]; exact Lib.encodeRuneZ_length r
theorem encT_len (l : List Int) : l.length ≤ (encT l).length ∧ (encT l).length ≤ l.length * 4 := by
  induction l with
  | nil => simp [encT]
  | cons r l ih =>
    have := enc_len r
    rw [encT_cons, List.length_append, List.length_cons]; omega
theorem dec_ne (r : Int) (h : IsR r) (t : List UInt8) : Lib.encodeRune r ++ t ≠ [] ∧ ¬ badL (Lib.encodeRune r ++ t) := by
  have hl := enc_len r
  refine ⟨fun e => by have := congrArg List.length e; simp at this; rw [this.1] at hl; simp at hl, fun ⟨h1, h2⟩ => ?_⟩
  rw [dec_enc r h] at h1 h2
  have h0 := h.1
  have e : r = 65533 := by
    have : r.toNat = 65533 := h1
    omega
  subst e
  have : (Lib.encodeRune 65533).length = 3 := by decide
  have h3 : (Lib.encodeRune 65533).length = 1 := h2
  omega
theorem decL_enc : ∀ (l : List Int), (∀ r ∈ l, IsR r) → decL (encT l) = some l
  | [], _ => rfl
  | r :: l, h => by
    have hr := h r (by simp)
    obtain ⟨h1, h2⟩ := dec_ne r hr (encT l)
    rw [encT_cons, decL_step _ h1, if_neg h2, dec_enc r hr]
    simp only [List.drop_left]
    rw [decL_enc l fun s hs => h s (by simp [hs])]
    have h0 := hr.1
    simp; omega
theorem decL_runes : ∀ (n : Nat) (b : List UInt8) (l : List Int), b.length ≤ n → decL b = some l → (∀ r ∈ l, IsR r) ∧ encT l = b
  | 0, b, l, hn, h => by
    obtain rfl : b = [] := List.eq_nil_of_length_eq_zero (by omega)
    rw [decL_nil] at h; injection h with h; subst h
    exact ⟨by simp, rfl⟩
  | n + 1, b, l, hn, h => by
    by_cases hb : b = []
    · subst hb; exact decL_runes 0 [] l (by simp) h
    · rw [decL_step b hb] at h
      by_cases hbad : badL b
      · rw [if_pos hbad] at h; cases h
      · rw [if_neg hbad] at h
        obtain ⟨m, hm, rfl⟩ := Option.map_eq_some_iff.1 h
        obtain ⟨h1, h2, h3⟩ := isR_dec b hbad
        have hp := List.length_pos_iff.2 hb
        obtain ⟨i1, i2⟩ := decL_runes n _ m (by rw [List.length_drop]; omega) hm
        refine ⟨fun r hr => ?_, ?_⟩
        · rcases List.mem_cons.1 hr with rfl | hr
          · exact h1
          · exact i1 r hr
        · rw [encT_cons, i2, Lib.encode_decode b hb hbad, List.take_append_drop]
theorem decS_isR {s : ByteArray} {l : List Int} (h : decS s = some l) : ∀ r ∈ l, IsR r := (decL_runes _ _ l (Nat.le_refl _) h).1
theorem decS_enc {s : ByteArray} {l : List Int} (h : decS s = some l) : encT l = s.data.toList := (decL_runes _ _ l (Nat.le_refl _) h).2
theorem decS_len {s : ByteArray} {l : List Int} (h : decS s = some l) : l.length ≤ s.size := by
  rw [← sz_list, ← decS_enc h]; exact (encT_len l).1
/-- A text of runes. -/
def txt (l : List Int) : ByteArray := ⟨(encT l).toArray⟩
theorem txt_list (l : List Int) : (txt l).data.toList = encT l := by simp [txt]
theorem txt_dec {l : List Int} (h : ∀ r ∈ l, IsR r) : decS (txt l) = some l := by unfold decS; rw [txt_list]; exact decL_enc l h
theorem ba_ext' {a b : ByteArray} (h : a.data.toList = b.data.toList) : a = b := by
  cases a; cases b; simpa using h
theorem dec_txt {s : ByteArray} {l : List Int} (h : decS s = some l) : txt l = s := ba_ext' (by rw [txt_list, decS_enc h])
theorem decS_inj {s t : ByteArray} {l : List Int} (h : decS s = some l) (k : decS t = some l) : s = t := (dec_txt h).symm.trans (dec_txt k)
theorem decS_app {s t : ByteArray} {l m : List Int} (h : decS s = some l) (k : decS t = some m) : decS (s ++ t) = some (l ++ m) := by
  have e : (s ++ t).data.toList = encT (l ++ m) := by
    rw [encT_app, decS_enc h, decS_enc k, ByteArray.data_append]; simp
  unfold decS
  rw [e]
  exact decL_enc _ fun r hr => (List.mem_append.1 hr).elim (decS_isR h r) (decS_isR k r)
theorem enc_prefix : ∀ (f y : List Int), (∀ r ∈ f, IsR r) → (∀ r ∈ y, IsR r) → (encT f <+: encT y ↔ f <+: y)
  | [], y, _, _ => by simp [encT]
  | r :: f, [], h, _ => by
    have := (dec_ne r (h r (by simp)) (encT f)).1
    rw [encT_cons, encT_nil]
    simp only [List.prefix_nil]
    exact ⟨fun e => absurd e this, fun e => by cases e⟩
  | r :: f, s :: y, h, k => by
    have hr := h r (by simp)
    have hs := k s (by simp)
    rw [encT_cons, encT_cons]
    constructor
    · rintro ⟨t, ht⟩
      have h1 := dec_enc r hr (encT f ++ t)
      rw [← List.append_assoc, ht, dec_enc s hs] at h1
      injection h1 with h1 _
      have e : s = r := by have := hr.1; have := hs.1; omega
      subst e
      rw [List.append_assoc] at ht
      have h2 := List.append_cancel_left ht
      obtain ⟨u, hu⟩ := (enc_prefix f y (fun q hq => h q (by simp [hq])) fun q hq => k q (by simp [hq])).1 ⟨t, h2⟩
      exact ⟨u, by rw [List.cons_append, hu]⟩
    · rintro ⟨t, ht⟩
      rw [List.cons_append] at ht
      injection ht with e ht
      subst e
      obtain ⟨u, hu⟩ := (enc_prefix f y (fun q hq => h q (by simp [hq])) fun q hq => k q (by simp [hq])).2 ⟨t, ht⟩
      exact ⟨u, by rw [List.append_assoc, hu]⟩
end Go.Proofs.YtmpoihejacklnaaDoor
/- errataref01's Encode and Text. No condition. -/
namespace Go.Proofs.YtmpoihejacklnaaDoor
open Go Go.RowKit
theorem info_u8 : (Tryd.prog.info? 5).map (fun i => (i.zero, i.size, i.bytes)) = some (some (.int .u8 0), 1, 1) := by kernel_rfl
theorem txt_nums (l : List Int) : strOfNums (l.flatMap Lib.encodeRuneZ) = txt l := by
  have : ∀ l : List Int, (l.flatMap Lib.encodeRuneZ).map (fun x => x.toNat.toUInt8) = encT l := fun l => by
    induction l with
    | nil => rfl
    | cons r l ih => rw [List.flatMap_cons, List.map_append, ih]; rfl
  unfold strOfNums txt
  rw [← this]
theorem encZ_len (l : List Int) : (l.flatMap Lib.encodeRuneZ).length ≤ l.length * 4 := by
  induction l with
  | nil => simp
  | cons r l ih => rw [List.flatMap_cons, List.length_append, List.length_cons, Nat.add_mul]; have := (Lib.encodeRuneZ_length r).2; omega
set_option maxRecDepth 100000 in
set_option maxHeartbeats 1000000 in
theorem r1enc_c (A : Option Addr) (c : Nat) (l : List Int) (w : World) (hs : SlA (eInt .i32) w A l) (hr : ∀ r ∈ l, IsR r) (hl : l.length ≤ 1048576) :
    Calls Tryd.prog 88 #[.slice A l.length c] w (Ret w (.tuple #[.string (txt l), .int .i64 0])) := by
  have HR := Lib.hid hr
  clear hr
  go_enter Tryd.func88, Tryd.ntmps88
  go_wp2
  go_loopw [4, 9] (fun so sk wr => ∃ k : Nat, sk = .int .i64 k ∧ k ≤ l.length ∧ Own (eInt .u8) w.heap.size 5 wr so ((l.take k).flatMap Lib.encodeRuneZ) ∧ Hid (k = 0 → so = .slice none 0 0) ∧ Below w.heap.size w wr) (fun _ sk _ => l.length - (intOf sk).toNat)
  case atStart => exact ⟨0, rfl, by omega, Own.nil _, fun _ => rfl, Bel⟩
  case round =>
    obtain ⟨k, rfl, hk, hO2, hN, hb⟩ := hrel
    by_cases hlt : k < l.length
    · obtain ⟨b, o, rfl, p1⟩ := hs.at1 (fun _ => rfl) hb k hlt
      have hlt' : (k : Int) < l.length := by omega
      have hRR := Lib.hid (HR.out _ (List.getElem_mem hlt))
      have hTK : Hid ((l.take (k + 1)).flatMap Lib.encodeRuneZ = (l.take k).flatMap Lib.encodeRuneZ ++ Lib.encodeRuneZ l[k]) := by
        show _ = _
        rw [List.take_succ_eq_append_getElem hlt, List.flatMap_append]; simp
      have hbd : Hid (((l.take k).flatMap Lib.encodeRuneZ).length ≤ 4194304) := by
        show _ ≤ _
        have := encZ_len (l.take k)
        rw [List.length_take] at this; omega
      obtain ⟨r, hrr⟩ : ∃ r, l[k] = r := ⟨_, rfl⟩
      rw [hrr] at p1 hRR hTK
      clear hrr
      have e1 : decide (IsR r) = true := decide_eq_true hRR.out
      go_wp2_with (first
        | (go_at_call 101; refine (r1is_c _ _).mono ?_; rintro e w' ⟨rfl, rfl⟩)
        | (go_at_call 102; refine (r1bytes_c _ _ hRR.out).mono ?_; rintro e w2 ⟨v, rfl, ⟨Av, cv, rfl, hv1, hv2, hAv⟩, hb2⟩; obtain ⟨ys, hys⟩ : ∃ ys, Lib.encodeRuneZ r = ys := ⟨_, rfl⟩; have hyl := Lib.encodeRuneZ_length r; rw [hys] at hAv hTK hyl ⊢; have hys0 : ys ≠ [] := (fun e => by rw [e] at hyl; simp at hyl); obtain ⟨y0, ys', hyy⟩ := List.exists_cons_of_ne_nil hys0; obtain ⟨bv, ov, rfl, _⟩ := hAv 0 y0 (by rw [hyy]; rfl); have hyl2 := Lib.hid hyl.2; clear hys hyl hys0 hyy hv1 hv2)
        | (at_builtin; refine app (E := eInt .u8) (w0 := w) _ _ 81 5 (.int .u8 0) 1 rfl rfl Tryd.underlying81 info_u8 rfl (by decide) (by decide) _ ((l.take k).flatMap Lib.encodeRuneZ) ys ⟨bv, ov, none⟩ ys.length _ rfl rfl rfl (hO2.below hb2) hAv (Bst hb hb2) (by have := hbd.out; have := hyl2.out; omega) ?_; intro v6 w6 HO6 hb6 hg6 _; go_frame))
      exact ⟨⟨k + 1, by go_num, by omega, by rw [hTK.out]; exact HO6, fun h => absurd h (by omega), hb6⟩, by simp [intOf]; omega⟩
    · have hke : k = l.length := by omega
      have hlt' : ¬ (k : Int) < l.length := by omega
      rw [hke, List.take_length] at hO2
      by_cases h0 : l = []
      · subst h0
        obtain rfl : k = 0 := by simpa using hke
        have := hN.out rfl
        subst this
        clear hke hk hlt hlt' hO2 hN hs HR hl
        have hcv := run_convert_bytes_nil (P := Tryd.prog) (w := wr) 81 5 Tryd.underlying81 Tryd.underlying5 0 0 9 Tryd.underlying9
        go_wp2_with fail
        go_ret2
        exact ⟨rfl, hb⟩
      · have hne : l.flatMap Lib.encodeRuneZ ≠ [] := fun e => by
          obtain ⟨r, l', rfl⟩ := List.exists_cons_of_ne_nil h0
          rw [List.flatMap_cons] at e
          have := (Lib.encodeRuneZ_length r).1
          rw [List.append_eq_nil_iff] at e
          rw [e.1] at this; simp at this
        have hcv := conv_bytes (src := 81) (dst := 9) Tryd.underlying81 Tryd.underlying5 Tryd.underlying9 hO2.slv hne
        rw [txt_nums] at hcv
        clear hke hne
        go_wp2
        go_ret2
        exact ⟨rfl, hb⟩
theorem r1text_c (A : Option Addr) (c : Nat) (l : List Int) (w : World) (hs : SlA (eInt .i32) w A l) (hr : ∀ r ∈ l, IsR r) (hl : l.length ≤ 1048576) :
    Calls Tryd.prog 59 #[.slice A l.length c] w (Ret w (.string (txt l))) := by
  have HR := Lib.hid hr
  clear hr
  go_enter Tryd.func59, Tryd.ntmps59
  go_wp2_with (go_at_call 88; refine (r1enc_c A c l _ hs HR.out hl).mono ?_; rintro e w2 ⟨rfl, hb2⟩)
  go_ret
  exact ⟨rfl, hb2⟩
end Go.Proofs.YtmpoihejacklnaaDoor
/- runes.Encode. No condition. -/
namespace Go.Proofs.YtmpoihejacklnaaDoor
open Go Go.RowKit
set_option maxRecDepth 100000 in
theorem enc1_c (r : Int) (w : World) (hr : IsR r) : Calls Tryd.prog 85 #[.int .i32 r] w fun e w' => e = .returned (.bool false) ∧ w' = w := by
  have hv : Lib.validRune r = true := by
    obtain ⟨h1, h2, h3⟩ := hr
    simp [Lib.validRune]; omega
  go_enter Tryd.func85, Tryd.ntmps85
  go_wp2_with (go_at_call 86; refine (Tryd.utf8_ValidRune r _).mono ?_; rintro e w2 ⟨rfl, rfl⟩; rw [hv])
  go_ret
  exact ⟨rfl, rfl⟩
set_option maxRecDepth 100000 in
set_option maxHeartbeats 1000000 in
theorem idx_c (A : Option Addr) (c : Nat) (l : List Int) (w : World) (hs : SlA (eInt .i32) w A l) (hr : ∀ r ∈ l, IsR r) (hl : l.length ≤ 1048576) :
    Calls Tryd.prog 105 #[.slice A l.length c, .func (.func 85) #[] #[]] w (Ret w (.int .i64 (-1))) := by
  have HR := Lib.hid hr
  clear hr
  go_enter Tryd.func105, Tryd.ntmps105
  go_wp2
  go_loopw [8] (fun sk wr => ∃ k : Nat, sk = .int .i64 k ∧ k ≤ l.length ∧ Below w.heap.size w wr) (fun sk _ => l.length - (intOf sk).toNat)
  case atStart => exact ⟨0, rfl, by omega, Bel⟩
  case round =>
    obtain ⟨k, rfl, hk, hb⟩ := hrel
    by_cases hlt : k < l.length
    · obtain ⟨b, o, rfl, p1⟩ := hs.at1 (fun _ => rfl) hb k hlt
      have hlt' : (k : Int) < l.length := by omega
      have hRR := Lib.hid (HR.out _ (List.getElem_mem hlt))
      obtain ⟨r, hrr⟩ : ∃ r, l[k] = r := ⟨_, rfl⟩
      rw [hrr] at p1 hRR
      clear hrr
      go_wp2_with (go_at_call 85; refine (enc1_c r _ hRR.out).mono ?_; rintro e w2 ⟨rfl, rfl⟩)
      exact ⟨⟨k + 1, by go_num, by omega, hb⟩, by simp [intOf]; omega⟩
    · have hlt' : ¬ (k : Int) < l.length := by omega
      go_wp2
      go_ret
      exact ⟨rfl, hb⟩
theorem contains_c (A : Option Addr) (c : Nat) (l : List Int) (w : World) (hs : SlA (eInt .i32) w A l) (hr : ∀ r ∈ l, IsR r) (hl : l.length ≤ 1048576) :
    Calls Tryd.prog 84 #[.slice A l.length c, .func (.func 85) #[] #[]] w (Ret w (.bool false)) := by
  have HR := Lib.hid hr
  clear hr
  go_enter Tryd.func84, Tryd.ntmps84
  go_wp2_with (go_at_call 105; refine (idx_c A c l _ hs HR.out hl).mono ?_; rintro e w2 ⟨rfl, hb2⟩)
  go_ret
  exact ⟨rfl, hb2⟩
theorem cells_u8 (l : List Int) : l.flatMap (eInt .u8).e = l.map (Value.int .u8) := by
  induction l with
  | nil => rfl
  | cons x l ih => rw [List.flatMap_cons, List.map_cons, ih]; rfl
theorem append_c (base : Nat) (v : Value) (zs : List Int) (r : Int) (w : World) (hO : Own (eInt .u8) base 5 w v zs) (hr : IsR r) (hl : zs.length ≤ 4194304) (hb : base ≤ w.heap.size) :
    Calls Tryd.prog 87 #[v, .int .i32 r] w fun e w' => ∃ v', e = .returned v' ∧ Own (eInt .u8) base 5 w' v' (zs ++ Lib.encodeRuneZ r) ∧ Below base w w' := by
  obtain ⟨h1, h2, h3⟩ := hr
  refine (Tryd.utf8_AppendRune_plain base v zs.length (zs.flatMap (eInt .u8).e) r (by omega) (by omega) w hO (by omega) hb).mono ?_
  rintro e w' ⟨v', rfl, hO2, o, hg⟩
  refine ⟨v', rfl, ?_, ((Below.refl base w).alloc hb o).grown hg (by simp; omega) (fun k e => hO.ge k e)⟩
  unfold Own
  rw [List.length_append, List.flatMap_append, cells_u8 (Lib.encodeRuneZ r)]
  have : Lib.runeCells r = (Lib.encodeRuneZ r).map (Value.int .u8) := rfl
  rw [this, List.length_map] at hO2
  exact hO2
set_option maxRecDepth 100000 in
set_option maxHeartbeats 1000000 in
theorem enc_c (A : Option Addr) (c : Nat) (l : List Int) (w : World) (hs : SlA (eInt .i32) w A l) (hr : ∀ r ∈ l, IsR r) (hl : l.length ≤ 1048576) :
    Calls Tryd.prog 58 #[.slice A l.length c] w (Ret w (.tuple #[.string (txt l), .int .i64 0])) := by
  have HR := Lib.hid hr
  clear hr
  go_enter Tryd.func58, Tryd.ntmps58
  go_wp2_with (go_at_call 84; refine (contains_c A c l _ hs HR.out hl).mono ?_; rintro e w2 ⟨rfl, hb2⟩)
  go_loopw [4, 11] (fun so sk wr => ∃ k : Nat, sk = .int .i64 k ∧ k ≤ l.length ∧ Own (eInt .u8) w.heap.size 5 wr so ((l.take k).flatMap Lib.encodeRuneZ) ∧ Hid (k = 0 → so = .slice none 0 0) ∧ Below w.heap.size w wr) (fun _ sk _ => l.length - (intOf sk).toNat)
  case atStart => exact ⟨0, rfl, by omega, Own.nil _, fun _ => rfl, hb2⟩
  case round =>
    obtain ⟨k, rfl, hk, hO2, hN, hb⟩ := hrel
    by_cases hlt : k < l.length
    · obtain ⟨b, o, rfl, p1⟩ := hs.at1 (fun _ => rfl) hb k hlt
      have hlt' : (k : Int) < l.length := by omega
      have hRR := Lib.hid (HR.out _ (List.getElem_mem hlt))
      have hTK : Hid ((l.take (k + 1)).flatMap Lib.encodeRuneZ = (l.take k).flatMap Lib.encodeRuneZ ++ Lib.encodeRuneZ l[k]) := by
        show _ = _
        rw [List.take_succ_eq_append_getElem hlt, List.flatMap_append]; simp
      have hbd : Hid (((l.take k).flatMap Lib.encodeRuneZ).length ≤ 4194304) := by
        show _ ≤ _
        have := encZ_len (l.take k)
        rw [List.length_take] at this; omega
      obtain ⟨r, hrr⟩ : ∃ r, l[k] = r := ⟨_, rfl⟩
      rw [hrr] at p1 hRR hTK
      clear hrr
      go_wp2_with (go_at_call 87; refine (append_c w.heap.size _ _ r _ hO2 hRR.out hbd.out hb.size).mono ?_; rintro e w6 ⟨v6, rfl, HO6, hb6⟩)
      exact ⟨⟨k + 1, by go_num, by omega, by rw [hTK.out]; exact HO6, fun h => absurd h (by omega), hb.trans hb6⟩, by simp [intOf]; omega⟩
    · have hke : k = l.length := by omega
      have hlt' : ¬ (k : Int) < l.length := by omega
      rw [hke, List.take_length] at hO2
      by_cases h0 : l = []
      · subst h0
        obtain rfl : k = 0 := by simpa using hke
        have := hN.out rfl
        subst this
        clear hke hk hlt hlt' hO2 hN hs HR hl
        have hcv := run_convert_bytes_nil (P := Tryd.prog) (w := wr) 81 5 Tryd.underlying81 Tryd.underlying5 0 0 9 Tryd.underlying9
        go_wp2_with fail
        go_ret2
        exact ⟨rfl, hb⟩
      · have hne : l.flatMap Lib.encodeRuneZ ≠ [] := fun e => by
          obtain ⟨r, l', rfl⟩ := List.exists_cons_of_ne_nil h0
          rw [List.flatMap_cons] at e
          have := (Lib.encodeRuneZ_length r).1
          rw [List.append_eq_nil_iff] at e
          rw [e.1] at this; simp at this
        have hcv := conv_bytes (src := 81) (dst := 9) Tryd.underlying81 Tryd.underlying5 Tryd.underlying9 hO2.slv hne
        rw [txt_nums] at hcv
        clear hke hne
        go_wp2
        go_ret2
        exact ⟨rfl, hb⟩
end Go.Proofs.YtmpoihejacklnaaDoor
/- A region that draws its order, inside a fence: a quiet head in the text's order, a tail in one forced order (which may hand on to a round). No condition. -/
namespace Go.Proofs.YtmpoihejacklnaaDoor
open Go Go.RowKit
section
variable {P : Program} {ops : Array Oper} {md : Region.Mode} {C : World → Prop} {m : Nat}
theorem quietIn_wide {o : Oper} {a : Act} {K : Act → Prop} (h : o.quiet P a C K) : o.quietIn Fence.wide m P a C K := by
  obtain ⟨v, h1, h2⟩ := h
  refine ⟨v, fun w hw => ?_, h2⟩
  have h3 := h1 w hw
  unfold Oper.quietAt at h3
  unfold Oper.quietAtIn
  generalize (execOp a.eval o).run P w = r at h3 ⊢
  cases r with
  | ok x w' =>
    cases x <;> simp only [Oper.quietUpon, Oper.quietUponIn] at h3 ⊢
    case value => exact h3
    case skip => exact h3
    case enter f args => exact ⟨h3.1, fun e => (by cases e), callsIn_wide.2 h3.2⟩
  | halt x w' => simp only [Oper.quietUpon] at h3
theorem qOpIn_wide {i : Nat} {K : Act → Prop} {a : Act} (h : qOp P ops C i K a) : qOpIn Fence.wide m P ops C i K a := by
  unfold qOp at h
  unfold qOpIn
  cases ho : ops[i]? with
  | none => rw [ho] at h; exact h
  | some o =>
    rw [ho] at h
    refine ⟨fun _ _ _ _ => trivial, ?_⟩
    dsimp only at h ⊢
    split
    · rename_i hw; rw [if_pos hw] at h; exact quietIn_wide h
    · rename_i hw; rw [if_neg hw] at h; exact h
theorem wpAnyIn_of_c {n g : Nat} {L : Array Bool → Act → Prop} {Q' : Exit → Act → World → Prop} (hL : ∀ listed a w, C w → L listed a → wpAnyIn Fence.wide m P md ops Q' g listed a w) :
    ∀ (f : Nat) (listed : Array Bool) (a : Act) (w : World), C w → wpAnyC P md ops C n L f listed a → wpAnyIn Fence.wide m P md ops Q' (f + g) listed a w
  | 0, listed, a, w, hw, h => by rw [Nat.zero_add]; exact hL _ _ _ hw h
  | f + 1, listed, a, w, hw, h => by
    rw [show f + 1 + g = (f + g) + 1 by omega]
    exact ⟨fun h0 => absurd h0 h.1, fun i hi => wpOpIn_of_qOpIn rfl hw (fun a' w' hw' h' => wpAnyIn_of_c hL f _ a' w' hw' h') (qOpIn_wide (h.2 i hi).2)⟩
theorem wpAnyIn_of_seq {F : Fence} {Q' : Exit → Act → World → Prop} : ∀ (l : List Oper) (k : Nat) (listed : Array Bool) (a : Act) (w : World), (∀ j, l[j]? = ops[k + j]?) →
    Region.seqB md ops l.length k listed = true → wpListIn F m P ops Q' l a w → wpAnyIn F m P md ops Q' l.length listed a w
  | [], _, _, _, _, _, hB, h => ⟨by simpa [Region.seqB] using hB, h⟩
  | o :: l, k, listed, a, w, hl, hB, h => by
    have h0 : ops[k]? = some o := by simpa using (hl 0).symm
    simp only [List.length_cons, Region.seqB, Bool.and_eq_true, decide_eq_true_eq] at hB
    refine ⟨fun h1 => (by rw [hB.1] at h1; cases h1), fun i hi => ?_⟩
    rw [hB.1] at hi
    have hik : i = k := by simpa using hi
    subst hik
    have hw : wpOpIn F m P ops Q' i (wpListIn F m P ops Q' l) a w := by unfold wpOpIn; simp only [h0]; exact h
    exact wpOpIn_mono (fun a' w' h' => wpAnyIn_of_seq l (i + 1) _ a' w' (fun j => by have := hl (j + 1); simpa [Nat.add_assoc, Nat.add_comm 1 j] using this) hB.2 h') hw
theorem region_tailI {id : Nat} {Q : Exit → Act → World → Prop} {a : Act} {w : World} {l : List Oper} (n : Nat) (hm : P.follows .mixedOrders = true) (hB : Region.lexTailB .any l.toArray n = true) (C : World → Prop) (hC : C { w with drawn := w.drawn + 1 })
    (h : wpQuiet P l.toArray C (fun a' => ∀ W, C W → wpListIn Fence.wide m P l.toArray Q (l.drop n) a' W) (l.take n) a) : (Code.region id l.toArray true).wpIn Fence.wide m P Q a w := by
  refine wpIn_region_any hm ?_
  simp only [Region.lexTailB, Bool.and_eq_true, decide_eq_true_eq] at hB
  obtain ⟨⟨⟨⟨hsel, hn⟩, hs⟩, hc⟩, hlex⟩ := hB
  have hn' : n < l.length := by simpa using hn
  have htl : (l.take n).length = n := by simp; omega
  have hdl : (l.drop n).length = l.toArray.size - n := by simp
  have inv0 : HeadInv .any l.toArray n (Array.replicate l.toArray.size false) :=
    ⟨by simp, fun j oj _ hl => (by rw [getD_replicate_false] at hl; cases hl), fun t _ ht => getD_in (by simpa using ht) (getD_replicate_false _ _)⟩
  have H := wpAnyC_lex (md := .any) (g := l.toArray.size - n) hsel hs hc hn (l.take n) 0 _ a (fun j hj => by
    have hj' : j < n := by rw [htl] at hj; exact hj
    simp [hj']) (by simpa using htl) inv0 (by rw [htl]; exact hlex) h
  have := wpAnyIn_of_c (m := m) (Q' := Q) (g := l.toArray.size - n) (fun listed a' w' hw' hL => by
    have := wpAnyIn_of_seq (F := Fence.wide) (m := m) (md := .any) (Q' := Q) (l.drop n) n listed a' w' (fun j => by simp [List.getElem?_drop]) (by rw [hdl]; exact hL.1) (hL.2 w' hw')
    rwa [hdl] at this) _ _ _ _ hC H
  rw [htl, show n + (l.toArray.size - n) = l.toArray.size by omega] at this
  exact this
end
end Go.Proofs.YtmpoihejacklnaaDoor
/- A range over a function whose iterator keeps a variable of its own in a box: the loop's law, with that box apart. No condition. -/
namespace Go.Proofs.YtmpoihejacklnaaDoor
open Go Go.RowKit
/-- New blocks; and the box b may hold another value. -/
def Own1 (b : Nat) (A B : World) : Prop := A.grownBy B (some b) ∧ ∃ t v v', Boxed A b t v ∧ Boxed B b t v'
/-- An iterator's word: it may turn its own box b. -/
def SeqBox {α : Type} (F : Fence) (n : Nat) (P : Program) (g : Nat) (lb : Array Value) (encs : α → Array Value) (b : Nat) (Kp : World → World → Prop) (S Sp : List α → Prop) (Ok : List α → α → Prop) (w : World) : Prop :=
  ∀ (l : Nat) (J Jx : List α → World → Prop) (W : World), Below w.heap.size w W → (∀ s A B, J s A → Own1 b A B → J s B) → (∀ s A B, Jx s A → Own1 b A B → Jx s B) → (∃ t v, Boxed W b t v ∧ Boxed w b t v) →
    (∀ pre x W1, J pre W1 → Ok pre x → YieldAt F (n - 1) P l (encs x) W1 fun e W' => (e = .returned (.bool true) ∧ J (pre ++ [x]) W' ∧ Kp W1 W') ∨ (e = .returned (.bool false) ∧ Jx (pre ++ [x]) W')) →
    J [] W → CallsIn F n P g (#[.func (.yield l) #[] #[]] ++ lb) W fun e W' => (∃ v, e = .returned v) ∧ ((∃ xs, S xs ∧ J xs W') ∨ (∃ pre, Sp pre ∧ Jx pre W'))
section
variable {F : Fence} {n : Nat} {P : Program} {w : World}
theorem own1_block {b k : Nat} {A B : World} {o : Obj} (h : Own1 b A B) (hk : A.heap[k]? = some o) (hc : o.isCells = false) : B.heap[k]? = some o := by
  obtain ⟨hg, t, v, v', h1, _⟩ := h
  refine (hg.block k (Array.getElem?_eq_some_iff.1 hk).1 (fun e => ?_)).trans hk
  cases e
  rw [show A.heap[b]? = _ from h1] at hk
  cases hk; cases hc
theorem rangeFunc_box {α : Type} {g : Operand} {ps : Array Tmp} {assign body : Code} {Q : Exit → Act → World → Prop} {a : Act}
    (hro : F.round = none) (h1 : 1 ≤ n) {gf : Nat} {lb : Array Value} (hg : a.eval g = .func (.func gf) #[] lb) (hFg : F.fn gf) (eg : ∀ args w, (callFunc gf args).run P w = .ok (.enter gf args) w)
    {encs : α → Array Value} {b : Nat} {Kp : World → World → Prop} {S Sp : List α → Prop} {Ok : List α → α → Prop} (hseq : SeqBox F (n - 1) P gf lb encs b Kp S Sp Ok w) (hbx : ∃ t v, Boxed w b t v)
    (hKt : ∀ {A B C : World}, Kp A B → Kp B C → Kp A C) (hKb : ∀ (W : World) (l : Nat) (o o' : Obj), w.heap.size ≤ l → W.heap[l]? = some o → o.isCells = false → o.isWalk = false → Kp W (W.putObj l o')) (hps : ∀ x, (encs x).size = ps.size)
    (I : List α → World → Prop) (Ix : Code → List α → World → Prop) (hI : OwnFrom w.heap.size I) (hIx : ∀ c, OwnFrom w.heap.size (Ix c)) (hIb : ∀ s A B, I s A → Own1 b A B → I s B) (hIxb : ∀ c s A B, Ix c s A → Own1 b A B → Ix c s B) (h0 : I [] w)
    (a₁ : α → Act)
    (hassign : ∀ (l : Nat) (x : α) (W : World) (K : Act → World → Prop), K (a₁ x) W →
      assign.wpIn (F.inRound l) (n - 1 - 1) P (Exit.then K (fun _ _ _ => False)) { tmps := (ps.zip (encs x)).foldl (fun t (p, v) => t.setIfInBounds p v) a.tmps, defers := [] } W)
    (hbody : ∀ (l : Nat) (pre : List α) (x : α) (W : World), I pre W → Ok pre x → body.wpIn (F.inRound l) (n - 1 - 1) P (ownPostG w.heap.size Kp I Ix (pre ++ [x]) W) (a₁ x) W)
    (hdone : ∀ (D : Nat) (xs : List α) (W : World), w.heap.size ≤ D → S xs → I xs W → W.heap[D]? = some (.deferred (some [])) → Q .normal { a with defers := { target := .collected D, args := #[] } :: a.defers } W)
    (hstop : ∀ (D : Nat) (c : Code) (pre : List α) (W : World), w.heap.size ≤ D → Sp pre → Ix c pre W → W.heap[D]? = some (.deferred (some [])) → c.wpIn F n P Q { a with defers := { target := .collected D, args := #[] } :: a.defers } W) :
    (Code.rangeFunc g ps assign body).wpIn F n P Q a w := by
  refine wpIn_rangeFunc ?_
  intro fn hfn
  rw [hro]
  let L : LoopState → Option Code → Obj := fun st pe => .loop { state := st, pending := pe, fn, tmps := a.tmps, params := ps, assign, body, defers := w.heap.size }
  let D := w.heap.size
  let l := w.heap.size + 1
  let W1 := (w.alloc (.deferred (some []))).alloc (L .ready none)
  have kl : W1.heap[l]? = some (L .ready none) := by have := World.alloc_heap_new (w.alloc (.deferred (some []))) (L .ready none); rwa [World.size_alloc] at this
  have kD : W1.heap[D]? = some (.deferred (some [])) := (Below.heap_alloc _ _ _ (by simp [D])).trans (World.alloc_heap_new w _)
  have hB1 : Below w.heap.size w W1 := ((Below.refl _ w).alloc (Nat.le_refl _) _).alloc (by simp) _
  obtain ⟨tb, vb, hbx⟩ := hbx
  have hBb : Boxed W1 b tb vb := (hbx.alloc _).alloc _
  refine ⟨l, [{ target := .collected D, args := #[] }], W1, { target := .fn (.func gf) lb, args := #[.func (.yield l) #[] #[]] }, W1, gf, #[.func (.yield l) #[] #[]] ++ lb, W1, run_enterLoop_outer _ _ _ _ _, ?_, ?_, ?_, fun _ => h1, ?_⟩
  · simp only [resolve, hg]; simp [go_sem]
  · intro f' hf'; simp [Target.leads] at hf'; subst hf'; exact hFg
  · simp [invoke, go_sem, eg]
  refine (hseq l (fun pre W => I pre W ∧ W.heap[l]? = some (L .ready none) ∧ W.heap[D]? = some (.deferred (some []))) (fun pre W => ∃ c, Ix c pre W ∧ W.heap[l]? = some (L .done (some c)) ∧ W.heap[D]? = some (.deferred (some []))) W1 hB1
    (fun s A B hs h => ⟨hIb s A B hs.1 h, own1_block h hs.2.1 rfl, own1_block h hs.2.2 rfl⟩) (fun s A B ⟨c, hs⟩ h => ⟨c, hIxb c s A B hs.1 h, own1_block h hs.2.1 rfl, own1_block h hs.2.2 rfl⟩) ⟨tb, vb, hBb, hbx⟩ ?_ ⟨hI.alloc _ (hI.alloc _ h0), kl, kD⟩).mono ?_
  · rintro pre x W ⟨hi, hl, hk⟩ hlen
    have hlt : l < W.heap.size := (Array.getElem?_eq_some_iff.1 hl).1
    refine ⟨fn, _, assign, body, run_yield (P := P) (args := encs x) hl (hps x), roundIn_of_wpIn hfn (hassign _ x W _ ?_)⟩
    refine ⟨_, run_beginRound hl rfl, ?_⟩
    have hl2 := World.putObj_heap_same (w := W) (o := L .busy none) hlt
    have hk2 : (W.putObj l (L .busy none)).heap[D]? = some (.deferred (some [])) := (World.putObj_heap_other (by show w.heap.size ≠ w.heap.size + 1; omega)).trans hk
    have hw2 : Kp W (W.putObj l (L .busy none)) := hKb _ _ _ _ (by show w.heap.size ≤ w.heap.size + 1; omega) hl rfl rfl
    refine wpIn_mono (hbody _ pre x _ (hI.putObj _ hi (by show w.heap.size ≤ w.heap.size + 1; omega) hl rfl) hlen) ?_
    have fin : ∀ (jump : Option Code) (W3 : World), KeepsFrom w.heap.size (W.putObj l (L .busy none)) W3 →
        (Instr.endRound l jump).run P W3 = .ok (.bool jump.isNone) (W3.putObj l (L (if jump.isNone then .ready else .done) jump)) ∧ W3.heap[l]? = some (L .busy none) ∧
        (W3.putObj l (L (if jump.isNone then .ready else .done) jump)).heap[l]? = some (L (if jump.isNone then .ready else .done) jump) ∧
        (W3.putObj l (L (if jump.isNone then .ready else .done) jump)).heap[D]? = some (.deferred (some [])) := fun jump W3 hk3 => by
      have hl3 := hk3.same _ _ (by show w.heap.size ≤ w.heap.size + 1; omega) hl2 rfl
      exact ⟨run_endRound (P := P) jump hl3, hl3, World.putObj_heap_same (Array.getElem?_eq_some_iff.1 hl3).1, (World.putObj_heap_other (by show w.heap.size ≠ w.heap.size + 1; omega)).trans (hk3.same _ _ (Nat.le_refl _) hk2 rfl)⟩
    have leave : ∀ (c : Code) (W3 : World), KeepsFrom w.heap.size (W.putObj l (L .busy none)) W3 → Ix c (pre ++ [x]) W3 → Ix c (pre ++ [x]) (W3.putObj l (L .done (some c))) := fun c W3 hk3 hi3 =>
      (hIx c).putObj _ hi3 (by show w.heap.size ≤ w.heap.size + 1; omega) (fin (some c) W3 hk3).2.1 rfl
    rintro e a3 W3 hp
    cases e with
    | normal =>
      obtain ⟨hr, hl3, hl4, hk4⟩ := fin none W3 hp.1
      exact ⟨_, _, hr, .inl ⟨rfl, ⟨hI.putObj _ hp.2.2 (by show w.heap.size ≤ w.heap.size + 1; omega) hl3 rfl, hl4, hk4⟩, hKt (hKt hw2 hp.2.1) (hKb _ _ _ _ (by show w.heap.size ≤ w.heap.size + 1; omega) hl3 rfl rfl)⟩⟩
    | ret => exact ⟨_, _, (fin (some .ret) W3 hp.1).1, .inr ⟨rfl, .ret, leave .ret W3 hp.1 hp.2, (fin (some .ret) W3 hp.1).2.2⟩⟩
    | exit id => exact ⟨_, _, (fin (some (.exit id)) W3 hp.1).1, .inr ⟨rfl, .exit id, leave (.exit id) W3 hp.1 hp.2, (fin (some (.exit id)) W3 hp.1).2.2⟩⟩
    | goto t => exact ⟨_, _, (fin (some (.goto t)) W3 hp.1).1, .inr ⟨rfl, .goto t, leave (.goto t) W3 hp.1 hp.2, (fin (some (.goto t)) W3 hp.1).2.2⟩⟩
    | panic ch => exact hp.elim
    | outgrown => exact hp.elim
  · rintro e W2 ⟨⟨v, rfl⟩, (⟨xs, hS, hi, hl, hk⟩ | ⟨pre, hSp, c, hi, hl, hk⟩)⟩
    · exact ⟨none, _, run_endLoop (P := P) hl (by simp), hdone _ xs _ (Nat.le_refl _) hS (hI.putObj _ hi (by show w.heap.size ≤ w.heap.size + 1; omega) hl rfl) ((World.putObj_heap_other (by show w.heap.size ≠ w.heap.size + 1; omega)).trans hk)⟩
    · exact ⟨some c, _, run_endLoop (P := P) hl (by simp), hstop _ c pre _ (Nat.le_refl _) hSp ((hIx c).putObj _ hi (by show w.heap.size ≤ w.heap.size + 1; omega) hl rfl) ((World.putObj_heap_other (by show w.heap.size ≠ w.heap.size + 1; omega)).trans hk)⟩
end
end Go.Proofs.YtmpoihejacklnaaDoor
/- runes.Decode: a text's runes. No condition. -/
namespace Go.Proofs.YtmpoihejacklnaaDoor
open Go Go.RowKit Go.Shelf
attribute [local go_sem] Oper.semAt_some
/-- A text's runes one by one, and whether each is one. -/
def allN : Nat → List UInt8 → List (Int × Bool)
  | 0, _ => []
  | n + 1, l => if l = [] then [] else (((Lib.decodeL l).1 : Int), decide (¬ badL l)) :: allN n (l.drop (Lib.decodeL l).2)
theorem allN_more : ∀ (n m : Nat) (l : List UInt8), l.length ≤ n → l.length ≤ m → allN n l = allN m l
  | 0, 0, _, _, _ => rfl
  | 0, m + 1, l, h, _ => by obtain rfl : l = [] := List.eq_nil_of_length_eq_zero (by omega); simp [allN]
  | n + 1, 0, l, _, h => by obtain rfl : l = [] := List.eq_nil_of_length_eq_zero (by omega); simp [allN]
  | n + 1, m + 1, l, h1, h2 => by
    unfold allN
    by_cases hl : l = []
    · rw [if_pos hl, if_pos hl]
    · rw [if_neg hl, if_neg hl]
      have := Lib.decodeL_width l
      have hp : 0 < l.length := List.length_pos_iff.2 hl
      rw [allN_more n m _ (by simp; omega) (by simp; omega)]
def allL (l : List UInt8) : List (Int × Bool) := allN l.length l
theorem allL_nil : allL [] = [] := rfl
theorem allL_step (l : List UInt8) (hl : l ≠ []) : allL l = (((Lib.decodeL l).1 : Int), decide (¬ badL l)) :: allL (l.drop (Lib.decodeL l).2) := by
  unfold allL
  obtain ⟨n, hn⟩ : ∃ n, l.length = n + 1 := ⟨l.length - 1, by have := List.length_pos_iff.2 hl; omega⟩
  rw [hn]
  conv => lhs; unfold allN
  rw [if_neg hl]
  have := Lib.decodeL_width l
  rw [allN_more n (l.drop (Lib.decodeL l).2).length _ (by simp; omega) (Nat.le_refl _)]
theorem allL_dec : ∀ (n : Nat) (l : List UInt8), l.length ≤ n → decL l = if (allL l).all (·.2) = true then some ((allL l).map (·.1)) else none
  | 0, l, h => by obtain rfl : l = [] := List.eq_nil_of_length_eq_zero (by omega); rfl
  | n + 1, l, h => by
    by_cases hl : l = []
    · subst hl; rfl
    · have := Lib.decodeL_width l
      have hp : 0 < l.length := List.length_pos_iff.2 hl
      rw [allL_step l hl, decL_step l hl, allL_dec n _ (by simp; omega)]
      by_cases hb : badL l
      · rw [if_pos hb]; simp [hb]
      · rw [if_neg hb]
        simp only [List.all_cons, hb, not_false_eq_true, decide_true, Bool.true_and, List.map_cons]
        split <;> rfl
theorem allL_len : ∀ (n : Nat) (l : List UInt8), l.length ≤ n → (allL l).length ≤ l.length
  | 0, l, h => by obtain rfl : l = [] := List.eq_nil_of_length_eq_zero (by omega); simp [allL_nil]
  | n + 1, l, h => by
    by_cases hl : l = []
    · subst hl; simp [allL_nil]
    · have := Lib.decodeL_width l
      have hp : 0 < l.length := List.length_pos_iff.2 hl
      have ih := allL_len n (l.drop (Lib.decodeL l).2) (by simp; omega)
      rw [allL_step l hl]
      simp only [List.length_cons, List.length_drop] at ih ⊢
      omega
def allS (s : ByteArray) : List (Int × Bool) := allL s.data.toList
theorem allS_dec (s : ByteArray) : decS s = if (allS s).all (·.2) = true then some ((allS s).map (·.1)) else none := allL_dec _ _ (Nat.le_refl _)
theorem allS_len (s : ByteArray) : (allS s).length ≤ s.size := by
  have := allL_len _ _ (Nat.le_refl s.data.toList.length)
  rwa [sz_list] at this
theorem own1_refl {b : Nat} {A : World} {t : TypeId} {v : Value} (h : Boxed A b t v) : Own1 b A A := ⟨⟨rfl, rfl, rfl, Nat.le_refl _, fun _ _ _ => rfl⟩, t, v, v, h, h⟩
theorem own1_below {b : Nat} {A B : World} {t : TypeId} {v : Value} (h : Boxed A b t v) (hb : Below A.heap.size A B) : Own1 b A B :=
  ⟨⟨hb.os, hb.tape, hb.output, hb.size, fun i hi _ => hb.block i hi⟩, t, v, v, h, (hb.block b h.lt).trans h⟩
theorem own1_set {b : Nat} {A : World} {t : TypeId} {v : Value} (h : Boxed A b t v) (u : Value) : Own1 b A (A.setCell ⟨b, 0, none⟩ u) := ⟨grownBy_setCell' A b u, t, v, u, h, h.set u⟩
/-- What a round keeps: all that lay below n₀, and the box b. -/
def Kp1 (n₀ b : Nat) (A B : World) : Prop := Below n₀ A B ∧ A.heap.size ≤ B.heap.size ∧ (b < A.heap.size → B.heap[b]? = A.heap[b]?)
theorem Kp1.trans {n₀ b : Nat} {A B C : World} (h : Kp1 n₀ b A B) (k : Kp1 n₀ b B C) : Kp1 n₀ b A C := ⟨h.1.trans k.1, Nat.le_trans h.2.1 k.2.1, fun hb => (k.2.2 (Nat.lt_of_lt_of_le hb h.2.1)).trans (h.2.2 hb)⟩
/-- How many bytes are left. -/
def leftS (w : World) (b : Nat) : Nat := match w.cell? ⟨b, 0, none⟩ with
  | some (.string t) => t.size
  | _ => 0
theorem leftS_at {w : World} {b : Nat} {t : ByteArray} (h : w.cell? ⟨b, 0, none⟩ = some (.string t)) : leftS w b = t.size := by unfold leftS; rw [h]
theorem decGo {s : ByteArray} (h : s.size ≠ 0) : Lib.decodeGo s = Lib.decodeL s.data.toList := by
  show (if s.size = 0 then (65533, 0) else Utf8.decode s 0) = Utf8.decode ⟨s.data.toList.toArray⟩ 0
  rw [if_neg h]
theorem all_step (t : ByteArray) (h : 0 < t.size) : ∃ (rr nn : Nat) (bd : Bool), Lib.decodeGo t = (rr, nn) ∧ 1 ≤ nn ∧ nn ≤ t.size ∧ allS t = ((rr : Int), bd) :: allS (t.extract nn t.size) ∧
    ((rr = 65533 ∧ nn = 1 ∧ bd = false) ∨ (rr ≠ 65533 ∧ bd = true) ∨ (rr = 65533 ∧ 1 < nn ∧ bd = true)) := by
  have hne : t.data.toList ≠ [] := by intro h; have := sz_list t; rw [h] at this; simp at this; omega
  have hle := Lib.decodeL_le _ hne
  have hw := Lib.decodeL_width t.data.toList
  rw [sz_list] at hle
  refine ⟨(Lib.decodeL t.data.toList).1, (Lib.decodeL t.data.toList).2, decide (¬ badL t.data.toList), decGo (by omega), hw, hle, ?_, ?_⟩
  · have h2 : allS (t.extract (Lib.decodeL t.data.toList).2 t.size) = allL (t.data.toList.drop (Lib.decodeL t.data.toList).2) := by unfold allS; rw [Lib.extract_to_end]
    rw [h2]
    exact allL_step _ hne
  · unfold badL
    by_cases h1 : (Lib.decodeL t.data.toList).1 = 65533 <;> by_cases h2 : (Lib.decodeL t.data.toList).2 = 1
    · exact .inl ⟨h1, h2, by simp [h1, h2]⟩
    · exact .inr (.inr ⟨h1, by omega, by simp [h2]⟩)
    · exact .inr (.inl ⟨h1, by simp [h1]⟩)
    · exact .inr (.inl ⟨h1, by simp [h1]⟩)
set_option maxRecDepth 100000 in
set_option maxHeartbeats 1000000 in
theorem all1_in (n : Nat) (hn : 1 ≤ n) (l Bn : Nat) (s : ByteArray) (w0 : World) (hU : U w0) (J Jx : List (Int × Bool) → World → Prop) (W : World)
    (hJ : ∀ pre A B, J pre A → Own1 Bn A B → J pre B)
    (hY : ∀ pre x W1, J pre W1 → pre.length < s.size → YieldAt Fence.wide (n - 1) Tryd.prog l #[.int .i32 x.1, .bool x.2] W1 fun e W' =>
      (e = .returned (.bool true) ∧ J (pre ++ [x]) W' ∧ Kp1 w0.heap.size Bn W1 W') ∨ (e = .returned (.bool false) ∧ Jx (pre ++ [x]) W'))
    (hb0 : Below w0.heap.size w0 W) (hBn : w0.heap.size ≤ Bn) (hBx : Boxed W Bn 9 (.string s)) (h0 : J [] W) :
    CallsIn Fence.wide n Tryd.prog 64 #[.func (.yield l) #[] #[], .pointer (some ⟨Bn, 0, none⟩)] W fun e W' => (∃ v, e = .returned v) ∧
      ((∃ ys, ys = allS s ∧ J ys W') ∨ (∃ pre, (∃ q, allS s = pre ++ q) ∧ Jx pre W')) := by
  refine callsIn_of_wp Tryd.func64 rfl trivial ?_ rfl
  simp only [Tryd.ntmps64, List.size_toArray, List.length_cons, List.length_nil, Nat.reduceAdd, Nat.reduceSub, Array.replicate_succ, Array.replicate_zero, List.push_toArray, List.append_toArray, List.nil_append, List.cons_append]
  have HU := Lib.hid hU
  clear hU
  gi_wp2
  gi_loopw [3, 4] (fun _ _ wr => ∃ (t : ByteArray) (pre : List (Int × Bool)), Boxed wr Bn 9 (.string t) ∧ Hid (allS s = pre ++ allS t) ∧ pre.length + t.size ≤ s.size ∧ J pre wr ∧ Below w0.heap.size w0 wr) (fun _ _ wr => leftS wr Bn)
  case atStart => exact ⟨s, [], hBx, rfl, by simp, h0, hb0⟩
  case round =>
    obtain ⟨t, pre, hB, HP, hpl, hJp, hb⟩ := hrel
    have hc := hB.cell
    by_cases hz0 : 0 < t.size
    · obtain ⟨rr, nn, bd, hgo, hw, hle, hal, hcase⟩ := all_step t hz0
      have HGO := Lib.hid hgo
      have HT : Hid (allS s = (pre ++ [((rr : Int), bd)]) ++ allS (t.extract nn t.size)) := by
        show _ = _
        rw [HP.out, hal, List.append_assoc]; rfl
      have hn1 : (1 : Int) ≤ nn := by omega
      have hnz : (nn : Int) ≤ t.size := by omega
      have hpl2 : pre.length < s.size := by omega
      clear hgo hal
      obtain ⟨X, hX⟩ : ∃ X : Int × Bool, X = ((rr : Int), bd) := ⟨_, rfl⟩
      rw [← hX] at HT
      replace hX := Lib.hid hX
      rcases hcase with ⟨rfl, rfl, rfl⟩ | ⟨h1, rfl⟩ | ⟨rfl, h2, rfl⟩
      all_goals
        try have e1 : ((rr : Int) != 65533) = true := by simp; omega
        try have e2 : (1 : Int) < nn := by omega
        gi_wp2_with (refine ⟨trivial, ?_⟩; gi_at_call 65; refine (callsIn_wide.2 (Tryd.utf8_DecodeRuneInString t _ (HU.out.to hb))).mono ?_; rintro e w2 ⟨rfl, hb2⟩; rw [HGO.out]; have hB2 : Boxed w2 Bn 9 (.string t) := (hb2.block Bn hB.lt).trans hB; have hb02 : Below w0.heap.size w0 w2 := hb.trans (hb2.mono hb.size); obtain ⟨fn, tmps, assign, body, hy, hR⟩ := hY pre X w2 (hJ _ _ _ hJp (own1_below hB hb2)) hpl2; rw [hX.out] at hy; dsimp only at hy; try simp only [Int.cast_ofNat_Int] at hy)
        refine hR.mono ?_
        rintro e W3 (⟨rfl, hJ3, hk3⟩ | ⟨rfl, hJx3⟩)
        · have hB3 : Boxed W3 Bn 9 (.string t) := (hk3.2.2 hB2.lt).trans hB2
          have hc3 := hB3.cell
          have hf3 := hB3.frozen
          gi_wp2
          refine ⟨⟨_, _, hB3.set _, HT.out, by simp; omega, hJ _ _ _ hJ3 (own1_set hB3 _), (hb02.trans hk3.1).setCell (p := ⟨Bn, 0, none⟩) hBn _⟩, ?_⟩
          rw [leftS_at (hB3.set _).cell, leftS_at hc]
          simp; omega
        · gi_wp2
          refine bodyPost_ret (results_none rfl _ _ _) rfl ?_
          exact ⟨⟨_, rfl⟩, .inr ⟨_, ⟨_, HT.out⟩, hJx3⟩⟩
    · have h0 : t.data.toList = [] := List.eq_nil_of_length_eq_zero (by rw [sz_list]; omega)
      gi_wp2
      go_end0
      refine ⟨⟨_, rfl⟩, .inl ⟨pre, ?_, hJp⟩⟩
      rw [HP.out]; unfold allS; rw [h0, allL_nil, List.append_nil]
theorem all_stops (n : Nat) (hn : 1 ≤ n) (Bn : Nat) (s : ByteArray) (w0 w : World) (hU : U w0) (hb : Below w0.heap.size w0 w) (hBn : w0.heap.size ≤ Bn) (hBx : Boxed w Bn 9 (.string s)) :
    SeqBox Fence.wide n Tryd.prog 64 #[.pointer (some ⟨Bn, 0, none⟩)] (fun x : Int × Bool => #[.int .i32 x.1, .bool x.2]) Bn (Kp1 w0.heap.size Bn) (fun ys => ys = allS s) (fun pre => ∃ q, allS s = pre ++ q) (fun pre _ => pre.length < s.size) w := fun l J Jx W hW hJ _ ⟨t, v, h1, h2⟩ hY h0 => by
  have e : Boxed W Bn 9 (.string s) := (hW.block Bn hBx.lt).trans hBx
  exact all1_in n hn l Bn s w0 hU J Jx W hJ hY (hb.trans (hW.mono hb.size)) hBn e h0
set_option maxHeartbeats 1000000 in
theorem all_c (F : Fence) (hF : F.fn 37) (hro : F.round = none) (n : Nat) (s : ByteArray) (w : World) : CallsIn F n Tryd.prog 37 #[.string s] w fun e w' => e = .returned (.func (.func 64) #[] #[.pointer (some ⟨w.heap.size, 0, none⟩)]) ∧ w' = w.alloc (.cells #[.string s] 9) := by
  refine callsIn_of_wp Tryd.func37 rfl hF ?_ hro
  simp only [Tryd.ntmps37, List.size_toArray, List.length_cons, List.length_nil, Nat.reduceAdd, Nat.reduceSub, Array.replicate_succ, Array.replicate_zero, List.push_toArray, List.append_toArray, List.nil_append, List.cons_append]
  gi_wp2
  go_ret
  exact ⟨rfl, rfl⟩
theorem info_i32_parts : ∃ i, Tryd.prog.info? 21 = some i ∧ i.zero = some (.int .i32 0) ∧ i.size = 1 ∧ i.bytes = 4 := by
  obtain ⟨i, h1, h2⟩ := Option.map_eq_some_iff.1 info_i32
  simp only [Prod.mk.injEq] at h2
  exact ⟨i, h1, h2.1, h2.2.1, h2.2.2⟩
/-- The row of what has come, boxed. -/
def OutBox (w : World) (n₀ B : Nat) (l : List (Int × Bool)) : Prop := ∃ v, Boxed w B 50 v ∧ w.ownsRow n₀ 21 1 v l.length (l.map fun p => Value.int .i32 p.1) ∧ True
theorem Own1.boxed {b B : Nat} {A C : World} {t : TypeId} {v : Value} (h : Own1 b A C) (hB : Boxed A B t v) (hne : B ≠ b) : Boxed C B t v := hB.kept h.1 (fun e => hne (by injection e))
theorem own1_row {b n₀ : Nat} {A C : World} {e : TypeId} {v : Value} {k : Nat} {xs : List Value} (h : Own1 b A C) (hr : A.ownsRow n₀ e 1 v k xs) (hte : 9 ≠ e) (hb : ∃ u, Boxed A b 9 u) : C.ownsRow n₀ e 1 v k xs := by
  obtain ⟨u, hu⟩ := hb
  refine hr.kept h.1 ?_
  rcases hr.2 with ⟨rfl, _⟩ | ⟨g, cap, cur, rfl, _, hg, _⟩
  · exact .inl rfl
  · refine .inr fun e' => ?_
    simp only [Value.ownBlock, Option.some.injEq] at e'
    subst e'
    rw [show A.heap[g]? = _ from hu] at hg
    injection hg with hg
    injection hg with _ hg
    exact hte hg
theorem own_row {k : IntKind} {n₀ : Nat} {e : TypeId} {w : World} {v : Value} {l : List Int} (h : w.ownsRow n₀ e 1 v l.length (l.map (Value.int k))) : Own (eInt k) n₀ e w v l := by
  have e1 : ∀ l : List Int, l.flatMap (eInt k).e = l.map (Value.int k) := fun l => by
    induction l with
    | nil => rfl
    | cons x l ih => simp only [List.flatMap_cons, List.map_cons, ih]; rfl
  unfold Own
  rw [e1]; exact h
theorem own_row2 {k : IntKind} {n₀ : Nat} {e : TypeId} {w : World} {v : Value} {l : List (Int × Bool)} (h : w.ownsRow n₀ e 1 v l.length (l.map fun p => Value.int k p.1)) : Own (eInt k) n₀ e w v (l.map (·.1)) :=
  own_row (by rw [List.length_map, List.map_map]; exact h)
/-- What Decode hands back, its row the call's own. -/
def DecOwn (w : World) (d : Option (List Int)) (e : Ending) (w' : World) : Prop :=
  Below w.heap.size w w' ∧ match d with
    | some l => ∃ v, e = .returned (.tuple #[v, .int .i64 0]) ∧ Own (eInt .i32) w.heap.size 21 w' v l
    | none => e = .returned (.tuple #[.slice none 0 0, .int .i64 3])
set_option maxRecDepth 100000 in
set_option maxHeartbeats 2000000 in
theorem dec_own (s : ByteArray) (w : World) (hU : U w) (hz : s.size ≤ 17592186044416) :
    Calls Tryd.prog 22 #[.string s] w (DecOwn w (decS s)) := by
  refine (callsIn_wide (n := 5)).1 ?_
  obtain ⟨i0, hi, hz0, hz1, hz2⟩ := info_i32_parts
  refine callsIn_of_wp_marks Tryd.func22 rfl trivial ?_ rfl
  simp only [Tryd.ntmps22, List.size_toArray, List.length_cons, List.length_nil, Nat.reduceAdd, Nat.reduceSub, Array.replicate_succ, Array.replicate_zero, List.push_toArray, List.append_toArray, List.nil_append, List.cons_append]
  gi_wp2_with (refine ⟨trivial, ?_⟩; gi_at_call 37; refine (all_c _ trivial rfl _ _ _).mono ?_; rintro e w1 ⟨rfl, rfl⟩)
  have bR := Boxed.new w 50 (.slice none 0 0)
  have bE := Boxed.new (w.alloc (.cells #[.slice none 0 0] 50)) 27 (.int .i64 0)
  have bN := Boxed.new ((w.alloc (.cells #[.slice none 0 0] 50)).alloc (.cells #[.int .i64 0] 27)) 9 (.string s)
  rw [World.size_alloc] at bE
  rw [World.size_alloc, World.size_alloc] at bN
  have hB0 : Below w.heap.size w (((w.alloc (.cells #[.slice none 0 0] 50)).alloc (.cells #[.int .i64 0] 27)).alloc (.cells #[.string s] 9)) := Bel
  refine rangeFunc_box rfl (by omega) (gf := 64) (lb := #[.pointer (some ⟨w.heap.size + 1 + 1, 0, none⟩)]) rfl trivial (enters_of Tryd.func64 (by kernel_rfl) rfl)
    (b := w.heap.size + 1 + 1) (all_stops (5 - 1) (by omega) (w.heap.size + 1 + 1) s w _ hU hB0 (by omega) bN) ⟨_, _, bN⟩ Kp1.trans (fun W l o o' h1 h2 h3 h4 => ⟨belowK_b hB0.size W l o o' h1 h2 h3 h4, by simp, fun _ => World.putObj_heap_other (by simp at h1; omega)⟩) (fun _ => rfl)
    (fun pre W => (∀ p ∈ pre, p.2 = true) ∧ (OutBox W w.heap.size w.heap.size pre ∧ Boxed W (w.heap.size + 1) 27 (.int .i64 0)) ∧ (∃ u, Boxed W (w.heap.size + 1 + 1) 9 u) ∧ Below w.heap.size w W)
    (fun c pre W => (c = .ret ∧ ∃ p ∈ pre, p.2 = false) ∧ (Boxed W w.heap.size 50 (.slice none 0 0) ∧ Boxed W (w.heap.size + 1) 27 (.int .i64 3)) ∧ Below w.heap.size w W)
    ?hI ?hIx ?hIb ?hIxb ?h0
    (fun x => { tmps := #[.string s, undef, .pointer (some ⟨w.heap.size, 0, none⟩), .pointer (some ⟨w.heap.size + 1, 0, none⟩), .int .i32 x.1, .bool x.2, .string s, .func (.func 64) #[] #[.pointer (some ⟨w.heap.size + 1 + 1, 0, none⟩)], .int .i32 x.1, .bool x.2, undef, undef, undef, undef, undef, undef, undef], defers := [] }) ?assign ?body ?done ?stop
  case hI =>
    exact OwnFrom.and (ownFrom_pure _ (fun pre : List (Int × Bool) => ∀ p ∈ pre, p.2 = true)) (OwnFrom.and (OwnFrom.and (Go.Own.from (holdsRow_own w.heap.size w.heap.size 50 21 1 (fun pre : List (Int × Bool) => pre.length) (fun pre => pre.map fun p => Value.int .i32 p.1) (fun _ _ => True)) _) (Go.Own.from (boxed_own (w.heap.size + 1) _ (fun _ => .int .i64 0)) _))
      (OwnFrom.and (fun s A B row ⟨u, hu⟩ hg hr => ⟨u, boxed_own (w.heap.size + 1 + 1) 9 (fun _ : List (Int × Bool) => u) s A B row hu hg (fun r e => (hr r e).2)⟩) (ownFrom_below (Nat.le_refl _) hB0.size)))
  case hIx =>
    exact fun c => OwnFrom.and (ownFrom_pure _ (fun pre : List (Int × Bool) => c = .ret ∧ ∃ p ∈ pre, p.2 = false)) (OwnFrom.and (OwnFrom.and (Go.Own.from (boxed_own w.heap.size _ (fun _ => .slice none 0 0)) _) (Go.Own.from (boxed_own (w.heap.size + 1) _ (fun _ => .int .i64 3)) _)) (ownFrom_below (Nat.le_refl _) hB0.size))
  case hIb =>
    rintro pre A B ⟨h1, ⟨⟨v, h2, h3, _⟩, h4⟩, ⟨u, h5⟩, h6⟩ ho
    refine ⟨h1, ⟨⟨v, ho.boxed h2 (by omega), own1_row ho h3 (by decide) ⟨u, h5⟩, trivial⟩, ho.boxed h4 (by omega)⟩, ?_, h6.grown ho.1 h6.size (fun k e => by injection e with e; omega)⟩
    obtain ⟨_, t, x, x', q1, q2⟩ := ho
    have e : some (Obj.cells #[x] t (0, 0)) = some (Obj.cells #[u] 9 (0, 0)) := (show A.heap[w.heap.size + 1 + 1]? = _ from q1).symm.trans h5
    injection e with e
    injection e with _ e
    subst e
    exact ⟨x', q2⟩
  case hIxb =>
    rintro c pre A B ⟨h1, ⟨h2, h4⟩, h6⟩ ho
    exact ⟨h1, ⟨ho.boxed h2 (by omega), ho.boxed h4 (by omega)⟩, h6.grown ho.1 h6.size (fun k e => by injection e with e; omega)⟩
  case h0 =>
    exact ⟨by simp, ⟨⟨_, (bR.alloc _).alloc _, World.ownsRow_nil _ _ _ _, trivial⟩, bE.alloc _⟩, ⟨_, bN⟩, hB0⟩
  case assign =>
    intro l x W K hK
    gi_wp2
    exact hK
  case body =>
    rintro l pre ⟨r, ok⟩ W ⟨hpre, ⟨⟨v, hv, hrow, _⟩, hE⟩, ⟨u, hS⟩, hb⟩ hlt
    have hvc := hv.cell
    have hvf := hv.frozen
    have hec := hE.cell
    have hef := hE.frozen
    cases ok
    · gi_wp2
      refine ⟨((KeepsOthers.setCell _ _ _).trans (KeepsOthers.setCell _ _ _)).from _, ⟨rfl, (r, false), by simp, rfl⟩, ⟨(hv.set _).other (by omega) _, (hE.other (by omega) _).set _⟩, (hb.setCell (p := ⟨w.heap.size, 0, none⟩) (Nat.le_refl _) _).setCell (p := ⟨w.heap.size + 1, 0, none⟩) (by simp) _⟩
    · have hlx : pre.length < 17592186044416 := by omega
      gi_wp2_with (gi_at_builtin; refine wpListIn_append_own _ rfl _ _ 50 rfl w.heap.size 21 i0 (.int .i32 0) 1 4 Tryd.underlying50 hi hz0 hz1 hz2 rfl (by decide) v pre.length _ rfl (hrow.alloc _) ⟨W.heap.size, 0, none⟩ 1 1 [.int .i32 r] rfl rfl (cell_one_new _ _ _) (by simp [Value.oneCell']) (by simp only [maxLen]; omega) (by omega) (by have := hb.size; simp; omega) ?_; intro v' w1 hown' hgrow _; obtain ⟨g', cap', rfl⟩ := ownsRow_succ hown'; obtain ⟨hv1, hv2, hr2, hk2, hb2⟩ := hv.appended (by decide) hrow hb.size (Nat.le_refl _) hown' hgrow; have hc1 := hv1.cell; have hf1 := hv1.frozen)
      have hS2 := ((hS.alloc _).kept hgrow (hS.not_row (by decide) hrow)).other (B' := w.heap.size) (by omega) (.slice (some ⟨g', 0, none⟩) (pre.length + 1) cap')
      have hE2 := ((hE.alloc _).kept hgrow (hE.not_row (by decide) hrow)).other (B' := w.heap.size) (by omega) (.slice (some ⟨g', 0, none⟩) (pre.length + 1) cap')
      refine ⟨hk2.from _, ⟨hb2, hb2.size, fun _ => hS2.trans (Eq.symm hS)⟩, ⟨fun p hp => ?_, ⟨⟨_, hv2, ?_, trivial⟩, hE2⟩, ⟨u, hS2⟩, hb.trans hb2⟩⟩
      · rcases List.mem_append.1 hp with hp | hp
        · exact hpre p hp
        · rw [List.mem_singleton.1 hp]
      · simpa using hr2
  case done =>
    rintro D ys W hD rfl ⟨hall, ⟨⟨v, hv, hrow, _⟩, hE⟩, _, hb⟩ hK
    have hvc := hv.cell
    have hvf := hv.frozen
    have hec := hE.cell
    have hef := hE.frozen
    have HD : Hid (decS s = some ((allS s).map (·.1))) := by
      show decS s = _
      rw [allS_dec, if_pos (by rw [List.all_eq_true]; exact hall)]
    have hfin : ∀ W4, W4 = (W.setCell ⟨w.heap.size, 0, none⟩ v).setCell ⟨w.heap.size + 1, 0, none⟩ (.int .i64 0) →
        Boxed W4 w.heap.size 50 v ∧ Boxed W4 (w.heap.size + 1) 27 (.int .i64 0) ∧ W4.heap[D]? = some (.deferred (some [])) ∧ Below w.heap.size w W4 ∧ W4.ownsRow w.heap.size 21 1 v (allS s).length ((allS s).map fun p => Value.int .i32 p.1) := by
      rintro W4 rfl
      have hD2 : w.heap.size + 1 + 1 < D := by simp at hD; omega
      have hr1 := hrow.kept (grownBy_setCell' W w.heap.size v) (.inr (hv.not_row (by decide) hrow).symm)
      have hE1 := hE.other (B' := w.heap.size) (by omega) v
      refine ⟨(hv.set _).other (by omega) _, hE1.set _, (heap_setCell_other _ _ D _ (by show D ≠ w.heap.size + 1; omega)).trans ((heap_setCell_other _ _ D _ (by show D ≠ w.heap.size; omega)).trans hK), (hb.setCell (p := ⟨w.heap.size, 0, none⟩) (Nat.le_refl _) _).setCell (p := ⟨w.heap.size + 1, 0, none⟩) (by simp) _, hr1.kept (grownBy_setCell' _ (w.heap.size + 1) _) (.inr (hE1.not_row (by decide) hr1).symm)⟩
    have hrf := hrow.2
    clear hrow hall
    rcases hrf with ⟨rfl, h0⟩ | ⟨g, cap, cur, rfl, _⟩
    all_goals
      gi_wp2
      obtain ⟨hR4, hE4, hK4, hb4, hr4⟩ := hfin _ rfl
      refine ⟨by simp, .inl ⟨_, _, rfl, run_takeDeferred hK4, ?_⟩⟩
      have hc5 := cell_kept hR4.cell (grownBy_putObj' _ D (.deferred none)) (fun r e => by cases e; exact ⟨_, hK4, rfl⟩)
      have hc6 := cell_kept hE4.cell (grownBy_putObj' _ D (.deferred none)) (fun r e => by cases e; exact ⟨_, hK4, rfl⟩)
      refine ⟨.tuple #[_, .int .i64 0], ?_, hb4.trans (belowK_b (w := w) (Nat.le_refl _) _ D _ _ (by simp at hD; omega) hK4 rfl rfl), by rw [HD.out]; exact ⟨_, rfl, own_row2 (ownsRow_putObj hr4 _ hK4 rfl)⟩⟩
      simp [results, Tryd.f22, go_sem, hc5, hc6]
  case stop =>
    rintro D c' pre W hD ⟨q, hq⟩ ⟨⟨rfl, p, hp, hp2⟩, ⟨hR, hE⟩, hb⟩ hK
    have HD : Hid (decS s = none) := by
      show decS s = _
      rw [allS_dec, if_neg]
      rw [List.all_eq_true]
      intro h
      have := h p (by rw [hq]; exact List.mem_append.2 (.inl hp))
      rw [hp2] at this; cases this
    gi_wp2
    refine ⟨by simp, .inl ⟨_, _, rfl, run_takeDeferred hK, ?_⟩⟩
    have hc5 := cell_kept hR.cell (grownBy_putObj' _ D (.deferred none)) (fun r e => by cases e; exact ⟨_, hK, rfl⟩)
    have hc6 := cell_kept hE.cell (grownBy_putObj' _ D (.deferred none)) (fun r e => by cases e; exact ⟨_, hK, rfl⟩)
    refine ⟨.tuple #[.slice none 0 0, .int .i64 3], ?_, hb.trans (belowK_b (w := w) (Nat.le_refl _) W D _ _ (by simp at hD; omega) hK rfl rfl), by rw [HD.out]⟩
    simp [results, Tryd.f22, go_sem, hc5, hc6]
theorem dec_c (s : ByteArray) (w : World) (hU : U w) (hz : s.size ≤ 17592186044416) : Calls Tryd.prog 22 #[.string s] w (DecPost w (decS s)) :=
  (dec_own s w hU hz).mono fun e w' ⟨h1, h2⟩ => ⟨h1, by
    cases hd : decS s with
    | none => rw [hd] at h2; exact h2
    | some l => rw [hd] at h2; obtain ⟨v, h3, h4⟩ := h2; exact ⟨v, h3, h4.slv⟩⟩
end Go.Proofs.YtmpoihejacklnaaDoor
