/- The reference's Table, Total and Find; CountTables walked. No condition. -/
import Derived.Test.YtpnhmapkdbnkmaaDoorGathk
import Derived.Test.YtpnhmapkdbnkmaaDoorMks7k
namespace Go.Proofs.YtpnhmapkdbnkmaaDoor
open Go Go.RowKit
theorem Tab.of {l ys : List T3} (h : Tab l ys) : TabOf l ys := by
  have hA := rise_aps h.rise
  have hn : ∀ {l : List T3}, ApS l → l.Nodup := fun {l} ha => List.Pairwise.imp (fun {a b} hab (e : a = b) => hab (by subst e; exact ⟨rfl, rfl⟩)) ha
  refine ⟨(List.perm_ext_iff_of_nodup (hn hA) (hn (gath_aps l))).2 fun b => ?_, h.rise.imp fun {a b} hab => ?_⟩
  · rw [h.mem]
    constructor
    · rintro ⟨h1, h2⟩
      obtain ⟨x, hx, e⟩ := List.mem_map.1 ((gath_keys l _).2 h1)
      injection e with e1 e2
      have h3 := tot_mem (gath_aps l) hx
      rw [gath_tot, e1, e2] at h3
      have : x = b := by cases x; cases b; simp_all
      exact this ▸ hx
    · intro hb
      refine ⟨(gath_keys l _).1 (mem_keys hb), ?_⟩
      have h3 := tot_mem (gath_aps l) hb
      rw [gath_tot] at h3
      exact h3.symm
  · cases e : ltT b a
    · rfl
    · have := ltT_trans hab e
      rw [ltT_irrefl] at this; cases this
/-- Two tables of one list are the same. -/
theorem TabOf.uniq {l ys zs : List T3} (h : TabOf l ys) (k : TabOf l zs) : ys = zs := h.perm k (List.Perm.refl _)
theorem TabOf.le {l ys : List T3} (h : TabOf l ys) : ys.length ≤ l.length := by rw [h.len]; exact gath_len l
end Go.Proofs.YtpnhmapkdbnkmaaDoor
