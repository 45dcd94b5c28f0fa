/- The document's example. No condition. -/
import Derived.Test.YtpnhmapkdbnkmaaGreatDoorK805
namespace Go.Proofs.YtpnhmapkdbnkmaaGreatDoor
open Go Go.RowKit
theorem alive_small : Small [bA, bB, bA] := ⟨by decide, fun b hb => by
  simp only [List.mem_cons, List.not_mem_nil, or_false] at hb
  rcases hb with h | h | h <;> rw [h] <;> decide⟩
end Go.Proofs.YtpnhmapkdbnkmaaGreatDoor
