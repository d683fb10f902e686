/- What layer 8's law asks first. -/
import Derived.Test.YtdmhenlfhbigbaaFeatExcl
import Derived.Test.YtdmhenlfhbigbaaFeatWr
import Derived.Test.YtdmhenlfhbigbaaFeatBackL
namespace Go.Proofs.Ytdmhenlfhbigbaa
open Go.RowKit
namespace Ft
open Vw Wr Ch

/-- What Write's answer is, as a View's bytes. -/
theorem written {w : World} {base : Nat} {v : Value} {bs : List Int} (h : w.ownsRow base 5 1 v bs.length (bs.map (Value.int .u8))) (h0 : 0 < bs.length) (hb : ∀ x ∈ bs, 0 ≤ x ∧ x ≤ 255) (hl : bs.length ≤ 1000000000) :
    ∃ g cap, v = .slice (some ⟨g, 0, none⟩) bs.length cap ∧ bs.length ≤ cap ∧ cap ≤ maxLen ∧ VB w (some ⟨g, 0, none⟩) bs := by
  obtain ⟨g, cg, hv, _, _, hgc, hgm, hvg, _⟩ := owned h (fun e => by
    rcases Row.owned_parts h with ⟨_, h1, _⟩ | ⟨_, _, h1, _⟩
    · omega
    · rw [h1] at e; cases e) rfl hb (by omega)
  exact ⟨g, cg, hv, hgc, hgm, hvg⟩

def oneP : List WPlan := [⟨3, 49153, [4, 5]⟩]
theorem oneP_ok : ∀ c ∈ oneP, okPlan c := by
  intro c hc
  simp only [oneP, List.mem_singleton] at hc
  subst hc
  exact ⟨⟨by decide, by decide, by decide⟩, by decide⟩

end Ft
end Go.Proofs.Ytdmhenlfhbigbaa
