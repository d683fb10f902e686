/- Layer 1 (view): arguments that come in. -/
import Derived.Test.YtkmbeohheblhhaaTry
namespace Go.Proofs.Ytkmbeohheblhhaa
open Go.RowKit
namespace Vw

/-- A slice of bytes that came in reads as its elements. -/
theorem VB_of_row {w : World} {a : Option Addr} {len cap : Nat} {zs : List Int} (h : Bas.IsRow .u8 w a len cap zs) (hlen : len ≤ 140737488355328) :
    VB w a (zs.take len) ∧ (zs.take len).length = len ∧ len ≤ cap ∧ cap ≤ maxLen ∧ (a = none → cap = 0) := by
  rcases h with ⟨rfl, rfl, rfl, rfl⟩ | ⟨x, rfl, hl, hm, hz, hcell, hwz⟩
  · exact ⟨⟨by simp, by simp, by simp⟩, by simp, by simp, by simp, fun _ => rfl⟩
  · have hlt : (zs.take len).length = len := by simp; omega
    refine ⟨⟨by omega, fun y hy => Bas.wf_u8 (hwz y (List.mem_of_mem_take hy)), fun i hi => ?_⟩, hlt, hl, hm, by simp⟩
    have hi' : i < len := by omega
    have hc := hcell i (by omega)
    have hs := World.cell?_spot hc
    obtain ⟨b, o, s⟩ := x
    by_cases hi0 : i = 0
    · subst hi0
      have : s = none := by simpa [Addr.add] using hs
      subst this
      refine ⟨b, o, rfl, ?_⟩
      rw [Addr.add_lit] at hc
      rw [hc]; simp [hi']
    · have hc0 := hcell 0 (by omega)
      have hs0 := World.cell?_spot hc0
      have : s = none := by simpa [Addr.add] using hs0
      subst this
      refine ⟨b, o, rfl, ?_⟩
      rw [Addr.add_lit] at hc
      rw [hc]; simp [hi']

end Vw
end Go.Proofs.Ytkmbeohheblhhaa
