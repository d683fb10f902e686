/- trak.Read, of any bytes. -/
import Derived.Test.YtfocjagkhoonmaaTrakRead
namespace Go.Proofs.Ytfocjagkhoonmaa
open Go.RowKit
namespace Tk
open Vw

/-- What stands for what was read. -/
def okTab (t : Option (TrackD × TrackD)) (w : World) (base : Nat) (v : Value) : Prop := ∃ x g, t = some x ∧ v = .pointer (some ⟨g, 0, none⟩) ∧ TabOk w base g x.1 x.2

theorem own_lt {w : World} {base : Nat} {v : Value} {n size : Nat} {xs : List Value} {e : TypeId} (h : w.ownsRow base e size v n xs) {w' : World} (hk : ∀ g, base ≤ g → g < w.heap.size → w'.heap[g]? = w.heap[g]?) : w'.ownsRow base e size v n xs :=
  Row.owned_keep h fun g hg => hk g (Row.own_block h hg).1 (Row.own_block h hg).2

theorem tab_keep {w w' : World} {base g : Nat} {t1 t2 : TrackD} (h : TabOk w base g t1 t2) (hk : ∀ g, base ≤ g → g < w.heap.size → w'.heap[g]? = w.heap[g]?) : TabOk w' base g t1 t2 := by
  obtain ⟨hg, a1, v1, a2, v2, hh, h1, h2⟩ := h
  exact ⟨hg, a1, v1, a2, v2, (hk g hg (heap_lt hh)).trans hh, ⟨own_lt h1.1 hk, own_lt h1.2 hk⟩, ⟨own_lt h2.1 hk, own_lt h2.2 hk⟩⟩
theorem tab_base {w : World} {base base' g : Nat} {t1 t2 : TrackD} (h : TabOk w base g t1 t2) (hb : base' ≤ base) : TabOk w base' g t1 t2 := by
  obtain ⟨hg, a1, v1, a2, v2, hh, h1, h2⟩ := h
  exact ⟨Nat.le_trans hb hg, a1, v1, a2, v2, hh, trkOwn_base h1 hb, trkOwn_base h2 hb⟩
theorem tab_below {w w' : World} {base g : Nat} {t1 t2 : TrackD} (h : TabOk w base g t1 t2) (hb : Below w.heap.size w w') : TabOk w' base g t1 t2 := tab_keep h fun g _ hg => hb.block g hg

theorem okTab_keeps (t : Option (TrackD × TrackD)) : Keeps (okTab t) :=
  ⟨fun _ _ _ _ ⟨x, g, h1, h2, h3⟩ hk _ => ⟨x, g, h1, h2, tab_keep h3 hk⟩, fun _ _ _ _ ⟨x, g, h1, h2, h3⟩ hb => ⟨x, g, h1, h2, tab_base h3 hb⟩, fun _ _ _ ⟨_, _, _, h2, _⟩ => ⟨_, h2⟩⟩

theorem takeG (a : Option Addr) (len cap : Nat) (bs : List Int) (hl : len ≤ cap) (hc : cap ≤ maxLen) (hbl : bs.length = len) (hsmall : len ≤ 1000000000) (w : World) (hv : VB w a bs) :
    Calls Try.prog 23 #[.agg #[.slice a len cap]] w (TakeG (tableAt bs).isSome (okTab (tableAt bs)) w) := by
  refine (take_any a len cap bs w hl hc hv hbl hsmall).mono ?_
  rintro e w' ⟨hb, h⟩
  refine ⟨hb, ?_⟩
  cases hp : tableAt bs with
  | none => rw [hp] at h; simpa using h
  | some cs =>
    rw [hp] at h
    obtain ⟨g, he, hr⟩ := h
    simp only [Option.isSome_some, if_true]
    exact ⟨_, he, cs, g, rfl, rfl, hr⟩

def TReadP (w : World) (bs : List Int) (e : Ending) (w' : World) : Prop :=
  Below w.heap.size w w' ∧ match tableAt bs with
    | none => e = .returned (.tuple #[.pointer none, .int .i64 2])
    | some t => ∃ g, e = .returned (.tuple #[.pointer (some ⟨g, 0, none⟩), .int .i64 0]) ∧ TabOk w' w.heap.size g t.1 t.2

theorem tRead_any (a : Option Addr) (len cap : Nat) (bs : List Int) (w : World) (hl : len ≤ cap) (hc : cap ≤ maxLen) (hv : VB w a bs) (hbl : bs.length = len) (hsmall : len ≤ 1000000000) :
    Calls Try.prog 17 #[.slice a len cap] w (TReadP w bs) := by
  refine (read_any a len cap bs _ _ (okTab_keeps (tableAt bs)) w hv (takeG a len cap bs hl hc hbl hsmall)).mono ?_
  rintro e w' ⟨hb, h⟩
  refine ⟨hb, ?_⟩
  cases hp : tableAt bs with
  | none => rw [hp] at h; simpa using h
  | some cs =>
    rw [hp] at h
    simp only [Option.isSome_some, if_true] at h
    obtain ⟨v, he, x, g, h1, rfl, h3⟩ := h
    cases h1
    exact ⟨g, he, h3⟩
end Tk
end Go.Proofs.Ytfocjagkhoonmaa
