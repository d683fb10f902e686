/- feat.Read, of any bytes. -/
import Derived.Test.YtdmhenlfhbigbaaFeatRead
namespace Go.Proofs.Ytdmhenlfhbigbaa
open Go.RowKit
namespace Ft
open Vw Ch

/-- What stands for what was read. -/
def okRow (fs : Option (List FeatD)) (w : World) (base : Nat) (v : Value) : Prop := ∃ l ss, fs = some l ∧ FRow w base v l ss

theorem okRow_keeps (fs : Option (List FeatD)) : Keeps (okRow fs) :=
  ⟨fun _ _ _ _ ⟨l, ss, h1, h2⟩ hk _ => ⟨l, ss, h1, fRow_keep h2 hk⟩, fun _ _ _ _ ⟨l, ss, h1, h2⟩ hb => ⟨l, ss, h1, fRow_base h2 hb⟩, fun _ _ _ ⟨_, _, _, h2⟩ => by
    obtain ⟨ad, cp, h⟩ := own_slice h2.own
    exact ⟨_, _, _, h⟩⟩

theorem takeG (a : Option Addr) (len cap : Nat) (bs : List Int) (hl : len ≤ cap) (hc : cap ≤ maxLen) (hbl : bs.length = len) (hsmall : len ≤ 1000000000) (w : World) (hv : VB w a bs) :
    Calls Try.prog 29 #[.agg #[.slice a len cap]] w (TakeG (parseFs bs).isSome (okRow (parseFs bs)) w) := by
  refine (ftake_any a len cap bs w hl hc hv hbl hsmall).mono ?_
  rintro e w' ⟨hb, h⟩
  refine ⟨hb, ?_⟩
  cases hp : parseFs bs with
  | none => rw [hp] at h; simpa using h
  | some cs =>
    rw [hp] at h
    obtain ⟨v, rs, he, hr⟩ := h
    simp only [Option.isSome_some, if_true]
    exact ⟨v, he, cs, rs, rfl, hr⟩

def FReadP (w : World) (bs : List Int) (e : Ending) (w' : World) : Prop :=
  Below w.heap.size w w' ∧ match parseFs bs with
    | none => e = .returned (.tuple #[.slice none 0 0, .int .i64 2])
    | some fs => ∃ v ss, e = .returned (.tuple #[v, .int .i64 0]) ∧ FRow w' w.heap.size v fs ss

theorem fRead_any (a : Option Addr) (len cap : Nat) (bs : List Int) (w : World) (hl : len ≤ cap) (hc : cap ≤ maxLen) (hv : VB w a bs) (hbl : bs.length = len) (hsmall : len ≤ 1000000000) :
    Calls Try.prog 11 #[.slice a len cap] w (FReadP w bs) := by
  refine (read_any a len cap bs _ _ (okRow_keeps (parseFs bs)) w hv (takeG a len cap bs hl hc hbl hsmall)).mono ?_
  rintro e w' ⟨hb, h⟩
  refine ⟨hb, ?_⟩
  cases hp : parseFs bs with
  | none => rw [hp] at h; simpa using h
  | some cs =>
    rw [hp] at h
    simp only [Option.isSome_some, if_true] at h
    obtain ⟨v, he, l, rs, h1, h2⟩ := h
    cases h1
    exact ⟨v, rs, he, h2⟩
end Ft
end Go.Proofs.Ytdmhenlfhbigbaa
