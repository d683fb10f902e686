/- chain.Read, of any bytes. -/
import Derived.Test.YtgddghplhdmfdaaChainRead
namespace Go.Proofs.Ytgddghplhdmfdaa
open Go.RowKit
namespace Ch
open Vw

theorem chRow_keep {w w' : World} {base : Nat} {a : Option Addr} {v : Value} {cs : List PlaceD} {rs : List (Value × Value)} (h : ChRow w base a v cs rs) (hk : ∀ g, base ≤ g → g < w.heap.size → w'.heap[g]? = w.heap[g]?) : ChRow w' base a v cs rs :=
  have k : ∀ {e : TypeId} {size n : Nat} {u : Value} {xs : List Value}, w.ownsRow base e size u n xs → w'.ownsRow base e size u n xs := fun h => Row.owned_keep h fun g hg => hk g (Row.own_block h hg).1 (Row.own_block h hg).2
  ⟨h.len, k h.own, fun i c r hc hr => k (h.rules i c r hc hr), fun i c r hc hr => k (h.subs i c r hc hr)⟩

theorem chRow_base {w : World} {base base' : Nat} {a : Option Addr} {v : Value} {cs : List PlaceD} {rs : List (Value × Value)} (h : ChRow w base a v cs rs) (hb : base' ≤ base) : ChRow w base' a v cs rs :=
  ⟨h.len, Row.owned_base h.own hb, fun i c r hc hr => Row.owned_base (h.rules i c r hc hr) hb, fun i c r hc hr => Row.owned_base (h.subs i c r hc hr) hb⟩

/-- What stands for what was read. -/
def okRow (a : Option Addr) (cs : Option (List PlaceD)) (w : World) (base : Nat) (v : Value) : Prop := ∃ l rs, cs = some l ∧ ChRow w base a v l rs

theorem okRow_keeps (a : Option Addr) (cs : Option (List PlaceD)) : Keeps (okRow a cs) :=
  ⟨fun _ _ _ _ ⟨l, rs, h1, h2⟩ hk _ => ⟨l, rs, h1, chRow_keep h2 hk⟩, fun _ _ _ _ ⟨l, rs, h1, h2⟩ hb => ⟨l, rs, h1, chRow_base h2 hb⟩, fun _ _ _ ⟨_, _, _, h2⟩ => by
    obtain ⟨ad, cp, h⟩ := own_slice h2.own
    exact ⟨_, _, _, h⟩⟩

theorem takeG (a : Option Addr) (len cap : Nat) (bs : List Int) (hl : len ≤ cap) (hc : cap ≤ maxLen) (hbl : bs.length = len) (hsmall : len ≤ 1000000000) (w : World) (hv : VB w a bs) :
    Calls Try.prog 23 #[.agg #[.slice a len cap]] w (TakeG (parseAll bs).isSome (okRow a (parseAll bs)) w) := by
  refine (take_any a len cap bs w hl hc hv hbl hsmall).mono ?_
  rintro e w' ⟨hb, h⟩
  refine ⟨hb, ?_⟩
  cases hp : parseAll bs with
  | none => rw [hp] at h; simpa using h
  | some cs =>
    rw [hp] at h
    obtain ⟨v, rs, he, hr⟩ := h
    simp only [Option.isSome_some, if_true]
    exact ⟨v, he, cs, rs, rfl, hr⟩

def ChainReadP (w : World) (a : Option Addr) (bs : List Int) (e : Ending) (w' : World) : Prop :=
  Below w.heap.size w w' ∧ match parseAll bs with
    | none => e = .returned (.tuple #[.slice none 0 0, .int .i64 2])
    | some cs => ∃ v rs, e = .returned (.tuple #[v, .int .i64 0]) ∧ ChRow w' w.heap.size a v cs rs

theorem chainRead_any (a : Option Addr) (len cap : Nat) (bs : List Int) (w : World) (hl : len ≤ cap) (hc : cap ≤ maxLen) (hv : VB w a bs) (hbl : bs.length = len) (hsmall : len ≤ 1000000000) :
    Calls Try.prog 17 #[.slice a len cap] w (ChainReadP w a bs) := by
  refine (read_any a len cap bs _ _ (okRow_keeps a (parseAll bs)) w hv (takeG a len cap bs hl hc hbl hsmall)).mono ?_
  rintro e w' ⟨hb, h⟩
  refine ⟨hb, ?_⟩
  cases hp : parseAll bs with
  | none => rw [hp] at h; simpa using h
  | some cs =>
    rw [hp] at h
    simp only [Option.isSome_some, if_true] at h
    obtain ⟨v, he, l, rs, h1, h2⟩ := h
    cases h1
    exact ⟨v, rs, he, h2⟩
end Ch
end Go.Proofs.Ytgddghplhdmfdaa
