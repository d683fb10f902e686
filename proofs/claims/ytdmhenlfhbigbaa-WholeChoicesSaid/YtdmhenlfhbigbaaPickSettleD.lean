/- Layer 9 (pick): what Settle answers, in plain words. -/
import Derived.Test.YtdmhenlfhbigbaaPickMap
namespace Go.Proofs.Ytdmhenlfhbigbaa
open Go.RowKit
namespace Pk
open Ch Ft Go.Maps

/-- What was met of the map so far. -/
structure Met (fs : List FeatD) (l : List (Int × Int)) (left : Lit → Bool) (xs : List (Int × Int)) : Prop where
  nodup : xs.Nodup
  has : ∀ z, left z = true → has (Dm fs l) z = true
  mem : ∀ s, s ∈ xs ↔ ∃ c, wf64 c ∧ lastK fs l c = some s ∧ left (kl c) = false

theorem met_start (fs : List FeatD) (l : List (Int × Int)) : Met fs l (has (Dm fs l)) [] := by
  refine ⟨List.nodup_nil, fun _ h => h, fun s => ⟨fun h => (by cases h), fun ⟨c, hc, h1, h2⟩ => ?_⟩⟩
  rw [(Dm_reads fs c hc l).1, h1] at h2
  cases h2
theorem met_step {fs : List FeatD} {l : List (Int × Int)} {left : Lit → Bool} {xs : List (Int × Int)} (h : Met fs l left xs) {x s : Int × Int} (hx : wf64 x) (hl : left (kl x) = true) (hat : ∀ z, (Dm fs l).atKey (kl x) z = dS s) :
    Met fs l (fun z => left z && !z.sameKey (kl x)) (xs ++ [s]) := by
  have h0 := h.has _ hl
  rw [(Dm_reads fs x hx l).1] at h0
  obtain ⟨s', hs'⟩ := Option.isSome_iff_exists.1 h0
  have e : s' = s := dS_inj (((Dm_reads fs x hx l).2 s' hs' .nil).symm.trans (hat .nil))
  subst e
  have same : ∀ c, wf64 c → ((kl c).sameKey (kl x) = true ↔ c = x) := fun c hc => by
    constructor
    · intro hk; exact kl_inj hc hx (WideAt.sameKey_eq hk)
    · rintro rfl; exact WideAt.sameKey_self (kl_key _ hc)
  have hnot : s' ∉ xs := fun hm => by
    obtain ⟨c, hc, h1, h2⟩ := (h.mem s').1 hm
    have e1 := (lastK_some fs l h1).2.2
    have e2 := (lastK_some fs l hs').2.2
    rw [← e1, e2, hl] at h2
    cases h2
  refine ⟨?_, fun z hz => h.has z (by simp at hz; exact hz.1), fun s => ?_⟩
  · rw [List.nodup_append]
    exact ⟨h.nodup, by simp, fun a ha b hb e => by simp at hb; subst hb; subst e; exact hnot ha⟩
  · rw [List.mem_append, List.mem_singleton]
    constructor
    · rintro (hm | rfl)
      · obtain ⟨c, hc, h1, h2⟩ := (h.mem s).1 hm
        exact ⟨c, hc, h1, by simp [h2]⟩
      · exact ⟨x, hx, hs', by simp [(same x hx).2 rfl]⟩
    · rintro ⟨c, hc, h1, h2⟩
      cases hlc : left (kl c) with
      | false => exact .inl ((h.mem s).2 ⟨c, hc, h1, hlc⟩)
      | true =>
        rw [hlc] at h2
        simp at h2
        have e := (same c hc).1 h2
        subst e
        rw [hs'] at h1
        cases h1
        exact .inr rfl

/-- What Settle answers. -/
def IsSet (fs : List FeatD) (l ys : List (Int × Int)) : Prop := ys.Pairwise (fun x y => ltP x y = true) ∧ ∀ s, s ∈ ys ↔ rightB s = true ∧ lastK fs l (ck fs s) = some s

theorem ltP_total {x y : Int × Int} (h : ltP y x = false) (hne : x ≠ y) : ltP x y = true := by
  simp [ltP] at h ⊢
  have : ¬ (x.1 = y.1 ∧ x.2 = y.2) := fun e => hne (Prod.ext e.1 e.2)
  omega
theorem met_end {fs : List FeatD} {l : List (Int × Int)} {left : Lit → Bool} {xs ys : List (Int × Int)} (h : Met fs l left xs) (hl : ∀ z, left z = false) (hp : ys.Perm xs) (hr : Rises ys) : IsSet fs l ys := by
  have hnd : ys.Nodup := hp.nodup_iff.2 h.nodup
  refine ⟨?_, fun s => ?_⟩
  · exact (List.Pairwise.and hr hnd).imp fun ⟨h1, h2⟩ => ltP_total h1 h2
  · rw [hp.mem_iff, h.mem]
    constructor
    · rintro ⟨c, hc, h1, _⟩
      obtain ⟨_, h2, h3⟩ := lastK_some fs l h1
      exact ⟨h2, by rw [h3]; exact h1⟩
    · rintro ⟨h1, h2⟩
      exact ⟨ck fs s, ck_wf fs s h1, h2, hl _⟩
theorem isSet_sub {fs : List FeatD} {l ys : List (Int × Int)} (h : IsSet fs l ys) : ∀ s ∈ ys, s ∈ l := fun s hs => (lastK_some fs l ((h.2 s).1 hs).2).1
theorem isSet_nodup {fs : List FeatD} {l ys : List (Int × Int)} (h : IsSet fs l ys) : ys.Nodup := h.1.imp fun {a b} hab e => by subst e; simp [ltP] at hab
theorem isSet_len {fs : List FeatD} {l ys : List (Int × Int)} (h : IsSet fs l ys) : ys.length ≤ l.length :=
  (isSet_nodup h).length_le_of_subset (isSet_sub h)
theorem met_len {fs : List FeatD} {l : List (Int × Int)} {left : Lit → Bool} {xs : List (Int × Int)} (h : Met fs l left xs) : xs.length ≤ l.length :=
  h.nodup.length_le_of_subset fun s hs => by obtain ⟨c, _, h1, _⟩ := (h.mem s).1 hs; exact (lastK_some fs l h1).1
end Pk
end Go.Proofs.Ytdmhenlfhbigbaa
