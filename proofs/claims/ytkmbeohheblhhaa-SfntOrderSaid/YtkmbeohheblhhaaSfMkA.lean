/- sfnt.Make: what it is made of. -/
import Derived.Test.YtkmbeohheblhhaaSfPut
import Derived.Test.YtkmbeohheblhhaaSymS
import Derived.Test.YtkmbeohheblhhaaFontIs
import Derived.Lib.BitFns
import Derived.Lib.Small
import Derived.Laws.Cover3
namespace Go.Proofs.Ytkmbeohheblhhaa
open Go.RowKit
namespace Sy
open Fo Vw Wr

/-- The sum, byte by byte, is that by fours. -/
def sumG (bs : List Int) : Nat → Int
  | 0 => 0
  | k + 1 => (sumG bs k + bs.getD k 0 * 2 ^ (24 - 8 * (k % 4)) % 4294967296) % 4294967296
theorem sumS_take (bs : List Int) : ∀ k, k ≤ bs.length → sumS (bs.take k) 0 0 = sumG bs k
  | 0, _ => rfl
  | k + 1, h => by
    rw [List.take_add_one, List.getElem?_eq_getElem (by omega)]
    show sumS (bs.take k ++ [_]) 0 0 = _
    rw [sumS_snoc, sumS_take bs k (by omega), List.length_take, Nat.min_eq_left (by omega), Nat.zero_add]
    show _ = (sumG bs k + bs.getD k 0 * _ % 4294967296) % 4294967296
    rw [List.getD_eq_getElem?_getD, List.getElem?_eq_getElem (by omega)]
    rfl
theorem sumG_bd (bs : List Int) : ∀ k, 0 ≤ sumG bs k ∧ sumG bs k < 4294967296
  | 0 => ⟨Int.le_refl _, (by decide : (0 : Int) < 4294967296)⟩
  | k + 1 => by unfold sumG; omega
theorem getD_byte {bs : List Int} (hb : ∀ x ∈ bs, 0 ≤ x ∧ x ≤ 255) (i : Nat) : 0 ≤ bs.getD i 0 ∧ bs.getD i 0 ≤ 255 := by
  rw [List.getD_eq_getElem?_getD]
  cases h : bs[i]? with
  | none => exact ⟨Int.le_refl _, by decide⟩
  | some x => exact hb x (List.mem_of_getElem? h)
theorem sumG_four {bs : List Int} (hb : ∀ x ∈ bs, 0 ≤ x ∧ x ≤ 255) : ∀ m, sumG bs (4 * m) = sumTo bs m
  | 0 => rfl
  | m + 1 => by
    have ih := sumG_four hb m
    have h0 := getD_byte hb (4 * m)
    have h1 := getD_byte hb (4 * m + 1)
    have h2 := getD_byte hb (4 * m + 2)
    have h3 := getD_byte hb (4 * m + 3)
    have hs := sumG_bd bs (4 * m)
    have e1 : sumG bs (4 * (m + 1)) = (((( sumG bs (4 * m) + bs.getD (4 * m) 0 * 16777216 % 4294967296) % 4294967296 + bs.getD (4 * m + 1) 0 * 65536 % 4294967296) % 4294967296 + bs.getD (4 * m + 2) 0 * 256 % 4294967296) % 4294967296 + bs.getD (4 * m + 3) 0 * 1 % 4294967296) % 4294967296 := by
      have p0 : 24 - 8 * (4 * m % 4) = 24 := by omega
      have p1 : 24 - 8 * ((4 * m + 1) % 4) = 16 := by omega
      have p2 : 24 - 8 * ((4 * m + 2) % 4) = 8 := by omega
      have p3 : 24 - 8 * ((4 * m + 3) % 4) = 0 := by omega
      show (((( sumG bs (4 * m) + bs.getD (4 * m) 0 * 2 ^ (24 - 8 * (4 * m % 4)) % 4294967296) % 4294967296 + bs.getD (4 * m + 1) 0 * 2 ^ (24 - 8 * ((4 * m + 1) % 4)) % 4294967296) % 4294967296 + bs.getD (4 * m + 2) 0 * 2 ^ (24 - 8 * ((4 * m + 2) % 4)) % 4294967296) % 4294967296 + bs.getD (4 * m + 3) 0 * 2 ^ (24 - 8 * ((4 * m + 3) % 4)) % 4294967296) % 4294967296 = _
      rw [p0, p1, p2, p3]
      rfl
    have e2 : sumTo bs (m + 1) = (sumTo bs m + ((((0 * 256 + bs.getD (4 * m) 0) * 256 + bs.getD (4 * m + 1) 0) * 256 + bs.getD (4 * m + 2) 0) * 256 + bs.getD (4 * m + 3) 0)) % 4294967296 := by
      have q : ∀ i, (if i < bs.length then bs.getD i 0 else 0) = bs.getD i 0 := fun i => by
        split
        · rfl
        · rw [List.getD_eq_getElem?_getD, List.getElem?_eq_none (by omega)]; rfl
      simp only [sumTo, x4, q, Nat.add_zero]
    rw [e1, e2, ← ih]
    clear e1 e2 ih hb
    generalize sumG bs (4 * m) = s at *
    generalize bs.getD (4 * m) 0 = a0 at *
    generalize bs.getD (4 * m + 1) 0 = a1 at *
    generalize bs.getD (4 * m + 2) 0 = a2 at *
    generalize bs.getD (4 * m + 3) 0 = a3 at *
    omega
theorem sumG_stop {bs : List Int} : ∀ k, bs.length ≤ k → sumG bs k = sumG bs bs.length
  | 0, h => by rw [Nat.le_zero.1 h]
  | k + 1, h => by
    rcases Nat.lt_or_ge k bs.length with h1 | h1
    · rw [show bs.length = k + 1 by omega]
    · have hs := sumG_bd bs k
      have e : sumG bs (k + 1) = (sumG bs k + 0 * 2 ^ (24 - 8 * (k % 4)) % 4294967296) % 4294967296 := by
        show (sumG bs k + bs.getD k 0 * 2 ^ (24 - 8 * (k % 4)) % 4294967296) % 4294967296 = _
        rw [List.getD_eq_getElem?_getD, List.getElem?_eq_none h1]; rfl
      rw [e, Int.zero_mul, ← sumG_stop k h1]
      omega
theorem sumS_eq {bs : List Int} (hb : ∀ x ∈ bs, 0 ≤ x ∧ x ≤ 255) : sumS bs 0 0 = sumL bs := by
  have h := sumS_take bs bs.length (Nat.le_refl _)
  rw [List.take_length] at h
  unfold sumL
  rw [h, ← sumG_four hb]
  exact (sumG_stop _ (by omega)).symm

set_option maxHeartbeats 4000000 in
set_option maxRecDepth 100000 in
theorem len64_int (x : Int) (w : World) (h0 : 0 ≤ x) (h1 : x ≤ 255) :
    Calls Try.prog 42 #[.int .u64 x] w fun e w' => e = .returned (.int .i64 (Lib.bitLen x.toNat)) ∧ w = w' := by
  go_enter Try.func42, Try.ntmps42
  go_wp2
  go_ret
  refine ⟨congrArg Ending.returned (congrArg (Value.int IntKind.i64) ?_), rfl⟩
  rw [Lib.len8_of x h0 (by omega)]
  have l := Lib.bitLen_le8' x h0 (by omega)
  first | omega | (unfold wrap64; omega)
set_option maxHeartbeats 4000000 in
theorem blen_int (x : Int) (w : World) (h0 : 0 ≤ x) (h1 : x ≤ 255) :
    Calls Try.prog 25 #[.int .u64 x] w fun e w' => e = .returned (.int .i64 (Lib.bitLen x.toNat)) ∧ w = w' := by
  go_enter Try.func25, Try.ntmps25
  go_wp2_with (fail)
  refine (len64_int x w h0 h1).mono ?_
  rintro e w' ⟨rfl, rfl⟩
  go_wp2_with (fail)
  go_ret
  exact ⟨rfl, rfl⟩

theorem ptC_flat (l : List Pt) : (l.flatMap ptC).length = l.length * 2 := by
  induction l with
  | nil => rfl
  | cons p l ih => rw [List.flatMap_cons, List.length_append, ih, ptC_len, List.length_cons]; omega
theorem ptC_one (l : List Pt) : ∀ u ∈ l.flatMap ptC, u.oneCell' = true := by
  intro u hu
  obtain ⟨p, _, hp⟩ := List.mem_flatMap.1 hu
  simp [ptC] at hp
  rcases hp with rfl | rfl <;> rfl
theorem infoQ : (Try.prog.info? 37).map (fun i => (i.zero, i.size, i.bytes)) = some (some (.agg #[.string ⟨#[]⟩, .slice none 0 0]), 2, 40) := by kernel_rfl
theorem own_zero {w : World} {base g : Nat} {e : TypeId} {size : Nat} (hg : w.heap[g]? = some (.cells #[] e (0, 0))) (hb : base ≤ g) : w.ownsRow base e size (.slice (some ⟨g, 0, none⟩) 0 0) 0 [] :=
  ⟨by simp, .inr ⟨g, 0, _, rfl, hb, hg, Nat.le_refl _, by unfold maxLen; omega, by simp, by simp⟩⟩

set_option maxRecDepth 100000 in
theorem clone_any (v : Value) (xs : List Pt) (n : Nat) (w : World) (hl : Row.Leads w v n (xs.flatMap ptC)) (hn : xs.length = n) (hn2 : n ≤ 4294967296) :
    Calls Try.prog 21 #[v] w fun e w' => Below w.heap.size w w' ∧ ∃ ad cp, e = .returned (.slice ad n cp) ∧ w'.ownsRow w.heap.size 37 2 (.slice ad n cp) n (xs.flatMap ptC) := by
  have HL := Bas.hid hl
  have hqe : ∀ (a : Option Addr) (n c : Nat) (w : World), (Go.binOp .eql 35 (.slice a n c) (.slice none 0 0)).run Try.prog w = Result.ok (.bool a.isNone) w := fun a n c w => by
    have h : (Op.equalIn Op.maxDepth 35 (.slice a n c) (.slice none 0 0)).run Try.prog w = Result.ok a.isNone w := run_equalIn_slice_nil w (Op.maxDepth - 1) _ _ a n c Try.underlying35
    simp [go_sem, Go.binOp, Op.equal, h, Result.andThen]
  rcases hl with ⟨rfl, rfl, hx⟩ | ⟨ad, cp, rfl, _⟩
  · rw [hx]
    have HO := Bas.hid (Row.owned_nil w w.heap.size 37 2)
    clear HL hx
    go_enter Try.func21, Try.ntmps21
    go_wp2_with (fail)
    go_ret
    exact ⟨Below.refl _ _, _, _, rfl, HO.out⟩
  · have hb1 := (Below.refl w.heap.size w).alloc (Nat.le_refl _) (.cells #[] 37)
    have HO := Bas.hid (own_zero (size := 2) (Bas.heap_new w (.cells #[] 37)) (Nat.le_refl w.heap.size))
    have HL1 := Bas.hid (Row.leads_below HL.out hb1)
    have HB1 := Bas.hid hb1
    have hsz := hb1.size
    have HFL := Bas.hid (ptC_flat xs)
    have hon := ptC_one xs
    clear HL hb1
    go_enter Try.func21, Try.ntmps21
    go_wp2_with (at_builtin; refine Row.fence ?_)
    refine Row.unfence ?_
    generalize w.alloc (.cells #[] 37) = W1 at *
    refine Row.append_any rfl _ _ 35 37 rfl (.agg #[.string ⟨#[]⟩, .slice none 0 0]) 2 40 Try.underlying35 infoQ rfl (by decide) w.heap.size (.slice (some ⟨w.heap.size, 0, none⟩) 0 0) 0 [] rfl HO.out (.slice (some ad) n cp) n (xs.flatMap ptC) rfl HL1.out (by rw [HFL.out, hn]) hon (by unfold maxLen; omega) (by omega) hsz ?_
    intro v7 w7 ho7 hg7 _
    have HO7 := Bas.hid ho7
    have HB7 := Bas.hid (HB1.out.grown hg7 hsz (fun g' hg' => by cases hg'; exact Nat.le_refl _))
    clear ho7 hg7
    go_wp2_with (fail)
    go_ret
    have h := HO7.out
    rw [Nat.zero_add, List.nil_append] at h
    obtain ⟨a7, c7, h7⟩ := own_slice h
    subst h7
    exact ⟨HB7.out, a7, c7, rfl, h⟩
end Sy
end Go.Proofs.Ytkmbeohheblhhaa
