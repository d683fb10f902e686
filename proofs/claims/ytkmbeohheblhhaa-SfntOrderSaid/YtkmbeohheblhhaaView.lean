/- Contracts of layer 1 (view). -/
import Derived.Test.YtkmbeohheblhhaaOrd
namespace Go.Proofs.Ytkmbeohheblhhaa
open Go.RowKit
namespace Vw

/-- What Fail throws. -/
def short : List PanicEntry := [{ v := .iface 61 (.agg #[]), recovered := false }]

set_option maxHeartbeats 400000 in
theorem fail_any (w : World) : Calls Try.prog 44 #[] w fun e w' => e = .panicked short ∧ w = w' := by
  go_enter Try.func44, Try.ntmps44
  go_wp2
  exact ⟨rfl, rfl, rfl⟩

set_option maxHeartbeats 400000 in
theorem need_no (w : World) : Calls Try.prog 31 #[.bool false] w fun e w' => e = .panicked short ∧ w = w' := by
  go_enter Try.func31, Try.ntmps31
  go_wp2_with (go_at_call 44; refine (fail_any _).mono ?_; rintro e w' ⟨rfl, rfl⟩)
  exact ⟨rfl, rfl, rfl⟩

set_option maxHeartbeats 400000 in
theorem need_yes (w : World) : Calls Try.prog 31 #[.bool true] w fun e w' => e = .returned (.tuple #[]) ∧ w = w' := by
  go_enter Try.func31, Try.ntmps31
  go_wp2_with (fail)
  go_end0
  exact ⟨rfl, rfl⟩

theorem need_yesb (b : Bool) (w : World) (hb : b = true) : Calls Try.prog 31 #[.bool b] w fun e w' => e = .returned (.tuple #[]) ∧ w = w' := hb ▸ need_yes w
theorem need_nob (b : Bool) (w : World) (hb : b = false) : Calls Try.prog 31 #[.bool b] w fun e w' => e = .panicked short ∧ w = w' := hb ▸ need_no w

/-- Where n elements from place 'at' on begin. -/
def sub (a : Option Addr) (at' n : Nat) : Option Addr := if n = 0 then a else a.map (·.add at')

theorem sub_eq (a : Option Addr) (at' n : Nat) (k : Int) (h : k = n) : (if k.toNat = 0 then a else a.map fun x => x.add at') = sub a at' n := by
  subst h; simp [sub]

/-- The slice (a, as long as bs) reads bs. -/
structure VB (w : World) (a : Option Addr) (bs : List Int) : Prop where
  len : bs.length ≤ 140737488355328
  byte : ∀ x ∈ bs, 0 ≤ x ∧ x ≤ 255
  cell : ∀ i, i < bs.length → ∃ b o, a = some ⟨b, o, none⟩ ∧ w.cell? ⟨b, o + i, none⟩ = some (.int .u8 (bs.getD i 0))

set_option maxHeartbeats 400000 in
theorem piece_ok (a : Option Addr) (len cap : Nat) (at' n : Int) (w : World) (hl : len ≤ cap) (hc : cap ≤ maxLen) (h0 : 0 ≤ at') (h1 : 0 ≤ n) (h2 : at' + n ≤ len) :
    Calls Try.prog 43 #[.agg #[.slice a len cap], .int .i64 at', .int .i64 n] w fun e w' => e = .returned (.slice (sub a at'.toNat n.toNat) n.toNat n.toNat) ∧ Below w.heap.size w w' := by
  unfold maxLen at hc
  obtain ⟨p, rfl⟩ := Int.eq_ofNat_of_zero_le h0
  obtain ⟨q, rfl⟩ := Int.eq_ofNat_of_zero_le h1
  go_enter Try.func43, Try.ntmps43
  go_wp2_with (fail)
  refine (need_yesb _ _ (by simp; omega)).mono ?_
  rintro e w' ⟨rfl, rfl⟩
  go_wp2_with (fail)
  all_goals
    go_ret
    refine ⟨?_, (Below.refl _ _).alloc (Nat.le_refl _) _⟩
    first
      | (rw [sub, if_neg (by omega)]; simp; done)
      | (obtain rfl : q = 0 := by omega
         simp [sub])

set_option maxHeartbeats 400000 in
theorem piece_no (a : Option Addr) (len cap : Nat) (at' n : Int) (w : World) (hl : len ≤ cap) (hc : cap ≤ maxLen) (h : ¬ (0 ≤ at' ∧ 0 ≤ n ∧ at' + n ≤ len)) :
    Calls Try.prog 43 #[.agg #[.slice a len cap], .int .i64 at', .int .i64 n] w fun e w' => e = .panicked short ∧ Below w.heap.size w w' := by
  unfold maxLen at hc
  by_cases h0 : 0 ≤ at'
  · by_cases h1 : 0 ≤ n
    · by_cases h2 : at' ≤ len
      · have h3 : ¬ n ≤ len - at' := by omega
        clear h
        go_enter Try.func43, Try.ntmps43
        go_wp2_with (fail)
        refine (need_nob _ _ (by first | (simp; done) | (simp; omega))).mono ?_
        rintro e w' ⟨rfl, rfl⟩
        go_wp2_with (fail)
        exact ⟨rfl, rfl, (Below.refl _ _).alloc (Nat.le_refl _) _⟩
      · clear h
        go_enter Try.func43, Try.ntmps43
        go_wp2_with (fail)
        refine (need_nob _ _ (by first | (simp; done) | (simp; omega))).mono ?_
        rintro e w' ⟨rfl, rfl⟩
        go_wp2_with (fail)
        exact ⟨rfl, rfl, (Below.refl _ _).alloc (Nat.le_refl _) _⟩
    · clear h
      go_enter Try.func43, Try.ntmps43
      go_wp2_with (fail)
      refine (need_nob _ _ (by first | (simp; done) | (simp; omega))).mono ?_
      rintro e w' ⟨rfl, rfl⟩
      go_wp2_with (fail)
      exact ⟨rfl, rfl, (Below.refl _ _).alloc (Nat.le_refl _) _⟩
  · clear h
    go_enter Try.func43, Try.ntmps43
    go_wp2_with (fail)
    refine (need_nob _ _ (by first | (simp; done) | (simp; omega))).mono ?_
    rintro e w' ⟨rfl, rfl⟩
    go_wp2_with (fail)
    exact ⟨rfl, rfl, (Below.refl _ _).alloc (Nat.le_refl _) _⟩

/-- The number of bytes, the higher one first. -/
def num (l : List Int) : Int := l.foldl (fun x b => 256 * x + b) 0
def be (bs : List Int) (at' n : Nat) : Int := num ((bs.drop at').take n)

theorem VB.below {w w' : World} {a : Option Addr} {bs : List Int} (h : VB w a bs) (hb : Below w.heap.size w w') : VB w' a bs :=
  ⟨h.len, h.byte, fun i hi => by
    obtain ⟨b, o, ha, hc⟩ := h.cell i hi
    exact ⟨b, o, ha, (hb.cell (p := ⟨b, o + i, none⟩) (World.block_lt_of_cell? _ _ hc)).trans hc⟩⟩

theorem getD_byte {bs : List Int} (h : ∀ x ∈ bs, 0 ≤ x ∧ x ≤ 255) (i : Nat) : 0 ≤ bs.getD i 0 ∧ bs.getD i 0 ≤ 255 := by
  rw [List.getD_eq_getElem?_getD]
  cases hi : bs[i]? with
  | none => simp
  | some x => simpa using h x (List.mem_of_getElem? hi)

theorem VB.sub {w : World} {a : Option Addr} {bs : List Int} (h : VB w a bs) (p n : Nat) (hn : p + n ≤ bs.length) : VB w (sub a p n) ((bs.drop p).take n) := by
  have hlen : ((bs.drop p).take n).length = n := by simp; omega
  refine ⟨by have := h.len; omega, fun x hx => h.byte x (List.mem_of_mem_drop (List.mem_of_mem_take hx)), fun i hi => ?_⟩
  rw [hlen] at hi
  obtain ⟨b, o, rfl, hc⟩ := h.cell (p + i) (by omega)
  by_cases hp : p = 0
  · subst hp
    refine ⟨b, o, by simp [Vw.sub, Addr.add], ?_⟩
    rw [Nat.zero_add] at hc
    rw [hc]
    simp [hi]
  · refine ⟨b, o + p, by simp [Vw.sub, show n ≠ 0 by omega, Addr.add, hp], ?_⟩
    rw [Nat.add_assoc, hc]
    simp [hi]

theorem be1 (bs : List Int) (p : Nat) (h : p + 1 ≤ bs.length) : be bs p 1 = bs.getD p 0 := by
  have e : (bs.drop p).take 1 = [bs.getD p 0] := by
    rw [List.take_one, List.head?_drop, List.getD_eq_getElem?_getD, List.getElem?_eq_getElem (by omega)]; rfl
  unfold be; rw [e]; simp [num]

theorem drop_cons (bs : List Int) (p : Nat) (h : p < bs.length) : bs.drop p = bs.getD p 0 :: bs.drop (p + 1) := by
  rw [List.drop_eq_getElem_cons h]; simp [h]

theorem be2 (bs : List Int) (p : Nat) (h : p + 2 ≤ bs.length) : be bs p 2 = 256 * bs.getD p 0 + bs.getD (p + 1) 0 := by
  unfold be
  rw [drop_cons bs p (by omega), drop_cons bs (p + 1) (by omega)]
  simp [num]

theorem be4 (bs : List Int) (p : Nat) (h : p + 4 ≤ bs.length) : be bs p 4 = 16777216 * bs.getD p 0 + 65536 * bs.getD (p + 1) 0 + 256 * bs.getD (p + 2) 0 + bs.getD (p + 3) 0 := by
  unfold be
  rw [drop_cons bs p (by omega), drop_cons bs (p + 1) (by omega), drop_cons bs (p + 2) (by omega), drop_cons bs (p + 3) (by omega)]
  simp [num]
  omega

theorem be1_bd (bs : List Int) (hb : ∀ x ∈ bs, 0 ≤ x ∧ x ≤ 255) (p : Nat) (h : p + 1 ≤ bs.length) : 0 ≤ be bs p 1 ∧ be bs p 1 ≤ 255 := by
  rw [be1 bs p h]; exact getD_byte hb p
theorem be2_bd (bs : List Int) (hb : ∀ x ∈ bs, 0 ≤ x ∧ x ≤ 255) (p : Nat) (h : p + 2 ≤ bs.length) : 0 ≤ be bs p 2 ∧ be bs p 2 ≤ 65535 := by
  rw [be2 bs p h]; have := getD_byte hb p; have := getD_byte hb (p + 1); omega
theorem be4_bd (bs : List Int) (hb : ∀ x ∈ bs, 0 ≤ x ∧ x ≤ 255) (p : Nat) (h : p + 4 ≤ bs.length) : 0 ≤ be bs p 4 ∧ be bs p 4 ≤ 4294967295 := by
  rw [be4 bs p h]; have := getD_byte hb p; have := getD_byte hb (p + 1); have := getD_byte hb (p + 2); have := getD_byte hb (p + 3); omega

set_option maxHeartbeats 400000 in
theorem of_any (a : Option Addr) (len cap : Nat) (w : World) :
    Calls Try.prog 36 #[.slice a len cap] w fun e w' => e = .returned (.agg #[.slice a len cap]) ∧ Below w.heap.size w w' := by
  go_enter Try.func36, Try.ntmps36
  go_wp2
  exact bodyPost_ret (v := .agg #[.slice a len cap]) (by simp [results, Try.results36, go_sem]) rfl ⟨rfl, (Below.refl _ _).alloc (Nat.le_refl _) _⟩

theorem i64_or_nat (a b : Nat) (ha : a < 4294967296) (hb : b < 4294967296) : bits .or .i64 (a : Int) (b : Int) = ((a ||| b : Nat) : Int) := by
  have hx : a ||| b < 2 ^ 32 := Nat.or_lt_two_pow (by omega) (by omega)
  have h1 : (BitVec.ofInt 64 (a : Int)).toNat = a := by
    rw [BitVec.ofInt_natCast, BitVec.toNat_ofNat]; exact Nat.mod_eq_of_lt (by omega)
  have h2 : (BitVec.ofInt 64 (b : Int)).toNat = b := by
    rw [BitVec.ofInt_natCast, BitVec.toNat_ofNat]; exact Nat.mod_eq_of_lt (by omega)
  show IntKind.i64.wrap ((BitVec.ofInt 64 (a : Int) ||| BitVec.ofInt 64 (b : Int)).toNat : Int) = _
  rw [BitVec.toNat_or, h1, h2, IntKind.wrap_i64]
  omega

theorem or_join (x y m : Int) (k : Nat) (hm : m = ((2 ^ k : Nat) : Int)) (hk : k ≤ 24) (h0 : 0 ≤ x) (h1 : x * m < 4294967296) (h2 : 0 ≤ y) (h3 : y < m) : bits .or .i64 (x * m) y = m * x + y := by
  obtain ⟨a, rfl⟩ := Int.eq_ofNat_of_zero_le h0
  obtain ⟨b, rfl⟩ := Int.eq_ofNat_of_zero_le h2
  have hm2 : (2 ^ k : Nat) ≤ 2 ^ 24 := Nat.pow_le_pow_right (by omega) hk
  subst hm
  have e : ((a : Int) * ((2 ^ k : Nat) : Int)) = ((a * 2 ^ k : Nat) : Int) := by simp
  rw [e] at h1 ⊢
  rw [i64_or_nat _ _ (by omega) (by omega), nat_join k _ _ (by simp) (by omega)]
  simp [Int.mul_comm]

theorem sub_some (b o p n : Nat) (hn : n ≠ 0) : sub (some ⟨b, o, none⟩) p n = some ⟨b, o + p, none⟩ := by
  rw [sub, if_neg hn]
  by_cases hp : p = 0
  · subst hp; simp [Addr.add]
  · simp [Addr.add, hp]

theorem piece_k (b o len cap p k : Nat) (n : Int) (w : World) (hn : n = k) (hk : 0 < k) (hl : len ≤ cap) (hc : cap ≤ maxLen) (h2 : p + k ≤ len) :
    Calls Try.prog 43 #[.agg #[.slice (some ⟨b, o, none⟩) len cap], .int .i64 p, .int .i64 n] w fun e w' => e = .returned (.slice (some ⟨b, o + p, none⟩) k k) ∧ Below w.heap.size w w' := by
  subst hn
  have h := piece_ok (some ⟨b, o, none⟩) len cap (p : Int) (k : Int) w hl hc (by omega) (by omega) (by omega)
  rw [Int.toNat_natCast, Int.toNat_natCast, sub_some b o p k (by omega)] at h
  exact h

set_option maxHeartbeats 400000 in
theorem u16_ok (a : Option Addr) (len cap : Nat) (bs : List Int) (at' : Int) (w : World) (hl : len ≤ cap) (hc : cap ≤ maxLen) (hv : VB w a bs) (hbl : bs.length = len) (h0 : 0 ≤ at') (h2 : at' + 2 ≤ len) :
    Calls Try.prog 33 #[.agg #[.slice a len cap], .int .i64 at'] w fun e w' => e = .returned (.int .i64 (be bs at'.toNat 2)) ∧ Below w.heap.size w w' := by
  obtain ⟨p, rfl⟩ := Int.eq_ofNat_of_zero_le h0
  rw [Int.toNat_natCast, be2 bs p (by omega)]
  obtain ⟨b, o, rfl, hcell0⟩ := hv.cell p (by omega)
  have hblt := World.block_lt_of_cell? _ _ hcell0
  have hcell1 : w.cell? ⟨b, o + p + 1, none⟩ = some (.int .u8 (bs.getD (p + 1) 0)) := by
    obtain ⟨b', o', ha, hc'⟩ := hv.cell (p + 1) (by omega)
    simp only [Option.some.injEq, Addr.mk.injEq, and_true] at ha
    obtain ⟨rfl, rfl⟩ := ha
    rw [Nat.add_assoc]; exact hc'
  have hbd0 := getD_byte hv.byte p
  have hbd1 := getD_byte hv.byte (p + 1)
  generalize bs.getD p 0 = x0 at hcell0 hbd0
  obtain ⟨lo0, hi0⟩ := hbd0
  generalize bs.getD (p + 1) 0 = x1 at hcell1 hbd1
  obtain ⟨lo1, hi1⟩ := hbd1
  replace hcell0 : w.cell? ⟨b, o + p, none⟩ = some (.int .u8 x0) := hcell0
  have hor : bits .or .i64 (x0 * 256) x1 = 256 * x0 + x1 := or_join x0 x1 256 8 rfl (by omega) lo0 (by omega) lo1 (by omega)
  go_enter Try.func33, Try.ntmps33
  go_wp2_with (fail)
  refine (piece_k b o len cap p 2 _ _ rfl (by omega) hl hc (by omega)).mono ?_
  rintro e w1 ⟨rfl, hw1⟩
  have HB1 : Below w.heap.size w w1 := Bas.on ((Below.refl _ _).alloc (Nat.le_refl _) _) hw1
  replace hcell0 : w1.cell? ⟨b, o + p, none⟩ = some (.int .u8 x0) := (HB1.cell (p := ⟨b, o + p, none⟩) hblt).trans hcell0
  replace hcell1 : w1.cell? ⟨b, o + p + 1, none⟩ = some (.int .u8 x1) := (HB1.cell (p := ⟨b, o + p + 1, none⟩) hblt).trans hcell1
  clear hw1
  go_wp2_with (fail)
  go_quiet (fail)
  go_wp2_with (fail)
  go_ret
  exact ⟨rfl, Bas.below_drewN HB1 _⟩

set_option maxHeartbeats 400000 in
theorem u32_ok (a : Option Addr) (len cap : Nat) (bs : List Int) (at' : Int) (w : World) (hl : len ≤ cap) (hc : cap ≤ maxLen) (hv : VB w a bs) (hbl : bs.length = len) (h0 : 0 ≤ at') (h2 : at' + 4 ≤ len) :
    Calls Try.prog 30 #[.agg #[.slice a len cap], .int .i64 at'] w fun e w' => e = .returned (.int .i64 (be bs at'.toNat 4)) ∧ Below w.heap.size w w' := by
  obtain ⟨p, rfl⟩ := Int.eq_ofNat_of_zero_le h0
  rw [Int.toNat_natCast, be4 bs p (by omega)]
  obtain ⟨b, o, rfl, hcell0⟩ := hv.cell p (by omega)
  have hblt := World.block_lt_of_cell? _ _ hcell0
  have hcell1 : w.cell? ⟨b, o + p + 1, none⟩ = some (.int .u8 (bs.getD (p + 1) 0)) := by
    obtain ⟨b', o', ha, hc'⟩ := hv.cell (p + 1) (by omega)
    simp only [Option.some.injEq, Addr.mk.injEq, and_true] at ha
    obtain ⟨rfl, rfl⟩ := ha
    rw [Nat.add_assoc]; exact hc'
  have hcell2 : w.cell? ⟨b, o + p + 2, none⟩ = some (.int .u8 (bs.getD (p + 2) 0)) := by
    obtain ⟨b', o', ha, hc'⟩ := hv.cell (p + 2) (by omega)
    simp only [Option.some.injEq, Addr.mk.injEq, and_true] at ha
    obtain ⟨rfl, rfl⟩ := ha
    rw [Nat.add_assoc]; exact hc'
  have hcell3 : w.cell? ⟨b, o + p + 3, none⟩ = some (.int .u8 (bs.getD (p + 3) 0)) := by
    obtain ⟨b', o', ha, hc'⟩ := hv.cell (p + 3) (by omega)
    simp only [Option.some.injEq, Addr.mk.injEq, and_true] at ha
    obtain ⟨rfl, rfl⟩ := ha
    rw [Nat.add_assoc]; exact hc'
  have hbd0 := getD_byte hv.byte p
  have hbd1 := getD_byte hv.byte (p + 1)
  have hbd2 := getD_byte hv.byte (p + 2)
  have hbd3 := getD_byte hv.byte (p + 3)
  generalize bs.getD p 0 = x0 at hcell0 hbd0
  obtain ⟨lo0, hi0⟩ := hbd0
  generalize bs.getD (p + 1) 0 = x1 at hcell1 hbd1
  obtain ⟨lo1, hi1⟩ := hbd1
  generalize bs.getD (p + 2) 0 = x2 at hcell2 hbd2
  obtain ⟨lo2, hi2⟩ := hbd2
  generalize bs.getD (p + 3) 0 = x3 at hcell3 hbd3
  obtain ⟨lo3, hi3⟩ := hbd3
  replace hcell0 : w.cell? ⟨b, o + p, none⟩ = some (.int .u8 x0) := hcell0
  have hor1 : bits .or .i64 (x0 * 16777216) (x1 * 65536) = x0 * 16777216 + x1 * 65536 := by have := or_join x0 (x1 * 65536) 16777216 24 rfl (by omega) lo0 (by omega) (by omega) (by omega); omega
  have hor2 : bits .or .i64 (x0 * 16777216 + x1 * 65536) (x2 * 256) = x0 * 16777216 + x1 * 65536 + x2 * 256 := by have := or_join (x0 * 256 + x1) (x2 * 256) 65536 16 rfl (by omega) (by omega) (by omega) (by omega) (by omega); rw [show x0 * 16777216 + x1 * 65536 = (x0 * 256 + x1) * 65536 from by omega]; omega
  have hor3 : bits .or .i64 (x0 * 16777216 + x1 * 65536 + x2 * 256) x3 = 16777216 * x0 + 65536 * x1 + 256 * x2 + x3 := by have := or_join (x0 * 65536 + x1 * 256 + x2) x3 256 8 rfl (by omega) (by omega) (by omega) (by omega) (by omega); rw [show x0 * 16777216 + x1 * 65536 + x2 * 256 = (x0 * 65536 + x1 * 256 + x2) * 256 from by omega]; omega
  go_enter Try.func30, Try.ntmps30
  go_wp2_with (fail)
  refine (piece_k b o len cap p 4 _ _ rfl (by omega) hl hc (by omega)).mono ?_
  rintro e w1 ⟨rfl, hw1⟩
  have HB1 : Below w.heap.size w w1 := Bas.on ((Below.refl _ _).alloc (Nat.le_refl _) _) hw1
  replace hcell0 : w1.cell? ⟨b, o + p, none⟩ = some (.int .u8 x0) := (HB1.cell (p := ⟨b, o + p, none⟩) hblt).trans hcell0
  replace hcell1 : w1.cell? ⟨b, o + p + 1, none⟩ = some (.int .u8 x1) := (HB1.cell (p := ⟨b, o + p + 1, none⟩) hblt).trans hcell1
  replace hcell2 : w1.cell? ⟨b, o + p + 2, none⟩ = some (.int .u8 x2) := (HB1.cell (p := ⟨b, o + p + 2, none⟩) hblt).trans hcell2
  replace hcell3 : w1.cell? ⟨b, o + p + 3, none⟩ = some (.int .u8 x3) := (HB1.cell (p := ⟨b, o + p + 3, none⟩) hblt).trans hcell3
  clear hw1
  go_wp2_with (fail)
  go_quiet (fail)
  go_wp2_with (fail)
  go_ret
  exact ⟨rfl, Bas.below_drewN HB1 _⟩

set_option maxHeartbeats 400000 in
theorem u16_no (a : Option Addr) (len cap : Nat) (at' : Int) (w : World) (hl : len ≤ cap) (hc : cap ≤ maxLen) (h : ¬ (0 ≤ at' ∧ at' + 2 ≤ len)) :
    Calls Try.prog 33 #[.agg #[.slice a len cap], .int .i64 at'] w fun e w' => e = .panicked short ∧ Below w.heap.size w w' := by
  go_enter Try.func33, Try.ntmps33
  go_wp2_with (fail)
  refine (piece_no _ _ _ _ _ _ hl hc (by omega)).mono ?_
  rintro e w1 ⟨rfl, hw1⟩
  go_wp2_with (fail)
  exact ⟨rfl, rfl, Bas.on ((Below.refl _ _).alloc (Nat.le_refl _) _) hw1⟩

set_option maxHeartbeats 400000 in
theorem u32_no (a : Option Addr) (len cap : Nat) (at' : Int) (w : World) (hl : len ≤ cap) (hc : cap ≤ maxLen) (h : ¬ (0 ≤ at' ∧ at' + 4 ≤ len)) :
    Calls Try.prog 30 #[.agg #[.slice a len cap], .int .i64 at'] w fun e w' => e = .panicked short ∧ Below w.heap.size w w' := by
  go_enter Try.func30, Try.ntmps30
  go_wp2_with (fail)
  refine (piece_no _ _ _ _ _ _ hl hc (by omega)).mono ?_
  rintro e w1 ⟨rfl, hw1⟩
  go_wp2_with (fail)
  exact ⟨rfl, rfl, Bas.on ((Below.refl _ _).alloc (Nat.le_refl _) _) hw1⟩

def s16 (x : Int) : Int := if x ≥ 32768 then x - 65536 else x

def s32 (x : Int) : Int := if x ≥ 2147483648 then x - 4294967296 else x

end Vw
end Go.Proofs.Ytkmbeohheblhhaa
