/- Contracts of layer 1 (view), second part: pieces and new bytes. -/
import Derived.Test.YtkmbeohheblhhaaView
namespace Go.Proofs.Ytkmbeohheblhhaa
open Go.RowKit
namespace Vw

set_option maxHeartbeats 400000 in
theorem cut_ok (a : Option Addr) (len cap : Nat) (at' n : Int) (w : World) (hl : len ≤ cap) (hc : cap ≤ maxLen) (h0 : 0 ≤ at') (h1 : 0 ≤ n) (h2 : at' + n ≤ len) :
    Calls Try.prog 32 #[.agg #[.slice a len cap], .int .i64 at', .int .i64 n] w fun e w' => e = .returned (.agg #[.slice (sub a at'.toNat n.toNat) n.toNat n.toNat]) ∧ Below w.heap.size w w' := by
  go_enter Try.func32, Try.ntmps32
  go_wp2_with (fail)
  refine (piece_ok _ _ _ _ _ _ hl hc h0 h1 h2).mono ?_
  rintro e w1 ⟨rfl, hw1⟩
  have hz : w.heap.size + 2 ≤ w1.heap.size := by have := hw1.size; simp at this; omega
  obtain ⟨hc1, hf1⟩ := Bas.bcell hw1
  have HB := Bas.on (((Below.refl w.heap.size w).alloc (Nat.le_refl _) _).alloc (by simp) _) hw1
  clear hw1
  go_wp2_with (fail)
  exact bodyPost_ret (v := .agg #[.slice (sub a at'.toNat n.toNat) n.toNat n.toNat]) (by simp [results, Try.results32, go_sem, hc1]) rfl ⟨rfl, HB.setCell (by simp) _⟩

set_option maxHeartbeats 400000 in
theorem cut_no (a : Option Addr) (len cap : Nat) (at' n : Int) (w : World) (hl : len ≤ cap) (hc : cap ≤ maxLen) (h : ¬ (0 ≤ at' ∧ 0 ≤ n ∧ at' + n ≤ len)) :
    Calls Try.prog 32 #[.agg #[.slice a len cap], .int .i64 at', .int .i64 n] w fun e w' => e = .panicked short ∧ Below w.heap.size w w' := by
  go_enter Try.func32, Try.ntmps32
  go_wp2_with (fail)
  refine (piece_no _ _ _ _ _ _ hl hc h).mono ?_
  rintro e w1 ⟨rfl, hw1⟩
  go_wp2_with (fail)
  exact ⟨rfl, rfl, Bas.on (((Below.refl w.heap.size w).alloc (Nat.le_refl _) _).alloc (by simp) _) hw1⟩

theorem cut_nat (a : Option Addr) (len cap : Nat) (p n : Nat) (w : World) (hl : len ≤ cap) (hc : cap ≤ maxLen) (h2 : p + n ≤ len) :
    Calls Try.prog 32 #[.agg #[.slice a len cap], .int .i64 p, .int .i64 n] w fun e w' => e = .returned (.agg #[.slice (sub a p n) n n]) ∧ Below w.heap.size w w' :=
  cut_ok a len cap p n w hl hc (by omega) (by omega) (by omega)

/-- So many rows of so many bytes are there. -/
def rowsB (len : Nat) (at' n size : Int) : Prop := 0 ≤ n ∧ 0 ≤ size ∧ (size = 0 ∨ n ≤ (len : Int) / size) ∧ 0 ≤ at' ∧ at' + n * size ≤ len

theorem cut_nm (a : Option Addr) (len cap : Nat) (at' n m : Int) (w : World) (hm : n = m) (hl : len ≤ cap) (hc : cap ≤ maxLen) (h0 : 0 ≤ at') (h1 : 0 ≤ m) (h2 : at' + m ≤ len) :
    Calls Try.prog 32 #[.agg #[.slice a len cap], .int .i64 at', .int .i64 n] w fun e w' => e = .returned (.agg #[.slice (sub a at'.toNat m.toNat) m.toNat m.toNat]) ∧ Below w.heap.size w w' := by
  subst hm
  exact cut_ok a len cap at' n w hl hc h0 h1 h2

set_option maxHeartbeats 400000 in
theorem rows_ok (a : Option Addr) (len cap : Nat) (at' n size : Int) (w : World) (hl : len ≤ cap) (hc : cap ≤ maxLen) (h : rowsB len at' n size) :
    Calls Try.prog 45 #[.agg #[.slice a len cap], .int .i64 at', .int .i64 n, .int .i64 size] w fun e w' => e = .returned (.agg #[.slice (sub a at'.toNat (n * size).toNat) (n * size).toNat (n * size).toNat]) ∧ Below w.heap.size w w' := by
  obtain ⟨h1, h2, h3, h4, h5⟩ := h
  have hc' := hc
  unfold maxLen at hc'
  have hns : 0 ≤ n * size := Int.mul_nonneg h1 h2
  have hw : wrap64 (n * size) = n * size := IntWalk.wrap64_in _ ⟨by omega, by omega⟩
  by_cases hz : size = 0
  · subst hz
    rw [Int.mul_zero] at *
    go_enter Try.func45, Try.ntmps45
    go_wp2_with (fail)
    refine (need_yes _).mono ?_
    rintro e w' ⟨rfl, rfl⟩
    go_wp2_with (fail)
    refine (cut_nm _ _ _ _ _ 0 _ (by first | rfl | simp) hl hc h4 (by omega) (by omega)).mono ?_
    rintro e w1 ⟨rfl, hw1⟩
    have hz1 : w.heap.size + 2 ≤ w1.heap.size := by have := hw1.size; simp at this; omega
    obtain ⟨hc1, hf1⟩ := Bas.bcell hw1
    have HB := Bas.on (((Below.refl w.heap.size w).alloc (Nat.le_refl _) _).alloc (by simp) _) hw1
    clear hw1
    go_wp2_with (fail)
    exact bodyPost_ret (v := .agg #[.slice (sub a at'.toNat 0) 0 0]) (by simp [results, Try.results45, go_sem, hc1]) rfl ⟨rfl, HB.setCell (by simp) _⟩
  · have hz2 : 1 ≤ size := by omega
    have hz3 : (size == 0) = false := by simpa using hz
    have h3' : n ≤ (len : Int) / size := by omega
    have hd0 : 0 ≤ (len : Int) / size := Int.ediv_nonneg (by omega) h2
    have hd1 : (len : Int) / size ≤ len := Int.ediv_le_self _ (by omega)
    clear h3
    go_enter Try.func45, Try.ntmps45
    go_wp2_with (fail)
    refine (need_yesb _ _ (by first | rfl | (simp; done) | (simp; omega))).mono ?_
    rintro e w' ⟨rfl, rfl⟩
    go_wp2_with (fail)
    refine (cut_nm _ _ _ _ _ (n * size) _ (by first | rfl | exact hw) hl hc h4 hns h5).mono ?_
    rintro e w1 ⟨rfl, hw1⟩
    have hz1 : w.heap.size + 2 ≤ w1.heap.size := by have := hw1.size; simp at this; omega
    obtain ⟨hc1, hf1⟩ := Bas.bcell hw1
    have HB := Bas.on (((Below.refl w.heap.size w).alloc (Nat.le_refl _) _).alloc (by simp) _) hw1
    clear hw1
    go_wp2_with (fail)
    exact bodyPost_ret (v := .agg #[.slice (sub a at'.toNat (n * size).toNat) (n * size).toNat (n * size).toNat]) (by simp [results, Try.results45, go_sem, hc1]) rfl ⟨rfl, HB.setCell (by simp) _⟩

set_option maxHeartbeats 800000 in
theorem rows_no (a : Option Addr) (len cap : Nat) (at' n size : Int) (w : World) (hl : len ≤ cap) (hc : cap ≤ maxLen) (h : ¬ rowsB len at' n size) :
    Calls Try.prog 45 #[.agg #[.slice a len cap], .int .i64 at', .int .i64 n, .int .i64 size] w fun e w' => e = .panicked short ∧ Below w.heap.size w w' := by
  have hc' := hc
  unfold maxLen at hc'
  by_cases h1 : 0 ≤ n
  · by_cases h2 : 0 ≤ size
    · by_cases hz : size = 0
      · subst hz
        have h' : ¬ (0 ≤ at' ∧ at' ≤ len) := fun h' => h ⟨h1, by omega, .inl rfl, h'.1, by rw [Int.mul_zero]; omega⟩
        have hw : wrap64 (n * 0) = 0 := by rw [Int.mul_zero]; unfold wrap64; omega
        clear h
        go_enter Try.func45, Try.ntmps45
        go_wp2_with (fail)
        refine (need_yesb _ _ (by first | rfl | (simp; done) | (simp; omega))).mono ?_
        rintro e w' ⟨rfl, rfl⟩
        go_wp2_with (fail)
        refine (cut_no _ _ _ _ _ _ hl hc (by first | omega | (rw [hw]; omega) | (simp; omega))).mono ?_
        rintro e w1 ⟨rfl, hw1⟩
        go_wp2_with (fail)
        exact ⟨rfl, rfl, Bas.on (((Below.refl w.heap.size w).alloc (Nat.le_refl _) _).alloc (by simp) _) hw1⟩

      · have hz2 : 1 ≤ size := by omega
        have hz3 : (size == 0) = false := by simpa using hz
        have hd0 : 0 ≤ (len : Int) / size := Int.ediv_nonneg (by omega) h2
        have hd1 : (len : Int) / size ≤ len := Int.ediv_le_self _ (by omega)
        by_cases h3 : n ≤ (len : Int) / size
        · have hm1 : n * size ≤ len := Int.le_trans (Int.mul_le_mul_of_nonneg_right h3 h2) (Int.ediv_mul_le _ hz)
          have hns : 0 ≤ n * size := Int.mul_nonneg h1 h2
          have hw : wrap64 (n * size) = n * size := IntWalk.wrap64_in _ ⟨by omega, by omega⟩
          have h' : ¬ (0 ≤ at' ∧ at' + n * size ≤ len) := fun h' => h ⟨h1, h2, .inr h3, h'.1, h'.2⟩
          clear h
          go_enter Try.func45, Try.ntmps45
          go_wp2_with (fail)
          refine (need_yesb _ _ (by first | rfl | (simp; done) | (simp; omega))).mono ?_
          rintro e w' ⟨rfl, rfl⟩
          go_wp2_with (fail)
          refine (cut_no _ _ _ _ _ _ hl hc (by first | omega | (rw [hw]; omega) | (simp; omega))).mono ?_
          rintro e w1 ⟨rfl, hw1⟩
          go_wp2_with (fail)
          exact ⟨rfl, rfl, Bas.on (((Below.refl w.heap.size w).alloc (Nat.le_refl _) _).alloc (by simp) _) hw1⟩

        · clear h
          go_enter Try.func45, Try.ntmps45
          go_wp2_with (fail)
          refine (need_nob _ _ (by first | rfl | (simp; done) | (simp; omega))).mono ?_
          rintro e w' ⟨rfl, rfl⟩
          go_wp2_with (fail)
          exact ⟨rfl, rfl, (((Below.refl w.heap.size w).alloc (Nat.le_refl _) _).alloc (by simp) _)⟩

    · clear h
      go_enter Try.func45, Try.ntmps45
      go_wp2_with (fail)
      refine (need_nob _ _ (by first | rfl | (simp; done) | (simp; omega))).mono ?_
      rintro e w' ⟨rfl, rfl⟩
      go_wp2_with (fail)
      exact ⟨rfl, rfl, (((Below.refl w.heap.size w).alloc (Nat.le_refl _) _).alloc (by simp) _)⟩

  · clear h
    go_enter Try.func45, Try.ntmps45
    go_wp2_with (fail)
    refine (need_nob _ _ (by first | rfl | (simp; done) | (simp; omega))).mono ?_
    rintro e w' ⟨rfl, rfl⟩
    go_wp2_with (fail)
    exact ⟨rfl, rfl, (((Below.refl w.heap.size w).alloc (Nat.le_refl _) _).alloc (by simp) _)⟩

/-- New bytes: a slice of the call's own that holds bs. -/
def NewBytes (w : World) (bs : List Int) (e : Ending) (w' : World) : Prop :=
  ∃ v, e = .returned v ∧ w'.ownsRow w.heap.size 5 1 v bs.length (bs.map (Value.int .u8)) ∧ v ≠ .slice none 0 0 ∧ Below w.heap.size w w'

theorem info8 : (Try.prog.info? 5).map (fun i => (i.zero, i.size, i.bytes)) = some (some (.int .u8 0), 1, 1) := by kernel_rfl

set_option maxHeartbeats 400000 in
theorem bytes_any (a : Option Addr) (len cap : Nat) (bs : List Int) (w : World) (hl : len ≤ cap) (hc : cap ≤ maxLen) (hv : VB w a bs) (hbl : bs.length = len) (hn : a = none → cap = 0) :
    Calls Try.prog 46 #[.agg #[.slice a len cap]] w (NewBytes w bs) := by
  obtain ⟨i8, hi8, hz1, hz2, hz3⟩ := info_parts info8
  have hbl2 := hv.len
  cases a with
  | none =>
    obtain rfl : cap = 0 := hn rfl
    obtain rfl : len = 0 := by omega
    obtain rfl : bs = [] := List.length_eq_zero_iff.1 hbl
    go_enter Try.func46, Try.ntmps46
    go_wp2
    go_ret
    refine ⟨_, rfl, ?_, by simp, ((Below.refl w.heap.size w).alloc (Nat.le_refl _) _).alloc (by simp) _⟩
    exact ⟨rfl, .inr ⟨w.heap.size + 1, 0, #[], rfl, by omega, Bas.heap_new2 _ _ _, by simp, by simp, by simp, by simp⟩⟩
  | some ad =>
    have hnews : ∀ (j : Nat) (u : Value), (bs.map (Value.int .u8))[j]? = some u → w.cell? (ad.add j) = some u := by
      intro j u hu
      simp only [List.getElem?_map, Option.map_eq_some_iff] at hu
      obtain ⟨x, hx, rfl⟩ := hu
      have hj : j < bs.length := (List.getElem?_eq_some_iff.1 hx).1
      obtain ⟨b, o, hab, hcell⟩ := hv.cell j hj
      simp only [Option.some.injEq] at hab
      subst hab
      rw [List.getD_eq_getElem?_getD, hx] at hcell
      rw [Addr.add_lit]
      exact hcell
    have hblk : ∀ (j : Nat) (u : Value), (bs.map (Value.int .u8))[j]? = some u → ad.block < w.heap.size := fun j u hu => by
      have := World.block_lt_of_cell? _ _ (hnews j u hu)
      unfold Addr.add at this
      split at this <;> exact this
    have HN := Bas.hid hnews
    have HK := Bas.hid hblk
    clear hnews hblk
    go_enter Try.func46, Try.ntmps46
    go_wp2_with (at_builtin; refine wpList_append_own _ rfl _ _ 22 rfl w.heap.size 5 i8 (.int .u8 0) 1 1 Try.underlying22 hi8 hz1 hz2 hz3 rfl (by decide) (.slice (some ⟨w.heap.size + 1, 0, none⟩) 0 0) 0 [] rfl ?c1 ad len cap (bs.map (Value.int .u8)) rfl ?c2 ?c3 ?c4 ?c5 ?c6 ?c7 ?_)
    case c1 => exact ⟨rfl, .inr ⟨w.heap.size + 1, 0, #[], rfl, by omega, Bas.heap_new2 _ _ _, by simp, by simp, by simp, by simp⟩⟩
    case c2 => simp [hbl]
    case c3 =>
      intro j u hu
      have h1 := HN.out j u hu
      have h2 := HK.out j u hu
      have hb : (ad.add j).block < w.heap.size := World.block_lt_of_cell? _ _ h1
      rw [World.cell?_alloc_lt _ _ _ (by simp; omega), World.cell?_alloc_lt _ _ _ hb]
      exact h1
    case c4 =>
      intro u hu
      obtain ⟨x, _, rfl⟩ := List.mem_map.1 hu
      rfl
    case c5 => omega
    case c6 => omega
    case c7 => simp; omega
    intro v' w' hown hgrow hne
    go_wp2
    go_ret
    refine ⟨v', rfl, by rw [hbl]; exact hown, by simpa using hne, ?_⟩
    exact (((Below.refl w.heap.size w).alloc (Nat.le_refl _) _).alloc (by simp) _).grown hgrow (by simp; omega) (by intro k hk; simp [Value.ownBlock] at hk; omega)
end Vw
end Go.Proofs.Ytkmbeohheblhhaa
