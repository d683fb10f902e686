/- The walk of the law ViewTries. -/
import Derived.Test.YtakpppgikgimnaaViewS
namespace Go.Proofs.Ytakpppgikgimnaa
open Go.RowKit
namespace Vw

/-- How many of the first n hold, before one that does not. -/
def firsts (B : Nat → Bool) : Nat → Nat
  | 0 => 0
  | n + 1 => if firsts B n = n ∧ B n = true then n + 1 else firsts B n

theorem firsts_le (B : Nat → Bool) (n : Nat) : firsts B n ≤ n := by
  induction n with
  | zero => simp [firsts]
  | succ n ih => unfold firsts; split <;> omega

theorem firsts_all (B : Nat → Bool) (n : Nat) (h : ∀ i, i < n → B i = true) : firsts B n = n := by
  induction n with
  | zero => simp [firsts]
  | succ n ih => rw [firsts, if_pos ⟨ih (fun i hi => h i (by omega)), h n (by omega)⟩]

theorem firsts_mono (B : Nat → Bool) (n k : Nat) (hk : firsts B n < n) (hle : n ≤ k) : firsts B k = firsts B n := by
  induction k with
  | zero => have : n = 0 := by omega
            subst this; rfl
  | succ k ih =>
    by_cases h : n ≤ k
    · have h1 := ih h
      rw [firsts, if_neg (by omega), h1]
    · have : n = k + 1 := by omega
      rw [this]

theorem firsts_stop (B : Nat → Bool) (n k : Nat) (hall : ∀ i, i < k → B i = true) (hk : k < n) (hB : B k = false) : firsts B n = k := by
  have h1 := firsts_all B k hall
  have h2 : firsts B (k + 1) = k := by rw [firsts, if_neg (by rw [hB]; simp), h1]
  rw [firsts_mono B (k + 1) n (by omega) (by omega), h2]

/-- What the law's function leaves. -/
def TriesR (W : World) (bn : Nat) (n : Nat) (B : Nat → Bool) (fails : Bool) (ok : Bool) (w2 : World) : Prop :=
  W.grownBy w2 (some bn) ∧ w2.cell? ⟨bn, 0, none⟩ = some (.int .i64 (firsts B n)) ∧ ok = (decide (firsts B n = n) && !fails)

set_option maxHeartbeats 1000000 in
theorem tries1 (a : Option Addr) (len cap : Nat) (B : Nat → Bool) (fails : Bool) (bs bn bf bk : Nat) (W : World)
    (h1 : W.cell? ⟨bs, 0, none⟩ = some (.slice a len cap)) (h2 : W.cell? ⟨bn, 0, none⟩ = some (.int .i64 0)) (h3 : W.cell? ⟨bf, 0, none⟩ = some (.bool fails)) (h4 : W.frozen? ⟨bn, 0, none⟩ = false)
    (_hne1 : bs ≠ bn) (hne2 : bf ≠ bn) (hlen : len ≤ 100) (hs : ∀ i, i < len → ∃ b o, a = some ⟨b, o, none⟩ ∧ b ≠ bn ∧ W.cell? ⟨b, o + i, none⟩ = some (.bool (B i)))
    (hk : W.heap[bk]? = some (.cells #[.bool false] 4)) (hne3 : bk ≠ bn) :
    Calls Try.prog 40 #[.pointer (some ⟨bs, 0, none⟩), .pointer (some ⟨bn, 0, none⟩), .pointer (some ⟨bf, 0, none⟩)] W (TryPost bk (TriesR W bn len B fails)) := by
  have l1 := World.block_lt_of_cell? _ _ h1
  have l2 := World.block_lt_of_cell? _ _ h2
  have l3 := World.block_lt_of_cell? _ _ h3
  have lk : bk < W.heap.size := (Array.getElem?_eq_some_iff.1 hk).1
  have HS := Bas.hid hs
  have HK := Bas.hid hk
  clear hs hk
  go_enter Try.func40, Try.ntmps40
  go_wp2_with (fail)
  go_loopw [7] (fun i wr => ∃ k : Nat, k ≤ len ∧ i = .int .i64 k ∧ W.grownBy wr (some bn) ∧ wr.cell? ⟨bn, 0, none⟩ = some (.int .i64 k) ∧ wr.frozen? ⟨bn, 0, none⟩ = false ∧ ∀ j, j < k → B j = true) (fun i _ => len - (intOf i).toNat)
  case atStart => exact ⟨0, by omega, rfl, Bas.grefl _ _, h2, h4, by omega⟩
  case round =>
    obtain ⟨k, hk, rfl, hg, c2, f2, hall⟩ := hrel
    have HA := Bas.hid hall
    have hgs := hg.size
    clear hall
    have c3 : wr.cell? ⟨bf, 0, none⟩ = some (.bool fails) := (Bas.gcell hg l3 (by simp; omega)).trans h3
    have HKw : Hid (wr.heap[bk]? = some (.cells #[.bool false] 4)) := (hg.block bk lk (by simp; omega)).trans HK.out
    by_cases hkl : k < len
    · obtain ⟨b, o, rfl, hbn, hcell⟩ := HS.out k hkl
      have lb := World.block_lt_of_cell? _ _ hcell
      have hc : wr.cell? ⟨b, o + k, none⟩ = some (.bool (B k)) := (Bas.gcell hg lb (by simp; omega)).trans hcell
      clear hcell
      cases hB : B k with
      | true =>
        rw [hB] at hc
        have HB := Bas.hid hB
        clear hB
        go_wp2_with (go_at_call 41; refine (need_yes _).mono ?_; rintro e w' ⟨rfl, rfl⟩)
        go_roundw
        case rel => exact ⟨k + 1, by omega, by go_num, Bas.gset hg _ _, by simp [go_sem, c2], by simp [go_sem, f2], fun j hj => by
          by_cases h : j = k
          · rw [h]; exact HB.out
          · exact HA.out j (by omega)⟩
        case measure => simp [intOf]; omega
      | false =>
        rw [hB] at hc
        have HF := firsts_stop B len k HA.out hkl hB
        have HB := Bas.hid HF
        clear hB HF
        go_wp2_with (go_at_call 41; refine (need_no _).mono ?_; rintro e w' ⟨rfl, rfl⟩)
        refine ⟨rfl, HKw.out, .inr ⟨rfl, hg, ?_, ?_⟩⟩
        · rw [HB.out]; exact c2
        · rw [HB.out]; simp; omega
    · have hkk : k = len := by omega
      have HF := Bas.hid (firsts_all B len (by rw [← hkk]; exact HA.out))
      cases fails with
      | true =>
        go_wp2_with (go_at_call 42; refine (fail_any _).mono ?_; rintro e w' ⟨rfl, rfl⟩)
        refine ⟨rfl, HKw.out, .inr ⟨rfl, hg, ?_, ?_⟩⟩
        · rw [HF.out, ← hkk]; exact c2
        · simp
      | false =>
        go_wp2_with (fail)
        go_end0
        refine ⟨HKw.out, .inl ⟨rfl, hg, ?_, ?_⟩⟩
        · rw [HF.out, ← hkk]; exact c2
        · rw [HF.out]; simp

set_option maxHeartbeats 2000000 in
theorem viewTries_walk (a : Option Addr) (len cap : Nat) (B : Nat → Bool) (fails : Bool) (w : World) (hz : Bas.IsBools w a len cap B) :
    Calls Try.prog 8 #[.slice a len cap, .bool fails] w fun e w' => e = .returned (.bool true) ∧ Below w.heap.size w w' := by
  have hmf : ∀ (fn : Fn) (first cap : Array Value) (w : World), (Instr.makeFunc fn first cap).run Try.prog w = .ok (.func fn first cap) w := fun _ _ _ _ => rfl
  have hlm : len ≤ 9223372036854775807 := by
    obtain ⟨hl, hm, _⟩ := hz
    unfold maxLen at hm
    omega
  by_cases hbig : 100 < len
  · clear hz
    go_enter Try.func8, Try.ntmps8
    go_wp2_with (fail)
    refine (speaks_any _).mono ?_
    rintro e w1 ⟨rfl, hb1⟩
    obtain ⟨hc1, hf1⟩ := Bas.bcell hb1
    have HB1 : Below w.heap.size w w1 := Bas.on (((Below.refl w.heap.size w).alloc (Nat.le_refl _) _).alloc (by simp) _) hb1
    clear hb1
    go_wp2_with (fail)
    go_ret
    exact ⟨rfl, HB1⟩
  · have hs : ∀ i, i < len → ∃ b o, a = some ⟨b, o, none⟩ ∧ b < w.heap.size ∧ w.cell? ⟨b, o + i, none⟩ = some (.bool (B i)) := by
      intro i hi
      obtain ⟨b, o, ha, hc⟩ := hz.2.2 i hi
      exact ⟨b, o, ha, World.block_lt_of_cell? _ _ hc, hc⟩
    have HS := Bas.hid hs
    clear hs hz
    go_enter Try.func8, Try.ntmps8
    go_wp2_with (fail)
    refine (speaks_any _).mono ?_
    rintro e w1 ⟨rfl, hb1⟩
    obtain ⟨hc1, hf1⟩ := Bas.bcell hb1
    have HB1 : Below w.heap.size w w1 := Bas.on (((Below.refl w.heap.size w).alloc (Nat.le_refl _) _).alloc (by simp) _) hb1
    have hz1 : w.heap.size + 2 ≤ w1.heap.size := by have := hb1.size; simp at this; omega
    clear hb1
    have hlt0 : w.heap.size < w1.heap.size := by omega
    have hlt1 : w.heap.size + 1 < w1.heap.size := by omega
    go_wp2_with (fail)
    generalize hW : w1.alloc (.cells #[.int .i64 0] 3) = W
    have hWs : W.heap.size = w1.heap.size + 1 := by rw [← hW]; simp
    have c0 : W.cell? ⟨w.heap.size, 0, none⟩ = some (.slice a len cap) := by rw [← hW, World.cell?_alloc_lt _ _ _ hlt0, hc1 _ _ (by simp <;> omega)]; simp
    have cf : W.cell? ⟨w.heap.size + 1, 0, none⟩ = some (.bool fails) := by rw [← hW, World.cell?_alloc_lt _ _ _ hlt1, hc1 _ _ (by simp <;> omega)]; simp
    have cn : W.cell? ⟨w1.heap.size, 0, none⟩ = some (.int .i64 0) := by rw [← hW]; simp
    have fn : W.frozen? ⟨w1.heap.size, 0, none⟩ = false := by rw [← hW]; simp
    have HB2 : Below w.heap.size w W := by rw [← hW]; exact HB1.alloc HB1.size _
    have HS2 : Hid (∀ i, i < len → ∃ b o, a = some ⟨b, o, none⟩ ∧ b < w.heap.size ∧ W.cell? ⟨b, o + i, none⟩ = some (.bool (B i))) := by
      intro i hi
      obtain ⟨b, o, ha, hb, hc⟩ := HS.out i hi
      exact ⟨b, o, ha, hb, (HB2.cell (p := ⟨b, o + i, none⟩) hb).trans hc⟩
    generalize hbn : w1.heap.size = bn at *
    clear hW hc1 hf1 HB1 HS hbn
    go_loop [6, 18] (fun v i => ∃ k : Nat, k ≤ len ∧ i = .int .i64 k ∧ v = .bool (decide (firsts B k = k))) (fun _ i => len - (intOf i).toNat)
    case atStart => exact ⟨0, by omega, rfl, rfl⟩
    case round =>
      obtain ⟨k, hk, rfl, rfl⟩ := hrel
      by_cases hkl : k < len
      · obtain ⟨b, o, rfl, hb, hc⟩ := HS2.out k hkl
        have hfl := firsts_le B k
        have hst : decide (firsts B (k + 1) = k + 1) = (decide (firsts B k = k) && B k) := by
          rw [firsts]
          by_cases h1 : firsts B k = k <;> cases h2 : B k <;> simp [h1] <;> omega
        have HST := Bas.hid hst
        clear hst
        cases hall : decide (firsts B k = k)
        all_goals
          rw [hall] at HST
          have HA := Bas.hid hall
          clear hall
          go_wp2_with (fail)
          go_round
          case rel => exact ⟨k + 1, by omega, by go_num, by rw [HST.out]; simp⟩
          case measure => simp [intOf]; omega
      · have hkk : k = len := by omega
        subst hkk
        have lt0 : w.heap.size < W.heap.size := by omega
        have ltf : w.heap.size + 1 < W.heap.size := by omega
        have ltn : bn < W.heap.size := by omega
        have HT : Hid (∀ W' : World, W' = W.alloc (.cells #[.bool false] 4) → Calls Try.prog 40 #[.pointer (some ⟨w.heap.size, 0, none⟩), .pointer (some ⟨bn, 0, none⟩), .pointer (some ⟨w.heap.size + 1, 0, none⟩)] W' (TryPost W.heap.size (TriesR W' bn k B fails))) := by
          rintro W' rfl
          refine tries1 a k cap B fails _ _ _ _ _ ?_ ?_ ?_ ?_ (by omega) (by omega) (by omega) ?_ (Bas.heap_new _ _) (by omega)
          · rw [World.cell?_alloc_lt _ _ _ lt0]; exact c0
          · rw [World.cell?_alloc_lt _ _ _ ltn]; exact cn
          · rw [World.cell?_alloc_lt _ _ _ ltf]; exact cf
          · rw [frozen?_alloc_cells]; exact fn
          · intro i hi
            obtain ⟨b, o, ha, hb, hc⟩ := HS2.out i hi
            refine ⟨b, o, ha, by omega, ?_⟩
            rw [World.cell?_alloc_lt _ _ _ (by show b < _; omega)]
            exact hc
        have hcf : ∀ (caps : Array Value) w, (callFunc 40 caps).run Try.prog w = .ok (.enter 40 caps) w := fun caps w => by simp [go_sem]
        have HCF := Bas.hid hcf
        clear hcf
        generalize hall : decide (firsts B k = k) = all
        have HALL := Bas.hid hall
        clear hall
        go_wp2_with (fail)
        refine (try_any 40 _ W _ (HCF.out _) (HT.out _ rfl)).mono ?_
        clear HT HCF
        rintro e w5 ⟨ok, w2, rfl, ⟨hg2, hn2, hok⟩, hlt2, hg5⟩
        have hs2 := hg2.size
        simp only [World.size_alloc] at hs2
        have old : ∀ b o, b < W.heap.size → b ≠ bn → w5.cell? ⟨b, o, none⟩ = W.cell? ⟨b, o, none⟩ := fun b o hb hne => by
          rw [Bas.gcell hg5 (by omega) (by simp; omega), Bas.gcell hg2 (by simp; omega) (by simp; omega), World.cell?_alloc_lt _ _ _ (by show b < _; omega)]
        have d0 : w5.cell? ⟨w.heap.size, 0, none⟩ = some (.slice a k cap) := (old _ _ lt0 (by omega)).trans c0
        have df : w5.cell? ⟨w.heap.size + 1, 0, none⟩ = some (.bool fails) := (old _ _ ltf (by omega)).trans cf
        have dn : w5.cell? ⟨bn, 0, none⟩ = some (.int .i64 (firsts B k)) := (Bas.gcell hg5 (by omega) (by simp; omega)).trans hn2
        have HS5 : Hid (∀ i, i < k → ∃ b o, a = some ⟨b, o, none⟩ ∧ w5.cell? ⟨b, o + i, none⟩ = some (.bool (B i))) := by
          intro i hi
          obtain ⟨b, o, ha, hb, hc⟩ := HS2.out i hi
          exact ⟨b, o, ha, (old _ _ (by omega) (by omega)).trans hc⟩
        have HB5 : Below w.heap.size w w5 := Bas.below_g (Bas.below_g (HB2.alloc HB2.size _) hg2 (by simp; omega) (by omega)) hg5 (by omega) (by omega)
        have HOK := Bas.hid hok
        have hfl := firsts_le B k
        clear hg2 hn2 hok hlt2 hg5 old c0 cf cn fn HS2 HB2 hs2
        go_wp2_with (fail)
        go_loop [10] (fun v => ∃ j : Nat, j ≤ k ∧ v = .int .i64 j ∧ ∀ i, i < j → B i = true) (fun v => k - (intOf v).toNat)
        case atStart => exact ⟨0, by omega, rfl, by omega⟩
        case round =>
          obtain ⟨j, hj, rfl, hall⟩ := hrel
          have HA := Bas.hid hall
          clear hall
          by_cases hjk : j < k
          · obtain ⟨b, o, rfl, hc⟩ := HS5.out j hjk
            cases hB : B j with
            | true =>
              rw [hB] at hc
              have HB := Bas.hid hB
              clear hB
              go_wp2_with (fail)
              go_round
              case rel => exact ⟨j + 1, by omega, by go_num, fun i hi => by
                by_cases h : i = j
                · rw [h]; exact HB.out
                · exact HA.out i (by omega)⟩
              case measure => simp [intOf]; omega
            | false =>
              rw [hB] at hc
              have HF := Bas.hid (firsts_stop B k j HA.out hjk hB)
              clear hB
              have he : firsts B k = j := HF.out
              rw [he] at dn
              clear he
              have hok := HOK.out
              rw [HALL.out] at hok
              subst hok
              cases all <;> cases fails
              all_goals
                go_wp2_with (fail)
                go_ret
                exact ⟨by simp, HB5⟩
          · have he : firsts B k = j := by rw [show j = k by omega]; exact firsts_all B k (by rw [← show j = k by omega]; exact HA.out)
            rw [he] at dn
            clear he
            have hok := HOK.out
            rw [HALL.out] at hok
            subst hok
            cases all <;> cases fails
            all_goals
              go_wp2_with (fail)
              go_ret
              exact ⟨by simp, HB5⟩
end Vw
end Go.Proofs.Ytakpppgikgimnaa
