/- The reference of layer 8: Read, of any bytes. -/
import Derived.Test.YtdmhenlfhbigbaaFeatTake
import Derived.Test.YtdmhenlfhbigbaaRef01B
import Derived.Test.YtdmhenlfhbigbaaRowC
import Derived.Test.YtdmhenlfhbigbaaRegV
namespace Go.Proofs.Ytdmhenlfhbigbaa
open Go.RowKit
namespace Ft
open Vw Ch Ref01

theorem infoF8 : (Try.prog.info? 76).map (fun i => (i.zero, i.size, i.bytes)) = some (some (.agg #[.int .i64 0, .bool false, .int .i64 0, .slice none 0 0]), 4, 48) := by kernel_rfl
theorem own_emptyF {w : World} {base size g : Nat} {e : TypeId} (hg : w.heap[g]? = some (.cells #[] e (0, 0))) (hbg : base ≤ g) : w.ownsRow base e size (.slice (some ⟨g, 0, none⟩) 0 0) 0 [] :=
  ⟨by simp, .inr ⟨g, 0, #[], rfl, hbg, hg, Nat.le_refl _, Nat.zero_le _, by simp, by simp⟩⟩
theorem be_rowAt (bs : List Int) (i p k : Nat) (h : p + k ≤ 12) : be (rowAt bs i) p k = be bs (12 + 12 * i + p) k := by
  unfold be rowAt
  rw [List.drop_take, List.take_take, List.drop_drop, Nat.min_eq_left (by omega)]

/-- The document's features, as they lie. -/
def RRows (w : World) (base : Nat) (v : Value) (fs : List FeatD) (ss : List Value) : Prop := ss.length = fs.length ∧ w.ownsRow base 76 4 v fs.length ((fs.zip ss).flatMap fC)
def FRefP (w : World) (bs : List Int) (e : Ending) (w' : World) : Prop :=
  Below w.heap.size w w' ∧ match parseFs bs with
    | none => e = .returned (.tuple #[.slice none 0 0, .bool false])
    | some fs => ∃ v ss, e = .returned (.tuple #[v, .bool true]) ∧ RRows w' w.heap.size v fs ss

set_option maxHeartbeats 4000000 in
theorem fref_no (a : Option Addr) (len cap : Nat) (bs : List Int) (w : World) (hlm : len ≤ 1000000000) (hv : VB w a bs) (hbl : bs.length = len) (h : ¬ (12 ≤ len ∧ be bs 0 4 = 65536 ∧ 12 + 12 * (be bs 4 2).toNat ≤ len)) :
    Calls Try.prog 12 #[.slice a len cap] w (FRefP w bs) := by
  have HNO : Hid (parseFs bs = none) := by unfold Hid parseFs; rw [hbl, if_neg h]
  have E0 : 12 ≤ len → uval bs 0 4 = be bs 0 4 := fun h => uval_nat bs 0 4 (by omega)
  have E4 : 12 ≤ len → uval bs 4 2 = be bs 4 2 := fun h => uval_nat bs 4 2 (by omega)
  have b4 := uval_bd bs hv.byte 4 2 (by omega)
  have HU4 := Bas.hid (fun (w' : World) (hb : Below w.heap.size w w') => u_any a len cap bs 4 2 2 rfl w' (by omega) (hv.below hb) hbl (by omega))
  have HU0 := Bas.hid (fun (w' : World) (hb : Below w.heap.size w w') => u_any a len cap bs 0 4 4 rfl w' (by omega) (hv.below hb) hbl (by omega))
  have hcm : len ≤ 9223372036854775807 := by omega
  have HB1 := Bas.hid ((Below.refl w.heap.size w).alloc (Nat.le_refl _) (.cells #[] 76))
  generalize uval bs 0 4 = k at *
  generalize uval bs 4 2 = n at *
  by_cases f1 : k = 65536
  · by_cases f2 : 0 ≤ n
    · have hrB : ¬ rowsB len 12 n 12 := by
        rintro ⟨h1, h2, h3, h4, h5⟩
        have h12 : 12 ≤ len := by omega
        rw [E0 h12] at f1
        rw [E4 h12] at h5 f2
        exact h ⟨h12, f1, by omega⟩
      have g1 : (k == 65536) = true := by simpa using f1
      have g2 : decide (n < 0) = false := by simpa using f2
      subst f1
      clear h E0 E4 hv
      go_enter Try.func12, Try.ntmps12
      go_wp2_with (fail)
      generalize w.alloc (.cells #[] 76) = W1 at *
      refine (HU4.out _ HB1.out).mono ?_
      rintro e w' ⟨rfl, rfl⟩
      go_wp2_with (fail)
      refine (HU0.out _ HB1.out).mono ?_
      rintro e w' ⟨rfl, rfl⟩
      go_wp2_with (fail)
      refine (rows_no len _ _ _ _ (by omega) (by omega) (by omega) hrB).mono ?_
      rintro e w' ⟨rfl, rfl⟩
      go_wp2_with (fail)
      exact bodyPost_ret (v := .tuple #[.slice none 0 0, .bool false]) (by simp [results, Try.results12, go_sem]) rfl ⟨HB1.out, by rw [HNO.out]⟩
    · have g1 : (k == 65536) = true := by simpa using f1
      have g2 : decide (n < 0) = true := by simp; omega
      subst f1
      clear h E0 E4 hv
      go_enter Try.func12, Try.ntmps12
      go_wp2_with (fail)
      generalize w.alloc (.cells #[] 76) = W1 at *
      refine (HU4.out _ HB1.out).mono ?_
      rintro e w' ⟨rfl, rfl⟩
      go_wp2_with (fail)
      refine (HU0.out _ HB1.out).mono ?_
      rintro e w' ⟨rfl, rfl⟩
      go_wp2_with (fail)
      exact bodyPost_ret (v := .tuple #[.slice none 0 0, .bool false]) (by simp [results, Try.results12, go_sem]) rfl ⟨HB1.out, by rw [HNO.out]⟩
  · have g1 : (k == 65536) = false := by simpa using f1
    have g2 : (k != 65536) = true := by simpa using f1
    have g3 : decide (k = 65536) = false := by simpa using f1
    clear h E0 E4 hv f1
    go_enter Try.func12, Try.ntmps12
    go_wp2_with (fail)
    generalize w.alloc (.cells #[] 76) = W1 at *
    refine (HU4.out _ HB1.out).mono ?_
    rintro e w' ⟨rfl, rfl⟩
    go_wp2_with (fail)
    refine (HU0.out _ HB1.out).mono ?_
    rintro e w' ⟨rfl, rfl⟩
    go_wp2_with (fail)
    exact bodyPost_ret (v := .tuple #[.slice none 0 0, .bool false]) (by simp [results, Try.results12, go_sem]) rfl ⟨HB1.out, by rw [HNO.out]⟩

set_option maxRecDepth 100000 in
set_option maxHeartbeats 16000000 in
theorem fref_main (a : Option Addr) (len cap : Nat) (bs : List Int) (n : Nat) (w : World) (hlm : len ≤ 1000000000) (hv : VB w a bs) (hbl : bs.length = len)
    (h12 : 12 ≤ len) (hk : be bs 0 4 = 65536) (hn : be bs 4 2 = n) (hrow : 12 + 12 * n ≤ len) :
    Calls Try.prog 12 #[.slice a len cap] w (FRefP w bs) := by
  have hrB : rowsB len 12 n 12 := ⟨by omega, by omega, .inr (by omega), by omega, by omega⟩
  have U := fun (q k : Nat) (hk : k ≤ 4) (x m : Int) (hx : x = q) (hm : m = k) (hq : q + k ≤ len) (w' : World) (hb : Below w.heap.size w w') => (by
    have h := u_any a len cap bs x k m hm w' (by omega) (hv.below hb) hbl hk
    rw [hx, uval_nat bs q k (by omega)] at h
    rw [← hx] at h
    exact h : Calls Try.prog 31 #[.slice a len cap, .int .i64 x, .int .i64 m] w' fun e w'' => e = .returned (.int .i64 (be bs q k)) ∧ w' = w'')
  have HPA : Hid (parseFs bs = featsAt bs n 0 none) := by
    unfold Hid parseFs
    rw [hn, Int.toNat_natCast, if_pos ⟨by omega, hk, by omega⟩]
  have U0 := U 0 4 (by omega) 0 4 rfl rfl (by omega)
  have U4 := U 4 2 (by omega) 4 2 rfl rfl (by omega)
  rw [hk] at U0
  rw [hn] at U4
  have hnb := be2_bd bs hv.byte 4 (by omega)
  rw [hn] at hnb
  have HU := Bas.hid U
  have HU0 := Bas.hid U0
  have HU4 := Bas.hid U4
  have HV := Bas.hid hv
  obtain ⟨n0, n1⟩ := hnb
  have hcm : len ≤ 9223372036854775807 := by omega
  have hn65 : n ≤ 65535 := by omega
  have k1 := Bas.heap_new w (.cells #[] 76)
  have HO1 := Bas.hid (own_emptyF (size := 4) k1 (Nat.le_refl w.heap.size))
  have HB1 := Bas.hid ((Below.refl w.heap.size w).alloc (Nat.le_refl _) (.cells #[] 76))
  clear U U0 U4 hv hk hn k1
  go_enter Try.func12, Try.ntmps12
  go_wp2_with (fail)
  generalize w.alloc (.cells #[] 76) = W1 at *
  refine (HU4.out _ HB1.out).mono ?_
  rintro e w' ⟨rfl, rfl⟩
  go_wp2_with (fail)
  refine (HU0.out _ HB1.out).mono ?_
  rintro e w' ⟨rfl, rfl⟩
  go_wp2_with (fail)
  refine (rows_yes len _ _ _ _ (by omega) (by omega) (by omega) hrB).mono ?_
  rintro e w' ⟨rfl, rfl⟩
  go_wp2_with (fail)
  go_loopw [4, 6] (fun vo vi wr => ∃ (i : Nat) (vo' : Value) (fs : List FeatD) (ss : List Value), i ≤ n ∧ vi = .int .i64 i ∧ vo' = vo ∧ fs.length = i ∧ featsAt bs n 0 none = (featsAt bs (n - i) i (lastT fs)).map (fun l => fs ++ l) ∧
    RRows wr w.heap.size vo' fs ss ∧ Below w.heap.size w wr) (fun _ vi _ => n - (intOf vi).toNat)
  case atStart => exact ⟨0, _, [], [], Nat.zero_le _, rfl, rfl, rfl, by simp [lastT], ⟨rfl, HO1.out⟩, HB1.out⟩
  case round =>
    obtain ⟨i, vo', fs, ss, hi, rfl, hvo, hfl, hsub, hro, hb⟩ := hrel
    rw [← hvo]
    clear hvo HO1 HB1
    obtain ⟨ado, cpo, rfl⟩ := own_slice hro.2
    have HSUB := Bas.hid hsub
    have HFL := Bas.hid hfl
    have HSS := Bas.hid hro.1
    have hown := hro.2
    rw [hfl] at hown ⊢
    have HO := Bas.hid hown
    have HB := Bas.hid hb
    clear hsub hfl hro hb hown
    by_cases hin : i < n
    · have e1 : decide ((i : Int) < (n : Int)) = true := by simp; omega
      obtain ⟨q, hq⟩ : ∃ q, 12 + 12 * i = q := ⟨_, rfl⟩
      have hql : q + 12 ≤ len := by omega
      have HQ := Bas.hid hq
      have p0 := be_rowAt bs i 0 2 (by omega)
      have p2 := be_rowAt bs i 2 2 (by omega)
      have p4 := be_rowAt bs i 4 4 (by omega)
      have p8 := be_rowAt bs i 8 2 (by omega)
      rw [hq] at p0 p2 p4 p8
      rw [Nat.add_zero] at p0
      have hpf : parseF bs (rowAt bs i) = if (be bs (q + 4) 4).toNat + 4 * (be bs (q + 2) 2).toNat ≤ bs.length then
          some ⟨be bs q 2, decide (be bs (q + 8) 2 ≥ 32768), dfltOf (setsAt bs (be bs (q + 4) 4).toNat (be bs (q + 2) 2).toNat) (be bs (q + 8) 2), setsAt bs (be bs (q + 4) 4).toNat (be bs (q + 2) 2).toNat⟩ else none := by
        unfold parseF; rw [p0, p2, p4, p8]
      have t0 := be2_bd bs HV.out.byte q (by omega)
      have t2 := be2_bd bs HV.out.byte (q + 2) (by omega)
      have t4 := be4_bd bs HV.out.byte (q + 4) (by omega)
      have t8 := be2_bd bs HV.out.byte (q + 8) (by omega)
      have A0 := HU.out q 2 (by omega)
      have A2 := HU.out (q + 2) 2 (by omega)
      have A4 := HU.out (q + 4) 4 (by omega)
      have A8 := HU.out (q + 8) 2 (by omega)
      obtain ⟨ty, hty⟩ : ∃ ty, be bs q 2 = ty := ⟨_, rfl⟩
      obtain ⟨m, hm⟩ := Int.eq_ofNat_of_zero_le t2.1
      obtain ⟨fr, hfr⟩ := Int.eq_ofNat_of_zero_le t4.1
      obtain ⟨fl, hfl⟩ : ∃ fl, be bs (q + 8) 2 = fl := ⟨_, rfl⟩
      rw [hty] at A0 t0 hpf
      rw [hm] at A2 t2 hpf
      rw [hfr] at A4 t4 hpf
      rw [hfl] at A8 t8 hpf
      rw [Int.toNat_natCast, Int.toNat_natCast, hbl] at hpf
      obtain ⟨ex, hex⟩ : ∃ ex, decide (fl ≥ 32768) = ex := ⟨_, rfl⟩
      rw [hex] at hpf
      have HPF := Bas.hid hpf
      have HA0 := Bas.hid A0
      have HA2 := Bas.hid A2
      have HA4 := Bas.hid A4
      have HA8 := Bas.hid A8
      have hex2 : decide (32768 ≤ fl) = ex := hex
      obtain ⟨t00, t01⟩ := t0
      obtain ⟨t20, t21⟩ := t2
      obtain ⟨t40, t41⟩ := t4
      obtain ⟨t80, t81⟩ := t8
      have hm65 : m ≤ 65535 := by omega
      clear p0 p2 p4 p8 hpf A0 A2 A4 A8 hty hm hfr hfl hq
      go_wp2_with (fail)
      refine (HA2.out _ _ (by have := HQ.out; omega) rfl (by omega) _ HB.out).mono ?_
      rintro e w' ⟨rfl, rfl⟩
      go_wp2_with (fail)
      refine (HA4.out _ _ (by have := HQ.out; omega) rfl (by omega) _ HB.out).mono ?_
      rintro e w' ⟨rfl, rfl⟩
      go_wp2_with (fail)
      refine (HA8.out _ _ (by have := HQ.out; omega) rfl (by omega) _ HB.out).mono ?_
      rintro e w' ⟨rfl, rfl⟩
      go_wp2_with (fail)
      refine (HA0.out _ _ (by have := HQ.out; omega) rfl (by omega) _ HB.out).mono ?_
      rintro e w' ⟨rfl, rfl⟩
      go_wp2_with (fail)
      have kT := Bas.heap_new wr (.cells #[.int .i64 ty, .bool ex, .int .i64 (-1), .slice none 0 0] 76)
      have hb2 := (Below.refl wr.heap.size wr).alloc (Nat.le_refl _) (.cells #[.int .i64 ty, .bool ex, .int .i64 (-1), .slice none 0 0] 76)
      have HB2 := Bas.hid (HB.out.trans (hb2.mono HB.out.size))
      have HO2 := Bas.hid (Row.owned_below HO.out hb2)
      have HLT : Hid (∀ g', (Value.slice ado i cpo).ownBlock = some g' → g' < wr.heap.size) := fun g' hg' => (Row.own_block HO.out hg').2
      have hwT : w.heap.size ≤ wr.heap.size := HB.out.size
      generalize wr.alloc (.cells #[.int .i64 ty, .bool ex, .int .i64 (-1), .slice none 0 0] 76) = W2 at *
      obtain ⟨T, hT⟩ : ∃ T, wr.heap.size = T := ⟨_, rfl⟩
      rw [hT] at kT HLT hwT ⊢
      have lT := heap_lt kT
      clear hb2 HO HB HA0 HA2 HA4 HA8 hT
      have HSTEP : Hid (featsAt bs (n - i) i (lastT fs) = (parseF bs (rowAt bs i)).bind fun f => if risesB (lastT fs) f.type = true then (featsAt bs (n - (i + 1)) (i + 1) (some f.type)).map (f :: ·) else none) := by
        unfold Hid
        rw [show n - i = (n - (i + 1)) + 1 by omega, featsAt]
      by_cases hrc : fr + 4 * m ≤ len
      · have hrB2 : rowsB len fr m 4 := ⟨by omega, by omega, .inr (by omega), by omega, by omega⟩
        have HR := Bas.hid (fun w' => rows_yes len fr m 4 w' (by omega) (by omega) (by omega) hrB2)
        have HPS : Hid (parseF bs (rowAt bs i) = some ⟨ty, ex, dfltOf (setsAt bs fr m) fl, setsAt bs fr m⟩) := by unfold Hid; rw [HPF.out, if_pos hrc]
        clear hrB2 HPF
        rcases Nat.eq_zero_or_pos i with hi0 | hi0
        · subst hi0
          have hfs : fs = [] := List.length_eq_zero_iff.1 HFL.out
          have HR0 : Hid (risesB (lastT fs) ty = true) := by unfold Hid; rw [hfs]; rfl
          have z1 : decide (((0 : Nat) : Int) > 0) = false := by decide
          have z2 : decide ((0 : Int) < ((0 : Nat) : Int)) = false := by decide
          clear hfs
          go_wp2_with (fail)
          refine' Pl.region_v0 118 [] [0, 1, 2, 3, 4, 5, 6, 7, 8, 9, 10, 11, 12, 13, 14, 15, 16, 17, 18, 19, 20] [] _ (by kernel_rfl) (by kernel_rfl) (by simp) (fun _ _ _ _ e h => ⟨e ▸ h.1, h.2⟩) ?_ ?_
          rotate_left
          · intro I F hI hF
            simp only [Pl.selN, List.nil_append, List.drop_succ_cons, List.drop_zero]
            have x0 := fun q => hF.cell lT (cell_of_heap (i := 0) kT rfl) q
            repeat (go_big_quiet_step ((go_at_call 32; with_reducible exact hF.same (HR.out _))))
            refine wpQuiet_nil ?_
            rfl
          intro w3 hw3
          simp only [Pl.selN]
          have kT3 := (hw3.block _ lT).trans kT
          have HB3 := Bas.hid (HB2.out.trans (hw3.mono HB2.out.size))
          have HO3 := Bas.hid (Row.owned_below HO2.out hw3)
          have lT3 := heap_lt kT3
          clear kT lT HR HO2 HB2
          go_wp2_with (fail)
          go_loopw [12] (fun vk wi => ∃ (k : Nat) (vs : Value), k ≤ m ∧ vk = .int .i64 k ∧ wi.ownsRow w.heap.size 3 1 vs k ((setsAt bs fr k).map (Value.int .i64)) ∧ wi.heap[T]? = some (.cells #[.int .i64 ty, .bool ex, .int .i64 (-1), vs] 76 (0, 0)) ∧
            wi.ownsRow w.heap.size 76 4 (.slice ado 0 cpo) 0 ((fs.zip ss).flatMap fC) ∧ Below w.heap.size w wi) (fun vk _ => m - (intOf vk).toNat)
          case atStart => exact ⟨0, _, Nat.zero_le _, rfl, Row.owned_nil _ _ _ _, kT3, HO3.out, HB3.out⟩
          case round =>
            obtain ⟨k, vs, hk, rfl, hrow4, o5, hown4, hb4⟩ := hrel
            obtain ⟨ads, cps, rfl⟩ := own_slice hrow4
            have HI := Bas.hid hrow4
            have HO4 := Bas.hid hown4
            have HB4 := Bas.hid hb4
            clear hrow4 hown4 hb4 kT3 HO3 HB3 lT3
            by_cases hkm : k < m
            · have e4 : decide ((k : Int) < (m : Int)) = true := by simp; omega
              have A5 := HU.out (fr + 4 * k) 2 (by omega) ((fr : Int) + 4 * (k : Int)) 2 (by omega) rfl (by omega)
              have HS := Bas.hid (setsAt_succ bs fr k)
              generalize be bs (fr + 4 * k) 2 = x at *
              have HA5 := Bas.hid A5
              clear A5
              go_wp2_with (fail)
              refine' Pl.region_v1 118 [] [0, 1, 2, 3, 4, 5, 6, 7] 8 91 [9, 10, 11] _ (fun v u' => ∃ g, v = .slice (some ⟨g, 0, none⟩) 1 1 ∧ wr.heap.size ≤ g ∧ u'.heap[g]? = some (.cells #[.int .i64 x] 3 (0, 0))) (by kernel_rfl) (by kernel_rfl) (by simp) (fun _ _ _ _ e h => ⟨e ▸ h.1, h.2⟩) ?_ ?_ ?_ ?_
              rotate_left
              · intro I F hI hF
                simp only [Pl.selN, List.nil_append, List.drop_succ_cons, List.drop_zero]
                have x1 := fun q => hF.cell (heap_lt o5) (cell_of_heap (i := 3) (v := .slice ads k cps) o5 rfl) q
                repeat (go_big_quiet_step ((go_at_call 31; with_reducible exact hF.same (HA5.out _ (hF.on HB4.out _)))))
                refine wpQuiet_nil ?_
                rfl
              · rintro v x x' ⟨g, h1, h2, h3⟩ hx hx'
                exact ⟨g, h1, h2, (hx'.block g (heap_lt h3)).trans h3⟩
              · simp only [Pl.selN, List.drop_succ_cons, List.drop_zero, List.mem_singleton, forall_eq]
                intro u' hu
                go_simp
                simp only [Pl.valsAt]
                exact ⟨(Below.refl _ _).alloc (Nat.le_refl _) _, _, rfl, hu.size, Bas.heap_new _ _⟩
              · intro v u3 hu hv
                obtain ⟨g, rfl, hg, hgc⟩ := hv
                simp only [Pl.selN, List.drop_succ_cons, List.drop_zero, Act.put, List.setIfInBounds_toArray, List.set_cons_zero, List.set_cons_succ]
                have u5 := (hu.block _ (heap_lt o5)).trans o5
                have HIu := Bas.hid (Row.owned_below HI.out hu)
                have HOu := Bas.hid (Row.owned_below HO4.out hu)
                have HBu := Bas.hid (HB4.out.trans (hu.mono HB4.out.size))
                have hv5 := own_ty HIu.out u5 (by decide)
                clear o5 hu HI HO4 HB4
                refine (Row.append_any rfl _ _ 74 3 rfl (.int .i64 0) 1 8 Try.underlying74 infoI8 rfl (by decide) w.heap.size (.slice ads k cps) k _ rfl HIu.out (.slice (some ⟨g, 0, none⟩) 1 1) 1 [.int .i64 x] rfl (leads_heap hgc) rfl (by simp; rfl) (by unfold maxLen; omega) (by omega) HBu.out.size ?_)
                intro v' w9 hown9 hg9 _
                obtain ⟨ad9, cp9, rfl⟩ := own_slice hown9
                have z5 := (hg9.block _ (heap_lt u5) (fun e => hv5 e.symm)).trans u5
                have HO9 := Bas.hid (Row.owned_keep HOu.out fun g' hg' => hg9.block g' (Row.own_block HOu.out hg').2 (fun e => own_rows_ne HOu.out HIu.out (by decide) hg' e.symm))
                have HI9 : Hid (w9.ownsRow w.heap.size 3 1 (.slice ad9 (k + 1) cp9) (k + 1) ((setsAt bs fr (k + 1)).map (Value.int .i64))) := by
                  unfold Hid; rw [HS.out, List.map_append]; exact hown9
                have HB9 := Bas.hid (HBu.out.grown hg9 HBu.out.size (fun g' hg' => (Row.own_block HIu.out hg').1))
                have zc := cell_of_heap (i := 3) z5 rfl
                have zf := free_of_heap (i := 3) z5
                clear hown9 hg9 u5 hgc HIu HOu HBu
                go_wp2_with (fail)
                have y5 := heap_set (i := 3) z5 (.slice ad9 (k + 1) cp9)
                have HI10 := Bas.hid (Row.owned_keep HI9.out (w' := w9.setCell ⟨T, 3, none⟩ (.slice ad9 (k + 1) cp9)) fun g' hg' => Below.heap_setCell _ _ _ _ (fun e => own_ty HI9.out z5 (by decide) (by rw [hg', e])))
                have HO10 := Bas.hid (Row.owned_keep HO9.out (w' := w9.setCell ⟨T, 3, none⟩ (.slice ad9 (k + 1) cp9)) fun g' hg' => Below.heap_setCell _ _ _ _ (fun e => by have := HLT.out g' hg'; have e2 : g' = T := e; omega))
                have HB10 := Bas.hid (HB9.out.setCell (p := ⟨T, 3, none⟩) hwT (.slice ad9 (k + 1) cp9))
                generalize w9.setCell ⟨T, 3, none⟩ (.slice ad9 (k + 1) cp9) = W10 at *
                go_wp2_with (fail)
                go_roundw
                case rel => first | exact ⟨k + 1, _, by omega, by go_num, HI10.out, y5, HO10.out, HB10.out⟩ | ((repeat apply Exists.intro); exact ⟨⟨k + 1, _, by omega, by go_num, HI10.out, y5, HO10.out, HB10.out⟩, rfl⟩)
                case measure => simp [intOf]; omega
            · have hkm2 : k = m := by omega
              subst hkm2
              have e4 : decide ((k : Int) < (k : Int)) = false := by simp
              have HEX := Bas.hid hex
              have c1 := cell_of_heap (i := 1) o5 rfl
              clear hkm
              obtain ⟨p, hp⟩ : ∃ p : Nat, p = firstOf fl := ⟨_, rfl⟩
              have hDF : dfltOf (setsAt bs fr k) fl = if fl ≥ 32768 then (if p < k then (setsAt bs fr k).getD p 0 else -1) else -1 := by
                unfold dfltOf
                rw [setsAt_len, hp]
              have hm0 : 0 ≤ fl % 256 := by omega
              have hm1 : fl % 256 ≤ 255 := by omega
              have hd0 : 0 ≤ fl / 16384 := by omega
              have hd1 : fl / 16384 ≤ 3 := by omega
              have hd2 : 0 ≤ fl / 16384 % 2 := by omega
              have hd3 : fl / 16384 % 2 ≤ 1 := by omega
              have HHP := Bas.hid hp
              clear hp
              by_cases hsec : fl / 16384 % 2 = 1
              · have s1 : (fl / 16384 % 2 == 1) = true := by simpa using hsec
                have hpv : fl % 256 = (p : Int) := by rw [HHP.out]; unfold firstOf; rw [if_pos hsec]; omega
                clear hsec
                cases ex with
                | false =>
                  have hge : ¬ fl ≥ 32768 := by simpa using HEX.out
                  have HDF : Hid (dfltOf (setsAt bs fr k) fl = -1) := by unfold Hid; rw [hDF, if_neg hge]
                  clear hDF
                  have b0 := cell_of_heap (i := 0) o5 rfl
                  have b1 := cell_of_heap (i := 1) o5 rfl
                  have b2 := cell_of_heap (i := 2) o5 rfl
                  have b3 := cell_of_heap (i := 3) o5 rfl
                  go_wp2_with (at_builtin; refine Row.fence ?_)
                  refine Row.unfence ?_
                  clear b0 b1 b2 b3

                  have k9 := Bas.heap_new wr (.cells #[.int .i64 ty, .bool false, .int .i64 (-1), .slice ads k cps] 76)
                  have hb9 := (Below.refl wr.heap.size wr).alloc (Nat.le_refl _) (.cells #[.int .i64 ty, .bool false, .int .i64 (-1), .slice ads k cps] 76)
                  have HB9 := Bas.hid (HB4.out.trans (hb9.mono HB4.out.size))
                  have HO9 := Bas.hid (Row.owned_below HO4.out hb9)
                  generalize wr.alloc (.cells #[.int .i64 ty, .bool false, .int .i64 (-1), .slice ads k cps] 76) = W9 at *
                  clear hb9
                  refine (Row.append_any rfl _ _ 37 76 rfl (.agg #[.int .i64 0, .bool false, .int .i64 0, .slice none 0 0]) 4 48 Try.underlying37 infoF8 rfl (by decide) w.heap.size (.slice ado 0 cpo) 0 _ rfl HO9.out (.slice (some ⟨wr.heap.size, 0, none⟩) 1 1) 1 [.int .i64 ty, .bool false, .int .i64 (-1), .slice ads k cps] rfl (leads_heap k9) rfl (by simp; exact ⟨rfl, rfl, rfl, rfl⟩) (by unfold maxLen; omega) (by omega) HB9.out.size ?_)
                  intro v10 w10 ho10 hg10 _
                  have HB10 := Bas.hid (HB9.out.grown hg10 HB9.out.size (fun g' hg' => (Row.own_block HO9.out hg').1))
                  have HO10 := Bas.hid ho10
                  clear ho10 hg10 k9
                  go_wp2_with (fail)
                  go_roundw
                  case rel => exact ⟨0 + 1, _, fs ++ [⟨ty, false, (-1), setsAt bs fr k⟩], ss ++ [.slice ads k cps], by omega, by go_num, rfl, by rw [List.length_append, HFL.out]; rfl, by
                    rw [HSUB.out, HSTEP.out, HPS.out, Option.bind_some, if_pos HR0.out, lastT_snoc, HDF.out]; simp [Option.map_map, Function.comp_def], ⟨by rw [List.length_append, List.length_append, HSS.out]; rfl, by
                    rw [List.length_append, HFL.out, List.zip_append HSS.out.symm, List.flatMap_append]; exact HO10.out⟩, HB10.out⟩
                  case measure => simp [intOf]; omega
                | true =>
                  have hge : fl ≥ 32768 := by simpa using HEX.out
                  by_cases hpk : p < k
                  · have s2 : decide ((p : Int) < (k : Int)) = true := by simp; omega
                    obtain ⟨x, hx⟩ : ∃ x, (setsAt bs fr k)[p]? = some x := ⟨_, List.getElem?_eq_getElem (by rw [setsAt_len]; exact hpk)⟩
                    have HDF : Hid (dfltOf (setsAt bs fr k) fl = x) := by unfold Hid; rw [hDF, if_pos hge, if_pos hpk, List.getD_eq_getElem?_getD, hx]; rfl
                    rcases Row.owned_parts HI.out with ⟨_, h0, _⟩ | ⟨G, cp', hvG, hGb, hGl, hGc, hGm, hcl, -⟩
                    · omega
                    have hv5 := own_ty HI.out o5 (by decide)
                    cases hvG
                    have cG := hcl p (.int .i64 x) (by rw [List.getElem?_map, hx]; rfl)
                    have c0 := cell_of_heap (i := 0) o5 rfl
                    have c3 := cell_of_heap (i := 3) o5 rfl
                    have c2 := cell_of_heap (i := 2) o5 rfl
                    have f2 := free_of_heap (i := 2) o5
                    have hGT : G ≠ T := fun e => hv5 (by rw [← e]; rfl)
                    clear hcl hx hDF hv5
                    go_wp2_with (at_builtin; refine Row.fence ?_)
                    refine Row.unfence ?_
                    have o6 := heap_set (i := 2) o5 (.int .i64 x)
                    have HO5 := Bas.hid (Row.owned_keep HO4.out (w' := wr.setCell ⟨T, 2, none⟩ (.int .i64 x)) fun g' hg' => Below.heap_setCell _ _ _ _ (fun e => by have := HLT.out g' hg'; have e2 : g' = T := e; omega))
                    have HB5 := Bas.hid (HB4.out.setCell (p := ⟨T, 2, none⟩) hwT (.int .i64 x))
                    have hs5 : (wr.setCell ⟨T, 2, none⟩ (.int .i64 x)).heap.size = wr.heap.size := by simp
                    clear c0 c1 c2 c3 f2 o5
                    generalize wr.setCell ⟨T, 2, none⟩ (.int .i64 x) = W5 at *
                    have o5 : W5.heap[T]? = some (.cells #[.int .i64 ty, .bool true, .int .i64 x, .slice (some ⟨G, 0, none⟩) k cps] 76 (0, 0)) := o6
                    have k9 := Bas.heap_new W5 (.cells #[.int .i64 ty, .bool true, .int .i64 x, .slice (some ⟨G, 0, none⟩) k cps] 76)
                    have hb9 := (Below.refl W5.heap.size W5).alloc (Nat.le_refl _) (.cells #[.int .i64 ty, .bool true, .int .i64 x, .slice (some ⟨G, 0, none⟩) k cps] 76)
                    have HB9 := Bas.hid (HB5.out.trans (hb9.mono HB5.out.size))
                    have HO9 := Bas.hid (Row.owned_below HO5.out hb9)
                    generalize W5.alloc (.cells #[.int .i64 ty, .bool true, .int .i64 x, .slice (some ⟨G, 0, none⟩) k cps] 76) = W9 at *
                    rw [hs5] at k9
                    clear hb9
                    refine (Row.append_any rfl _ _ 37 76 rfl (.agg #[.int .i64 0, .bool false, .int .i64 0, .slice none 0 0]) 4 48 Try.underlying37 infoF8 rfl (by decide) w.heap.size (.slice ado 0 cpo) 0 _ rfl HO9.out (.slice (some ⟨wr.heap.size, 0, none⟩) 1 1) 1 [.int .i64 ty, .bool true, .int .i64 x, .slice (some ⟨G, 0, none⟩) k cps] rfl (leads_heap k9) rfl (by simp; exact ⟨rfl, rfl, rfl, rfl⟩) (by unfold maxLen; omega) (by omega) HB9.out.size ?_)
                    intro v10 w10 ho10 hg10 _
                    have HB10 := Bas.hid (HB9.out.grown hg10 HB9.out.size (fun g' hg' => (Row.own_block HO9.out hg').1))
                    have HO10 := Bas.hid ho10
                    clear ho10 hg10 k9
                    go_wp2_with (fail)
                    go_roundw
                    case rel => exact ⟨0 + 1, _, fs ++ [⟨ty, true, x, setsAt bs fr k⟩], ss ++ [.slice (some ⟨G, 0, none⟩) k cps], by omega, by go_num, rfl, by rw [List.length_append, HFL.out]; rfl, by
                      rw [HSUB.out, HSTEP.out, HPS.out, Option.bind_some, if_pos HR0.out, lastT_snoc, HDF.out]; simp [Option.map_map, Function.comp_def], ⟨by rw [List.length_append, List.length_append, HSS.out]; rfl, by
                      rw [List.length_append, HFL.out, List.zip_append HSS.out.symm, List.flatMap_append]; exact HO10.out⟩, HB10.out⟩
                    case measure => simp [intOf]; omega
                  · have s2 : decide ((p : Int) < (k : Int)) = false := by simp; omega
                    have HDF : Hid (dfltOf (setsAt bs fr k) fl = -1) := by unfold Hid; rw [hDF, if_pos hge, if_neg hpk]
                    clear hDF
                    have b0 := cell_of_heap (i := 0) o5 rfl
                    have b1 := cell_of_heap (i := 1) o5 rfl
                    have b2 := cell_of_heap (i := 2) o5 rfl
                    have b3 := cell_of_heap (i := 3) o5 rfl
                    go_wp2_with (at_builtin; refine Row.fence ?_)
                    refine Row.unfence ?_
                    clear b0 b1 b2 b3

                    have k9 := Bas.heap_new wr (.cells #[.int .i64 ty, .bool true, .int .i64 (-1), .slice ads k cps] 76)
                    have hb9 := (Below.refl wr.heap.size wr).alloc (Nat.le_refl _) (.cells #[.int .i64 ty, .bool true, .int .i64 (-1), .slice ads k cps] 76)
                    have HB9 := Bas.hid (HB4.out.trans (hb9.mono HB4.out.size))
                    have HO9 := Bas.hid (Row.owned_below HO4.out hb9)
                    generalize wr.alloc (.cells #[.int .i64 ty, .bool true, .int .i64 (-1), .slice ads k cps] 76) = W9 at *
                    clear hb9
                    refine (Row.append_any rfl _ _ 37 76 rfl (.agg #[.int .i64 0, .bool false, .int .i64 0, .slice none 0 0]) 4 48 Try.underlying37 infoF8 rfl (by decide) w.heap.size (.slice ado 0 cpo) 0 _ rfl HO9.out (.slice (some ⟨wr.heap.size, 0, none⟩) 1 1) 1 [.int .i64 ty, .bool true, .int .i64 (-1), .slice ads k cps] rfl (leads_heap k9) rfl (by simp; exact ⟨rfl, rfl, rfl, rfl⟩) (by unfold maxLen; omega) (by omega) HB9.out.size ?_)
                    intro v10 w10 ho10 hg10 _
                    have HB10 := Bas.hid (HB9.out.grown hg10 HB9.out.size (fun g' hg' => (Row.own_block HO9.out hg').1))
                    have HO10 := Bas.hid ho10
                    clear ho10 hg10 k9
                    go_wp2_with (fail)
                    go_roundw
                    case rel => exact ⟨0 + 1, _, fs ++ [⟨ty, true, (-1), setsAt bs fr k⟩], ss ++ [.slice ads k cps], by omega, by go_num, rfl, by rw [List.length_append, HFL.out]; rfl, by
                      rw [HSUB.out, HSTEP.out, HPS.out, Option.bind_some, if_pos HR0.out, lastT_snoc, HDF.out]; simp [Option.map_map, Function.comp_def], ⟨by rw [List.length_append, List.length_append, HSS.out]; rfl, by
                      rw [List.length_append, HFL.out, List.zip_append HSS.out.symm, List.flatMap_append]; exact HO10.out⟩, HB10.out⟩
                    case measure => simp [intOf]; omega
              · have s1 : (fl / 16384 % 2 == 1) = false := by simpa using hsec
                have hpv : p = 0 := by rw [HHP.out]; unfold firstOf; rw [if_neg hsec]
                subst hpv
                clear hsec
                cases ex with
                | false =>
                  have hge : ¬ fl ≥ 32768 := by simpa using HEX.out
                  have HDF : Hid (dfltOf (setsAt bs fr k) fl = -1) := by unfold Hid; rw [hDF, if_neg hge]
                  clear hDF
                  have b0 := cell_of_heap (i := 0) o5 rfl
                  have b1 := cell_of_heap (i := 1) o5 rfl
                  have b2 := cell_of_heap (i := 2) o5 rfl
                  have b3 := cell_of_heap (i := 3) o5 rfl
                  go_wp2_with (at_builtin; refine Row.fence ?_)
                  refine Row.unfence ?_
                  clear b0 b1 b2 b3

                  have k9 := Bas.heap_new wr (.cells #[.int .i64 ty, .bool false, .int .i64 (-1), .slice ads k cps] 76)
                  have hb9 := (Below.refl wr.heap.size wr).alloc (Nat.le_refl _) (.cells #[.int .i64 ty, .bool false, .int .i64 (-1), .slice ads k cps] 76)
                  have HB9 := Bas.hid (HB4.out.trans (hb9.mono HB4.out.size))
                  have HO9 := Bas.hid (Row.owned_below HO4.out hb9)
                  generalize wr.alloc (.cells #[.int .i64 ty, .bool false, .int .i64 (-1), .slice ads k cps] 76) = W9 at *
                  clear hb9
                  refine (Row.append_any rfl _ _ 37 76 rfl (.agg #[.int .i64 0, .bool false, .int .i64 0, .slice none 0 0]) 4 48 Try.underlying37 infoF8 rfl (by decide) w.heap.size (.slice ado 0 cpo) 0 _ rfl HO9.out (.slice (some ⟨wr.heap.size, 0, none⟩) 1 1) 1 [.int .i64 ty, .bool false, .int .i64 (-1), .slice ads k cps] rfl (leads_heap k9) rfl (by simp; exact ⟨rfl, rfl, rfl, rfl⟩) (by unfold maxLen; omega) (by omega) HB9.out.size ?_)
                  intro v10 w10 ho10 hg10 _
                  have HB10 := Bas.hid (HB9.out.grown hg10 HB9.out.size (fun g' hg' => (Row.own_block HO9.out hg').1))
                  have HO10 := Bas.hid ho10
                  clear ho10 hg10 k9
                  go_wp2_with (fail)
                  go_roundw
                  case rel => exact ⟨0 + 1, _, fs ++ [⟨ty, false, (-1), setsAt bs fr k⟩], ss ++ [.slice ads k cps], by omega, by go_num, rfl, by rw [List.length_append, HFL.out]; rfl, by
                    rw [HSUB.out, HSTEP.out, HPS.out, Option.bind_some, if_pos HR0.out, lastT_snoc, HDF.out]; simp [Option.map_map, Function.comp_def], ⟨by rw [List.length_append, List.length_append, HSS.out]; rfl, by
                    rw [List.length_append, HFL.out, List.zip_append HSS.out.symm, List.flatMap_append]; exact HO10.out⟩, HB10.out⟩
                  case measure => simp [intOf]; omega
                | true =>
                  have hge : fl ≥ 32768 := by simpa using HEX.out
                  by_cases hpk : 0 < k
                  · have s2 : decide (0 < (k : Int)) = true := by simp; omega
                    obtain ⟨x, hx⟩ : ∃ x, (setsAt bs fr k)[0]? = some x := ⟨_, List.getElem?_eq_getElem (by rw [setsAt_len]; exact hpk)⟩
                    have HDF : Hid (dfltOf (setsAt bs fr k) fl = x) := by unfold Hid; rw [hDF, if_pos hge, if_pos hpk, List.getD_eq_getElem?_getD, hx]; rfl
                    rcases Row.owned_parts HI.out with ⟨_, h0, _⟩ | ⟨G, cp', hvG, hGb, hGl, hGc, hGm, hcl, -⟩
                    · omega
                    have hv5 := own_ty HI.out o5 (by decide)
                    cases hvG
                    have cG := hcl 0 (.int .i64 x) (by rw [List.getElem?_map, hx]; rfl)
                    have c0 := cell_of_heap (i := 0) o5 rfl
                    have c3 := cell_of_heap (i := 3) o5 rfl
                    have c2 := cell_of_heap (i := 2) o5 rfl
                    have f2 := free_of_heap (i := 2) o5
                    have hGT : G ≠ T := fun e => hv5 (by rw [← e]; rfl)
                    clear hcl hx hDF hv5
                    go_wp2_with (at_builtin; refine Row.fence ?_)
                    refine Row.unfence ?_
                    have o6 := heap_set (i := 2) o5 (.int .i64 x)
                    have HO5 := Bas.hid (Row.owned_keep HO4.out (w' := wr.setCell ⟨T, 2, none⟩ (.int .i64 x)) fun g' hg' => Below.heap_setCell _ _ _ _ (fun e => by have := HLT.out g' hg'; have e2 : g' = T := e; omega))
                    have HB5 := Bas.hid (HB4.out.setCell (p := ⟨T, 2, none⟩) hwT (.int .i64 x))
                    have hs5 : (wr.setCell ⟨T, 2, none⟩ (.int .i64 x)).heap.size = wr.heap.size := by simp
                    clear c0 c1 c2 c3 f2 o5
                    generalize wr.setCell ⟨T, 2, none⟩ (.int .i64 x) = W5 at *
                    have o5 : W5.heap[T]? = some (.cells #[.int .i64 ty, .bool true, .int .i64 x, .slice (some ⟨G, 0, none⟩) k cps] 76 (0, 0)) := o6
                    have k9 := Bas.heap_new W5 (.cells #[.int .i64 ty, .bool true, .int .i64 x, .slice (some ⟨G, 0, none⟩) k cps] 76)
                    have hb9 := (Below.refl W5.heap.size W5).alloc (Nat.le_refl _) (.cells #[.int .i64 ty, .bool true, .int .i64 x, .slice (some ⟨G, 0, none⟩) k cps] 76)
                    have HB9 := Bas.hid (HB5.out.trans (hb9.mono HB5.out.size))
                    have HO9 := Bas.hid (Row.owned_below HO5.out hb9)
                    generalize W5.alloc (.cells #[.int .i64 ty, .bool true, .int .i64 x, .slice (some ⟨G, 0, none⟩) k cps] 76) = W9 at *
                    rw [hs5] at k9
                    clear hb9
                    refine (Row.append_any rfl _ _ 37 76 rfl (.agg #[.int .i64 0, .bool false, .int .i64 0, .slice none 0 0]) 4 48 Try.underlying37 infoF8 rfl (by decide) w.heap.size (.slice ado 0 cpo) 0 _ rfl HO9.out (.slice (some ⟨wr.heap.size, 0, none⟩) 1 1) 1 [.int .i64 ty, .bool true, .int .i64 x, .slice (some ⟨G, 0, none⟩) k cps] rfl (leads_heap k9) rfl (by simp; exact ⟨rfl, rfl, rfl, rfl⟩) (by unfold maxLen; omega) (by omega) HB9.out.size ?_)
                    intro v10 w10 ho10 hg10 _
                    have HB10 := Bas.hid (HB9.out.grown hg10 HB9.out.size (fun g' hg' => (Row.own_block HO9.out hg').1))
                    have HO10 := Bas.hid ho10
                    clear ho10 hg10 k9
                    go_wp2_with (fail)
                    go_roundw
                    case rel => exact ⟨0 + 1, _, fs ++ [⟨ty, true, x, setsAt bs fr k⟩], ss ++ [.slice (some ⟨G, 0, none⟩) k cps], by omega, by go_num, rfl, by rw [List.length_append, HFL.out]; rfl, by
                      rw [HSUB.out, HSTEP.out, HPS.out, Option.bind_some, if_pos HR0.out, lastT_snoc, HDF.out]; simp [Option.map_map, Function.comp_def], ⟨by rw [List.length_append, List.length_append, HSS.out]; rfl, by
                      rw [List.length_append, HFL.out, List.zip_append HSS.out.symm, List.flatMap_append]; exact HO10.out⟩, HB10.out⟩
                    case measure => simp [intOf]; omega
                  · have s2 : decide (0 < (k : Int)) = false := by simp; omega
                    have HDF : Hid (dfltOf (setsAt bs fr k) fl = -1) := by unfold Hid; rw [hDF, if_pos hge, if_neg hpk]
                    clear hDF
                    have b0 := cell_of_heap (i := 0) o5 rfl
                    have b1 := cell_of_heap (i := 1) o5 rfl
                    have b2 := cell_of_heap (i := 2) o5 rfl
                    have b3 := cell_of_heap (i := 3) o5 rfl
                    go_wp2_with (at_builtin; refine Row.fence ?_)
                    refine Row.unfence ?_
                    clear b0 b1 b2 b3

                    have k9 := Bas.heap_new wr (.cells #[.int .i64 ty, .bool true, .int .i64 (-1), .slice ads k cps] 76)
                    have hb9 := (Below.refl wr.heap.size wr).alloc (Nat.le_refl _) (.cells #[.int .i64 ty, .bool true, .int .i64 (-1), .slice ads k cps] 76)
                    have HB9 := Bas.hid (HB4.out.trans (hb9.mono HB4.out.size))
                    have HO9 := Bas.hid (Row.owned_below HO4.out hb9)
                    generalize wr.alloc (.cells #[.int .i64 ty, .bool true, .int .i64 (-1), .slice ads k cps] 76) = W9 at *
                    clear hb9
                    refine (Row.append_any rfl _ _ 37 76 rfl (.agg #[.int .i64 0, .bool false, .int .i64 0, .slice none 0 0]) 4 48 Try.underlying37 infoF8 rfl (by decide) w.heap.size (.slice ado 0 cpo) 0 _ rfl HO9.out (.slice (some ⟨wr.heap.size, 0, none⟩) 1 1) 1 [.int .i64 ty, .bool true, .int .i64 (-1), .slice ads k cps] rfl (leads_heap k9) rfl (by simp; exact ⟨rfl, rfl, rfl, rfl⟩) (by unfold maxLen; omega) (by omega) HB9.out.size ?_)
                    intro v10 w10 ho10 hg10 _
                    have HB10 := Bas.hid (HB9.out.grown hg10 HB9.out.size (fun g' hg' => (Row.own_block HO9.out hg').1))
                    have HO10 := Bas.hid ho10
                    clear ho10 hg10 k9
                    go_wp2_with (fail)
                    go_roundw
                    case rel => exact ⟨0 + 1, _, fs ++ [⟨ty, true, (-1), setsAt bs fr k⟩], ss ++ [.slice ads k cps], by omega, by go_num, rfl, by rw [List.length_append, HFL.out]; rfl, by
                      rw [HSUB.out, HSTEP.out, HPS.out, Option.bind_some, if_pos HR0.out, lastT_snoc, HDF.out]; simp [Option.map_map, Function.comp_def], ⟨by rw [List.length_append, List.length_append, HSS.out]; rfl, by
                      rw [List.length_append, HFL.out, List.zip_append HSS.out.symm, List.flatMap_append]; exact HO10.out⟩, HB10.out⟩
                    case measure => simp [intOf]; omega
        · obtain ⟨j, hj⟩ : ∃ j, i = j + 1 := ⟨i - 1, by omega⟩
          have hjl : j < fs.length := by rw [HFL.out]; omega
          obtain ⟨f, hf⟩ : ∃ f, fs[j]? = some f := ⟨_, List.getElem?_eq_getElem hjl⟩
          obtain ⟨s, hs⟩ : ∃ s, ss[j]? = some s := ⟨_, List.getElem?_eq_getElem (by rw [HSS.out]; exact hjl)⟩
          have hz : (fs.zip ss)[j]? = some (f, s) := List.getElem?_zip_eq_some.2 ⟨hf, hs⟩
          have hlast : lastT fs = some f.type := by
            unfold lastT
            rw [List.getLast?_eq_getElem?, show fs.length - 1 = j by rw [HFL.out]; omega, hf]; rfl
          obtain ⟨B1, O1, cp1, hv1, hcl⟩ := Row.leads_elem fC_len (Row.leads_owned HO2.out) hz (by omega)
          cases hv1
          have d0 := hcl 0 _ rfl
          simp only [Nat.add_zero] at d0
          have lB : B1 < W2.heap.size := World.block_lt_of_cell? _ _ d0
          have z1 : decide ((i : Int) > 0) = true := by simp; omega
          have z2 : decide ((0 : Int) < (i : Int)) = true := by simp; omega
          have z3 : (i : Int) - 1 = (j : Int) := by omega
          obtain ⟨pt, hpt⟩ : ∃ pt, f.type = pt := ⟨_, rfl⟩
          rw [hpt] at d0 hlast
          clear hcl hz hf hs hpt hjl hj
          by_cases hrs : pt < ty
          · have HR0 : Hid (risesB (lastT fs) ty = true) := by unfold Hid; rw [hlast]; exact decide_eq_true hrs
            have y1 : decide (ty ≤ pt) = false := by simp; omega
            clear hlast
            go_wp2_with (fail)
            refine' Pl.region_v0 118 [] [0, 1, 2, 3, 4, 5, 6, 7, 8, 9, 10, 11, 12, 13, 14, 15, 16, 17, 18, 19, 20] [] _ (by kernel_rfl) (by kernel_rfl) (by simp) (fun _ _ _ _ e h => ⟨e ▸ h.1, h.2⟩) ?_ ?_
            rotate_left
            · intro I F hI hF
              simp only [Pl.selN, List.nil_append, List.drop_succ_cons, List.drop_zero]
              have x0 := fun q => hF.cell lT (cell_of_heap (i := 0) kT rfl) q
              have d0q := fun q => hF.cell lB d0 q
              repeat (go_big_quiet_step ((go_at_call 32; with_reducible exact hF.same (HR.out _))))
              refine wpQuiet_nil ?_
              rfl
            intro w3 hw3
            simp only [Pl.selN]
            have kT3 := (hw3.block _ lT).trans kT
            have HB3 := Bas.hid (HB2.out.trans (hw3.mono HB2.out.size))
            have HO3 := Bas.hid (Row.owned_below HO2.out hw3)
            have lT3 := heap_lt kT3
            clear kT lT HR HO2 HB2
            go_wp2_with (fail)
            go_loopw [12] (fun vk wi => ∃ (k : Nat) (vs : Value), k ≤ m ∧ vk = .int .i64 k ∧ wi.ownsRow w.heap.size 3 1 vs k ((setsAt bs fr k).map (Value.int .i64)) ∧ wi.heap[T]? = some (.cells #[.int .i64 ty, .bool ex, .int .i64 (-1), vs] 76 (0, 0)) ∧
              wi.ownsRow w.heap.size 76 4 (.slice (some ⟨B1, O1, none⟩) i cpo) i ((fs.zip ss).flatMap fC) ∧ Below w.heap.size w wi) (fun vk _ => m - (intOf vk).toNat)
            case atStart => exact ⟨0, _, Nat.zero_le _, rfl, Row.owned_nil _ _ _ _, kT3, HO3.out, HB3.out⟩
            case round =>
              obtain ⟨k, vs, hk, rfl, hrow4, o5, hown4, hb4⟩ := hrel
              obtain ⟨ads, cps, rfl⟩ := own_slice hrow4
              have HI := Bas.hid hrow4
              have HO4 := Bas.hid hown4
              have HB4 := Bas.hid hb4
              clear hrow4 hown4 hb4 kT3 HO3 HB3 lT3
              by_cases hkm : k < m
              · have e4 : decide ((k : Int) < (m : Int)) = true := by simp; omega
                have A5 := HU.out (fr + 4 * k) 2 (by omega) ((fr : Int) + 4 * (k : Int)) 2 (by omega) rfl (by omega)
                have HS := Bas.hid (setsAt_succ bs fr k)
                generalize be bs (fr + 4 * k) 2 = x at *
                have HA5 := Bas.hid A5
                clear A5
                go_wp2_with (fail)
                refine' Pl.region_v1 118 [] [0, 1, 2, 3, 4, 5, 6, 7] 8 91 [9, 10, 11] _ (fun v u' => ∃ g, v = .slice (some ⟨g, 0, none⟩) 1 1 ∧ wr.heap.size ≤ g ∧ u'.heap[g]? = some (.cells #[.int .i64 x] 3 (0, 0))) (by kernel_rfl) (by kernel_rfl) (by simp) (fun _ _ _ _ e h => ⟨e ▸ h.1, h.2⟩) ?_ ?_ ?_ ?_
                rotate_left
                · intro I F hI hF
                  simp only [Pl.selN, List.nil_append, List.drop_succ_cons, List.drop_zero]
                  have x1 := fun q => hF.cell (heap_lt o5) (cell_of_heap (i := 3) (v := .slice ads k cps) o5 rfl) q
                  repeat (go_big_quiet_step ((go_at_call 31; with_reducible exact hF.same (HA5.out _ (hF.on HB4.out _)))))
                  refine wpQuiet_nil ?_
                  rfl
                · rintro v x x' ⟨g, h1, h2, h3⟩ hx hx'
                  exact ⟨g, h1, h2, (hx'.block g (heap_lt h3)).trans h3⟩
                · simp only [Pl.selN, List.drop_succ_cons, List.drop_zero, List.mem_singleton, forall_eq]
                  intro u' hu
                  go_simp
                  simp only [Pl.valsAt]
                  exact ⟨(Below.refl _ _).alloc (Nat.le_refl _) _, _, rfl, hu.size, Bas.heap_new _ _⟩
                · intro v u3 hu hv
                  obtain ⟨g, rfl, hg, hgc⟩ := hv
                  simp only [Pl.selN, List.drop_succ_cons, List.drop_zero, Act.put, List.setIfInBounds_toArray, List.set_cons_zero, List.set_cons_succ]
                  have u5 := (hu.block _ (heap_lt o5)).trans o5
                  have HIu := Bas.hid (Row.owned_below HI.out hu)
                  have HOu := Bas.hid (Row.owned_below HO4.out hu)
                  have HBu := Bas.hid (HB4.out.trans (hu.mono HB4.out.size))
                  have hv5 := own_ty HIu.out u5 (by decide)
                  clear o5 hu HI HO4 HB4
                  refine (Row.append_any rfl _ _ 74 3 rfl (.int .i64 0) 1 8 Try.underlying74 infoI8 rfl (by decide) w.heap.size (.slice ads k cps) k _ rfl HIu.out (.slice (some ⟨g, 0, none⟩) 1 1) 1 [.int .i64 x] rfl (leads_heap hgc) rfl (by simp; rfl) (by unfold maxLen; omega) (by omega) HBu.out.size ?_)
                  intro v' w9 hown9 hg9 _
                  obtain ⟨ad9, cp9, rfl⟩ := own_slice hown9
                  have z5 := (hg9.block _ (heap_lt u5) (fun e => hv5 e.symm)).trans u5
                  have HO9 := Bas.hid (Row.owned_keep HOu.out fun g' hg' => hg9.block g' (Row.own_block HOu.out hg').2 (fun e => own_rows_ne HOu.out HIu.out (by decide) hg' e.symm))
                  have HI9 : Hid (w9.ownsRow w.heap.size 3 1 (.slice ad9 (k + 1) cp9) (k + 1) ((setsAt bs fr (k + 1)).map (Value.int .i64))) := by
                    unfold Hid; rw [HS.out, List.map_append]; exact hown9
                  have HB9 := Bas.hid (HBu.out.grown hg9 HBu.out.size (fun g' hg' => (Row.own_block HIu.out hg').1))
                  have zc := cell_of_heap (i := 3) z5 rfl
                  have zf := free_of_heap (i := 3) z5
                  clear hown9 hg9 u5 hgc HIu HOu HBu
                  go_wp2_with (fail)
                  have y5 := heap_set (i := 3) z5 (.slice ad9 (k + 1) cp9)
                  have HI10 := Bas.hid (Row.owned_keep HI9.out (w' := w9.setCell ⟨T, 3, none⟩ (.slice ad9 (k + 1) cp9)) fun g' hg' => Below.heap_setCell _ _ _ _ (fun e => own_ty HI9.out z5 (by decide) (by rw [hg', e])))
                  have HO10 := Bas.hid (Row.owned_keep HO9.out (w' := w9.setCell ⟨T, 3, none⟩ (.slice ad9 (k + 1) cp9)) fun g' hg' => Below.heap_setCell _ _ _ _ (fun e => by have := HLT.out g' hg'; have e2 : g' = T := e; omega))
                  have HB10 := Bas.hid (HB9.out.setCell (p := ⟨T, 3, none⟩) hwT (.slice ad9 (k + 1) cp9))
                  generalize w9.setCell ⟨T, 3, none⟩ (.slice ad9 (k + 1) cp9) = W10 at *
                  go_wp2_with (fail)
                  go_roundw
                  case rel => first | exact ⟨k + 1, _, by omega, by go_num, HI10.out, y5, HO10.out, HB10.out⟩ | ((repeat apply Exists.intro); exact ⟨⟨k + 1, _, by omega, by go_num, HI10.out, y5, HO10.out, HB10.out⟩, rfl⟩)
                  case measure => simp [intOf]; omega
              · have hkm2 : k = m := by omega
                subst hkm2
                have e4 : decide ((k : Int) < (k : Int)) = false := by simp
                have HEX := Bas.hid hex
                have c1 := cell_of_heap (i := 1) o5 rfl
                clear hkm
                obtain ⟨p, hp⟩ : ∃ p : Nat, p = firstOf fl := ⟨_, rfl⟩
                have hDF : dfltOf (setsAt bs fr k) fl = if fl ≥ 32768 then (if p < k then (setsAt bs fr k).getD p 0 else -1) else -1 := by
                  unfold dfltOf
                  rw [setsAt_len, hp]
                have hm0 : 0 ≤ fl % 256 := by omega
                have hm1 : fl % 256 ≤ 255 := by omega
                have hd0 : 0 ≤ fl / 16384 := by omega
                have hd1 : fl / 16384 ≤ 3 := by omega
                have hd2 : 0 ≤ fl / 16384 % 2 := by omega
                have hd3 : fl / 16384 % 2 ≤ 1 := by omega
                have HHP := Bas.hid hp
                clear hp
                by_cases hsec : fl / 16384 % 2 = 1
                · have s1 : (fl / 16384 % 2 == 1) = true := by simpa using hsec
                  have hpv : fl % 256 = (p : Int) := by rw [HHP.out]; unfold firstOf; rw [if_pos hsec]; omega
                  clear hsec
                  cases ex with
                  | false =>
                    have hge : ¬ fl ≥ 32768 := by simpa using HEX.out
                    have HDF : Hid (dfltOf (setsAt bs fr k) fl = -1) := by unfold Hid; rw [hDF, if_neg hge]
                    clear hDF
                    have b0 := cell_of_heap (i := 0) o5 rfl
                    have b1 := cell_of_heap (i := 1) o5 rfl
                    have b2 := cell_of_heap (i := 2) o5 rfl
                    have b3 := cell_of_heap (i := 3) o5 rfl
                    go_wp2_with (at_builtin; refine Row.fence ?_)
                    refine Row.unfence ?_
                    clear b0 b1 b2 b3

                    have k9 := Bas.heap_new wr (.cells #[.int .i64 ty, .bool false, .int .i64 (-1), .slice ads k cps] 76)
                    have hb9 := (Below.refl wr.heap.size wr).alloc (Nat.le_refl _) (.cells #[.int .i64 ty, .bool false, .int .i64 (-1), .slice ads k cps] 76)
                    have HB9 := Bas.hid (HB4.out.trans (hb9.mono HB4.out.size))
                    have HO9 := Bas.hid (Row.owned_below HO4.out hb9)
                    generalize wr.alloc (.cells #[.int .i64 ty, .bool false, .int .i64 (-1), .slice ads k cps] 76) = W9 at *
                    clear hb9
                    refine (Row.append_any rfl _ _ 37 76 rfl (.agg #[.int .i64 0, .bool false, .int .i64 0, .slice none 0 0]) 4 48 Try.underlying37 infoF8 rfl (by decide) w.heap.size (.slice (some ⟨B1, O1, none⟩) i cpo) i _ rfl HO9.out (.slice (some ⟨wr.heap.size, 0, none⟩) 1 1) 1 [.int .i64 ty, .bool false, .int .i64 (-1), .slice ads k cps] rfl (leads_heap k9) rfl (by simp; exact ⟨rfl, rfl, rfl, rfl⟩) (by unfold maxLen; omega) (by omega) HB9.out.size ?_)
                    intro v10 w10 ho10 hg10 _
                    have HB10 := Bas.hid (HB9.out.grown hg10 HB9.out.size (fun g' hg' => (Row.own_block HO9.out hg').1))
                    have HO10 := Bas.hid ho10
                    clear ho10 hg10 k9
                    go_wp2_with (fail)
                    go_roundw
                    case rel => exact ⟨i + 1, _, fs ++ [⟨ty, false, (-1), setsAt bs fr k⟩], ss ++ [.slice ads k cps], by omega, by go_num, rfl, by rw [List.length_append, HFL.out]; rfl, by
                      rw [HSUB.out, HSTEP.out, HPS.out, Option.bind_some, if_pos HR0.out, lastT_snoc, HDF.out]; simp [Option.map_map, Function.comp_def], ⟨by rw [List.length_append, List.length_append, HSS.out]; rfl, by
                      rw [List.length_append, HFL.out, List.zip_append HSS.out.symm, List.flatMap_append]; exact HO10.out⟩, HB10.out⟩
                    case measure => simp [intOf]; omega
                  | true =>
                    have hge : fl ≥ 32768 := by simpa using HEX.out
                    by_cases hpk : p < k
                    · have s2 : decide ((p : Int) < (k : Int)) = true := by simp; omega
                      obtain ⟨x, hx⟩ : ∃ x, (setsAt bs fr k)[p]? = some x := ⟨_, List.getElem?_eq_getElem (by rw [setsAt_len]; exact hpk)⟩
                      have HDF : Hid (dfltOf (setsAt bs fr k) fl = x) := by unfold Hid; rw [hDF, if_pos hge, if_pos hpk, List.getD_eq_getElem?_getD, hx]; rfl
                      rcases Row.owned_parts HI.out with ⟨_, h0, _⟩ | ⟨G, cp', hvG, hGb, hGl, hGc, hGm, hcl, -⟩
                      · omega
                      have hv5 := own_ty HI.out o5 (by decide)
                      cases hvG
                      have cG := hcl p (.int .i64 x) (by rw [List.getElem?_map, hx]; rfl)
                      have c0 := cell_of_heap (i := 0) o5 rfl
                      have c3 := cell_of_heap (i := 3) o5 rfl
                      have c2 := cell_of_heap (i := 2) o5 rfl
                      have f2 := free_of_heap (i := 2) o5
                      have hGT : G ≠ T := fun e => hv5 (by rw [← e]; rfl)
                      clear hcl hx hDF hv5
                      go_wp2_with (at_builtin; refine Row.fence ?_)
                      refine Row.unfence ?_
                      have o6 := heap_set (i := 2) o5 (.int .i64 x)
                      have HO5 := Bas.hid (Row.owned_keep HO4.out (w' := wr.setCell ⟨T, 2, none⟩ (.int .i64 x)) fun g' hg' => Below.heap_setCell _ _ _ _ (fun e => by have := HLT.out g' hg'; have e2 : g' = T := e; omega))
                      have HB5 := Bas.hid (HB4.out.setCell (p := ⟨T, 2, none⟩) hwT (.int .i64 x))
                      have hs5 : (wr.setCell ⟨T, 2, none⟩ (.int .i64 x)).heap.size = wr.heap.size := by simp
                      clear c0 c1 c2 c3 f2 o5
                      generalize wr.setCell ⟨T, 2, none⟩ (.int .i64 x) = W5 at *
                      have o5 : W5.heap[T]? = some (.cells #[.int .i64 ty, .bool true, .int .i64 x, .slice (some ⟨G, 0, none⟩) k cps] 76 (0, 0)) := o6
                      have k9 := Bas.heap_new W5 (.cells #[.int .i64 ty, .bool true, .int .i64 x, .slice (some ⟨G, 0, none⟩) k cps] 76)
                      have hb9 := (Below.refl W5.heap.size W5).alloc (Nat.le_refl _) (.cells #[.int .i64 ty, .bool true, .int .i64 x, .slice (some ⟨G, 0, none⟩) k cps] 76)
                      have HB9 := Bas.hid (HB5.out.trans (hb9.mono HB5.out.size))
                      have HO9 := Bas.hid (Row.owned_below HO5.out hb9)
                      generalize W5.alloc (.cells #[.int .i64 ty, .bool true, .int .i64 x, .slice (some ⟨G, 0, none⟩) k cps] 76) = W9 at *
                      rw [hs5] at k9
                      clear hb9
                      refine (Row.append_any rfl _ _ 37 76 rfl (.agg #[.int .i64 0, .bool false, .int .i64 0, .slice none 0 0]) 4 48 Try.underlying37 infoF8 rfl (by decide) w.heap.size (.slice (some ⟨B1, O1, none⟩) i cpo) i _ rfl HO9.out (.slice (some ⟨wr.heap.size, 0, none⟩) 1 1) 1 [.int .i64 ty, .bool true, .int .i64 x, .slice (some ⟨G, 0, none⟩) k cps] rfl (leads_heap k9) rfl (by simp; exact ⟨rfl, rfl, rfl, rfl⟩) (by unfold maxLen; omega) (by omega) HB9.out.size ?_)
                      intro v10 w10 ho10 hg10 _
                      have HB10 := Bas.hid (HB9.out.grown hg10 HB9.out.size (fun g' hg' => (Row.own_block HO9.out hg').1))
                      have HO10 := Bas.hid ho10
                      clear ho10 hg10 k9
                      go_wp2_with (fail)
                      go_roundw
                      case rel => exact ⟨i + 1, _, fs ++ [⟨ty, true, x, setsAt bs fr k⟩], ss ++ [.slice (some ⟨G, 0, none⟩) k cps], by omega, by go_num, rfl, by rw [List.length_append, HFL.out]; rfl, by
                        rw [HSUB.out, HSTEP.out, HPS.out, Option.bind_some, if_pos HR0.out, lastT_snoc, HDF.out]; simp [Option.map_map, Function.comp_def], ⟨by rw [List.length_append, List.length_append, HSS.out]; rfl, by
                        rw [List.length_append, HFL.out, List.zip_append HSS.out.symm, List.flatMap_append]; exact HO10.out⟩, HB10.out⟩
                      case measure => simp [intOf]; omega
                    · have s2 : decide ((p : Int) < (k : Int)) = false := by simp; omega
                      have HDF : Hid (dfltOf (setsAt bs fr k) fl = -1) := by unfold Hid; rw [hDF, if_pos hge, if_neg hpk]
                      clear hDF
                      have b0 := cell_of_heap (i := 0) o5 rfl
                      have b1 := cell_of_heap (i := 1) o5 rfl
                      have b2 := cell_of_heap (i := 2) o5 rfl
                      have b3 := cell_of_heap (i := 3) o5 rfl
                      go_wp2_with (at_builtin; refine Row.fence ?_)
                      refine Row.unfence ?_
                      clear b0 b1 b2 b3

                      have k9 := Bas.heap_new wr (.cells #[.int .i64 ty, .bool true, .int .i64 (-1), .slice ads k cps] 76)
                      have hb9 := (Below.refl wr.heap.size wr).alloc (Nat.le_refl _) (.cells #[.int .i64 ty, .bool true, .int .i64 (-1), .slice ads k cps] 76)
                      have HB9 := Bas.hid (HB4.out.trans (hb9.mono HB4.out.size))
                      have HO9 := Bas.hid (Row.owned_below HO4.out hb9)
                      generalize wr.alloc (.cells #[.int .i64 ty, .bool true, .int .i64 (-1), .slice ads k cps] 76) = W9 at *
                      clear hb9
                      refine (Row.append_any rfl _ _ 37 76 rfl (.agg #[.int .i64 0, .bool false, .int .i64 0, .slice none 0 0]) 4 48 Try.underlying37 infoF8 rfl (by decide) w.heap.size (.slice (some ⟨B1, O1, none⟩) i cpo) i _ rfl HO9.out (.slice (some ⟨wr.heap.size, 0, none⟩) 1 1) 1 [.int .i64 ty, .bool true, .int .i64 (-1), .slice ads k cps] rfl (leads_heap k9) rfl (by simp; exact ⟨rfl, rfl, rfl, rfl⟩) (by unfold maxLen; omega) (by omega) HB9.out.size ?_)
                      intro v10 w10 ho10 hg10 _
                      have HB10 := Bas.hid (HB9.out.grown hg10 HB9.out.size (fun g' hg' => (Row.own_block HO9.out hg').1))
                      have HO10 := Bas.hid ho10
                      clear ho10 hg10 k9
                      go_wp2_with (fail)
                      go_roundw
                      case rel => exact ⟨i + 1, _, fs ++ [⟨ty, true, (-1), setsAt bs fr k⟩], ss ++ [.slice ads k cps], by omega, by go_num, rfl, by rw [List.length_append, HFL.out]; rfl, by
                        rw [HSUB.out, HSTEP.out, HPS.out, Option.bind_some, if_pos HR0.out, lastT_snoc, HDF.out]; simp [Option.map_map, Function.comp_def], ⟨by rw [List.length_append, List.length_append, HSS.out]; rfl, by
                        rw [List.length_append, HFL.out, List.zip_append HSS.out.symm, List.flatMap_append]; exact HO10.out⟩, HB10.out⟩
                      case measure => simp [intOf]; omega
                · have s1 : (fl / 16384 % 2 == 1) = false := by simpa using hsec
                  have hpv : p = 0 := by rw [HHP.out]; unfold firstOf; rw [if_neg hsec]
                  subst hpv
                  clear hsec
                  cases ex with
                  | false =>
                    have hge : ¬ fl ≥ 32768 := by simpa using HEX.out
                    have HDF : Hid (dfltOf (setsAt bs fr k) fl = -1) := by unfold Hid; rw [hDF, if_neg hge]
                    clear hDF
                    have b0 := cell_of_heap (i := 0) o5 rfl
                    have b1 := cell_of_heap (i := 1) o5 rfl
                    have b2 := cell_of_heap (i := 2) o5 rfl
                    have b3 := cell_of_heap (i := 3) o5 rfl
                    go_wp2_with (at_builtin; refine Row.fence ?_)
                    refine Row.unfence ?_
                    clear b0 b1 b2 b3

                    have k9 := Bas.heap_new wr (.cells #[.int .i64 ty, .bool false, .int .i64 (-1), .slice ads k cps] 76)
                    have hb9 := (Below.refl wr.heap.size wr).alloc (Nat.le_refl _) (.cells #[.int .i64 ty, .bool false, .int .i64 (-1), .slice ads k cps] 76)
                    have HB9 := Bas.hid (HB4.out.trans (hb9.mono HB4.out.size))
                    have HO9 := Bas.hid (Row.owned_below HO4.out hb9)
                    generalize wr.alloc (.cells #[.int .i64 ty, .bool false, .int .i64 (-1), .slice ads k cps] 76) = W9 at *
                    clear hb9
                    refine (Row.append_any rfl _ _ 37 76 rfl (.agg #[.int .i64 0, .bool false, .int .i64 0, .slice none 0 0]) 4 48 Try.underlying37 infoF8 rfl (by decide) w.heap.size (.slice (some ⟨B1, O1, none⟩) i cpo) i _ rfl HO9.out (.slice (some ⟨wr.heap.size, 0, none⟩) 1 1) 1 [.int .i64 ty, .bool false, .int .i64 (-1), .slice ads k cps] rfl (leads_heap k9) rfl (by simp; exact ⟨rfl, rfl, rfl, rfl⟩) (by unfold maxLen; omega) (by omega) HB9.out.size ?_)
                    intro v10 w10 ho10 hg10 _
                    have HB10 := Bas.hid (HB9.out.grown hg10 HB9.out.size (fun g' hg' => (Row.own_block HO9.out hg').1))
                    have HO10 := Bas.hid ho10
                    clear ho10 hg10 k9
                    go_wp2_with (fail)
                    go_roundw
                    case rel => exact ⟨i + 1, _, fs ++ [⟨ty, false, (-1), setsAt bs fr k⟩], ss ++ [.slice ads k cps], by omega, by go_num, rfl, by rw [List.length_append, HFL.out]; rfl, by
                      rw [HSUB.out, HSTEP.out, HPS.out, Option.bind_some, if_pos HR0.out, lastT_snoc, HDF.out]; simp [Option.map_map, Function.comp_def], ⟨by rw [List.length_append, List.length_append, HSS.out]; rfl, by
                      rw [List.length_append, HFL.out, List.zip_append HSS.out.symm, List.flatMap_append]; exact HO10.out⟩, HB10.out⟩
                    case measure => simp [intOf]; omega
                  | true =>
                    have hge : fl ≥ 32768 := by simpa using HEX.out
                    by_cases hpk : 0 < k
                    · have s2 : decide (0 < (k : Int)) = true := by simp; omega
                      obtain ⟨x, hx⟩ : ∃ x, (setsAt bs fr k)[0]? = some x := ⟨_, List.getElem?_eq_getElem (by rw [setsAt_len]; exact hpk)⟩
                      have HDF : Hid (dfltOf (setsAt bs fr k) fl = x) := by unfold Hid; rw [hDF, if_pos hge, if_pos hpk, List.getD_eq_getElem?_getD, hx]; rfl
                      rcases Row.owned_parts HI.out with ⟨_, h0, _⟩ | ⟨G, cp', hvG, hGb, hGl, hGc, hGm, hcl, -⟩
                      · omega
                      have hv5 := own_ty HI.out o5 (by decide)
                      cases hvG
                      have cG := hcl 0 (.int .i64 x) (by rw [List.getElem?_map, hx]; rfl)
                      have c0 := cell_of_heap (i := 0) o5 rfl
                      have c3 := cell_of_heap (i := 3) o5 rfl
                      have c2 := cell_of_heap (i := 2) o5 rfl
                      have f2 := free_of_heap (i := 2) o5
                      have hGT : G ≠ T := fun e => hv5 (by rw [← e]; rfl)
                      clear hcl hx hDF hv5
                      go_wp2_with (at_builtin; refine Row.fence ?_)
                      refine Row.unfence ?_
                      have o6 := heap_set (i := 2) o5 (.int .i64 x)
                      have HO5 := Bas.hid (Row.owned_keep HO4.out (w' := wr.setCell ⟨T, 2, none⟩ (.int .i64 x)) fun g' hg' => Below.heap_setCell _ _ _ _ (fun e => by have := HLT.out g' hg'; have e2 : g' = T := e; omega))
                      have HB5 := Bas.hid (HB4.out.setCell (p := ⟨T, 2, none⟩) hwT (.int .i64 x))
                      have hs5 : (wr.setCell ⟨T, 2, none⟩ (.int .i64 x)).heap.size = wr.heap.size := by simp
                      clear c0 c1 c2 c3 f2 o5
                      generalize wr.setCell ⟨T, 2, none⟩ (.int .i64 x) = W5 at *
                      have o5 : W5.heap[T]? = some (.cells #[.int .i64 ty, .bool true, .int .i64 x, .slice (some ⟨G, 0, none⟩) k cps] 76 (0, 0)) := o6
                      have k9 := Bas.heap_new W5 (.cells #[.int .i64 ty, .bool true, .int .i64 x, .slice (some ⟨G, 0, none⟩) k cps] 76)
                      have hb9 := (Below.refl W5.heap.size W5).alloc (Nat.le_refl _) (.cells #[.int .i64 ty, .bool true, .int .i64 x, .slice (some ⟨G, 0, none⟩) k cps] 76)
                      have HB9 := Bas.hid (HB5.out.trans (hb9.mono HB5.out.size))
                      have HO9 := Bas.hid (Row.owned_below HO5.out hb9)
                      generalize W5.alloc (.cells #[.int .i64 ty, .bool true, .int .i64 x, .slice (some ⟨G, 0, none⟩) k cps] 76) = W9 at *
                      rw [hs5] at k9
                      clear hb9
                      refine (Row.append_any rfl _ _ 37 76 rfl (.agg #[.int .i64 0, .bool false, .int .i64 0, .slice none 0 0]) 4 48 Try.underlying37 infoF8 rfl (by decide) w.heap.size (.slice (some ⟨B1, O1, none⟩) i cpo) i _ rfl HO9.out (.slice (some ⟨wr.heap.size, 0, none⟩) 1 1) 1 [.int .i64 ty, .bool true, .int .i64 x, .slice (some ⟨G, 0, none⟩) k cps] rfl (leads_heap k9) rfl (by simp; exact ⟨rfl, rfl, rfl, rfl⟩) (by unfold maxLen; omega) (by omega) HB9.out.size ?_)
                      intro v10 w10 ho10 hg10 _
                      have HB10 := Bas.hid (HB9.out.grown hg10 HB9.out.size (fun g' hg' => (Row.own_block HO9.out hg').1))
                      have HO10 := Bas.hid ho10
                      clear ho10 hg10 k9
                      go_wp2_with (fail)
                      go_roundw
                      case rel => exact ⟨i + 1, _, fs ++ [⟨ty, true, x, setsAt bs fr k⟩], ss ++ [.slice (some ⟨G, 0, none⟩) k cps], by omega, by go_num, rfl, by rw [List.length_append, HFL.out]; rfl, by
                        rw [HSUB.out, HSTEP.out, HPS.out, Option.bind_some, if_pos HR0.out, lastT_snoc, HDF.out]; simp [Option.map_map, Function.comp_def], ⟨by rw [List.length_append, List.length_append, HSS.out]; rfl, by
                        rw [List.length_append, HFL.out, List.zip_append HSS.out.symm, List.flatMap_append]; exact HO10.out⟩, HB10.out⟩
                      case measure => simp [intOf]; omega
                    · have s2 : decide (0 < (k : Int)) = false := by simp; omega
                      have HDF : Hid (dfltOf (setsAt bs fr k) fl = -1) := by unfold Hid; rw [hDF, if_pos hge, if_neg hpk]
                      clear hDF
                      have b0 := cell_of_heap (i := 0) o5 rfl
                      have b1 := cell_of_heap (i := 1) o5 rfl
                      have b2 := cell_of_heap (i := 2) o5 rfl
                      have b3 := cell_of_heap (i := 3) o5 rfl
                      go_wp2_with (at_builtin; refine Row.fence ?_)
                      refine Row.unfence ?_
                      clear b0 b1 b2 b3

                      have k9 := Bas.heap_new wr (.cells #[.int .i64 ty, .bool true, .int .i64 (-1), .slice ads k cps] 76)
                      have hb9 := (Below.refl wr.heap.size wr).alloc (Nat.le_refl _) (.cells #[.int .i64 ty, .bool true, .int .i64 (-1), .slice ads k cps] 76)
                      have HB9 := Bas.hid (HB4.out.trans (hb9.mono HB4.out.size))
                      have HO9 := Bas.hid (Row.owned_below HO4.out hb9)
                      generalize wr.alloc (.cells #[.int .i64 ty, .bool true, .int .i64 (-1), .slice ads k cps] 76) = W9 at *
                      clear hb9
                      refine (Row.append_any rfl _ _ 37 76 rfl (.agg #[.int .i64 0, .bool false, .int .i64 0, .slice none 0 0]) 4 48 Try.underlying37 infoF8 rfl (by decide) w.heap.size (.slice (some ⟨B1, O1, none⟩) i cpo) i _ rfl HO9.out (.slice (some ⟨wr.heap.size, 0, none⟩) 1 1) 1 [.int .i64 ty, .bool true, .int .i64 (-1), .slice ads k cps] rfl (leads_heap k9) rfl (by simp; exact ⟨rfl, rfl, rfl, rfl⟩) (by unfold maxLen; omega) (by omega) HB9.out.size ?_)
                      intro v10 w10 ho10 hg10 _
                      have HB10 := Bas.hid (HB9.out.grown hg10 HB9.out.size (fun g' hg' => (Row.own_block HO9.out hg').1))
                      have HO10 := Bas.hid ho10
                      clear ho10 hg10 k9
                      go_wp2_with (fail)
                      go_roundw
                      case rel => exact ⟨i + 1, _, fs ++ [⟨ty, true, (-1), setsAt bs fr k⟩], ss ++ [.slice ads k cps], by omega, by go_num, rfl, by rw [List.length_append, HFL.out]; rfl, by
                        rw [HSUB.out, HSTEP.out, HPS.out, Option.bind_some, if_pos HR0.out, lastT_snoc, HDF.out]; simp [Option.map_map, Function.comp_def], ⟨by rw [List.length_append, List.length_append, HSS.out]; rfl, by
                        rw [List.length_append, HFL.out, List.zip_append HSS.out.symm, List.flatMap_append]; exact HO10.out⟩, HB10.out⟩
                      case measure => simp [intOf]; omega
          · have HNO : Hid (parseFs bs = none) := by
              unfold Hid
              have hr0 : risesB (lastT fs) ty = false := by rw [hlast]; exact decide_eq_false hrs
              rw [HPA.out, HSUB.out, HSTEP.out, HPS.out, Option.bind_some, hr0]
              rfl
            have y1 : decide (ty ≤ pt) = true := by simp; omega
            clear hlast
            go_wp2_with (fail)
            refine' Pl.region_v0 118 [] [0, 1, 2, 3, 4, 5, 6, 7, 8, 9, 10, 11, 12, 13, 14, 15, 16, 17, 18, 19, 20] [] _ (by kernel_rfl) (by kernel_rfl) (by simp) (fun _ _ _ _ e h => ⟨e ▸ h.1, h.2⟩) ?_ ?_
            rotate_left
            · intro I F hI hF
              simp only [Pl.selN, List.nil_append, List.drop_succ_cons, List.drop_zero]
              have x0 := fun q => hF.cell lT (cell_of_heap (i := 0) kT rfl) q
              have d0q := fun q => hF.cell lB d0 q
              repeat (go_big_quiet_step ((go_at_call 32; with_reducible exact hF.same (HR.out _))))
              refine wpQuiet_nil ?_
              rfl
            intro w3 hw3
            simp only [Pl.selN]
            have kT3 := (hw3.block _ lT).trans kT
            have HB3 := Bas.hid (HB2.out.trans (hw3.mono HB2.out.size))
            have HO3 := Bas.hid (Row.owned_below HO2.out hw3)
            have lT3 := heap_lt kT3
            go_wp2_with (fail)
            exact bodyPost_ret (v := .tuple #[.slice none 0 0, .bool false]) (by simp [results, Try.results12, go_sem]) rfl ⟨HB3.out, by rw [HNO.out]⟩
      · have hrB2 : ¬ rowsB len fr m 4 := by
          rintro ⟨h1, h2, h3, h4, h5⟩
          exact hrc (by omega)
        have HR := Bas.hid (fun w' => rows_no len fr m 4 w' (by omega) (by omega) (by omega) hrB2)
        have HNO : Hid (parseFs bs = none) := by
          unfold Hid
          rw [HPA.out, HSUB.out, HSTEP.out, HPF.out, if_neg hrc]
          rfl
        clear hrB2 HPF
        go_wp2_with (fail)
        refine' Pl.region_v0 118 [] [0, 1, 2, 3, 4, 5, 6, 7, 8, 9, 10, 11, 12, 13, 14, 15, 16, 17, 18, 19, 20] [] _ (by kernel_rfl) (by kernel_rfl) (by simp) (fun _ _ _ _ e h => ⟨e ▸ h.1, h.2⟩) ?_ ?_
        rotate_left
        · intro I F hI hF
          simp only [Pl.selN, List.nil_append, List.drop_succ_cons, List.drop_zero]
          have x0 := fun q => hF.cell lT (cell_of_heap (i := 0) kT rfl) q
          repeat (go_big_quiet_step ((go_at_call 32; with_reducible exact hF.same (HR.out _))))
          refine wpQuiet_nil ?_
          rfl
        intro w3 hw3
        simp only [Pl.selN]
        have kT3 := (hw3.block _ lT).trans kT
        have HB3 := Bas.hid (HB2.out.trans (hw3.mono HB2.out.size))
        have HO3 := Bas.hid (Row.owned_below HO2.out hw3)
        have lT3 := heap_lt kT3
        go_wp2_with (fail)
        exact bodyPost_ret (v := .tuple #[.slice none 0 0, .bool false]) (by simp [results, Try.results12, go_sem]) rfl ⟨HB3.out, by rw [HNO.out]⟩
    · have hin2 : i = n := by omega
      have hdone : parseFs bs = some fs := by
        rw [HPA.out, HSUB.out, hin2, Nat.sub_self, featsAt]; simp
      have HD := Bas.hid hdone
      have e1 : decide ((i : Int) < (n : Int)) = false := by simp; omega
      clear hdone
      go_wp2_with (fail)
      refine bodyPost_ret (v := .tuple #[.slice ado i cpo, .bool true]) (by simp [results, Try.results12, go_sem]) rfl ⟨HB.out, ?_⟩
      rw [HD.out]
      exact ⟨_, ss, rfl, HSS.out, by rw [HFL.out]; exact HO.out⟩

theorem fref_any (a : Option Addr) (len cap : Nat) (bs : List Int) (w : World) (hlm : len ≤ 1000000000) (hv : VB w a bs) (hbl : bs.length = len) :
    Calls Try.prog 12 #[.slice a len cap] w (FRefP w bs) := by
  by_cases h : 12 ≤ len ∧ be bs 0 4 = 65536 ∧ 12 + 12 * (be bs 4 2).toNat ≤ len
  · have h2 := be2_bd bs hv.byte 4 (by omega)
    exact fref_main a len cap bs (be bs 4 2).toNat w hlm hv hbl h.1 h.2.1 (by omega) h.2.2
  · exact fref_no a len cap bs w hlm hv hbl h
end Ft
end Go.Proofs.Ytdmhenlfhbigbaa
