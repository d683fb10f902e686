/- The law's own 'big' (layer 19). -/
import Derived.Test.YtgddghplhdmfdaaChainOpen
namespace Go.Proofs.Ytgddghplhdmfdaa
open Go.RowKit
namespace Ch
open Vw

/-- What 'big' answers. -/
def BigPost (w : World) (l : List WChain) (e : Ending) (w' : World) : Prop := ∃ b, e = .returned (.bool b) ∧ Below w.heap.size w w' ∧ (b = false → l.length ≤ 10 ∧ ∀ c ∈ l, szChain c)

set_option maxRecDepth 100000 in
set_option maxHeartbeats 8000000 in
theorem big_any (v : Value) (l : List WChain) (w : World) (hin : WChains0 w v l) :
    Calls Try.prog 15 #[v] w (BigPost w l) := by
  obtain ⟨rs, hrl, hlead, hel⟩ := hin
  obtain ⟨ad, cap, rfl⟩ := Row.leads_slice hlead
  obtain ⟨n, hn⟩ : ∃ n, n = l.length := ⟨_, rfl⟩
  rw [← hn]
  have HN := Bas.hid hn
  have HEL := Bas.hid hel
  have HLD := Bas.hid hlead
  have HRL := Bas.hid hrl
  clear hrl hlead hel hn
  by_cases hbig : 10 < n
  · go_enter Try.func15, Try.ntmps15
    go_wp2_with (fail)
    go_ret
    exact ⟨_, rfl, Below.refl _ _, fun h => by cases h⟩
  · have e0 : decide ((10 : Int) < (n : Int)) = false := by simp; omega
    go_enter Try.func15, Try.ntmps15
    go_wp2_with (fail)
    go_loopw [4, 6, 12] (fun _ _ vi wr => ∃ k : Nat, k ≤ n ∧ vi = .int .i64 k ∧ (∀ c ∈ l.take k, szChain c) ∧ Below w.heap.size w wr) (fun _ _ vi _ => n - (intOf vi).toNat)
    case atStart => exact ⟨0, Nat.zero_le _, rfl, fun c hc => by simp at hc, Below.refl _ _⟩
    case round =>
      obtain ⟨k, hk, rfl, hsz, hb⟩ := hrel
      have HB := Bas.hid hb
      have HSZ := Bas.hid hsz
      by_cases hkn : k < n
      · have hlen := HN.out
        obtain ⟨c, hc⟩ : ∃ c, l[k]? = some c := ⟨_, List.getElem?_eq_getElem (by omega)⟩
        obtain ⟨r, hr⟩ : ∃ r, rs[k]? = some r := ⟨_, List.getElem?_eq_getElem (by rw [HRL.out]; omega)⟩
        obtain ⟨hru, hsu⟩ := HEL.out k c r hc hr
        have hz : (l.zip rs)[k]? = some (c, r) := List.getElem?_zip_eq_some.2 ⟨hc, hr⟩
        obtain ⟨B0, O0, cp0, hv0, hcl⟩ := Row.leads_elem wChainC_len HLD.out hz (by omega)
        obtain ⟨vr, vs⟩ := r
        obtain ⟨ds, hdl, hsl, hsd⟩ := hsu
        obtain ⟨ar, cr, rfl⟩ := Row.leads_slice hru
        obtain ⟨as', cs', rfl⟩ := Row.leads_slice hsl
        cases hv0
        have q0 := (hb.cell (p := ⟨B0, O0 + k * 4, none⟩) (World.block_lt_of_cell? _ _ (hcl 0 _ rfl))).trans (hcl 0 _ rfl)
        have q1 := (hb.cell (p := ⟨B0, O0 + k * 4 + 1, none⟩) (World.block_lt_of_cell? _ _ (hcl 1 _ rfl))).trans (hcl 1 _ rfl)
        have q2 := (hb.cell (p := ⟨B0, O0 + k * 4 + 2, none⟩) (World.block_lt_of_cell? _ _ (hcl 2 _ rfl))).trans (hcl 2 _ rfl)
        have q3 := (hb.cell (p := ⟨B0, O0 + k * 4 + 3, none⟩) (World.block_lt_of_cell? _ _ (hcl 3 _ rfl))).trans (hcl 3 _ rfl)
        have HSL := Bas.hid hsl
        have HSD := Bas.hid hsd
        have HDL := Bas.hid hdl
        have HCK := Bas.hid hc
        obtain ⟨nr, hnr⟩ : ∃ nr, nr = c.rules.length := ⟨_, rfl⟩
        obtain ⟨ns, hns⟩ : ∃ ns, ns = c.subs.length := ⟨_, rfl⟩
        simp only [← hnr, ← hns] at q0 q1 q2 q3 HSL
        have HNR := Bas.hid hnr
        have HNS := Bas.hid hns
        clear hcl hru hsl hsd hdl hb hr hnr hns hlen hc hsz
        have HB1 := Bas.hid (HB.out.trans (((Below.refl wr.heap.size wr).alloc (Nat.le_refl _) (.cells #[.int .u32 c.first, .slice ar nr cr, .slice as' ns cs', .int .u8 c.more] 42)).mono HB.out.size))
        have k5 := Bas.heap_new wr (.cells #[.int .u32 c.first, .slice ar nr cr, .slice as' ns cs', .int .u8 c.more] 42)
        by_cases g1 : 40 < nr
        · have d1 : decide ((40 : Int) < (nr : Int)) = true := by simp; omega
          go_wp2_with (fail)
          go_ret
          exact ⟨_, rfl, HB1.out, fun h => by cases h⟩
        · have d1 : decide ((40 : Int) < (nr : Int)) = false := by simp; omega
          by_cases g2 : 10 < ns
          · have d2 : decide ((10 : Int) < (ns : Int)) = true := by simp; omega
            go_wp2_with (fail)
            go_ret
            exact ⟨_, rfl, HB1.out, fun h => by cases h⟩
          · have d2 : decide ((10 : Int) < (ns : Int)) = false := by simp; omega
            go_wp2_with (fail)
            generalize wr.alloc (.cells #[.int .u32 c.first, .slice ar nr cr, .slice as' ns cs', .int .u8 c.more] 42) = Wc at *
            generalize wr.heap.size = T5 at k5 ⊢
            clear q0 q1 q2 q3 HB
            go_loopw [6, 29] (fun _ vi wr => ∃ j : Nat, j ≤ ns ∧ vi = .int .i64 j ∧ (∀ s ∈ c.subs.take j, s.data.length ≤ 300) ∧ Below Wc.heap.size Wc wr) (fun _ vi _ => ns - (intOf vi).toNat)
            case atStart => exact ⟨0, Nat.zero_le _, rfl, fun c hc => by simp at hc, Below.refl _ _⟩
            case round =>
              obtain ⟨j, hj, rfl, hsj, hb⟩ := hrel
              have HBJ := Bas.hid hb
              have HSJ := Bas.hid hsj
              by_cases hjn : j < ns
              · have hlen := HNS.out
                obtain ⟨s, hs⟩ : ∃ s, c.subs[j]? = some s := ⟨_, List.getElem?_eq_getElem (by omega)⟩
                obtain ⟨d, hd⟩ : ∃ d, ds[j]? = some d := ⟨_, List.getElem?_eq_getElem (by rw [HDL.out]; omega)⟩
                have hz : (c.subs.zip ds)[j]? = some (s, d) := List.getElem?_zip_eq_some.2 ⟨hs, hd⟩
                obtain ⟨B1, O1, cp1, hv1, hcl⟩ := Row.leads_elem wSubC_len HSL.out hz (by omega)
                cases hv1
                obtain ⟨da, dcap, rfl⟩ := (HSD.out j s d hs hd).len
                have HBw := HB1.out.trans (hb.mono HB1.out.size)
                have q0 := (HBw.cell (p := ⟨B1, O1 + j * 3, none⟩) (World.block_lt_of_cell? _ _ (hcl 0 _ rfl))).trans (hcl 0 _ rfl)
                have q1 := (HBw.cell (p := ⟨B1, O1 + j * 3 + 1, none⟩) (World.block_lt_of_cell? _ _ (hcl 1 _ rfl))).trans (hcl 1 _ rfl)
                have q2 := (HBw.cell (p := ⟨B1, O1 + j * 3 + 2, none⟩) (World.block_lt_of_cell? _ _ (hcl 2 _ rfl))).trans (hcl 2 _ rfl)
                have HS := Bas.hid hs
                obtain ⟨m, hm⟩ : ∃ m, m = s.data.length := ⟨_, rfl⟩
                simp only [← hm] at q2
                have HM := Bas.hid hm
                have HBE := Bas.hid (hb.trans (((Below.refl wr.heap.size wr).alloc (Nat.le_refl _) (.cells #[.int .u32 s.cover, .int .u32 s.flags, .slice da m dcap] 52)).mono hb.size))
                have HBE1 := Bas.hid (HB1.out.trans (HBE.out.mono HB1.out.size))
                clear hcl HBw hs hd hz hlen hm hb hsj
                by_cases g3 : 300 < m
                · have d3 : decide ((300 : Int) < (m : Int)) = true := by simp; omega
                  go_wp2_with (fail)
                  exact bodyPost_ret (v := .bool true) (by simp [results, Try.results15, go_sem]) rfl ⟨_, rfl, HBE1.out, fun h => by cases h⟩
                · have d3 : decide ((300 : Int) < (m : Int)) = false := by simp; omega
                  go_wp2_with (fail)
                  go_roundw
                  case rel => exact ⟨j + 1, by omega, by go_num, fun y hy => by
                    rw [List.take_add_one, HS.out] at hy
                    rcases List.mem_append.1 hy with h | h
                    · exact HSJ.out y h
                    · simp at h; subst h; rw [← HM.out]; omega, HBE.out⟩
                  case measure => simp [intOf]; omega
              · have hjn2 : j = ns := by omega
                have hdone : ∀ s ∈ c.subs, s.data.length ≤ 300 := fun s hs => by
                  have h := HSJ.out s
                  rw [hjn2, HNS.out, List.take_length] at h
                  exact h hs
                have HD := Bas.hid hdone
                have HBE1 := Bas.hid (HB1.out.trans (HBJ.out.mono HB1.out.size))
                clear hb hsj hdone
                go_wp2_with (fail)
                go_roundw
                case rel => exact ⟨k + 1, by omega, by go_num, fun y hy => by
                  rw [List.take_add_one, HCK.out] at hy
                  rcases List.mem_append.1 hy with h | h
                  · exact HSZ.out y h
                  · simp at h; subst h; exact ⟨by rw [← HNR.out]; omega, by rw [← HNS.out]; omega, HD.out⟩, HBE1.out⟩
                case measure => simp [intOf]; omega
      · have hkn2 : k = n := by omega
        have hdone : ∀ c ∈ l, szChain c := fun c hc => by
          have h := HSZ.out c
          rw [hkn2, HN.out, List.take_length] at h
          exact h hc
        have HD := Bas.hid hdone
        clear hb hsz hdone
        go_wp2_with (fail)
        go_ret
        exact ⟨_, rfl, HB.out, fun _ => ⟨by have := HN.out; omega, HD.out⟩⟩
end Ch
end Go.Proofs.Ytgddghplhdmfdaa
