/- The walk of the law ChainCuts. -/
import Derived.Test.YtgddghplhdmfdaaChainSpeak
import Derived.Test.YtgddghplhdmfdaaChainBig
import Derived.Test.YtgddghplhdmfdaaChainBackL
namespace Go.Proofs.Ytgddghplhdmfdaa
open Go.RowKit Go.ChangeShapes Go.WideShapes
namespace Ch
open Vw Wr

theorem VB.take {w : World} {a : Option Addr} {bs : List Int} (h : VB w a bs) (m : Nat) : VB w a (bs.take m) :=
  ⟨by have := h.len; rw [List.length_take]; omega, fun x hx => h.byte x (List.mem_of_mem_take hx), fun i hi => by
    rw [List.length_take] at hi
    obtain ⟨b, o, h1, h2⟩ := h.cell i (by omega)
    refine ⟨b, o, h1, h2.trans ?_⟩
    rw [List.getD_eq_getElem?_getD, List.getD_eq_getElem?_getD, List.getElem?_take_of_lt (by omega)]⟩

/-- What Write's answer is, as a View's bytes. -/
theorem written {w : World} {base : Nat} {v : Value} {bs : List Int} (h : w.ownsRow base 5 1 v bs.length (bs.map (Value.int .u8))) (h0 : 0 < bs.length) (hb : ∀ x ∈ bs, 0 ≤ x ∧ x ≤ 255) (hl : bs.length ≤ 1000000000) :
    ∃ g cap, v = .slice (some ⟨g, 0, none⟩) bs.length cap ∧ bs.length ≤ cap ∧ cap ≤ maxLen ∧ VB w (some ⟨g, 0, none⟩) bs := by
  obtain ⟨g, cg, hv, _, _, hgc, hgm, hvg, _⟩ := owned h (fun e => by
    rcases Row.owned_parts h with ⟨_, h1, _⟩ | ⟨_, _, h1, _⟩
    · omega
    · rw [h1] at e; cases e) rfl hb (by omega)
  exact ⟨g, cg, hv, hgc, hgm, hvg⟩

set_option maxRecDepth 100000 in
set_option maxHeartbeats 8000000 in
theorem chainCuts_walk (v : Value) (l : List WChain) (cut : Int) (w : World) (hin : WChains0 w v l) (hrg : ∀ c ∈ l, rgChain c) (h0 : 0 ≤ cut) (h1 : cut ≤ 65535) :
    Calls Try.prog 3 #[v, .int .u16 cut] w fun e w' => e = .returned (.bool true) ∧ Below w.heap.size w w' := by
  have HIN : Hid (∀ w', Below w.heap.size w w' → WChains0 w' v l) := fun w' hb => by
    obtain ⟨rs, h1, h2, h3⟩ := hin
    refine ⟨rs, h1, Row.leads_below h2 hb, fun i c r hc hr => ?_⟩
    obtain ⟨h4, ds, h5, h6, h7⟩ := h3 i c r hc hr
    refine ⟨Row.leads_below h4 hb, ds, h5, Row.leads_below h6 hb, fun j s d hs hd => ?_⟩
    obtain ⟨a, len, cap, zs, e1, e2, e3⟩ := h7 j s d hs hd
    refine ⟨a, len, cap, zs, e1, ?_, e3⟩
    rcases e2 with e2 | ⟨x, hx, hl, hm, hz, hc, hw⟩
    · exact .inl e2
    · exact .inr ⟨x, hx, hl, hm, hz, fun i hi => (hb.cell (World.block_lt_of_cell? _ _ (hc i hi))).trans (hc i hi), hw⟩
  have HRG := Bas.hid hrg
  obtain ⟨rs, _, hlead, _⟩ := hin
  obtain ⟨ad, cp, rfl⟩ := Row.leads_slice hlead
  clear hlead hrg
  go_enter Try.func3, Try.ntmps3
  go_wp2_with (fail)
  refine (speaks_any _).mono ?_
  rintro e w1 ⟨rfl, hb1⟩
  have HB1 := Bas.hid hb1
  clear hb1
  go_wp2_with (fail)
  refine (big_any _ l w1 (HIN.out _ HB1.out)).mono ?_
  rintro e w2 ⟨b, rfl, hb2, hbig⟩
  have HB2 := Bas.hid (Bas.on HB1.out hb2)
  clear hb2
  cases b with
  | true =>
    clear hbig
    go_wp2_with (fail)
    go_ret
    exact ⟨rfl, HB2.out⟩
  | false =>
    obtain ⟨hl, hsz⟩ := hbig rfl
    have hok : ∀ c ∈ l, okChain c := fun c hc => ok_of c (HRG.out c hc) (hsz c hc)
    have HOK := Bas.hid hok
    have HW := Bas.hid (write_any _ l w2 hl hok ((HIN.out _ HB2.out).up hsz))
    clear hbig hsz hok
    go_wp2_with (fail)
    refine HW.out.mono ?_
    rintro e w3 ⟨v3, rfl, hown, hb3⟩
    obtain ⟨hw8, hwl⟩ := writeB_len_le l hl HOK.out
    obtain ⟨g, cg, rfl, hgc, hgm, hvg⟩ := written hown (by omega) (writeB_byte l HOK.out) (by omega)
    have HB3 := Bas.hid (Bas.on HB2.out hb3)
    have HVG := Bas.hid hvg
    obtain ⟨L, hL⟩ : ∃ L, L = (writeB l).length := ⟨_, rfl⟩
    have HL := Bas.hid hL
    rw [← hL] at hw8 hwl hgc
    rw [← hL]
    obtain ⟨q, hq⟩ : ∃ q : Nat, cut = (q : Int) := ⟨cut.toNat, by omega⟩
    subst hq
    obtain ⟨t, hmod, hlt⟩ : ∃ t : Nat, (q : Int) % (L : Int) = (t : Int) ∧ t < L := ⟨q % L, (Int.natCast_emod q L).symm, Nat.mod_lt _ (by omega)⟩
    clear hown hb3 hvg hL HW
    go_wp2_with (fail)
    have hm : ((writeB l).take (L - (1 + t))).length = L - (1 + t) := by rw [List.length_take, ← HL.out]; omega
    refine (chainRead_any (some ⟨g, 0, none⟩) (L - (1 + t)) cg _ w3 (by omega) hgm (VB.take HVG.out _) hm (by omega)).mono ?_
    rintro e w4 ⟨hb4, h⟩
    have hp : parseAll ((writeB l).take (L - (1 + t))) = none := all_cut l _ hl HOK.out (by rw [← HL.out]; omega)
    rw [hp] at h
    subst h
    have HB4 := Bas.hid (Bas.on HB3.out hb4)
    clear hb4 hp hm
    go_wp2_with (fail)
    go_ret
    exact ⟨rfl, HB4.out⟩

set_option maxRecDepth 100000 in
theorem chainCuts_law {H : Type} {enc : TypeId × Value → H} (v : Value) (d : DataW H) (p : List MemPlace) (cut : Int) (W : World) {base : Nat}
    (hv : Value.okWide Try.prog W .any base 22 v) (ht : DataW.Trod enc Try.prog W 0 (fun _ => true) true 22 v d p) (hc : (Lit.int .u16 cut).wf = true) :
    Calls Try.prog 3 #[v, .int .u16 cut] W fun e w' => e = .returned (.bool true) ∧ Below W.heap.size W w' := by
  obtain ⟨a, len, cap, rfl⟩ := okWide_slice Try.underlying22 hv
  obtain ⟨fuel, hf⟩ := ht
  obtain ⟨l, h1, h2⟩ := open_chains (v := .slice a len cap) hf
  obtain ⟨c0, c1⟩ := Bas.wf_u16 hc
  exact chainCuts_walk _ l cut W h1 h2 c0 c1
end Ch
end Go.Proofs.Ytgddghplhdmfdaa
