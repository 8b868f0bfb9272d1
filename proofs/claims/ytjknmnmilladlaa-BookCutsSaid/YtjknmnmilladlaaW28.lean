/-
  Walk: the book's Free.
-/
import Derived.Test.YtjknmnmilladlaaW15
import Derived.Test.YtjknmnmilladlaaW27
namespace Go.Proofs.Ytjknmnmilladlaa
open Go.RowKit

/-- Who goes, one behind the other. -/
inductive Drops (fr : List Step) (L : List Slot) : List Int → List Step → List Slot → Prop
  | nil : Drops fr L [] fr L
  | snoc {ids : List Int} {fr2 : List Step} {L2 : List Slot} {s : Slot} : Drops fr L ids fr2 L2 → s ∈ L2 → Drops fr L (ids ++ [s.id]) (addRes fr2 s.frm s.to s.nodes) (without L2 s.id)

theorem Drops.left {fr fr2 : List Step} {L L2 : List Slot} {ids : List Int} (h : Drops fr L ids fr2 L2) : ∀ s ∈ L, s.id ∉ ids → s ∈ L2 := by
  induction h with
  | nil => exact fun s hs _ => hs
  | @snoc ids fr2 L2 s _ _ ih =>
    intro x hx hn
    rw [List.mem_append] at hn
    have h1 := ih x hx (fun h => hn (.inl h))
    unfold without
    rw [List.mem_filter]
    refine ⟨h1, ?_⟩
    have : x.id ≠ s.id := fun e => hn (.inr (by simp [e]))
    simpa using this

def okAt (L : List Slot) (ids : List Int) (j : Nat) : Prop := (∃ s ∈ L, s.id = ids.getD j default) ∧ ids.getD j default ∉ ids.take j
def Good (L : List Slot) (ids : List Int) : Prop := ∀ j, j < ids.length → okAt L ids j

def FreePost (w : World) (bk bm : Nat) (n : Int) (up fr : List Step) (L : List Slot) (ids : List Int) (e : Ending) (w' : World) : Prop :=
  (¬ Good L ids ∧ e = .returned (.int .i64 4) ∧ Below w.heap.size w w') ∨ (Good L ids ∧ e = .returned (.int .i64 0) ∧ ∃ fr2 L2, Drops fr L ids fr2 L2 ∧ LayPost w bk bm n up fr2 L2 w')

theorem freeNil (ao : Option Addr) (n c : Nat) (w : World) : Calls Try.prog 15 #[.pointer none, .slice ao n c] w fun e w' => e = .returned (.int .i64 1) ∧ Below w.heap.size w w' := by
  go_enter Try.func15, Try.ntmps15
  go_wp2_with fail
  go_ret
  exact ⟨rfl, Below.refl _ _⟩

theorem IsInts.take {w : World} {ao : Option Addr} {n c : Nat} {l : List Int} (h : IsInts w (.slice ao n c) l) {k : Nat} (hk : k ≤ l.length) : IsInts w (.slice ao k c) (l.take k) := by
  obtain ⟨hl, ao', cap, hv, h1, h2, h3⟩ := h
  cases hv
  have hlen : (l.take k).length = k := by simp; omega
  refine ⟨length_flatI _, ao, c, by rw [hlen], by omega, h2, fun hn => ?_⟩
  obtain ⟨b, off, rfl, hr⟩ := h3 (by omega)
  refine ⟨b, off, rfl, fun j u hj => hr j u ?_⟩
  unfold flatI at hj ⊢
  rw [List.map_take] at hj
  rw [List.getElem?_take] at hj
  split at hj
  · exact hj
  · cases hj
theorem IsInts.len_eq {w : World} {ao : Option Addr} {n c : Nat} {l : List Int} (h : IsInts w (.slice ao n c) l) : n = l.length := by
  obtain ⟨hl, ao', cap, hv, h1, h2, h3⟩ := h
  cases hv
  rfl

set_option maxHeartbeats 8000000 in
set_option maxRecDepth 100000 in
theorem freeAny {w : World} {bk bm : Nat} {n : Int} {up fr : List Step} {L : List Slot} (h : BookIs w bk bm n up fr L) {v : Value} {ids : List Int} (hv : IsInts w v ids) (hap : Apart bk v) :
    Calls Try.prog 15 #[.pointer (some ⟨bk, 0, none⟩), v] w (FreePost w bk bm n up fr L ids) := by
  obtain ⟨ao, cap, rfl, p1, p2⟩ := hv.shape
  obtain ⟨N, hN⟩ : ∃ N, N = ids.length := ⟨_, rfl⟩
  have C1 : ∀ wr i, IsInts wr (.slice ao N cap) ids → i < N → ∃ b o x, ao = some ⟨b, o, none⟩ ∧ ids.getD i default = x ∧ wr.cell? ⟨b, o + i, none⟩ = some (.int .i64 x) := by
    intro wr i h1 hi
    obtain ⟨b1, o1, c1, e1, _, _, _, C⟩ := intAtV h1 (by omega)
    cases e1
    obtain ⟨x, e2, e3⟩ := C i (by omega)
    exact ⟨_, _, _, rfl, e2, e3⟩
  rw [← hN] at p1 hv hap ⊢
  have HC := Lib.hid C1
  have HN := Lib.hid hN
  have HH := Lib.hid h
  have HV := Lib.hid hv
  have HAP := Lib.hid hap
  have c3 := h.c3
  have hlt := h.lt
  clear h C1 hN hv hap
  go_enter Try.func15, Try.ntmps15
  go_wp2_with fail
  go_loopw [15] (fun i wr => ∃ k : Nat, k ≤ N ∧ i = .int .i64 k ∧ Below w.heap.size w wr ∧ ∀ j, j < k → okAt L ids j) (fun i _ => N - (intOf i).toNat)
  case atStart => exact ⟨0, by omega, rfl, Below.refl _ _, by omega⟩
  case round =>
    obtain ⟨k, hk, rfl, hb, hj⟩ := hrel
    have HJ := Lib.hid hj
    have HB := Lib.hid hb
    clear hj
    by_cases hkN : k < N
    · have hvr := HV.out.below hb
      obtain ⟨b, o, x, rfl, e2, k1⟩ := HC.out wr k hvr hkN
      have HX := Lib.hid e2
      have hkk : (k : Int) < N := by omega
      have HBK := Lib.hid (HH.out.below hb)
      have c3r := HBK.out.c3
      have hltr := HBK.out.lt
      have HVT := Lib.hid (show IsInts wr (.slice (some ⟨b, o, none⟩) k cap) (ids.take k) from hvr.take (by rw [← HN.out]; exact hk))
      have hkN2 : k ≤ cap := by omega
      clear hb hvr e2
      by_cases hs : ∃ s ∈ L, s.id = x
      · obtain ⟨s, hs, hid⟩ := hs
        obtain ⟨id, f0, t0, q⟩ := s
        simp only at hid
        subst hid
        have HS := Lib.hid hs
        clear hs
        cases hc : decide (id ∈ ids.take k)
        · have HCO := Lib.hid (show ∀ w2, Below wr.heap.size wr w2 → _ from fun w2 hb2 => containsInts (HVT.out.below hb2) id false hc)
          have hok : okAt L ids k := ⟨⟨_, HS.out, by rw [HX.out]⟩, by rw [HX.out]; simpa using hc⟩
          have HOK := Lib.hid hok
          clear hc hok
          go_wp2_with (at_lookup; refine wp_look_yes _ rfl _ _ _ rfl bm L ⟨id, f0, t0, q⟩ rfl rfl HBK.out.map HS.out ?_; unfold slotV; simp only [if_true])
          refine (HCO.out _ ((Below.refl _ _).alloc (Nat.le_refl _) _)).mono ?_
          rintro e w2 ⟨rfl, rfl⟩
          go_wp2_with fail
          go_roundw
          case rel => exact ⟨k + 1, by omega, by go_num, HB.out.alloc HB.out.size _, fun j hj => by
            by_cases h : j = k
            · subst h; exact HOK.out
            · exact HJ.out j (by omega)⟩
          case measure => simp [intOf]; omega
        · have HCO := Lib.hid (show ∀ w2, Below wr.heap.size wr w2 → _ from fun w2 hb2 => containsInts (HVT.out.below hb2) id true hc)
          have hok : ¬ Good L ids := fun hg => (hg k (by rw [← HN.out]; exact hkN)).2 (by rw [HX.out]; simpa using hc)
          have HOK := Lib.hid hok
          clear hc hok
          go_wp2_with (at_lookup; refine wp_look_yes _ rfl _ _ _ rfl bm L ⟨id, f0, t0, q⟩ rfl rfl HBK.out.map HS.out ?_; unfold slotV; simp only [if_true])
          refine (HCO.out _ ((Below.refl _ _).alloc (Nat.le_refl _) _)).mono ?_
          rintro e w2 ⟨rfl, rfl⟩
          go_wp2_with fail
          go_ret
          exact .inl ⟨HOK.out, rfl, HB.out.alloc HB.out.size _⟩
      · have hns : ∀ s ∈ L, s.id ≠ x := fun s h1 h2 => hs ⟨s, h1, h2⟩
        have hok : ¬ Good L ids := fun hg => hs (by have := (hg k (by rw [← HN.out]; exact hkN)).1; rwa [HX.out] at this)
        have HOK := Lib.hid hok
        have HS := Lib.hid hns
        clear hs hns hok
        go_wp2_with (at_lookup; refine wp_look_no _ rfl _ _ _ rfl bm L x rfl rfl HBK.out.map HS.out ?_; unfold slotV; simp only [if_true])
        go_ret
        exact .inl ⟨HOK.out, rfl, HB.out.alloc HB.out.size _⟩
    · obtain rfl : k = N := by omega
      have hd : decide ((k : Int) < k) = false := by simp
      have hgood : Good L ids := by
        intro j hj
        exact HJ.out j (by rw [HN.out]; exact hj)
      have HGO := Lib.hid hgood
      clear hgood hb
      go_wp2_with fail
      go_loopw [41] (fun i wr => ∃ (k2 : Nat) (fr2 : List Step) (L2 : List Slot), k2 ≤ k ∧ i = .int .i64 k2 ∧ LayPost w bk bm n up fr2 L2 wr ∧ Drops fr L (ids.take k2) fr2 L2) (fun i _ => k - (intOf i).toNat)
      case atStart => exact ⟨0, fr, L, by omega, rfl, ⟨HH.out.below HB.out, Kept.of_below HB.out, fun X hX hA => hA.below HB.out hlt⟩, Drops.nil⟩
      case round =>
        obtain ⟨k2, fr2, L2, hk2, rfl, hP, hD⟩ := hrel
        have HP := Lib.hid hP
        have HD := Lib.hid hD
        by_cases hkN : k2 < k
        · have hvr : IsInts wr (.slice ao k cap) ids := IsRow.kept (by decide) HV.out hP.2.1 HAP.out HH.out.map
          obtain ⟨b, o, x, rfl, e2, k1⟩ := HC.out wr k2 hvr hkN
          have hkk : (k2 : Int) < k := by omega
          have hx := HGO.out k2 (by rw [← HN.out]; exact hkN)
          unfold okAt at hx
          rw [e2] at hx
          obtain ⟨⟨s, hs, hid⟩, hnt⟩ := hx
          have hs2 := hD.left s hs (by rw [hid]; exact hnt)
          subst hid
          have HDR := Lib.hid (dropAny hP.1 hs2)
          have HX := Lib.hid e2
          have HS2 := Lib.hid hs2
          clear e2 hP hD hvr hs2 hnt hs
          generalize hxx : s.id = x at *
          have HXX := Lib.hid hxx
          clear hxx
          go_wp2_with fail
          refine (HDR.out).mono ?_
          rintro e w2 ⟨rfl, hl2⟩
          have HL2 := Lib.hid hl2
          clear hl2
          go_wp2_with fail
          go_roundw
          case rel =>
            refine ⟨k2 + 1, _, _, by omega, by go_num, HP.out.trans HL2.out, ?_⟩
            have h1 := Drops.snoc HD.out HS2.out
            have h2 : ids.take (k2 + 1) = ids.take k2 ++ [s.id] := by
              have hlt2 : k2 < ids.length := by rw [← HN.out]; exact hkN
              rw [List.take_succ_eq_append_getElem hlt2]
              have := HX.out
              rw [List.getD_eq_getElem?_getD, List.getElem?_eq_getElem hlt2] at this
              rw [HXX.out, ← this]
              rfl
            rw [← h2, HXX.out] at h1
            exact h1
          case measure => simp [intOf]; omega
        · obtain rfl : k2 = k := by omega
          have hd3 : decide ((k2 : Int) < k2) = false := by simp
          clear hP hD
          go_wp2_with fail
          go_ret
          refine .inr ⟨HGO.out, rfl, fr2, L2, ?_, HP.out⟩
          have := HD.out
          rwa [HN.out, List.take_length] at this

end Go.Proofs.Ytjknmnmilladlaa
