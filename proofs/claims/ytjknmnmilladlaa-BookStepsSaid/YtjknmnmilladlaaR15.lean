/-
  Walk of the reference (layer 11): out, done.
-/
import Derived.Test.YtjknmnmilladlaaR14
import Derived.Deep.CutRange
namespace Go.Proofs.Ytjknmnmilladlaa
open Go.RowKit

theorem OwnSteps.blk {w : World} {B m c : Nat} {a0 : Option Addr} {U : List Step} (h : OwnSteps w B (.slice a0 m c) U) : ∀ a, a0 = some a → B ≤ a.block ∧ a.block < w.heap.size := by
  intro a ha
  subst ha
  exact World.ownsRow.lt h a.block rfl
theorem thru_new {w w5 : World} {cs : Array Value} {t : TypeId} {o : Nat} {u : Value} (h : Below (w.alloc (.cells cs t)).drew.heap.size (w.alloc (.cells cs t)).drew w5) (hu : cs[o]? = some u) : w5.cell? ⟨w.heap.size, o, none⟩ = some u :=
  (h.cell (p := ⟨w.heap.size, o, none⟩) (by show w.heap.size < (w.alloc (.cells cs t)).heap.size; simp)).trans (cell_new w cs t o hu)
theorem thru_frz {w w5 : World} {cs : Array Value} {t : TypeId} (h : Below (w.alloc (.cells cs t)).drew.heap.size (w.alloc (.cells cs t)).drew w5) (o : Nat) : w5.frozen? ⟨w.heap.size, o, none⟩ = false :=
  (h.frozen (p := ⟨w.heap.size, o, none⟩) (by show w.heap.size < (w.alloc (.cells cs t)).heap.size; simp)).trans (frozen_new w cs t o)
theorem set3_other {w : World} {R b o : Nat} {x y z : Value} (h : b ≠ R) : (((w.setCell ⟨R, 0, none⟩ x).setCell ⟨R, 1, none⟩ y).setCell ⟨R, 2, none⟩ z).cell? ⟨b, o, none⟩ = w.cell? ⟨b, o, none⟩ :=
  (cell_set_other (.inl h)).trans ((cell_set_other (.inl h)).trans (cell_set_other (.inl h)))
theorem Apart.slots {w : World} {v : Value} {l : List Slot} {X : Nat} (h : IsSlots w v l) (hX : w.heap.size ≤ X) : Apart X v := by
  intro a n' cap' hv hn he
  have hl : n' = l.length := by
    obtain ⟨_, ao, cap, h0, _⟩ := h
    rw [h0] at hv
    cases hv
    rfl
  obtain ⟨b, off, cap, h0, _, _, hlt, _⟩ := slotAtV h (by omega)
  rw [h0] at hv
  cases hv
  have he2 : b = X := he
  omega
theorem IsRow.set3 {w : World} {k X : Nat} {v : Value} {n : Nat} {xs : List Value} {a b c : Value} (h : IsRow w k v n xs) (hA : Apart X v) : IsRow (((w.setCell ⟨X, 0, none⟩ a).setCell ⟨X, 1, none⟩ b).setCell ⟨X, 2, none⟩ c) k v n xs :=
  ((h.setOut hA).setOut hA).setOut hA
theorem room_nil (up : List Step) (hu : Valid up) : RoomOf up [] := by
  intro t _
  have := (atOf_range hu t).1
  simpa [loadOf] using this
def HitI (up : List Step) (S : List Slot) (ts : List Int) (j i : Nat) : Prop := atOf up (ts.getD i default) < loadOf S (ts.getD i default) ∧ (S.getD j default).frm ≤ ts.getD i default ∧ ts.getD i default < (S.getD j default).to
theorem ins_own {w : World} {B m : Nat} {v : Value} {lst g : List Int} {q : Nat} {y : Int} {fd : List Value} (hl : g.take q = lst) (hf : flatI (g.drop q) = fd) (h : w.ownsRow B 3 1 v m (flatI lst ++ ([.int .i64 y] ++ fd))) : OwnInts w B v (g.take q ++ [y] ++ g.drop q) := by
  subst hl
  subst hf
  rw [← List.append_assoc] at h
  exact own_insI h
theorem made59 {w W : World} {n : Int} {vu vs : Value} (hW : W = w.alloc (.cells #[.int .i64 n, vu, vs] 59)) :
    Below w.heap.size w W ∧ W.heap.size = w.heap.size + 1 ∧ W.cell? ⟨w.heap.size, 0, none⟩ = some (.int .i64 n) ∧ W.cell? ⟨w.heap.size, 1, none⟩ = some vu ∧ W.cell? ⟨w.heap.size, 2, none⟩ = some vs ∧ ∀ o, W.frozen? ⟨w.heap.size, o, none⟩ = false := by
  subst hW
  exact ⟨(Below.refl _ _).alloc (Nat.le_refl _) _, by simp, cell_new w _ 59 0 rfl, cell_new w _ 59 1 rfl, cell_new w _ 59 2 rfl, fun o => frozen_new w _ 59 o⟩
theorem getD_mem {l : List Slot} {j : Nat} (h : j < l.length) : l.getD j default ∈ l := by
  rw [List.getD_eq_getElem?_getD, List.getElem?_eq_getElem h]
  exact List.getElem_mem _
theorem ids_at {S : List Slot} (hS : S.Pairwise fun a b => a.id < b.id) {j : Nat} (hj : j < S.length) : ∀ i, i < S.length → ((S.getD i default).id ≠ (S.getD j default).id ↔ i ≠ j) := by
  intro i hi
  have e1 : S.getD i default = S[i] := by rw [List.getD_eq_getElem?_getD, List.getElem?_eq_getElem hi]; rfl
  have e2 : S.getD j default = S[j] := by rw [List.getD_eq_getElem?_getD, List.getElem?_eq_getElem hj]; rfl
  rw [e1, e2]
  rcases Nat.lt_trichotomy i j with h | h | h
  · have := (List.pairwise_iff_getElem.1 hS) i j hi hj h
    exact ⟨fun _ => by omega, fun _ => by omega⟩
  · subst h
    exact ⟨fun h => absurd rfl h, fun h => absurd rfl h⟩
  · have := (List.pairwise_iff_getElem.1 hS) j i hj hi h
    exact ⟨fun _ => by omega, fun _ => by omega⟩

/-- What out answers where it does something. -/
def OutTo (n : Int) (U : List Step) (S : List Slot) (vs : Value) (B : Nat) (e : Ending) (w' : World) : Prop :=
  ∃ (vu2 vs2 vg : Value) (G g : List Int) (T : List Slot), e = .returned (.tuple #[.agg #[.int .i64 n, vu2, vs2], vg, .int .i64 0]) ∧ IsSteps w' vu2 U ∧ IsSlots w' vs2 T ∧ (∀ m c, vs2 = .slice none m c → c = m) ∧ IsInts w' vg g ∧ Gone U S G T ∧ RoomOf U T ∧ g.Perm G ∧ g.Pairwise (· ≤ ·) ∧ (∀ X, X < B → Apart X vu2) ∧ (vs2 = vs ∨ ∀ X, X < B → Apart X vs2) ∧ ∀ X, X < B → Apart X vg

set_option maxHeartbeats 16000000 in
set_option maxRecDepth 100000 in
theorem refOutMain {w : World} {vu vs : Value} {n : Int} {up : List Step} {S : List Slot} (hu : IsSteps w vu up) (hs : IsSlots w vs S) (hno : ∀ m c, vs = .slice none m c → c = m) (hf : Fine n up S) (hul : up.length ≤ 1000) (hS : S.Pairwise fun a b => a.id < b.id) (s : Slot) (ha : outArg n s.frm s.to s.nodes = true) :
    Calls Try.prog 50 #[.agg #[.int .i64 n, vu, vs], slotV s] w fun e w' => ((1000 < (outUp up s.frm s.to s.nodes).length ∧ e = .returned (.tuple #[.agg #[.int .i64 n, vu, vs], .slice none 0 0, .int .i64 3])) ∨ ((outUp up s.frm s.to s.nodes).length ≤ 1000 ∧ OutTo n (outUp up s.frm s.to s.nodes) S vs w.heap.size e w')) ∧ Below w.heap.size w w' := by
  obtain ⟨id, frm, till, k⟩ := s
  obtain ⟨au, cu, hvu, _, _⟩ := hu.shape
  obtain ⟨az, cz, hvs, _, _⟩ := hs.shape
  unfold slotV
  simp only at ha ⊢
  have hpar := ha
  unfold outArg at hpar
  simp only [Bool.and_eq_true, decide_eq_true_eq] at hpar
  obtain ⟨⟨⟨⟨hT1, hT2⟩, h12⟩, hk1⟩, hkn⟩ := hpar
  have d1 : decide (till ≤ frm) = false := by simp; omega
  have d2 : decide (k < 1) = false := by simp; omega
  have d3 : decide (n < k) = false := by simp; omega
  have hn2 := hf.n2
  have hts := isT_iff.1 hT1
  have htt := isT_iff.1 hT2
  obtain ⟨hvU, hlU, _⟩ := outUp_ok (k := k) hf.u hul hts.1 h12 htt.2 ⟨hk1, by omega⟩
  obtain ⟨w1, hw1⟩ : ∃ w1, w1 = (((w.alloc (.cells #[.int .i64 n, vu, vs] 59)).alloc (.cells #[.int .i64 id, .int .i64 frm, .int .i64 till, .int .i64 k] 29)).alloc (.cells #[.int .i64 0, .slice none 0 0, .slice none 0 0] 59)) := ⟨_, rfl⟩
  obtain ⟨hBB, hsz, ⟨t0, t1, t2⟩, ⟨x0, x1, x2, x3⟩, ⟨r0, r1, r2⟩, fz⟩ := pre3 hw1
  have HT := Lib.hid (show ∀ w2, Below w1.heap.size w1 w2 → _ from fun w2 h2 => refTimes ((hu.below hBB).below h2) hf.u.pos (by have := hf.u.len; omega) frm till)
  have HU1 := Lib.hid (hu.below hBB)
  have HS1 := Lib.hid (hs.below hBB)
  have HOUT := Lib.hid (fun (ts : List Int) (hr : ts.Pairwise (· < ·)) (hm : ∀ t, t ∈ ts ↔ t ∈ [frm, till] ++ stepT up) => outs_are hf.u hul hts.1 h12 htt.2 (k := k) ⟨hk1, by omega⟩ hr hm)
  generalize hUU : outUp up frm till k = U at *
  have HW1 := Lib.hid hw1
  have HBB := Lib.hid hBB
  have HSZ := Lib.hid hsz
  have hsa : Apart (w.heap.size + 1 + 1) vs := Apart.slots hs (by omega)
  have HF := Lib.hid hf
  have HNO := Lib.hid hno
  have HS := Lib.hid hS
  have HVU := Lib.hid hvU
  have HLU := Lib.hid hlU
  have HR := Lib.hid (And.intro r0 (And.intro r1 r2))
  have HFZ := Lib.hid fz
  have HTT := Lib.hid (And.intro t0 (And.intro t1 t2))
  have HXX := Lib.hid (And.intro x1 (And.intro x2 x3))
  have KT1 := Lib.hid hT1
  have KT2 := Lib.hid hT2
  have HTS := Lib.hid hts
  have HTE := Lib.hid htt
  have HUL := Lib.hid hul
  obtain ⟨j0, hj, hy0, hy1, hy2⟩ := info_parts Try.info38
  obtain ⟨i0, hi, hz0, hz1, hz2⟩ := info_parts Try.info3
  generalize hmu : up.length = mu at hvu
  generalize hmz : S.length = mz at hvs
  have HMZ := Lib.hid hmz
  subst hvu
  subst hvs
  clear hu hs hno hf hul hS ha hw1 hBB hsz fz r0 r1 r2 hT1 hT2 hts htt hvU hlU hUU hmu hmz
  rw [HW1.out] at x1
  go_enter Try.func50, Try.ntmps50
  go_wp2_with fail
  rw [← HW1.out] at x1 ⊢
  refine (refIs _ _ _ KT1.out).mono ?_
  rintro e wz ⟨rfl, rfl⟩
  go_wp2_with fail
  refine (refIs _ _ _ KT2.out).mono ?_
  rintro e wz ⟨rfl, rfl⟩
  obtain ⟨B, hB⟩ : ∃ B, B = w.heap.size := ⟨_, rfl⟩
  rw [← hB] at hsa HBB HSZ HR HFZ HTT HXX t0 t1 t2 x0 x1 x2 x3 ⊢
  have HBE := Lib.hid hB
  clear hB
  have HBQ := Lib.hid (Below.refl w1.heap.size w1)
  go_wp2_with fail
  refine (HT.out _ HBQ.out).mono ?_
  rintro e w2 ⟨⟨v8, ts, rfl, ho8, hri, hme, hln⟩, hb2⟩
  have hbw : Below w1.heap.size w1 w2 := HBQ.out.trans (hb2.mono HBQ.out.size)
  have hpos : 0 < ts.length := List.length_pos_of_mem ((hme frm).2 (by simp))
  obtain ⟨b8, o8, c8, rfl, q1, q2, q3, C8⟩ := intAtV ho8.is hpos
  obtain ⟨M, hM⟩ : ∃ M, M = ts.length := ⟨_, rfl⟩
  rw [← hM] at q1 C8 hpos hln
  rw [← hM]
  have hln2 : M ≤ 1002 := by have := HUL.out; omega
  have HC8 := Lib.hid C8
  have HM := Lib.hid hM
  have HRI := Lib.hid hri
  have HME := Lib.hid hme
  have HBW := Lib.hid hbw
  clear ho8 hri hme hb2 hbw C8 hM t0 t1 t2 x0 x1 x2 x3 hln
  go_wp2_with fail
  go_loopw [7, 9] (fun v7 v9 wr => ∃ q : Nat, q ≤ M ∧ v9 = .int .i64 q ∧ Below w2.heap.size w2 wr ∧ OwnSteps wr w2.heap.size v7 ((ts.map (outAt up frm till k)).take q)) (fun _ v9 _ => M - (intOf v9).toNat)
  case atStart => exact ⟨0, by omega, rfl, Below.refl _ _, World.ownsRow_nil _ _ _ _⟩
  case round =>
    obtain ⟨q, hq, rfl, hb, ho⟩ := hrel
    have HB := Lib.hid hb
    have hb1r : Below w1.heap.size w1 wr := HBW.out.trans (hb.mono HBW.out.size)
    have hsr := hb1r.size
    have hs1 := HSZ.out
    obtain ⟨t0, t1, t2⟩ := HTT.out
    obtain ⟨x1, x2, x3⟩ := HXX.out
    have t0 := (hb1r.cell (p := ⟨B, 0, none⟩) (by simp only; omega)).trans t0
    have t1 := (hb1r.cell (p := ⟨B, 1, none⟩) (by simp only; omega)).trans t1
    have t2 := (hb1r.cell (p := ⟨B, 2, none⟩) (by simp only; omega)).trans t2
    have x1 := (hb1r.cell (p := ⟨B + 1, 1, none⟩) (by simp only; omega)).trans x1
    have x2 := (hb1r.cell (p := ⟨B + 1, 2, none⟩) (by simp only; omega)).trans x2
    have x3 := (hb1r.cell (p := ⟨B + 1, 3, none⟩) (by simp only; omega)).trans x3
    by_cases hqM : q < M
    · --LOOP1a
      obtain ⟨t, et, gt⟩ := HC8.out q hqM
      have hqq : (q : Int) < M := by omega
      have hqT : q < ts.length := by rw [← HM.out]; exact hqM
      have hte : ts[q] = t := by
        rw [List.getD_eq_getElem?_getD, List.getElem?_eq_getElem hqT] at et
        exact et
      have htm : t ∈ ts := by rw [← hte]; exact List.getElem_mem _
      have hit : isT t = true := by
        have h1 := (HME.out t).1 htm
        rw [List.mem_append] at h1
        rcases h1 with h1 | h1
        · simp at h1
          rcases h1 with rfl | rfl
          · exact KT1.out
          · exact KT2.out
        · exact HF.out.times t (.inr (List.mem_append_left _ h1))
      have hsn : (ts.map (outAt up frm till k)).take (q + 1) = (ts.map (outAt up frm till k)).take q ++ [outAt up frm till k t] := by
        rw [List.take_succ_eq_append_getElem (by simpa using hqT)]
        simp [hte]
      have hlq : ((ts.map (outAt up frm till k)).take q).length = q := by simp; omega
      have hbt : b8 < wr.heap.size := Nat.lt_of_lt_of_le q3 hb.size
      have g8 := (hb.cell (p := ⟨b8, o8 + q, none⟩) q3).trans gt
      have hab := atOf_range HF.out.u t
      have hsn : (ts.map (outAt up frm till k)).take (q + 1) = (ts.map (outAt up frm till k)).take q ++ [⟨t, if frm ≤ t ∧ t < till then max (atOf up t - k) 0 else atOf up t⟩] := hsn
      have HAT := Lib.hid (show ∀ p : After wr, _ from fun p => refAt (w := p.wld) ((HU1.out.below hb1r).below p.prop) HF.out.u t hit)
      generalize (ts.map (outAt up frm till k)).take q = lst at *
      generalize hat : atOf up t = at1 at *
      have hwr : IntKind.i64.wrap (at1 - k) = at1 - k := small_wrap (by omega) (by omega)
      have HSN := Lib.hid hsn
      unfold OwnSteps at ho
      rw [hlq] at ho
      have HOW := Lib.hid ho
      have k1 := After.cell (by omega) t1
      have k8 := After.cell hbt g8
      have HX1 := Lib.hid x1
      have HX2 := Lib.hid x2
      have HX3 := Lib.hid x3
      have HG8 := Lib.hid g8
      have hBr : B + 1 < wr.heap.size := by omega
      have HB1R := Lib.hid hb1r
      clear hb ho t0 t1 t2 x1 x2 x3 gt g8 hsn hte htm hit et hat
      go_wp2_with fail
      refine wp_region_quiet_after (by kernel_rfl) (by kernel_rfl) ?_
      repeat (go_big_quiet_step ((go_at_call 67; exact after_of (HAT.out _))))
      refine wpQuiet_nil ?_
      intro wy hC
      have hwy := after_out hC
      clear hC k1 k8
      have x1 := (hwy.cell (p := ⟨B + 1, 1, none⟩) hBr).trans HX1.out
      have x2 := (hwy.cell (p := ⟨B + 1, 2, none⟩) hBr).trans HX2.out
      have x3 := (hwy.cell (p := ⟨B + 1, 3, none⟩) hBr).trans HX3.out
      have g8 := (hwy.cell (p := ⟨b8, o8 + q, none⟩) hbt).trans HG8.out
      have HWY := Lib.hid hwy
      clear hwy
      by_cases hc1 : frm ≤ t
      · by_cases hc2 : t < till
        · have hsn := HSN.out
          rw [if_pos ⟨hc1, hc2⟩] at hsn
          have HSN := Lib.hid hsn
          clear hsn
          go_wp2_with fail
          go_quiet (fail)
          go_wp2_with (at_builtin; refine wpList_append_own _ rfl (.tmp 91) (.tmp 98) 33 rfl w2.heap.size 38 j0 _ 2 16 Try.underlying33 hj hy0 hy1 hy2 rfl (by decide) u7 _ _ rfl (by exact (owns_below HOW.out ((below_drewN HWY.out nq).alloc HWY.out.size _))) ⟨wy.heap.size, 0, none⟩ 1 1 [.int .i64 t, .int .i64 (max (at1 - k) 0)] rfl rfl (news_at _ _ rfl #[.int .i64 t, .int .i64 (max (at1 - k) 0)] 38) (by simp [Value.oneCell']) (by unfold maxLen; omega) (by omega) (by simp; have := HB.out.size; have := HWY.out.size; omega) ?_)
          intro v' w8 hown8 hgrow hnil
          have HO8 := Lib.hid hown8
          have HGW := Lib.hid hgrow
          clear hown8 hgrow hnil
          go_wp2_with fail
          go_roundw
          case rel =>
            refine ⟨q + 1, by omega, by go_num, HB.out.trans ((((below_drewN HWY.out nq).alloc HWY.out.size _).mono HB.out.size).grown HGW.out (by simp; have := HB.out.size; have := HWY.out.size; omega) (fun g hg => ((World.ownsRow.lt HOW.out) g hg).1)), ?_⟩
            rw [HSN.out]
            exact own_step1 HO8.out
          case measure => simp [intOf]; omega
        · have dc2 : decide (t < till) = false := by simpa using hc2
          have hsn := HSN.out
          rw [if_neg (fun h => hc2 h.2)] at hsn
          have HSN := Lib.hid hsn
          clear hsn
          go_wp2_with fail
          go_quiet (fail)
          go_wp2_with (at_builtin; refine wpList_append_own _ rfl (.tmp 91) (.tmp 98) 33 rfl w2.heap.size 38 j0 _ 2 16 Try.underlying33 hj hy0 hy1 hy2 rfl (by decide) u7 _ _ rfl (by exact (owns_below HOW.out ((below_drewN HWY.out nq).alloc HWY.out.size _))) ⟨wy.heap.size, 0, none⟩ 1 1 [.int .i64 t, .int .i64 (at1)] rfl rfl (news_at _ _ rfl #[.int .i64 t, .int .i64 (at1)] 38) (by simp [Value.oneCell']) (by unfold maxLen; omega) (by omega) (by simp; have := HB.out.size; have := HWY.out.size; omega) ?_)
          intro v' w8 hown8 hgrow hnil
          have HO8 := Lib.hid hown8
          have HGW := Lib.hid hgrow
          clear hown8 hgrow hnil
          go_wp2_with fail
          go_roundw
          case rel =>
            refine ⟨q + 1, by omega, by go_num, HB.out.trans ((((below_drewN HWY.out nq).alloc HWY.out.size _).mono HB.out.size).grown HGW.out (by simp; have := HB.out.size; have := HWY.out.size; omega) (fun g hg => ((World.ownsRow.lt HOW.out) g hg).1)), ?_⟩
            rw [HSN.out]
            exact own_step1 HO8.out
          case measure => simp [intOf]; omega
      · have dc1 : decide (frm ≤ t) = false := by simpa using hc1
        have hsn := HSN.out
        rw [if_neg (fun h => hc1 h.1)] at hsn
        have HSN := Lib.hid hsn
        clear hsn
        go_wp2_with fail
        go_quiet (fail)
        go_wp2_with (at_builtin; refine wpList_append_own _ rfl (.tmp 91) (.tmp 98) 33 rfl w2.heap.size 38 j0 _ 2 16 Try.underlying33 hj hy0 hy1 hy2 rfl (by decide) u7 _ _ rfl (by exact (owns_below HOW.out ((below_drewN HWY.out nq).alloc HWY.out.size _))) ⟨wy.heap.size, 0, none⟩ 1 1 [.int .i64 t, .int .i64 (at1)] rfl rfl (news_at _ _ rfl #[.int .i64 t, .int .i64 (at1)] 38) (by simp [Value.oneCell']) (by unfold maxLen; omega) (by omega) (by simp; have := HB.out.size; have := HWY.out.size; omega) ?_)
        intro v' w8 hown8 hgrow hnil
        have HO8 := Lib.hid hown8
        have HGW := Lib.hid hgrow
        clear hown8 hgrow hnil
        go_wp2_with fail
        go_roundw
        case rel =>
          refine ⟨q + 1, by omega, by go_num, HB.out.trans ((((below_drewN HWY.out nq).alloc HWY.out.size _).mono HB.out.size).grown HGW.out (by simp; have := HB.out.size; have := HWY.out.size; omega) (fun g hg => ((World.ownsRow.lt HOW.out) g hg).1)), ?_⟩
          rw [HSN.out]
          exact own_step1 HO8.out
        case measure => simp [intOf]; omega
    · obtain rfl : q = M := by omega
      have hd : decide ((q : Int) < q) = false := by simp
      have hall : (ts.map (outAt up frm till k)).take q = ts.map (outAt up frm till k) := by rw [List.take_of_length_le]; simp [← HM.out]
      rw [hall] at ho
      have hrise : ∀ i j, i < j → j < (ts.map (outAt up frm till k)).length → atv (ts.map (outAt up frm till k)) i < atv (ts.map (outAt up frm till k)) j := by
        refine (rises_iff _).1 ?_
        unfold Rises
        rw [List.pairwise_map]
        exact HRI.out
      have htd := fun (w5 : World) (h5 : Below wr.heap.size wr w5) => refTidy (w := w5) (ho.is.below h5) (by simpa [← HM.out] using hpos) (by simp [← HM.out]; omega) hrise
      rw [HOUT.out ts HRI.out HME.out] at htd
      have HTD := Lib.hid (fun (w5 : World) (h5 : Below wr.heap.size wr w5) => (htd w5 h5).mono (R' := fun e w' => (∃ u, e = .returned u ∧ OwnSteps w' w5.heap.size u U) ∧ Below wr.heap.size wr w' ∧ Below w5.heap.size w5 w') fun _ w' ⟨⟨u, a, b⟩, c⟩ => ⟨⟨u, a, b⟩, h5.trans (c.mono h5.size), c⟩)
      generalize hfl : ts.map (outAt up frm till k) = fl at *
      obtain ⟨a7, c7, rfl, _, _⟩ := IsRow.shape ho.is
      have hbB : B < wr.heap.size := by omega
      have HB1R := Lib.hid hb1r
      have hneB : B ≠ wr.heap.size := by omega
      have HQ0 := Lib.hid t0
      have HQ2 := Lib.hid t2
      clear htd hb ho hall hrise hfl x1 x2 x3 t1
      go_upto_region 12 with fail
      go_cut [11] from 100 to 106 (fun v11 wx => ∃ (X : Nat) (aU : Option Addr) (cU : Nat), v11 = .pointer (some ⟨X, 0, none⟩) ∧ Below wr.heap.size wr wx ∧ wr.heap.size ≤ X ∧ X < wx.heap.size ∧ (wx.cell? ⟨X, 0, none⟩ = some (.int .i64 n) ∧ wx.cell? ⟨X, 1, none⟩ = some (.slice aU U.length cU) ∧ wx.cell? ⟨X, 2, none⟩ = some (.slice az mz cz)) ∧ (∀ o, wx.frozen? ⟨X, o, none⟩ = false) ∧ IsSteps wx (.slice aU U.length cU) U ∧ Apart X (.slice aU U.length cU) ∧ ∀ Z, Z < w1.heap.size → Apart Z (.slice aU U.length cU))
      case first =>
        go_region_held3 (fun w' => w'.cell? ⟨B, 0, none⟩ = some (.int .i64 n) ∧ w'.cell? ⟨B, 2, none⟩ = some (.slice az mz cz)) (first | go_keep | exact ⟨m0, m2⟩ | exact ⟨(set3_other hneB).trans m0, (set3_other hneB).trans m2⟩ | exact ⟨cell_old _ m0, cell_old _ m2⟩) ((go_at_call 68; refine (HTD.out _ (by first | exact (Below.refl _ _).drew | exact ((Below.refl _ _).alloc (Nat.le_refl _) _).drew)).mono ?_; rintro e w5 ⟨⟨vU, rfl, hou⟩, hb5, hc5⟩; obtain ⟨aU, cU, rfl, _, _⟩ := IsRow.shape hou.is; have m0 := (hb5.cell (p := ⟨B, 0, none⟩) hbB).trans HQ0.out; have m2 := (hb5.cell (p := ⟨B, 2, none⟩) hbB).trans HQ2.out; (try (have z0 := thru_new (o := 0) hc5 rfl)); (try (have z1 := thru_new (o := 1) hc5 rfl)); (try (have z2 := thru_new (o := 2) hc5 rfl)); (try (have f0 := thru_frz hc5 0)); (try (have f1 := thru_frz hc5 1)); (try (have f2 := thru_frz hc5 2)); have HOU := Lib.hid hou; have HB5 := Lib.hid hb5; have HC5 := Lib.hid hc5; clear hb5 hou hc5))
        · go_wp2_with fail
          go_meet
          case rel =>
            obtain ⟨c1, c2, c3, c4, c5, c6⟩ := made59 (w := w5) (n := n) (vu := .slice aU U.length cU) (vs := .slice az mz cz) rfl
            exact ⟨w5.heap.size, aU, cU, rfl, HB5.out.trans (c1.mono HB5.out.size), HB5.out.size, by rw [c2]; omega, ⟨c3, c4, c5⟩, c6, HOU.out.is.below c1, Apart.of_lt HOU.out.is (Nat.le_refl _), fun Z hZ => Apart.own HOU.out (by show Z < wr.heap.size; omega)⟩
        · go_wp2_with fail
          go_meet
          case rel =>
            obtain ⟨c3, c4, c5⟩ := set3 (a := .int .i64 n) (b := .slice aU U.length cU) (c := .slice az mz cz) z0 z1 z2
            have hlt : wr.heap.size < w5.heap.size := Nat.lt_of_lt_of_le (by show wr.heap.size < (wr.alloc (.cells #[.int .i64 0, .slice none 0 0, .slice none 0 0] 59)).heap.size; simp) HC5.out.size
            refine ⟨wr.heap.size, aU, cU, rfl, below_set3 HB5.out (Nat.le_refl _), Nat.le_refl _, by rw [set3_size]; exact hlt, ⟨c3, c4, c5⟩, fun o => ?_, ?_, Apart.own HOU.out ?_, fun Z hZ => Apart.own HOU.out ?_⟩
            · rw [set3_frozen]
              exact thru_frz HC5.out o
            · exact IsRow.of_owns (ownsRow_setCell_below (ownsRow_setCell_below (ownsRow_setCell_below HOU.out (by show wr.heap.size < (wr.alloc (.cells #[.int .i64 0, .slice none 0 0, .slice none 0 0] 59)).heap.size; simp) _) (by show wr.heap.size < (wr.alloc (.cells #[.int .i64 0, .slice none 0 0, .slice none 0 0] 59)).heap.size; simp) _) (by show wr.heap.size < (wr.alloc (.cells #[.int .i64 0, .slice none 0 0, .slice none 0 0] 59)).heap.size; simp) _)
            · show wr.heap.size < (wr.alloc (.cells #[.int .i64 0, .slice none 0 0, .slice none 0 0] 59)).heap.size
              simp
            · show Z < (wr.alloc (.cells #[.int .i64 0, .slice none 0 0, .slice none 0 0] 59)).heap.size
              simp
              omega
      case rest =>
        obtain ⟨X, aU, cU, rfl, hcb, hcX, hcx, ⟨s0, s1, s2⟩, hcf, hcu, hca, hcr⟩ := hcut
        have hb1c : Below w1.heap.size w1 wc := HB1R.out.trans (hcb.mono HB1R.out.size)
        have hX1 : w1.heap.size ≤ X := Nat.le_trans HB1R.out.size hcX
        obtain ⟨b0, b1, b2⟩ := HTT.out
        obtain ⟨r0, r1, r2⟩ := HR.out
        have t0 := (hb1c.cell (p := ⟨B, 0, none⟩) (by simp only; omega)).trans b0
        have t1 := (hb1c.cell (p := ⟨B, 1, none⟩) (by simp only; omega)).trans b1
        have t2 := (hb1c.cell (p := ⟨B, 2, none⟩) (by simp only; omega)).trans b2
        have hR1 : B + 1 + 1 < w1.heap.size := by omega
        have r0 := (hb1c.cell (p := ⟨B + 1 + 1, 0, none⟩) hR1).trans r0
        have r1 := (hb1c.cell (p := ⟨B + 1 + 1, 1, none⟩) hR1).trans r1
        have r2 := (hb1c.cell (p := ⟨B + 1 + 1, 2, none⟩) hR1).trans r2
        have f0 := (hb1c.frozen (p := ⟨B + 1 + 1, 0, none⟩) hR1).trans (HFZ.out 0)
        have f1 := (hb1c.frozen (p := ⟨B + 1 + 1, 1, none⟩) hR1).trans (HFZ.out 1)
        have f2 := (hb1c.frozen (p := ⟨B + 1 + 1, 2, none⟩) hR1).trans (HFZ.out 2)
        have HB1C := Lib.hid hb1c
        have HCF := Lib.hid hcf
        have HCU := Lib.hid hcu
        have HCA := Lib.hid (And.intro hca hcr)
        have HCX := Lib.hid hcx
        have hlu := HLU.out
        clear hb1c hcb hcf hcu hca hcr hcx b0 b1 b2
        by_cases hlong : 1000 < U.length
        · have dl : decide ((1000 : Int) < U.length) = true := by rw [decide_eq_true_iff]; omega
          have HLG := Lib.hid hlong
          clear hlong
          go_wp2_with fail
          obtain ⟨s0, s1, s2⟩ := set3 (a := .int .i64 n) (b := .slice au mu cu) (c := .slice az mz cz) r0 r1 r2
          refine bodyPost_ret (v := .tuple #[.agg #[.int .i64 n, .slice au mu cu, .slice az mz cz], .slice none 0 0, .int .i64 3]) (by simp [results, Try.f50]; go_simp) rfl ?_
          refine ⟨.inl ⟨HLG.out, rfl⟩, ?_⟩
          have h1 := HBB.out
          rw [← HBE.out]
          exact below_set3 (h1.trans (HB1C.out.mono (by omega))) (Nat.le_trans (Nat.le_succ _) (Nat.le_succ _))
        · have dl : decide ((1000 : Int) < U.length) = false := by simp; omega
          have HLG := Lib.hid hlong
          have HS0 := Lib.hid (And.intro s0 (And.intro s1 s2))
          have HSA := Lib.hid hsa
          clear hlong
          go_wp2_with fail
          clear t0 t1 t2 r0 r1 r2 f0 f1 f2 s0 s1 s2
          go_loopw [12] (fun v12 wr2 => ∃ (G g : List Int) (T : List Slot) (vs2 : Value), Gone U S G T ∧ g.Perm G ∧ g.Pairwise (· ≤ ·) ∧ Below w1.heap.size w1 wr2 ∧ X < wr2.heap.size ∧ (wr2.cell? ⟨X, 0, none⟩ = some (.int .i64 n) ∧ wr2.cell? ⟨X, 1, none⟩ = some (.slice aU U.length cU) ∧ wr2.cell? ⟨X, 2, none⟩ = some vs2) ∧ (∀ o, wr2.frozen? ⟨X, o, none⟩ = false) ∧ IsSteps wr2 (.slice aU U.length cU) U ∧ IsSlots wr2 vs2 T ∧ (∀ m c, vs2 = .slice none m c → c = m) ∧ (vs2 = .slice az mz cz ∨ ∀ Z, Z < w1.heap.size → Apart Z vs2) ∧ OwnInts wr2 (X + 1) v12 g) (fun v12 _ => mz - sliceLen v12)
          case atStart => exact ⟨[], [], S, _, .nil, List.Perm.refl _, List.Pairwise.nil, HB1C.out, HCX.out, HS0.out, HCF.out, HCU.out, HS1.out.below HB1C.out, HNO.out, .inl rfl, World.ownsRow_nil _ _ _ _⟩
          case round =>
            rename World => wr2
            obtain ⟨G, g, T, vs2, hG, hgp, hgs, hb, hXr, ⟨c0, c1, c2⟩, hfz, hsU, hsT, hno2, hap2, hog⟩ := hrel
            have hlT : T.length ≤ 9000 := Nat.le_trans hG.sub.length_le HF.out.l
            have hfT : Fine n U T := ⟨hn2, HVU.out, hlT, fun x hx => HF.out.r x (hG.sub.subset hx)⟩
            have hST : T.Pairwise fun a b => a.id < b.id := HS.out.sublist hG.sub
            have hgl : G.length + T.length = mz := by rw [← HMZ.out]; exact hG.len (HS.out.imp fun {a b} h => by omega)
            have hgl2 : g.length = G.length := hgp.length_eq
            have HGL := Lib.hid (And.intro hgl hgl2)
            have HB := Lib.hid hb
            have HC := Lib.hid (And.intro c0 (And.intro c1 c2))
            clear hgl hgl2
            by_cases hroom : RoomOf U T
            · --EXITa
              have HRM := Lib.hid (refRoom (n := n) hsU hsT hfT true ⟨fun _ => hroom, fun _ => rfl⟩)
              have HEND := Lib.hid (And.intro hG (And.intro hgp (And.intro hgs (And.intro hsU (And.intro hsT (And.intro hno2 (And.intro hog hroom)))))))
              have HAP := Lib.hid hap2
              obtain ⟨aT, cT, rfl, _, _⟩ := hsT.shape
              obtain ⟨a12, c12, rfl, hc1, hc2⟩ := hog.is.shape
              clear hG hgp hgs hsU hsT hno2 hog hroom hb hfz hfT hST hlT hap2
              go_wp2_with fail
              refine (HRM.out).mono ?_
              rintro e wz ⟨rfl, hbz⟩
              have hb1z : Below w1.heap.size w1 wz := HB.out.trans (hbz.mono HB.out.size)
              obtain ⟨c0, c1, c2⟩ := HC.out
              obtain ⟨r0, r1, r2⟩ := HR.out
              have c0 := (hbz.cell (p := ⟨X, 0, none⟩) hXr).trans c0
              have c1 := (hbz.cell (p := ⟨X, 1, none⟩) hXr).trans c1
              have c2 := (hbz.cell (p := ⟨X, 2, none⟩) hXr).trans c2
              have r0 := (hb1z.cell (p := ⟨B + 1 + 1, 0, none⟩) hR1).trans r0
              have r1 := (hb1z.cell (p := ⟨B + 1 + 1, 1, none⟩) hR1).trans r1
              have r2 := (hb1z.cell (p := ⟨B + 1 + 1, 2, none⟩) hR1).trans r2
              have f0 := (hb1z.frozen (p := ⟨B + 1 + 1, 0, none⟩) hR1).trans (HFZ.out 0)
              have f1 := (hb1z.frozen (p := ⟨B + 1 + 1, 1, none⟩) hR1).trans (HFZ.out 1)
              have f2 := (hb1z.frozen (p := ⟨B + 1 + 1, 2, none⟩) hR1).trans (HFZ.out 2)
              have HBZ := Lib.hid hbz
              have HB1Z := Lib.hid hb1z
              clear hbz hb1z
              go_wp2_with fail
              obtain ⟨s0, s1, s2⟩ := set3 (a := .int .i64 n) (b := .slice aU U.length cU) (c := .slice aT T.length cT) r0 r1 r2
              refine bodyPost_ret (v := .tuple #[.agg #[.int .i64 n, .slice aU U.length cU, .slice aT T.length cT], .slice a12 g.length c12, .int .i64 0]) (by simp [results, Try.f50]; go_simp) rfl ?_
              obtain ⟨e1, e2, e3, e4, e5, e6, e7, e8⟩ := HEND.out
              have hapr : Apart (B + 1 + 1) (.slice aT T.length cT) := by
                rcases HAP.out with h | h
                · rw [h]; exact HSA.out
                · exact h _ hR1
              refine ⟨.inr ⟨by have := HLG.out; omega, _, _, _, G, g, T, rfl, IsRow.set3 (e4.below HBZ.out) (HCA.out.2 _ hR1), IsRow.set3 (e5.below HBZ.out) hapr, e6, ?_, e1, e8, e2, e3, fun Z hZ => HCA.out.2 Z (by have := HBE.out; omega), HAP.out.imp (fun h => h) fun h Z hZ => h Z (by have := HBE.out; omega), fun Z hZ => Apart.own e7 (by have := HBE.out; omega)⟩, ?_⟩
              · exact IsRow.of_owns (owns_set3 (owns_below e7 HBZ.out) (by omega))
              · have h1 := HBB.out
                rw [← HBE.out]
                exact below_set3 (h1.trans (HB1Z.out.mono (by omega))) (Nat.le_trans (Nat.le_succ _) (Nat.le_succ _))
            · have hTp : 0 < T.length := by
                rcases Nat.eq_zero_or_pos T.length with h | h
                · rw [List.eq_nil_of_length_eq_zero h] at hroom
                  exact absurd (room_nil U HVU.out) hroom
                · exact h
              have HRM := Lib.hid (refRoom (n := n) hsU hsT hfT false ⟨fun h => absurd h (by simp), fun h => absurd h hroom⟩)
              have HTB := Lib.hid (fun (wa : World) (ha : Below wr2.heap.size wr2 wa) => refTimesB (w := wa) n (hsU.below ha) hfT.u.pos hfT.u.len (hsT.below ha) hfT.l)
              have HTK := Lib.hid (fun (wa : World) (ha : Below wr2.heap.size wr2 wa) (t : Int) => refTaken (w := wa) (vu := .slice aU U.length cU) n (hsT.below ha) hfT.l hfT.nodes t)
              have HAT := Lib.hid (fun (wa : World) (ha : Below wr2.heap.size wr2 wa) (t : Int) (ht : isT t = true) => refAt (w := wa) (hsU.below ha) hfT.u t ht)
              have HWO := Lib.hid (fun (wa : World) (ha : Below wr2.heap.size wr2 wa) (j : Nat) (hj : j < T.length) => refWithout (w := wa) (vu := .slice aU U.length cU) n ⟨_, _, _, rfl⟩ (hsT.below ha) hlT (T.getD j default).id hj (ids_at hST hj))
              have HG := Lib.hid (And.intro hG (And.intro hgp hgs))
              have HSU := Lib.hid hsU
              have HOG := Lib.hid hog
              have HFT := Lib.hid hfT
              have HST := Lib.hid hST
              have HFZX := Lib.hid hfz
              have HNR := Lib.hid hroom
              obtain ⟨bT, oT, cT, rfl, p1, p2, p3, CT⟩ := slotAtV hsT hTp
              obtain ⟨a12, c12, rfl, hc1, hc2⟩ := hog.is.shape
              have HCT := Lib.hid CT
              clear hG hgp hgs hsU hsT hno2 hog hroom hb hfz hfT hST hap2 CT
              go_wp2_with fail
              refine (HRM.out).mono ?_
              rintro e wa ⟨rfl, hba⟩
              have c0 := (hba.cell (p := ⟨X, 0, none⟩) hXr).trans c0
              have c1 := (hba.cell (p := ⟨X, 1, none⟩) hXr).trans c1
              have c2 := (hba.cell (p := ⟨X, 2, none⟩) hXr).trans c2
              have HBA := Lib.hid hba
              clear hba
              go_wp2_with fail
              refine (HTB.out _ HBA.out).mono ?_
              rintro e wb ⟨⟨v14, ts2, rfl, ho14, _, hme2, hln2⟩, hbb⟩
              have hpos2 : 0 < ts2.length := List.length_pos_of_mem ((hme2 0).2 (.inl rfl))
              obtain ⟨b14, o14, c14, rfl, g1, g2, g3, C14⟩ := intAtV ho14.is hpos2
              have HBB2 := Lib.hid (HBA.out.trans (hbb.mono HBA.out.size))
              have HC14 := Lib.hid C14
              have HME2 := Lib.hid hme2
              clear ho14 hme2 C14 hbb c0 c1 c2
              go_wp2_with fail
              go_loopw [13, 15] (fun v13 v15 wc2 => ∃ (q : Nat) (x : Int), q ≤ T.length ∧ v15 = .int .i64 q ∧ v13 = .int .i64 x ∧ Worst U T ts2 q x ∧ Below wb.heap.size wb wc2) (fun _ v15 _ => T.length - (intOf v15).toNat)
              case atStart => exact ⟨0, -1, by omega, rfl, rfl, Worst.zero, Below.refl _ _⟩
              case round =>
                rename World => wc2
                obtain ⟨q, x, hq, rfl, rfl, hw, hbc⟩ := hrel
                have HBC := Lib.hid hbc
                have HW := Lib.hid hw
                have hb2c : Below wr2.heap.size wr2 wc2 := HBB2.out.trans (hbc.mono HBB2.out.size)
                obtain ⟨c0, c1, c2⟩ := HC.out
                have c0 := (hb2c.cell (p := ⟨X, 0, none⟩) hXr).trans c0
                have c1 := (hb2c.cell (p := ⟨X, 1, none⟩) hXr).trans c1
                have c2 := (hb2c.cell (p := ⟨X, 2, none⟩) hXr).trans c2
                have HB2C := Lib.hid hb2c
                clear hw hbc hb2c
                by_cases hqN : q < T.length
                · --L3a
                  have hqq : (q : Int) < T.length := by omega
                  go_wp2_with fail
                  clear c0 c1 c2
                  go_loopw [13, 16] (fun v13 v16 wd => ∃ (i : Nat) (x2 : Int), i ≤ ts2.length ∧ v16 = .int .i64 i ∧ v13 = .int .i64 x2 ∧ ((x2 = x ∧ ∀ i2, i2 < i → ¬ HitI U T ts2 q i2) ∨ (x2 = q ∧ HitJ U T ts2 q)) ∧ Below wb.heap.size wb wd) (fun _ v16 _ => ts2.length - (intOf v16).toNat)
                  case atStart => exact ⟨0, x, by omega, rfl, rfl, .inl ⟨rfl, fun i2 h => absurd h (by omega)⟩, HBC.out⟩
                  case round =>
                    rename World => wd
                    obtain ⟨i, x2, hi2, rfl, rfl, hx2, hbd⟩ := hrel
                    have HBD := Lib.hid hbd
                    have HX2 := Lib.hid hx2
                    clear hx2
                    by_cases hiM : i < ts2.length
                    · obtain ⟨t, et, gt⟩ := HC14.out i hiM
                      obtain ⟨y0, y1, y2, y3, eS, n0, n1, n2, n3⟩ := HCT.out q hqN
                      have hii : (i : Int) < ts2.length := by omega
                      have htm : t ∈ ts2 := by
                        rw [← et, List.getD_eq_getElem?_getD, List.getElem?_eq_getElem hiM]
                        exact List.getElem_mem _
                      have hit := HFT.out.times t ((HME2.out t).1 htm)
                      have hb2d : Below wr2.heap.size wr2 wd := HBB2.out.trans (hbd.mono HBB2.out.size)
                      obtain ⟨c0, c1, c2⟩ := HC.out
                      have hXd : X < wd.heap.size := Nat.lt_of_lt_of_le hXr hb2d.size
                      have k0 := After.cell hXd ((hb2d.cell (p := ⟨X, 0, none⟩) hXr).trans c0)
                      have k1 := After.cell hXd ((hb2d.cell (p := ⟨X, 1, none⟩) hXr).trans c1)
                      have k2 := After.cell hXd ((hb2d.cell (p := ⟨X, 2, none⟩) hXr).trans c2)
                      have k14 := After.cell (Nat.lt_of_lt_of_le g3 hbd.size) ((hbd.cell (p := ⟨b14, o14 + i, none⟩) g3).trans gt)
                      have kf := After.cell (Nat.lt_of_lt_of_le p3 hb2d.size) ((hb2d.cell (p := ⟨bT, oT + q * 4 + 1, none⟩) p3).trans n1)
                      have kt := After.cell (Nat.lt_of_lt_of_le p3 hb2d.size) ((hb2d.cell (p := ⟨bT, oT + q * 4 + 2, none⟩) p3).trans n2)
                      have HTKQ := Lib.hid (show ∀ p : After wd, _ from fun p => HTK.out p.wld (hb2d.trans (p.prop.mono hb2d.size)) t)
                      have HATQ := Lib.hid (show ∀ p : After wd, _ from fun p => HAT.out p.wld (hb2d.trans (p.prop.mono hb2d.size)) t hit)
                      have HET := Lib.hid et
                      have HES := Lib.hid eS
                      generalize hld : loadOf T t = ld at *
                      generalize hat : atOf U t = at1 at *
                      have HLD := Lib.hid hld
                      have HA1 := Lib.hid hat
                      clear hbd gt n0 n1 n2 n3 htm hit c0 c1 c2 et eS hld hat hb2d
                      by_cases h1 : at1 < ld
                      · by_cases h2 : y1 ≤ t
                        · by_cases h3 : t < y2
                          · have HNH := Lib.hid (show atOf U t < loadOf T t ∧ (⟨y0, y1, y2, y3⟩ : Slot).frm ≤ t ∧ t < (⟨y0, y1, y2, y3⟩ : Slot).to from ⟨by rw [HLD.out, HA1.out]; exact h1, h2, h3⟩)
                            go_wp2_with fail
                            refine wp_region_quiet_after (by kernel_rfl) (by kernel_rfl) ?_
                            repeat (go_big_quiet_step ((first | (go_at_call 71; exact after_of (HTKQ.out _)) | (go_at_call 67; exact after_of (HATQ.out _)))))
                            refine wpQuiet_nil ?_
                            intro wy hC
                            have hwy := after_out hC
                            clear hC k0 k1 k2 k14 kf kt
                            have HWY := Lib.hid hwy
                            clear hwy
                            go_wp2_with fail
                            go_roundw
                            case rel =>
                              refine ⟨i + 1, q, by omega, by go_num, rfl, .inr ⟨rfl, i, hiM, ?_⟩, HBD.out.trans (HWY.out.mono HBD.out.size)⟩
                              rw [HET.out, HES.out]
                              exact HNH.out
                            case measure => simp [intOf]; omega
                          · have d3 : decide (t < y2) = false := by simpa using h3
                            have HNH := Lib.hid (show ¬ (atOf U t < loadOf T t ∧ (⟨y0, y1, y2, y3⟩ : Slot).frm ≤ t ∧ t < (⟨y0, y1, y2, y3⟩ : Slot).to) from fun h => h3 h.2.2)
                            go_wp2_with fail
                            refine wp_region_quiet_after (by kernel_rfl) (by kernel_rfl) ?_
                            repeat (go_big_quiet_step ((first | (go_at_call 71; exact after_of (HTKQ.out _)) | (go_at_call 67; exact after_of (HATQ.out _)))))
                            refine wpQuiet_nil ?_
                            intro wy hC
                            have hwy := after_out hC
                            clear hC k0 k1 k2 k14 kf kt
                            have HWY := Lib.hid hwy
                            clear hwy
                            go_wp2_with fail
                            go_roundw
                            case rel =>
                              refine ⟨i + 1, x2, by omega, by go_num, rfl, ?_, HBD.out.trans (HWY.out.mono HBD.out.size)⟩
                              rcases HX2.out with ⟨h1, h2⟩ | h1
                              · refine .inl ⟨h1, fun i2 h3 => ?_⟩
                                by_cases he : i2 = i
                                · subst he
                                  unfold HitI
                                  rw [HET.out, HES.out]
                                  exact HNH.out
                                · exact h2 i2 (by omega)
                              · exact .inr h1
                            case measure => simp [intOf]; omega
                        · have d2 : decide (y1 ≤ t) = false := by simpa using h2
                          have HNH := Lib.hid (show ¬ (atOf U t < loadOf T t ∧ (⟨y0, y1, y2, y3⟩ : Slot).frm ≤ t ∧ t < (⟨y0, y1, y2, y3⟩ : Slot).to) from fun h => h2 h.2.1)
                          go_wp2_with fail
                          refine wp_region_quiet_after (by kernel_rfl) (by kernel_rfl) ?_
                          repeat (go_big_quiet_step ((first | (go_at_call 71; exact after_of (HTKQ.out _)) | (go_at_call 67; exact after_of (HATQ.out _)))))
                          refine wpQuiet_nil ?_
                          intro wy hC
                          have hwy := after_out hC
                          clear hC k0 k1 k2 k14 kf kt
                          have HWY := Lib.hid hwy
                          clear hwy
                          go_wp2_with fail
                          go_roundw
                          case rel =>
                            refine ⟨i + 1, x2, by omega, by go_num, rfl, ?_, HBD.out.trans (HWY.out.mono HBD.out.size)⟩
                            rcases HX2.out with ⟨h1, h2⟩ | h1
                            · refine .inl ⟨h1, fun i2 h3 => ?_⟩
                              by_cases he : i2 = i
                              · subst he
                                unfold HitI
                                rw [HET.out, HES.out]
                                exact HNH.out
                              · exact h2 i2 (by omega)
                            · exact .inr h1
                          case measure => simp [intOf]; omega
                      · have d1 : decide (at1 < ld) = false := by simpa using h1
                        have HNH := Lib.hid (show ¬ (atOf U t < loadOf T t ∧ (⟨y0, y1, y2, y3⟩ : Slot).frm ≤ t ∧ t < (⟨y0, y1, y2, y3⟩ : Slot).to) from fun h => h1 (by rw [← HLD.out, ← HA1.out]; exact h.1))
                        go_wp2_with fail
                        refine wp_region_quiet_after (by kernel_rfl) (by kernel_rfl) ?_
                        repeat (go_big_quiet_step ((first | (go_at_call 71; exact after_of (HTKQ.out _)) | (go_at_call 67; exact after_of (HATQ.out _)))))
                        refine wpQuiet_nil ?_
                        intro wy hC
                        have hwy := after_out hC
                        clear hC k0 k1 k2 k14 kf kt
                        have HWY := Lib.hid hwy
                        clear hwy
                        go_wp2_with fail
                        go_roundw
                        case rel =>
                          refine ⟨i + 1, x2, by omega, by go_num, rfl, ?_, HBD.out.trans (HWY.out.mono HBD.out.size)⟩
                          rcases HX2.out with ⟨h1, h2⟩ | h1
                          · refine .inl ⟨h1, fun i2 h3 => ?_⟩
                            by_cases he : i2 = i
                            · subst he
                              unfold HitI
                              rw [HET.out, HES.out]
                              exact HNH.out
                            · exact h2 i2 (by omega)
                          · exact .inr h1
                        case measure => simp [intOf]; omega
                    · obtain rfl : i = ts2.length := by omega
                      have hd2 : decide ((ts2.length : Int) < ts2.length) = false := by simp
                      clear hbd
                      go_wp2_with fail
                      go_roundw
                      case rel =>
                        refine ⟨q + 1, x2, by omega, by go_num, rfl, ?_, HBD.out⟩
                        rcases HX2.out with ⟨rfl, h2⟩ | ⟨rfl, h2⟩
                        · exact HW.out.no (fun ⟨i2, h3, h4⟩ => h2 i2 h3 h4)
                        · exact Worst.yes h2
                      case measure => simp [intOf]; omega
                · obtain rfl : q = T.length := by omega
                  have hd : decide ((T.length : Int) < T.length) = false := by simp
                  obtain ⟨j, hxj, hj, hhu⟩ := worst_hurt HFT.out HST.out HME2.out HNR.out HW.out
                  subst hxj
                  obtain ⟨y0, y1, y2, y3, eS, n0, _, _, _⟩ := HCT.out j hj
                  have hjj : (j : Int) < T.length := by omega
                  have n0 := (HB2C.out.cell (p := ⟨bT, oT + j * 4, none⟩) p3).trans n0
                  have hXc : X < wc2.heap.size := Nat.lt_of_lt_of_le hXr HB2C.out.size
                  have hbk : Below wc2.heap.size wc2 (wc2.alloc (.cells #[.int .i64 y0] 3)) := (Below.refl _ _).alloc (Nat.le_refl _) _
                  have m0 := cell_old (.cells #[.int .i64 y0] 3) c0
                  have m1 := cell_old (.cells #[.int .i64 y0] 3) c1
                  have m2 := cell_old (.cells #[.int .i64 y0] 3) c2
                  have HB2K := Lib.hid (HB2C.out.trans (hbk.mono HB2C.out.size))
                  have HW5 := Lib.hid (HWO.out _ HB2K.out j hj)
                  have hid0 : (T.getD j default).id = y0 := by rw [eS]
                  rw [hid0] at HW5
                  have hTm : T.getD j default ∈ T := getD_mem hj
                  have HHU := Lib.hid (And.intro hTm (And.intro hid0 hhu))
                  clear hid0 hTm hhu eS hbk
                  go_wp2_with fail
                  refine (HW5.out).mono ?_
                  rintro e we ⟨⟨v53, rfl, hov⟩, hbe⟩
                  have HB2E := Lib.hid (HB2K.out.trans (hbe.mono HB2K.out.size))
                  have hszk : (wc2.alloc (.cells #[.int .i64 y0] 3)).heap.size = wc2.heap.size + 1 := by simp
                  have e0 := (hbe.cell (p := ⟨X, 0, none⟩) (by simp only; omega)).trans m0
                  have e1 := (hbe.cell (p := ⟨X, 1, none⟩) (by simp only; omega)).trans m1
                  have e2 := (hbe.cell (p := ⟨X, 2, none⟩) (by simp only; omega)).trans m2
                  have eY := (hbe.cell (p := ⟨wc2.heap.size, 0, none⟩) (by simp only; omega)).trans (cell_new wc2 #[.int .i64 y0] 3 0 rfl)
                  have f0 := (HB2E.out.frozen (p := ⟨X, 0, none⟩) hXr).trans (HFZX.out 0)
                  have f1 := (HB2E.out.frozen (p := ⟨X, 1, none⟩) hXr).trans (HFZX.out 1)
                  have f2 := (HB2E.out.frozen (p := ⟨X, 2, none⟩) hXr).trans (HFZX.out 2)
                  have hXe : X < we.heap.size := Nat.lt_of_lt_of_le hXr HB2E.out.size
                  have hYe : wc2.heap.size < we.heap.size := by have := hbe.size; omega
                  have hkX : X + 1 ≤ (wc2.alloc (.cells #[.int .i64 y0] 3)).heap.size := by omega
                  have HOV := Lib.hid (OwnSlots.wider hov hkX)
                  obtain ⟨a53, c53, rfl, _, _⟩ := hov.is.shape
                  have heY : (((we.setCell ⟨X, 0, none⟩ (.int .i64 n)).setCell ⟨X, 1, none⟩ (.slice aU U.length cU)).setCell ⟨X, 2, none⟩ (.slice a53 (without T y0).length c53)).cell? ⟨wc2.heap.size, 0, none⟩ = some (.int .i64 y0) := (set3_other (by omega)).trans eY
                  have HS3 := Lib.hid (set3 (a := .int .i64 n) (b := .slice aU U.length cU) (c := .slice a53 (without T y0).length c53) e0 e1 e2)
                  clear hov hbe m0 m1 m2 c0 c1 c2 eY n0 hszk hkX
                  go_wp2_with fail
                  obtain ⟨wf, hwf⟩ : ∃ wf, wf = (((we.setCell ⟨X, 0, none⟩ (.int .i64 n)).setCell ⟨X, 1, none⟩ (.slice aU U.length cU)).setCell ⟨X, 2, none⟩ (.slice a53 (without T y0).length c53)) := ⟨_, rfl⟩
                  rw [← hwf] at heY HS3 ⊢
                  have hszf : wf.heap.size = we.heap.size := by rw [hwf]; exact set3_size
                  have HB1F : Hid (Below w1.heap.size w1 wf) := Lib.hid (by rw [hwf]; exact below_set3 (HB.out.trans (HB2E.out.mono HB.out.size)) hX1)
                  have HFZF : Hid (∀ o, wf.frozen? ⟨X, o, none⟩ = false) := Lib.hid (fun o => by rw [hwf, set3_frozen]; exact (HB2E.out.frozen (p := ⟨X, o, none⟩) hXr).trans (HFZX.out o))
                  have HUF : Hid (IsSteps wf (.slice aU U.length cU) U) := Lib.hid (by rw [hwf]; exact IsRow.set3 (HSU.out.below HB2E.out) HCA.out.1)
                  have HOF : Hid (OwnSlots wf (X + 1) (.slice a53 (without T y0).length c53) (without T y0)) := Lib.hid (by rw [hwf]; exact owns_set3 HOV.out (Nat.lt_succ_self _))
                  have HGF : Hid (OwnInts wf (X + 1) (.slice a12 g.length c12) g) := Lib.hid (by rw [hwf]; exact owns_set3 (owns_below HOG.out HB2E.out) (Nat.lt_succ_self _))
                  have hYf : wc2.heap.size < wf.heap.size := by omega
                  have hXf : X < wf.heap.size := by omega
                  clear hszf
                  have HFIN : Hid (∀ (wz : World) (v18 : Value) (q : Nat), Below wf.heap.size wf wz → OwnInts wz wf.heap.size v18 (g.take q ++ [y0] ++ g.drop q) → (∀ j, j < q → g.getD j default < y0) → (q < g.length → y0 ≤ g.getD q default) →
                      (∃ (G g : List Int) (T : List Slot) (vs2 : Value), Gone U S G T ∧ g.Perm G ∧ g.Pairwise (· ≤ ·) ∧ Below w1.heap.size w1 wz ∧ X < wz.heap.size ∧ (wz.cell? ⟨X, 0, none⟩ = some (.int .i64 n) ∧ wz.cell? ⟨X, 1, none⟩ = some (.slice aU U.length cU) ∧ wz.cell? ⟨X, 2, none⟩ = some vs2) ∧ (∀ o, wz.frozen? ⟨X, o, none⟩ = false) ∧ IsSteps wz (.slice aU U.length cU) U ∧ IsSlots wz vs2 T ∧ (∀ m c, vs2 = .slice none m c → c = m) ∧ (vs2 = .slice az mz cz ∨ ∀ Z, Z < w1.heap.size → Apart Z vs2) ∧ OwnInts wz (X + 1) v18 g) ∧ mz - sliceLen v18 < mz - g.length) := by
                    refine Lib.hid fun wz v18 q hbz hoz hlt hge => ?_
                    obtain ⟨hG, hgp, hgs⟩ := HG.out
                    obtain ⟨hTm, hid0, hhu⟩ := HHU.out
                    obtain ⟨s0, s1, s2⟩ := HS3.out
                    obtain ⟨hgl, hgl2⟩ := HGL.out
                    obtain ⟨i1, i2⟩ := insI hlt hge hgs
                    have hgn : Gone U S (G ++ [y0]) (without T y0) := by
                      have h := Gone.snoc hG hTm hhu
                      rw [hid0] at h
                      exact h
                    refine ⟨⟨G ++ [y0], _, without T y0, .slice a53 (without T y0).length c53, hgn, i1.trans (hgp.append_right _), i2, HB1F.out.trans (hbz.mono HB1F.out.size), Nat.lt_of_lt_of_le hXf hbz.size, ⟨(hbz.cell (p := ⟨X, 0, none⟩) hXf).trans s0, (hbz.cell (p := ⟨X, 1, none⟩) hXf).trans s1, (hbz.cell (p := ⟨X, 2, none⟩) hXf).trans s2⟩, fun o => (hbz.frozen (p := ⟨X, o, none⟩) hXf).trans (HFZF.out o), HUF.out.below hbz, HOF.out.is.below hbz, HOF.out.no, .inr fun Z hZ => Apart.own HOF.out (by omega), OwnInts.wider hoz (by omega)⟩, ?_⟩
                    rw [hoz.len]
                    have h3 : (g.take q ++ [y0] ++ g.drop q).length = g.length + 1 := by
                      have := i1.length_eq
                      simpa using this
                    rw [h3]
                    omega
                  have HGNO := Lib.hid HGF.out.no
                  have HGI := Lib.hid HGF.out.is
                  have hglen : g.length ≤ 9000 := by
                    obtain ⟨hgl, hgl2⟩ := HGL.out
                    have h1 := HF.out.l
                    have h2 := HMZ.out
                    omega
                  clear hwf e0 e1 e2 f0 f1 f2
                  go_loopw [18, 19] (fun v18 v19 wg => ∃ q : Nat, q ≤ g.length ∧ v19 = .int .i64 q ∧ Below wf.heap.size wf wg ∧ OwnInts wg wf.heap.size v18 (g.take q) ∧ ∀ j, j < q → g.getD j default < y0) (fun _ v19 _ => g.length - (intOf v19).toNat)
                  case atStart => exact ⟨0, by omega, rfl, Below.refl _ _, World.ownsRow_nil _ _ _ _, fun j h => absurd h (by omega)⟩
                  case round =>
                    rename World => wg
                    obtain ⟨q, hq5, rfl, hb5, ho5, hlt5⟩ := hrel
                    have HB5 := Lib.hid hb5
                    have HLT5 := Lib.hid hlt5
                    have hsg : wf.heap.size ≤ wg.heap.size := hb5.size
                    have kY := (hb5.cell (p := ⟨wc2.heap.size, 0, none⟩) hYf).trans heY
                    have hlen5 : (g.take q).length = q := by rw [List.length_take]; omega
                    clear hlt5
                    by_cases hqg : q < g.length
                    · --L5a
                      obtain ⟨b12, o12, cp12, hE, gg1, gg2, gg3, C12⟩ := intAtV HGI.out (by omega)
                      injection hE with hE1 hE2 hE3
                      subst hE1
                      subst hE3
                      obtain ⟨y, ey, gy⟩ := C12 q hqg
                      have kq := (hb5.cell (p := ⟨b12, o12 + q, none⟩) gg3).trans gy
                      have hqq : (q : Int) < g.length := by omega
                      have HEY := Lib.hid ey
                      have HSL := HGI
                      by_cases hy : y < y0
                      · have hsn : g.take (q + 1) = g.take q ++ [y] := by
                          rw [List.take_succ_eq_append_getElem hqg]
                          rw [List.getD_eq_getElem?_getD, List.getElem?_eq_getElem hqg] at ey
                          simp only [Option.getD_some] at ey
                          rw [ey]
                        have HSN := Lib.hid hsn
                        generalize g.take q = lst at *
                        unfold OwnInts at ho5
                        rw [hlen5] at ho5
                        have HO5 := Lib.hid ho5
                        clear hb5 ho5 gy ey hsn C12
                        go_wp2_with fail
                        go_quiet (fail)
                        have T0 := Lib.hid (owns_below HO5.out ((below_drewN (Below.refl _ _) nq).alloc (Nat.le_refl _) (.cells #[.int .i64 y] 3)))
                        have T1 : q + 1 ≤ maxLen := by unfold maxLen; omega
                        have T2 : wf.heap.size ≤ ((wg.drewN nq).alloc (.cells #[.int .i64 y] 3)).heap.size := by simp; omega
                        have T3 : ∀ u ∈ [Value.int IntKind.i64 y], u.oneCell' = true := by simp [Value.oneCell']
                        have T4 : (q + 1) * 8 ≤ 140737488355328 := by omega
                        have HTS := Lib.hid (And.intro T1 (And.intro T2 (And.intro T3 T4)))
                        clear T1 T2 T3 T4
                        go_wp2_with (at_builtin; refine wpList_append_own _ rfl (.tmp 195) (.tmp 200) 42 rfl wf.heap.size 3 i0 _ 1 8 Try.underlying42 hi hz0 hz1 hz2 rfl Nat.zero_lt_one u18 _ _ rfl T0.out ⟨wg.heap.size, 0, none⟩ 1 1 [.int .i64 y] rfl rfl (news_at _ _ rfl #[.int .i64 y] 3) HTS.out.2.2.1 HTS.out.1 HTS.out.2.2.2 HTS.out.2.1 ?_)
                        intro v' w8 hown8 hgrow hnil
                        have HO8 := Lib.hid hown8
                        have HG8 := Lib.hid hgrow
                        clear hown8 hgrow hnil
                        go_wp2_with fail
                        go_roundw
                        case rel =>
                          refine ⟨q + 1, by omega, by go_num, ((below_drewN HB5.out nq).alloc hsg _).grown HG8.out (by simp; omega) (fun g hg => ((World.ownsRow.lt HO5.out) g hg).1), ?_, fun j hj => ?_⟩
                          · rw [HSN.out]
                            exact own_int1 HO8.out
                          · by_cases h : j = q
                            · subst h; rw [HEY.out]; exact hy
                            · exact HLT5.out j (by omega)
                        case measure => simp [intOf]; omega
                      · have dy : decide (y < y0) = false := by simpa using hy
                        generalize hlst : g.take q = lst at *
                        have HLST := Lib.hid hlst
                        unfold OwnInts at ho5
                        rw [hlen5] at ho5
                        have HO5 := Lib.hid ho5
                        clear hb5 ho5 gy ey hlst C12
                        go_wp2_with fail
                        go_quiet (fail)
                        have T0 := Lib.hid (owns_below HO5.out ((below_drewN (Below.refl _ _) nq).alloc (Nat.le_refl _) (.cells #[.int .i64 y0] 3)))
                        have T1 : q + 1 ≤ maxLen := by unfold maxLen; omega
                        have T2 : wf.heap.size ≤ ((wg.drewN nq).alloc (.cells #[.int .i64 y0] 3)).heap.size := by simp; omega
                        have T3 : ∀ u ∈ [Value.int IntKind.i64 y0], u.oneCell' = true := by simp [Value.oneCell']
                        have T4 : (q + 1) * 8 ≤ 140737488355328 := by omega
                        have HTS := Lib.hid (And.intro T1 (And.intro T2 (And.intro T3 T4)))
                        clear T1 T2 T3 T4
                        go_wp2_with (at_builtin; refine wpList_append_own _ rfl (.tmp 204) (.tmp 208) 42 rfl wf.heap.size 3 i0 _ 1 8 Try.underlying42 hi hz0 hz1 hz2 rfl Nat.zero_lt_one u18 _ _ rfl T0.out ⟨wg.heap.size, 0, none⟩ 1 1 [.int .i64 y0] rfl rfl (news_at _ _ rfl #[.int .i64 y0] 3) HTS.out.2.2.1 HTS.out.1 HTS.out.2.2.2 HTS.out.2.1 ?_)
                        intro v' w8 hown8 hgrow hnil
                        have hB8 : Below wf.heap.size wg w8 := ((below_drewN (Below.refl _ _) nq).alloc hsg _).grown hgrow (by simp; omega) (fun g hg => ((World.ownsRow.lt HO5.out) g hg).1)
                        have HO8 := Lib.hid hown8
                        have HB8 := Lib.hid (HB5.out.trans hB8)
                        have hs8 : wf.heap.size ≤ w8.heap.size := Nat.le_trans hsg hB8.size
                        clear hown8 hgrow hnil hB8
                        have HNW := Lib.hid (news_below gg3 HB8.out (drop_newsI HSL.out hqg))
                        have hdl : (flatI (g.drop q)).length = (g.length - q) * 1 := by rw [length_flatI, List.length_drop]
                        have h1c := oneCell_flatI (g.drop q)
                        have HDL := Lib.hid hdl
                        have H1C := Lib.hid h1c
                        clear hdl h1c
                        generalize hfd : flatI (g.drop q) = fd at *
                        have HFD := Lib.hid hfd
                        clear hfd
                        have T5 : q + 1 + (g.length - q) ≤ maxLen := by unfold maxLen; omega
                        have T6 : (q + 1 + (g.length - q)) * 8 ≤ 140737488355328 := by omega
                        have HT5 := Lib.hid (And.intro T5 T6)
                        clear T5 T6
                        go_wp2_with (at_builtin; refine wpList_append_own _ rfl (.tmp 210) (.tmp 213) 42 rfl wf.heap.size 3 i0 _ 1 8 Try.underlying42 hi hz0 hz1 hz2 rfl Nat.zero_lt_one v' _ _ rfl HO8.out ⟨b12, o12 + q, none⟩ (g.length - q) (c12 - q) fd rfl HDL.out HNW.out H1C.out HT5.out.1 HT5.out.2 hs8 ?_)
                        intro v9 w9 hown9 hgrow9 hnil9
                        have HB9 := Lib.hid (HB8.out.trans ((Below.refl _ _).grown hgrow9 hs8 (fun g hg => ((World.ownsRow.lt HO8.out) g hg).1)))
                        have HO9 := Lib.hid hown9
                        clear hown9 hgrow9 hnil9
                        go_wp2_with fail
                        have hown : OwnInts w9 wf.heap.size v9 (g.take q ++ [y0] ++ g.drop q) := ins_own HLST.out HFD.out (by first | exact HO9.out | (rw [← List.append_assoc]; exact HO9.out))
                        have hfin := HFIN.out _ _ q HB9.out hown HLT5.out (fun _ => by rw [HEY.out]; omega)
                        have HR1 := Lib.hid hfin.1
                        have HR2 := Lib.hid hfin.2
                        clear hown hfin
                        go_roundw
                        case rel => exact HR1.out
                        case measure =>
                          have h1 := HR2.out
                          simpa [sliceLen] using h1
                    · obtain rfl : q = g.length := by omega
                      have hd5 : decide ((g.length : Int) < g.length) = false := by simp
                      have hfd0 : flatI (g.drop g.length) = [] := by rw [List.drop_length]; rfl
                      have HFD := Lib.hid hfd0
                      generalize hlst : g.take g.length = lst at *
                      have HLST := Lib.hid hlst
                      unfold OwnInts at ho5
                      rw [hlen5] at ho5
                      have HO5 := Lib.hid ho5
                      clear hb5 ho5 hlst hlen5 hfd0
                      rcases a12 with _ | ⟨b12, o12, im⟩
                      · have hcn : c12 = g.length := HGNO.out _ _ rfl
                        subst hcn
                        go_wp2_with fail
                        go_quiet (fail)
                        have T0 := Lib.hid (owns_below HO5.out ((below_drewN (Below.refl _ _) nq).alloc (Nat.le_refl _) (.cells #[.int .i64 y0] 3)))
                        have T1 : g.length + 1 ≤ maxLen := by unfold maxLen; omega
                        have T2 : wf.heap.size ≤ ((wg.drewN nq).alloc (.cells #[.int .i64 y0] 3)).heap.size := by simp; omega
                        have T3 : ∀ u ∈ [Value.int IntKind.i64 y0], u.oneCell' = true := by simp [Value.oneCell']
                        have T4 : (g.length + 1) * 8 ≤ 140737488355328 := by omega
                        have HTS := Lib.hid (And.intro T1 (And.intro T2 (And.intro T3 T4)))
                        clear T1 T2 T3 T4
                        go_wp2_with (at_builtin; refine wpList_append_own _ rfl (.tmp 204) (.tmp 208) 42 rfl wf.heap.size 3 i0 _ 1 8 Try.underlying42 hi hz0 hz1 hz2 rfl Nat.zero_lt_one u18 _ _ rfl T0.out ⟨wg.heap.size, 0, none⟩ 1 1 [.int .i64 y0] rfl rfl (news_at _ _ rfl #[.int .i64 y0] 3) HTS.out.2.2.1 HTS.out.1 HTS.out.2.2.2 HTS.out.2.1 ?_)
                        intro v' w8 hown8 hgrow hnil
                        have hB8 : Below wf.heap.size wg w8 := ((below_drewN (Below.refl _ _) nq).alloc hsg _).grown hgrow (by simp; omega) (fun g hg => ((World.ownsRow.lt HO5.out) g hg).1)
                        have HO8 := Lib.hid hown8
                        have HB8 := Lib.hid (HB5.out.trans hB8)
                        have hs8 : wf.heap.size ≤ w8.heap.size := Nat.le_trans hsg hB8.size
                        clear hown8 hgrow hnil hB8
                        have hown : OwnInts w8 wf.heap.size v' (g.take g.length ++ [y0] ++ g.drop g.length) := ins_own HLST.out HFD.out (by have h := HO8.out; rw [List.append_nil]; exact h)
                        have hfin := HFIN.out _ _ g.length HB8.out hown HLT5.out (fun h => absurd h (Nat.lt_irrefl _))
                        have HR1 := Lib.hid hfin.1
                        have HR2 := Lib.hid hfin.2
                        clear hown hfin
                        go_wp2_with (at_builtin; refine wpList_append_own_none rfl (.tmp 210) (.tmp 213) 42 rfl wf.heap.size 3 i0 1 Try.underlying42 hi v' _ _ rfl HO8.out rfl ?_)
                        go_roundw
                        case rel => exact HR1.out
                        case measure =>
                          have h1 := HR2.out
                          simpa [sliceLen] using h1
                      · by_cases hcq : c12 = g.length
                        · subst hcq
                          go_wp2_with fail
                          go_quiet (fail)
                          have T0 := Lib.hid (owns_below HO5.out ((below_drewN (Below.refl _ _) nq).alloc (Nat.le_refl _) (.cells #[.int .i64 y0] 3)))
                          have T1 : g.length + 1 ≤ maxLen := by unfold maxLen; omega
                          have T2 : wf.heap.size ≤ ((wg.drewN nq).alloc (.cells #[.int .i64 y0] 3)).heap.size := by simp; omega
                          have T3 : ∀ u ∈ [Value.int IntKind.i64 y0], u.oneCell' = true := by simp [Value.oneCell']
                          have T4 : (g.length + 1) * 8 ≤ 140737488355328 := by omega
                          have HTS := Lib.hid (And.intro T1 (And.intro T2 (And.intro T3 T4)))
                          clear T1 T2 T3 T4
                          go_wp2_with (at_builtin; refine wpList_append_own _ rfl (.tmp 204) (.tmp 208) 42 rfl wf.heap.size 3 i0 _ 1 8 Try.underlying42 hi hz0 hz1 hz2 rfl Nat.zero_lt_one u18 _ _ rfl T0.out ⟨wg.heap.size, 0, none⟩ 1 1 [.int .i64 y0] rfl rfl (news_at _ _ rfl #[.int .i64 y0] 3) HTS.out.2.2.1 HTS.out.1 HTS.out.2.2.2 HTS.out.2.1 ?_)
                          intro v' w8 hown8 hgrow hnil
                          have hB8 : Below wf.heap.size wg w8 := ((below_drewN (Below.refl _ _) nq).alloc hsg _).grown hgrow (by simp; omega) (fun g hg => ((World.ownsRow.lt HO5.out) g hg).1)
                          have HO8 := Lib.hid hown8
                          have HB8 := Lib.hid (HB5.out.trans hB8)
                          have hs8 : wf.heap.size ≤ w8.heap.size := Nat.le_trans hsg hB8.size
                          clear hown8 hgrow hnil hB8
                          have T5 : g.length + 1 + 0 ≤ maxLen := by unfold maxLen; omega
                          have T6 : (g.length + 1 + 0) * 8 ≤ 140737488355328 := by omega
                          have HT5 := Lib.hid (And.intro T5 T6)
                          clear T5 T6
                          go_wp2_with (at_builtin; refine wpList_append_own _ rfl (.tmp 210) (.tmp 213) 42 rfl wf.heap.size 3 i0 _ 1 8 Try.underlying42 hi hz0 hz1 hz2 rfl Nat.zero_lt_one v' _ _ rfl HO8.out ⟨b12, o12, im⟩ 0 (0) [] rfl rfl (by intro j u hj; simp at hj) (by simp) HT5.out.1 HT5.out.2 hs8 ?_)
                          intro v9 w9 hown9 hgrow9 hnil9
                          have HB9 := Lib.hid (HB8.out.trans ((Below.refl _ _).grown hgrow9 hs8 (fun g hg => ((World.ownsRow.lt HO8.out) g hg).1)))
                          have HO9 := Lib.hid hown9
                          clear hown9 hgrow9 hnil9
                          go_wp2_with fail
                          have hown : OwnInts w9 wf.heap.size v9 (g.take g.length ++ [y0] ++ g.drop g.length) := ins_own HLST.out HFD.out (by first | exact HO9.out | (rw [← List.append_assoc]; exact HO9.out))
                          have hfin := HFIN.out _ _ g.length HB9.out hown HLT5.out (fun h => absurd h (Nat.lt_irrefl _))
                          have HR1 := Lib.hid hfin.1
                          have HR2 := Lib.hid hfin.2
                          clear hown hfin
                          go_roundw
                          case rel => exact HR1.out
                          case measure =>
                            have h1 := HR2.out
                            simpa [sliceLen] using h1
                        · have hcq2 : g.length < c12 := by omega
                          go_wp2_with fail
                          go_quiet (fail)
                          have T0 := Lib.hid (owns_below HO5.out ((below_drewN (Below.refl _ _) nq).alloc (Nat.le_refl _) (.cells #[.int .i64 y0] 3)))
                          have T1 : g.length + 1 ≤ maxLen := by unfold maxLen; omega
                          have T2 : wf.heap.size ≤ ((wg.drewN nq).alloc (.cells #[.int .i64 y0] 3)).heap.size := by simp; omega
                          have T3 : ∀ u ∈ [Value.int IntKind.i64 y0], u.oneCell' = true := by simp [Value.oneCell']
                          have T4 : (g.length + 1) * 8 ≤ 140737488355328 := by omega
                          have HTS := Lib.hid (And.intro T1 (And.intro T2 (And.intro T3 T4)))
                          clear T1 T2 T3 T4
                          go_wp2_with (at_builtin; refine wpList_append_own _ rfl (.tmp 204) (.tmp 208) 42 rfl wf.heap.size 3 i0 _ 1 8 Try.underlying42 hi hz0 hz1 hz2 rfl Nat.zero_lt_one u18 _ _ rfl T0.out ⟨wg.heap.size, 0, none⟩ 1 1 [.int .i64 y0] rfl rfl (news_at _ _ rfl #[.int .i64 y0] 3) HTS.out.2.2.1 HTS.out.1 HTS.out.2.2.2 HTS.out.2.1 ?_)
                          intro v' w8 hown8 hgrow hnil
                          have hB8 : Below wf.heap.size wg w8 := ((below_drewN (Below.refl _ _) nq).alloc hsg _).grown hgrow (by simp; omega) (fun g hg => ((World.ownsRow.lt HO5.out) g hg).1)
                          have HO8 := Lib.hid hown8
                          have HB8 := Lib.hid (HB5.out.trans hB8)
                          have hs8 : wf.heap.size ≤ w8.heap.size := Nat.le_trans hsg hB8.size
                          clear hown8 hgrow hnil hB8
                          have T5 : g.length + 1 + 0 ≤ maxLen := by unfold maxLen; omega
                          have T6 : (g.length + 1 + 0) * 8 ≤ 140737488355328 := by omega
                          have HT5 := Lib.hid (And.intro T5 T6)
                          clear T5 T6
                          go_wp2_with (at_builtin; refine wpList_append_own _ rfl (.tmp 210) (.tmp 213) 42 rfl wf.heap.size 3 i0 _ 1 8 Try.underlying42 hi hz0 hz1 hz2 rfl Nat.zero_lt_one v' _ _ rfl HO8.out ((⟨b12, o12, im⟩ : Addr).add g.length) 0 (c12 - g.length) [] rfl rfl (by intro j u hj; simp at hj) (by simp) HT5.out.1 HT5.out.2 hs8 ?_)
                          intro v9 w9 hown9 hgrow9 hnil9
                          have HB9 := Lib.hid (HB8.out.trans ((Below.refl _ _).grown hgrow9 hs8 (fun g hg => ((World.ownsRow.lt HO8.out) g hg).1)))
                          have HO9 := Lib.hid hown9
                          clear hown9 hgrow9 hnil9
                          go_wp2_with fail
                          have hown : OwnInts w9 wf.heap.size v9 (g.take g.length ++ [y0] ++ g.drop g.length) := ins_own HLST.out HFD.out (by first | exact HO9.out | (rw [← List.append_assoc]; exact HO9.out))
                          have hfin := HFIN.out _ _ g.length HB9.out hown HLT5.out (fun h => absurd h (Nat.lt_irrefl _))
                          have HR1 := Lib.hid hfin.1
                          have HR2 := Lib.hid hfin.2
                          clear hown hfin
                          go_roundw
                          case rel => exact HR1.out
                          case measure =>
                            have h1 := HR2.out
                            simpa [sliceLen] using h1

end Go.Proofs.Ytjknmnmilladlaa
