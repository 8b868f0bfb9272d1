import Derived.Test.YtjknmnmilladlaaD
import Derived.Test.YtjknmnmilladlaaB
import Derived.Laws.StructEq
import Derived.Test.YtjknmnmilladlaaC
import Derived.Test.YtjknmnmilladlaaA

/-
  The book in memory, behind writes to a row of the call's own; Sort with what it writes.
-/
namespace Go.Proofs.Ytjknmnmilladlaa
open Go.RowKit Go.Sort Go.Proofs

/-- slices.Sort, with what it writes. -/
theorem sortIntsG {w : World} {B : Nat} {v : Value} {l : List Int} (h : OwnInts w B v l) (hlen : l.length < 4611686018427387904) :
    Calls Try.prog 48 #[v] w fun e w' => e = .returned (.tuple #[]) ∧ OwnInts w' B v (l.mergeSort fun x y => decide (x ≤ y)) ∧ w.grownBy w' v.ownBlock := by
  have hl : (l.mergeSort fun x y => decide (x ≤ y)).length = l.length := List.length_mergeSort l
  rcases h.2 with ⟨rfl, h0⟩ | ⟨g, cap, cur, rfl, hg, hb, h1, h2, h3, ht⟩
  · have hle : l = [] := List.length_eq_zero_iff.1 h0
    subst hle
    refine (Any.slices_Sort_int_none Try.lays189 none 0 w).mono ?_
    rintro e w' ⟨he, rfl⟩
    exact ⟨he, by rw [List.mergeSort_nil]; exact h, ⟨rfl, rfl, rfl, Nat.le_refl _, fun _ _ _ => rfl⟩⟩
  · have ht' : cur.toList.take l.length = l.map (Value.int .i64) := by simpa [flatI] using ht
    have hlt : g < w.heap.size := (Array.getElem?_eq_some_iff.1 hb).1
    refine (Any.slices_Sort_int Try.lays189 g 0 cap l w (holds_of_blockI hb ht') hlt hlen).mono ?_
    rintro e w' ⟨he, n, os, rfl⟩
    refine ⟨he, ?_, ?_⟩
    · have := ownsRow_sortedI (n := n) (os := os) hl hg hb h1 h2 h3
      unfold OwnInts
      rw [hl]
      exact this
    · have : (Value.slice (some ⟨g, 0, none⟩) l.length cap).ownBlock = some g := by simp [Value.ownBlock]
      rw [this]
      exact grownBy_sortedI _

theorem OwnInts.keptB {w w' : World} {bk bm B : Nat} {v : Value} {l : List Int} (h : OwnInts w B v l) (hK : Kept bk bm w w') (h1 : bk < B) (h2 : bm < B) : OwnInts w' B v l := by
  refine ⟨h.1, ?_⟩
  rcases h.2 with h' | ⟨g, cap, cur, hv, hb, hg, r⟩
  · exact .inl h'
  · exact .inr ⟨g, cap, cur, hv, hb, by rw [hK.block g (Array.getElem?_eq_some_iff.1 hg).1 (by omega) (by omega)]; exact hg, r⟩

/-- A row of the call's own was written (or laid anew): the book stays. -/
theorem IsRow.grownOwn {w w' : World} {k : Nat} {row : Option Nat} {v : Value} {n : Nat} {xs : List Value} (hk : 0 < k) (h : IsRow w k v n xs) (hg : w.grownBy w' row) (hA : ∀ g, row = some g → Apart g v) : IsRow w' k v n xs := by
  obtain ⟨hl, ao, cap, rfl, h1, h2, h3⟩ := h
  refine ⟨hl, ao, cap, rfl, h1, h2, fun hn => ?_⟩
  obtain ⟨b, off, rfl, hr⟩ := h3 hn
  have hx : xs ≠ [] := by
    intro e
    rw [e] at hl
    have : 0 < n * k := Nat.mul_pos hn hk
    simp at hl
    omega
  have hlt := hr.lt hx
  exact ⟨b, off, rfl, hr.same fun o => World.cell?_of_block (w := w) (hg.block b hlt (fun e => hA b e.symm _ _ _ rfl hn rfl))⟩
theorem BookIs.grownOwn {w w' : World} {bk bm : Nat} {row : Option Nat} {n : Int} {up fr : List Step} {L : List Slot} (h : BookIs w bk bm n up fr L) (hg : w.grownBy w' row) (h1 : row ≠ some bk) (h2 : row ≠ some bm) (hA : ∀ g, row = some g → AwayB w bk g) : BookIs w' bk bm n up fr L := by
  have hc : ∀ o, w'.cell? ⟨bk, o, none⟩ = w.cell? ⟨bk, o, none⟩ := fun o => World.cell?_of_block (w := w) (hg.block bk h.lt (Ne.symm h1))
  have hf : ∀ o, w'.frozen? ⟨bk, o, none⟩ = w.frozen? ⟨bk, o, none⟩ := fun o => World.frozen?_of_block (w := w) (hg.block bk h.lt (Ne.symm h1))
  obtain ⟨vu, u1, u2, u3⟩ := h.c1
  obtain ⟨vf, f1, f2, f3⟩ := h.c2
  exact ⟨(hc 0).trans h.c0, ⟨vu, (hc 1).trans u1, IsRow.grownOwn (by decide) u2 hg (fun g e => hA g e vu (.inl u1)), u3⟩, ⟨vf, (hc 2).trans f1, IsRow.grownOwn (by decide) f2 hg (fun g e => hA g e vf (.inr f1)), f3⟩, (hc 3).trans h.c3, fun o => (hf o).trans (h.fz o), h.map.of_block (hg.block bm h.map.lt (Ne.symm h2))⟩
theorem AwayB.grownOwn {w w' : World} {bk X : Nat} {row : Option Nat} (hA : AwayB w bk X) (hlt : bk < w.heap.size) (hg : w.grownBy w' row) (h1 : row ≠ some bk) : AwayB w' bk X := by
  have hc : ∀ o, w'.cell? ⟨bk, o, none⟩ = w.cell? ⟨bk, o, none⟩ := fun o => World.cell?_of_block (w := w) (hg.block bk hlt (Ne.symm h1))
  intro x hx
  rw [hc, hc] at hx
  exact hA x hx
theorem AwayB.turned {w w' : World} {bk bm X : Nat} (hA : AwayB w bk X) (hlt : bk < w.heap.size) (hne : bk ≠ bm) (ht : w.mapTurned w' bm) : AwayB w' bk X :=
  hA.grownOwn hlt ht.grown (fun e => hne (by cases e; rfl))
theorem Kept.grownOwn {bk bm : Nat} {a w w' : World} {row : Option Nat} (h : Kept bk bm a w) (hg : w.grownBy w' row) (hR : ∀ g, row = some g → a.heap.size ≤ g) : Kept bk bm a w' :=
  ⟨hg.os.trans h.os, hg.tape.trans h.tape, hg.output.trans h.output, Nat.le_trans h.size hg.size, fun k hk h1 h2 => (hg.block k (Nat.lt_of_lt_of_le hk h.size) (fun e => by have := hR k e.symm; omega)).trans (h.block k hk h1 h2)⟩
/-- The rows of a call's own from B on: not the book's blocks, which are older. -/
theorem own_far {w : World} {B bk bm : Nat} {v : Value} {l : List Int} (h : OwnInts w B v l) (h1 : bk < B) (h2 : bm < B) : v.ownBlock ≠ some bk ∧ v.ownBlock ≠ some bm ∧ ∀ g, v.ownBlock = some g → B ≤ g := by
  have hl := World.ownsRow.lt h
  refine ⟨fun e => ?_, fun e => ?_, fun g e => (hl g e).1⟩
  · have := (hl bk e).1; omega
  · have := (hl bm e).1; omega

end Go.Proofs.Ytjknmnmilladlaa

/-
  Walk: the book's Out.
-/
namespace Go.Proofs.Ytjknmnmilladlaa
open Go.RowKit

def OutPost (w : World) (bk bm : Nat) (n : Int) (L : List Slot) (up2 : List Step) (e : Ending) (w' : World) : Prop :=
  (1000 < up2.length ∧ e = .returned (.tuple #[.slice none 0 0, .int .i64 3]) ∧ Below w.heap.size w w') ∨
  (up2.length ≤ 1000 ∧ ∃ (v : Value) (G : List Int) (L2 dn : List Slot), e = .returned (.tuple #[v, .int .i64 0]) ∧ Gone up2 L G L2 ∧ HurtIs up2 L2 0 ∧ dn.Perm L2 ∧ BookIs w' bk bm n up2 (sumF up2 dn) L2 ∧ IsInts w' v (G.mergeSort fun x y => decide (x ≤ y)) ∧ Kept bk bm w w')

def mapSize (w : World) (b : Nat) : Nat := match w.heap[b]? with | some (.map es _) => es.size | _ => 0
theorem MapIs.size {w : World} {bm : Nat} {L : List Slot} (h : MapIs w bm L) : mapSize w bm = L.length := by
  obtain ⟨es, clock, hb, hE⟩ := h
  simp only [mapSize, hb]
  exact hE.len

def midN (up : List Step) (frm to : Int) (j : Nat) : List Int := ((stepT up).take j).filter fun a => decide (frm < a) && decide (a < to)
theorem midN_succ {up : List Step} {frm to : Int} {j : Nat} (h : j < up.length) : midN up frm to (j + 1) = midN up frm to j ++ if (decide (frm < atv up j) && decide (atv up j < to)) = true then [atv up j] else [] := by
  unfold midN
  rw [stepT_take up j h, List.filter_append]
  congr 1
  rw [List.filter_cons]
  split <;> simp_all
theorem length_midN (up : List Step) (frm to : Int) (j : Nat) : (midN up frm to j).length ≤ j := by
  unfold midN
  have := List.length_filter_le (fun a => decide (frm < a) && decide (a < to)) ((stepT up).take j)
  have h2 := List.length_take_le j (stepT up)
  omega
theorem midN_all (up : List Step) (frm to : Int) : midN up frm to up.length = midT up frm to := by
  unfold midN midT
  rw [List.take_of_length_le (by simp [stepT])]

set_option maxHeartbeats 8000000 in
set_option maxRecDepth 100000 in
theorem outMain {w : World} {bk bm : Nat} {n : Int} {up fr : List Step} {L : List Slot} (h : BookIs w bk bm n up fr L) (hI : Inv n up fr L) (frm to k : Int) (ha : outArg n frm to k = true) :
    Calls Try.prog 24 #[.pointer (some ⟨bk, 0, none⟩), .int .i64 frm, .int .i64 to, .int .i64 k] w (OutPost w bk bm n L (outUp up frm to k)) := by
  have hpos := hI.vu.pos
  have hul := hI.ul
  obtain ⟨vu, u1, u2, u3⟩ := h.c1
  have hvat := u2
  obtain ⟨b, off, cap, rfl, hnc, hcap, hbw, hA, hF, _⟩ := u2.cells hpos
  have c0 := h.c0
  have hlt := h.lt
  obtain ⟨N, hN⟩ : ∃ N, N = up.length := ⟨_, rfl⟩
  rw [← hN] at hA hF hnc hpos u1 hvat hul u3
  unfold outArg at ha
  simp only [Bool.and_eq_true] at ha
  obtain ⟨⟨⟨⟨t1, t2⟩, d1⟩, d2⟩, d3⟩ := ha
  have hlt1 : frm < to := by simpa using d1
  have T1 := Lib.hid t1
  have T2 := Lib.hid t2
  have HA := Lib.hid hA
  have HF := Lib.hid hF
  have HN := Lib.hid hN
  have HVU := Lib.hid hvat
  have HAP := Lib.hid u3
  have HI := Lib.hid hI
  have HH := Lib.hid h
  have e1 : decide (to ≤ frm) = false := by simpa using d1
  have e2 : decide (k < 1) = false := by simp at d2 ⊢; omega
  have e3 : decide (n < k) = false := by simp at d3 ⊢; omega
  have HLT := Lib.hid hlt1
  have HD2 := Lib.hid d2
  have HD3 := Lib.hid d3
  clear t1 t2 d1 d2 d3 hA hF hN hvat hI h u2 u3 hlt1
  obtain ⟨i0, hi, hz0, hz1, hz2⟩ := info_parts Try.info3
  go_enter Try.func24, Try.ntmps24
  go_wp2_with fail
  go_step3
  go_wp2_with fail
  refine (clockT frm _ T1.out).mono ?_
  rintro e w1 ⟨rfl, rfl⟩
  go_wp2_with fail
  refine (clockT to _ T2.out).mono ?_
  rintro e w1 ⟨rfl, rfl⟩
  go_wp2_with fail
  go_loopw [10, 56] (fun o i wr => ∃ j : Nat, j ≤ N ∧ i = .int .i64 j ∧ Below w.heap.size w wr ∧ OwnInts wr w.heap.size o (frm :: midN up frm to j)) (fun _ i _ => N - (intOf i).toNat)
  case atStart =>
    refine ⟨0, by omega, rfl, (Below.refl _ _).alloc (Nat.le_refl _) _, ?_⟩
    exact World.ownsRow_lit (e := 3) (size := 1) w #[.int .i64 frm] 1 (Nat.le_refl _) (by unfold maxLen; omega) rfl
  case round =>
    obtain ⟨j, hj, rfl, hb, hown⟩ := hrel
    have HOWN := Lib.hid hown
    have HB := Lib.hid hb
    have hlt2 : w.heap.size ≤ wr.heap.size := hb.size
    by_cases hjN : j < N
    · have hAk : wr.cell? ⟨b, off + j * 2, none⟩ = some (.int .i64 (atv up j)) := (hb.cell (p := ⟨b, off + j * 2, none⟩) hbw).trans (HA.out j hjN)
      have hFk : wr.cell? ⟨b, off + j * 2 + 1, none⟩ = some (.int .i64 (frv up j)) := (hb.cell (p := ⟨b, off + j * 2 + 1, none⟩) hbw).trans (HF.out j hjN)
      have hsucc := midN_succ (frm := frm) (to := to) (show j < up.length by rw [← HN.out]; exact hjN)
      have hln := length_midN up frm to j
      have hjj : (j : Int) < N := by omega
      clear hb hown
      generalize atv up j = aj at *
      generalize frv up j = fj at *
      cases x1 : decide (frm < aj)
      · have hx : midN up frm to (j + 1) = midN up frm to j := by rw [hsucc, x1]; simp
        have HX := Lib.hid hx
        clear hx hsucc
        go_wp2_with fail
        go_roundw
        case rel => exact ⟨j + 1, by omega, by go_num, HB.out.alloc hlt2 _, by rw [HX.out]; exact HOWN.out.alloc _⟩
        case measure => simp [intOf]; omega
      cases x2 : decide (aj < to)
      · have hx : midN up frm to (j + 1) = midN up frm to j := by rw [hsucc, x2]; simp
        have HX := Lib.hid hx
        clear hx hsucc
        go_wp2_with fail
        go_roundw
        case rel => exact ⟨j + 1, by omega, by go_num, HB.out.alloc hlt2 _, by rw [HX.out]; exact HOWN.out.alloc _⟩
        case measure => simp [intOf]; omega
      · have hx : midN up frm to (j + 1) = midN up frm to j ++ [aj] := by rw [hsucc, x1, x2]; simp
        have HX := Lib.hid hx
        clear hx hsucc
        generalize hlst : midN up frm to j = lst at *
        have hlz : (frm :: lst).length ≤ 40000 := by simp; omega
        have HOW := HOWN.out
        unfold OwnInts at HOW
        have HOW := Lib.hid HOW
        generalize hl2 : frm :: lst = l2 at *
        generalize l2.length = ln at *
        go_wp2_with (at_builtin; refine wpList_append_own _ rfl (.tmp 70) (.tmp 73) 42 rfl w.heap.size 3 i0 _ 1 8 Try.underlying42 hi hz0 hz1 hz2 rfl (by decide) _ _ _ rfl (by exact (HOW.out.alloc _).alloc _) ⟨wr.heap.size + 1, 0, none⟩ 1 1 [.int .i64 aj] rfl rfl (news_at _ _ (by simp) #[.int .i64 aj] 3) (by simp [Value.oneCell']) (by unfold maxLen; omega) (by omega) (by simp; omega) ?_)
        intro v' w3 hown3 hgrow hnil
        have HO3 := Lib.hid hown3
        have HG := Lib.hid hgrow
        clear hown3 hnil hgrow
        go_wp2_with fail
        go_roundw
        case rel =>
          have hB3 : Below w.heap.size w w3 := ((HB.out.alloc hlt2 _).alloc (by simp; omega) _).grown HG.out (by simp; omega) (fun g hg => ((World.ownsRow.lt HOW.out) g hg).1)
          refine ⟨j + 1, by omega, by go_num, hB3, ?_⟩
          rw [HX.out, ← List.cons_append, hl2]
          exact own_int1 HO3.out
        case measure => simp [intOf]; omega
    · obtain rfl : j = N := by omega
      have hd3 : decide ((j : Int) < j) = false := by simp
      have hmid := midN_all up frm to
      rw [← HN.out] at hmid
      rw [hmid] at hown
      have hln := length_midN up frm to j
      rw [hmid] at hln
      have hT : frm :: midT up frm to ++ [to] = outT up frm to := rfl
      have HT := Lib.hid hT
      obtain ⟨M, hM⟩ : ∃ M, (outT up frm to).length = M + 1 := ⟨(outT up frm to).length - 1, by have := outT_len up frm to; omega⟩
      have hM2 : 1 ≤ M ∧ M ≤ 1001 := by
        have := outT_len up frm to
        rw [← HN.out] at this
        omega
      have HM := Lib.hid hM
      have hlz : (frm :: midT up frm to).length ≤ 40000 := by simp; omega
      have HOW := hown
      unfold OwnInts at HOW
      have HOW := Lib.hid HOW
      have c1r : wr.cell? ⟨bk, 1, none⟩ = some (.slice (some ⟨b, off, none⟩) j cap) := (hb.cell (p := ⟨bk, 1, none⟩) hlt).trans u1
      clear hb hown hmid hT hM hln HOWN
      generalize hl2 : frm :: midT up frm to = l2 at *
      generalize l2.length = ln at *
      have HL2 := Lib.hid hl2
      clear hl2
      go_wp2_with (at_builtin; refine wpList_append_own _ rfl (.tmp 76) (.tmp 78) 42 rfl w.heap.size 3 i0 _ 1 8 Try.underlying42 hi hz0 hz1 hz2 rfl (by decide) _ _ _ rfl (by exact HOW.out.alloc _) ⟨wr.heap.size, 0, none⟩ 1 1 [.int .i64 to] rfl rfl (news_at _ _ rfl #[.int .i64 to] 3) (by simp [Value.oneCell']) (by unfold maxLen; omega) (by omega) (by simp; omega) ?_)
      intro v' w3 hown3 hgrow hnil
      have hB3 : Below w.heap.size w w3 := (HB.out.alloc hlt2 _).grown hgrow (by simp; omega) (fun g hg => ((World.ownsRow.lt HOW.out) g hg).1)
      have hO3 : OwnInts w3 w.heap.size v' (outT up frm to) := by rw [← HT.out]; exact own_int1 hown3
      have HB3 := Lib.hid hB3
      have hIs := hO3.is
      have HO3 := Lib.hid hO3
      obtain ⟨g, og, cg, rfl, hc1, hc2, hgw, hTs, _⟩ := hIs.cells (by rw [HM.out]; omega)
      rw [HM.out] at hc1 hTs
      rw [HM.out]
      have HTS := Lib.hid hTs
      have c1w : w3.cell? ⟨bk, 1, none⟩ = some (.slice (some ⟨b, off, none⟩) j cap) := (hB3.cell (p := ⟨bk, 1, none⟩) hlt).trans u1
      have hl3 : w.heap.size ≤ w3.heap.size := hB3.size
      clear hown3 hgrow hnil hB3 hO3 hIs hTs c1r
      go_wp2_with fail
      have hI1 := HI.out
      have hkk : 1 ≤ k ∧ k ≤ 10000 := by
        have h1 := HD2.out
        have h2 := HD3.out
        have h3 := hI1.n1
        simp at h1 h2
        omega
      have hok := out_ok (k := k) hI1.vu hI1.ul (isT_iff.1 T1.out).1 HLT.out (isT_iff.1 T2.out).2 hkk
      have hcur := atOf_range hI1.vu
      rw [HM.out] at hok
      have HOK := Lib.hid hok
      have HCUR := Lib.hid hcur
      have HVU3 := Lib.hid (HVU.out.below HB3.out)
      have houp : outUp up frm to k = outN up (outT up frm to) k M := by unfold outUp; rw [HM.out]; rfl
      have HOUP := Lib.hid houp
      clear hok hcur hI1 houp
      generalize outT up frm to = ts at *
      go_loopw [13, 90] (fun v i wr => ∃ j2 : Nat, j2 ≤ M ∧ i = .int .i64 j2 ∧ Below w3.heap.size w3 wr ∧ IsSteps wr v (outN up ts k j2) ∧ Apart bk v) (fun _ i _ => M - (intOf i).toNat)
      case atStart => exact ⟨0, by omega, rfl, Below.refl _ _, HVU3.out, HAP.out⟩
      case round =>
        obtain ⟨j2, hj2, rfl, hb4, hst, hap⟩ := hrel
        have HAP2 := Lib.hid hap
        clear hap
        have HB4 := Lib.hid hb4
        have HST := Lib.hid hst
        have hl4 : w3.heap.size ≤ wr.heap.size := hb4.size
        by_cases hjM : j2 < M
        · have q1 : wr.cell? ⟨g, og + j2, none⟩ = some (.int .i64 (inv ts j2)) := (hb4.cell (p := ⟨g, og + j2, none⟩) hgw).trans (HTS.out j2 (by omega))
          have q2 : wr.cell? ⟨g, og + (j2 + 1), none⟩ = some (.int .i64 (inv ts (j2 + 1))) := (hb4.cell (p := ⟨g, og + (j2 + 1), none⟩) hgw).trans (HTS.out (j2 + 1) (by omega))
          have q3 : wr.cell? ⟨bk, 1, none⟩ = some (.slice (some ⟨b, off, none⟩) j cap) := (hb4.cell (p := ⟨bk, 1, none⟩) (Nat.lt_of_lt_of_le hlt hl3)).trans c1w
          have hjj2 : (j2 : Int) < M := by omega
          have hjj3 : (j2 : Int) + 1 < (M : Int) + 1 := by omega
          have hjj4 : ((j2 : Int) + 1).toNat = j2 + 1 := by omega
          have hjj5 : (0 : Int) ≤ (j2 : Int) + 1 := by omega
          have hwr := small_wrap (a := (j2 : Int) + 1) (by omega) (by omega)
          have hae := (HOK.out j2 (by omega)).2 (by omega)
          have hav := HCUR.out (inv ts j2)
          obtain ⟨kk, hkk2⟩ : ∃ kk, kk = outK up k (inv ts j2) := ⟨_, rfl⟩
          have hres : addRes (outN up ts k j2) (inv ts j2) (inv ts (j2 + 1)) (-kk) = outN up ts k (j2 + 1) := by rw [hkk2]; rfl
          rw [← hkk2] at hae
          unfold outK at hkk2
          have HAE := Lib.hid hae
          have HRES := Lib.hid hres
          have HVW := Lib.hid (HVU3.out.below hb4)
          clear hae hres hb4 hst
          generalize inv ts j2 = t at *
          generalize inv ts (j2 + 1) = t9 at *
          have HAA := Lib.hid (fun (w0 : World) (h0 : IsSteps w0 (.slice (some ⟨b, off, none⟩) j cap) up) => atAny h0 t)
          generalize atOf up t = at1 at *
          have hneg : IntKind.i64.wrap (-(min k at1)) = -kk := by rw [← hkk2]; exact neg_wrap ⟨by omega, by omega⟩
          clear hkk2 hav
          have hbk3 : bk < wr.heap.size := Nat.lt_of_lt_of_le (Nat.lt_of_lt_of_le hlt hl3) hl4
          have hg3 : g < wr.heap.size := Nat.lt_of_lt_of_le hgw hl4
          have HST2 := Lib.hid (HST.out.below ((Below.refl _ _).drew))
          have HVW2 := Lib.hid (HVW.out.below ((Below.refl _ _).drew))
          clear HST HVW
          go_wp2_with fail
          go_region_held3 (fun w' => w'.cell? ⟨bk, 1, none⟩ = some (.slice (some ⟨b, off, none⟩) j cap) ∧ w'.cell? ⟨g, og + (j2 + 1), none⟩ = some (.int .i64 t9)) (first | go_keep | exact ⟨k1, k2⟩ | exact ⟨k3, k4⟩) ((first | (go_at_call 21; refine (HAA.out _ HVW2.out).mono ?_; rintro e w5 ⟨rfl, hb5⟩; have k1 := cell_thru hb5 (w := wr.drew) q3; have k2 := cell_thru hb5 (w := wr.drew) q2; have HST3 := Lib.hid (HST2.out.below hb5); have HB5 := Lib.hid hb5; clear hb5) | (go_at_call 44; refine (addEq HST3.out HAE.out HRES.out).mono ?_; rintro e w6 ⟨⟨v6, rfl, hv6⟩, hb6⟩; obtain ⟨ao6, cp6, rfl, _, _⟩ := IsRow.shape hv6.is; have k3 := cell_thru hb6 k1; have k4 := cell_thru hb6 k2; have HV6 := Lib.hid hv6; have HB6 := Lib.hid hb6; clear hv6 hb6)))
          go_wp2_with fail
          go_roundw
          case rel =>
            have hB6 : Below w3.heap.size w3 w6 := (HB4.out.drew.trans (HB5.out.mono hl4)).trans (HB6.out.mono (Nat.le_trans hl4 HB5.out.size))
            exact ⟨j2 + 1, by omega, by go_num, hB6, HV6.out.is, Apart.own HV6.out (Nat.lt_of_lt_of_le hbk3 HB5.out.size)⟩
          case measure => simp [intOf]; omega
        · obtain rfl : j2 = M := by omega
          have hd5 : decide ((j2 : Int) < j2) = false := by simp
          obtain ⟨ao, cu, rfl, hu1, hu2⟩ := IsRow.shape hst
          have HB7 := Lib.hid (HB3.out.trans (hb4.mono hl3))
          rw [← HOUP.out] at hst
          have HST := Lib.hid hst
          have hlen : (outN up ts k j2).length = (outUp up frm to k).length := by rw [HOUP.out]
          rw [hlen] at hu1 ⊢
          have HLEN := Lib.hid hlen
          generalize hup2 : outUp up frm to k = up2 at *
          have HUP2 := Lib.hid hup2
          clear hst hb4 hlen hup2
          by_cases hlong : 1000 < up2.length
          · have hd7 : decide ((1000 : Int) < up2.length) = true := by simp; omega
            go_wp2_with fail
            rw [Exit.noGoto_ret]
            go_ret2
            exact .inl ⟨hlong, rfl, HB7.out⟩
          · have hd7 : decide ((1000 : Int) < up2.length) = false := by simp; omega
            have c1x : wr.cell? ⟨bk, 1, none⟩ = some (.slice (some ⟨b, off, none⟩) j cap) := (HB7.out.cell (p := ⟨bk, 1, none⟩) hlt).trans u1
            have HH7 := Lib.hid (HH.out.below HB7.out)
            have g1 := HH7.out.fz 1
            have A1 : Apart bk (.slice ao up2.length cu) := by have := HAP2.out; rwa [HLEN.out] at this
            have HK8 := Lib.hid (HH7.out.setUp HST.out A1)
            have HP8 := Lib.hid ((Kept.of_below (bk := bk) (bm := bm) HB7.out).set 1 (.slice ao up2.length cu))
            have hv2 : Valid up2 := by
              have hkk1 := hkk
              rw [← HUP2.out]
              exact (outUp_ok HI.out.vu HI.out.ul (isT_iff.1 T1.out).1 HLT.out (isT_iff.1 T2.out).2 hkk1).1
            have HV2 := Lib.hid hv2
            clear A1 hv2
            go_wp2_with fail
            go_step3
            go_wp2_with fail
            obtain ⟨B3, hB3⟩ : ∃ B3, B3 = wr.heap.size := ⟨_, rfl⟩
            have hsz3 : (wr.setCell ⟨bk, 1, none⟩ (.slice ao up2.length cu)).heap.size = B3 := by simp [World.setCell, hB3]
            have HA3 := Lib.hid (show ∀ X, B3 ≤ X → AwayB (wr.setCell ⟨bk, 1, none⟩ (.slice ao up2.length cu)) bk X from fun X hX => HK8.out.away (by rw [hsz3]; exact hX))
            have hwB : w.heap.size ≤ B3 := by rw [hB3]; exact HB7.out.size
            have hbkB : bk < B3 := Nat.lt_of_lt_of_le hlt hwB
            have hbmB : bm < B3 := Nat.lt_of_lt_of_le HH.out.map.lt hwB
            have HSZ3 := Lib.hid hsz3
            clear hB3 hsz3
            go_loopw [18] (fun gv wr => ∃ G L1, BookIs wr bk bm n up2 fr L1 ∧ Gone up2 L G L1 ∧ OwnInts wr B3 gv G ∧ Kept bk bm w wr ∧ B3 ≤ wr.heap.size ∧ ∀ X, B3 ≤ X → AwayB wr bk X) (fun _ wr => mapSize wr bm)
            case atStart => exact ⟨[], L, HK8.out, Gone.nil, World.ownsRow_nil _ _ _ _, HP8.out, Nat.le_of_eq HSZ3.out.symm, HA3.out⟩
            case round =>
              obtain ⟨G, L1, hBk, hG, hO, hKp, hBs, hAw⟩ := hrel
              have HBK := Lib.hid hBk
              have HG := Lib.hid hG
              have HO := Lib.hid hO
              have HKP := Lib.hid hKp
              have HAW := Lib.hid hAw
              have hsub := hG.sub
              have hGL := hG.len HI.out.ids
              have HGL := Lib.hid hGL
              have hnd : ∀ s ∈ L1, 1 ≤ s.nodes ∧ s.nodes ≤ 10000 := fun s hs => HI.out.nodes s (hsub.subset hs)
              have hL9 : L1.length ≤ 9000 := Nat.le_trans hsub.length_le HI.out.len
              have HMS := Lib.hid (show mapSize _ bm = L1.length from hBk.map.size)
              have HOV := Lib.hid (overAny hBk HV2.out.pos (by omega) hL9 hnd (atOf_range HV2.out))
              clear hBk hG hO hKp hsub hnd hAw hGL
              go_wp2_with fail
              refine (HOV.out).mono ?_
              rintro e w5 ⟨⟨v5, ts5, rfl, hts5, ho5⟩, hb5⟩
              have hB5 := HBK.out.below hb5
              have hpos5 : 0 < (ts5.map fun t => (⟨t, loadOf L1 t - atOf up2 t⟩ : Step)).length := by
                have h0 : atv up2 0 ∈ ts5 := by
                  rw [hts5, List.mem_append]
                  left
                  unfold stepT
                  rw [List.mem_map]
                  exact ⟨up2[0]'HV2.out.pos, List.getElem_mem HV2.out.pos, by rw [stepAt up2 0 HV2.out.pos]⟩
                simpa using List.length_pos_of_mem h0
              have HHU := Lib.hid (hurtAny hB5 ho5.is hpos5)
              have hhi : HurtIs up2 L1 (hurtOf (ts5.map fun t => (⟨t, loadOf L1 t - atOf up2 t⟩ : Step)) L1) := ⟨ts5, hts5, rfl⟩
              generalize hurtOf (ts5.map fun t => (⟨t, loadOf L1 t - atOf up2 t⟩ : Step)) L1 = id at *
              have HHI := Lib.hid hhi
              have HB5 := Lib.hid hB5
              have HO5 := Lib.hid (owns_below HO.out hb5 : OwnInts _ B3 _ G)
              have HK5 := Lib.hid (HKP.out.trans (Kept.of_below hb5))
              have HA5 := Lib.hid (show ∀ X, B3 ≤ X → AwayB w5 bk X from fun X hX => (HAW.out X hX).below hb5 HBK.out.lt)
              have hs5 : B3 ≤ w5.heap.size := Nat.le_trans hBs hb5.size
              clear hb5 hB5 hpos5 hhi ho5 hts5
              go_wp2_with fail
              refine (HHU.out).mono ?_
              rintro e w6 ⟨rfl, hb6⟩
              have HB6 := Lib.hid (HB5.out.below hb6)
              have HO6 := Lib.hid (owns_below HO5.out hb6 : OwnInts _ B3 _ G)
              have HK6 := Lib.hid (HK5.out.trans (Kept.of_below hb6))
              have HA6 := Lib.hid (show ∀ X, B3 ≤ X → AwayB w6 bk X from fun X hX => (HA5.out X hX).below hb6 HB5.out.lt)
              have hs6 : B3 ≤ w6.heap.size := Nat.le_trans hs5 hb6.size
              clear hb6
              by_cases hz : id = 0
              · have hd9 : (id == 0) = true := by simpa using hz
                subst hz
                have HSU := Lib.hid (sumAny HB6.out (by omega) (fun s hs => HI.out.nodes s (HG.out.sub.subset hs)))
                go_wp2_with fail
                refine (HSU.out).mono ?_
                rintro e w7 ⟨rfl, ⟨dn, hdn, hb7⟩, hk7, haw7⟩
                have hO7 := OwnInts.keptB HO6.out hk7 hbkB hbmB
                have HO7 := Lib.hid hO7
                have HB7' := Lib.hid hb7
                have HK7 := Lib.hid hk7
                have HA7 := Lib.hid haw7
                have HDN := Lib.hid hdn
                have hGlen : G.length < 4611686018427387904 := by
                  have h1 := HGL.out
                  have h2 := HI.out.len
                  omega
                have HSO := Lib.hid (sortIntsG hO7 hGlen)
                clear hO7 hb7 hk7 haw7 hdn
                go_wp2_with fail
                refine (HSO.out).mono ?_
                rintro e w8 ⟨rfl, hO8, hg8⟩
                have HO8 := Lib.hid hO8
                have HG8 := Lib.hid hg8
                obtain ⟨ao8, cp8, hv8, _, _⟩ := IsRow.shape hO8.is
                rw [List.length_mergeSort] at hv8
                subst hv8
                clear hO8 hg8
                go_wp2_with fail
                rw [Exit.noGoto_ret]
                go_ret2
                have hfar := own_far HO7.out hbkB hbmB
                have hB8 := HB7'.out.grownOwn HG8.out hfar.1 hfar.2.1 (fun g hg => HA7.out g (World.ownsRow.lt HO6.out g hg).2 (HA6.out g (hfar.2.2 g hg)))
                have hK8 := (HK6.out.trans HK7.out).grownOwn HG8.out (fun g hg => Nat.le_trans hwB (hfar.2.2 g hg))
                exact .inr ⟨by omega, _, G, L1, dn, rfl, HG.out, HHI.out, HDN.out, hB8, HO8.out.is, hK8⟩
              · have hd9 : (id == 0) = false := by simpa using hz
                obtain ⟨s, hs, hsid⟩ := HHI.out.mem hz
                have HSI := Lib.hid hsid
                have HS := Lib.hid hs
                have c36 := HB6.out.c3
                clear hs hsid hz
                go_wp2_with (at_delete; refine wp_del _ rfl _ _ rfl bm L1 id rfl rfl HB6.out.map ?_)
                intro w7 hm7 ht7
                replace hm7 : MapIs w7 bm (without L1 id) := by unfold without; simpa using hm7
                have hne7 : bk ≠ bm := HB6.out.ne
                have HB7' := Lib.hid (HB6.out.turned ht7 hm7)
                have HK7 := Lib.hid (HK6.out.turned ht7)
                have HO7 := Lib.hid (OwnInts.keptB HO6.out ((Kept.refl bk bm _).turned ht7) hbkB hbmB)
                have HA7 := Lib.hid (show ∀ X, B3 ≤ X → AwayB w7 bk X from fun X hX => (HA6.out X hX).turned HB6.out.lt HB6.out.ne ht7)
                have hs7 : B3 ≤ w7.heap.size := Nat.le_trans hs6 ht7.grown.size
                clear hm7 ht7 hne7 c36
                have HOW := HO7.out
                unfold OwnInts at HOW
                have HOW := Lib.hid HOW
                have hlz : G.length ≤ 40000 := by
                  have h1 := HGL.out
                  have h2 := HI.out.len
                  omega
                obtain ⟨gn, hgn⟩ : ∃ gn, gn = G.length := ⟨_, rfl⟩
                rw [← hgn] at hlz HOW
                have HGN := Lib.hid hgn
                clear hgn
                go_wp2_with (at_builtin; refine wpList_append_own _ rfl (.tmp 138) (.tmp 140) 42 rfl B3 3 i0 _ 1 8 Try.underlying42 hi hz0 hz1 hz2 rfl (by decide) _ _ _ rfl (by exact (HOW.out.alloc _)) ⟨w7.heap.size, 0, none⟩ 1 1 [.int .i64 id] rfl rfl (news_at _ _ rfl #[.int .i64 id] 3) (by simp [Value.oneCell']) (by unfold maxLen; omega) (by omega) (by simp; omega) ?_)
                intro v' w8 hown8 hgrow hnil
                have HO8 := Lib.hid hown8
                have HG8 := Lib.hid hgrow
                clear hown8 hgrow hnil
                go_wp2_with fail
                go_roundw
                case rel =>
                  have hfar := own_far HO7.out hbkB hbmB
                  have hB8 := (HB7'.out.alloc (.cells #[.int .i64 id] 3)).grownOwn HG8.out hfar.1 hfar.2.1 (fun g hg => (HA7.out g (hfar.2.2 g hg)).below ((Below.refl _ _).alloc (Nat.le_refl _) _) HB7'.out.lt)
                  have hK8 := (HK7.out.alloc (.cells #[.int .i64 id] 3)).grownOwn HG8.out (fun g hg => Nat.le_trans hwB (hfar.2.2 g hg))
                  refine ⟨G ++ [id], without L1 id, hB8, ?_, ?_, hK8, ?_, fun X hX => ?_⟩
                  · have := Gone.snoc HG.out HS.out (by rw [HSI.out]; exact HHI.out)
                    rwa [HSI.out] at this
                  · have := HO8.out
                    rw [HGN.out] at this
                    exact own_int1 this
                  · have := HG8.out.size
                    simp at this
                    omega
                  · exact ((HA7.out X hX).below ((Below.refl _ _).alloc (Nat.le_refl _) (.cells #[.int .i64 id] 3)) HB7'.out.lt).grownOwn (by simp; exact Nat.lt_succ_of_lt HB7'.out.lt) HG8.out hfar.1
                case measure =>
                  have hfar := own_far HO7.out hbkB hbmB
                  have hB8 := (HB7'.out.alloc (.cells #[.int .i64 id] 3)).grownOwn HG8.out hfar.1 hfar.2.1 (fun g hg => (HA7.out g (hfar.2.2 g hg)).below ((Below.refl _ _).alloc (Nat.le_refl _) _) HB7'.out.lt)
                  rw [hB8.map.size, HMS.out, ← HSI.out]
                  exact without_lt HS.out

end Go.Proofs.Ytjknmnmilladlaa

/-
  Walks: Same (of profiles, of slots, of numbers).
-/
namespace Go.Proofs.Ytjknmnmilladlaa
open Go.RowKit

theorem eqg38 : Try.prog.eqGuardType Try.prog.depth 38 = false := by kernel_rfl
theorem eqg29 : Try.prog.eqGuardType Try.prog.depth 29 = false := by kernel_rfl
theorem held38 : Try.prog.stoodInHeld 38 = false := by kernel_rfl
theorem held29 : Try.prog.stoodInHeld 29 = false := by kernel_rfl

theorem equal38 (a b c d : Int) (w : World) : (Op.equalIn 10000 38 (.agg #[.int .i64 a, .int .i64 b]) (.agg #[.int .i64 c, .int .i64 d])).run Try.prog w = .ok (decide (a = c ∧ b = d)) w := by
  have u3 := Try.underlying3
  have a3 := Try.isAgg3
  have z3 := Try.sizeOf3
  have hS : Try.prog.underlying 38 = some (.struct (Try.prog.fieldsOf 38)) := by kernel_rfl
  rw [run_equalIn_struct w 9999 38 _ _ hS held38]
  simp only [Program.fieldsOf, Try.underlying38]
  go_simp
  by_cases h1 : a = c <;> by_cases h2 : b = d <;> simp [h1, h2]
theorem equal29 (a b c d a2 b2 c2 d2 : Int) (w : World) : (Op.equalIn 10000 29 (.agg #[.int .i64 a, .int .i64 b, .int .i64 c, .int .i64 d]) (.agg #[.int .i64 a2, .int .i64 b2, .int .i64 c2, .int .i64 d2])).run Try.prog w = .ok (decide (a = a2 ∧ b = b2 ∧ c = c2 ∧ d = d2)) w := by
  have u3 := Try.underlying3
  have a3 := Try.isAgg3
  have z3 := Try.sizeOf3
  have hS : Try.prog.underlying 29 = some (.struct (Try.prog.fieldsOf 29)) := by kernel_rfl
  rw [run_equalIn_struct w 9999 29 _ _ hS held29]
  simp only [Program.fieldsOf, Try.underlying29]
  go_simp
  by_cases h1 : a = a2 <;> by_cases h2 : b = b2 <;> by_cases h3 : c = c2 <;> by_cases h4 : d = d2 <;> simp [h1, h2, h3, h4]

theorem neq38 (x y : Step) (w : World) : (binOp .neq 38 (stepV x) (stepV y)).run Try.prog w = .ok (.bool (!decide (x = y))) w := by
  unfold stepV
  rw [run_neq_struct, equal38]
  obtain ⟨a, b⟩ := x
  obtain ⟨c, d⟩ := y
  simp [Result.andThen]
theorem neq29 (x y : Slot) (w : World) : (binOp .neq 29 (slotV x) (slotV y)).run Try.prog w = .ok (.bool (!decide (x = y))) w := by
  unfold slotV
  rw [run_neq_struct, equal29]
  obtain ⟨a, b, c, d⟩ := x
  obtain ⟨a2, b2, c2, d2⟩ := y
  simp [Result.andThen]
theorem eql29 (x y : Slot) (w : World) : (binOp .eql 29 (slotV x) (slotV y)).run Try.prog w = .ok (.bool (decide (x = y))) w := by
  unfold slotV
  rw [run_eql_struct, equal29]
  obtain ⟨a, b, c, d⟩ := x
  obtain ⟨a2, b2, c2, d2⟩ := y
  simp [Result.andThen]

theorem sameList {α : Type} [Inhabited α] {l m : List α} (hl : l.length = m.length) (h : ∀ j, j < l.length → l.getD j default = m.getD j default) : l = m := by
  refine List.ext_getElem hl fun i h1 h2 => ?_
  have := h i h1
  simpa [List.getD, h1, h2] using this

theorem stepAtV {w : World} {v : Value} {l : List Step} (h : IsSteps w v l) (hn : 0 < l.length) :
    ∃ b off cap, v = .slice (some ⟨b, off, none⟩) l.length cap ∧ l.length ≤ cap ∧ cap ≤ 9223372036854775807 ∧ b < w.heap.size ∧ ∀ i, i < l.length → ∃ x y, l.getD i default = ⟨x, y⟩ ∧ w.cell? ⟨b, off + i * 2, none⟩ = some (.int .i64 x) ∧ w.cell? ⟨b, off + i * 2 + 1, none⟩ = some (.int .i64 y) := by
  obtain ⟨b, off, cap, h0, h1, h2, h3, h4, h5, _⟩ := h.cells hn
  unfold maxLen at h2
  exact ⟨b, off, cap, h0, h1, by omega, h3, fun i hi => ⟨_, _, rfl, h4 i hi, h5 i hi⟩⟩

set_option maxHeartbeats 4000000 in
set_option maxRecDepth 100000 in
theorem sameSteps {w : World} {v1 v2 : Value} {l m : List Step} (h1 : IsSteps w v1 l) (h2 : IsSteps w v2 m) :
    Calls Try.prog 16 #[v1, v2] w fun e w' => e = .returned (.bool (decide (l = m))) ∧ Below w.heap.size w w' := by
  by_cases hl : l.length = m.length
  rotate_left
  · have hd : decide (l = m) = false := by
      rw [decide_eq_false_iff_not]
      rintro rfl
      exact hl rfl
    obtain ⟨a1, c1, rfl, p1, p2⟩ := h1.shape
    obtain ⟨a2, c2, rfl, p3, p4⟩ := h2.shape
    rw [hd]
    have hx : ((l.length : Int) != m.length) = true := by simp; omega
    clear h1 h2 hd hl
    go_enter Try.func16, Try.ntmps16
    go_wp2_with fail
    go_ret
    exact ⟨rfl, Below.refl _ _⟩
  by_cases hp : 0 < l.length
  rotate_left
  · have e1 : l = [] := List.eq_nil_of_length_eq_zero (by omega)
    have e2 : m = [] := List.eq_nil_of_length_eq_zero (by omega)
    subst e1
    subst e2
    obtain ⟨a1, c1, rfl, p1, p2⟩ := h1.shape
    obtain ⟨a2, c2, rfl, p3, p4⟩ := h2.shape
    clear h1 h2 hl hp
    simp only [decide_true, List.length_nil]
    go_enter Try.func16, Try.ntmps16
    go_wp2_with fail
    go_loopw [5] (fun i wr => i = .int .i64 0 ∧ Below w.heap.size w wr) (fun _ _ => 0)
    case atStart => exact ⟨rfl, Below.refl _ _⟩
    case round =>
      obtain ⟨rfl, hb⟩ := hrel
      go_wp2_with fail
      go_ret
      exact ⟨rfl, hb⟩
  · obtain ⟨b1, o1, c1, rfl, p1, p2, p3, C1⟩ := stepAtV h1 hp
    obtain ⟨b2, o2, c2, rfl, q1, q2, q3, C2⟩ := stepAtV h2 (by omega)
    obtain ⟨N, hN⟩ : ∃ N, N = l.length := ⟨_, rfl⟩
    rw [← hl] at q1 C2 ⊢
    rw [← hN] at p1 q1 C1 C2 hp ⊢
    obtain ⟨r, hr⟩ : ∃ r, r = decide (l = m) := ⟨_, rfl⟩
    rw [← hr]
    have HR := Lib.hid hr
    have HC1 := Lib.hid C1
    have HC2 := Lib.hid C2
    have HL := Lib.hid hl
    have HN := Lib.hid hN
    clear h1 h2 C1 C2 hr hl hN
    have hx : ((N : Int) != N) = false := by simp
    go_enter Try.func16, Try.ntmps16
    go_wp2_with fail
    go_loopw [5] (fun i wr => ∃ k : Nat, k ≤ N ∧ i = .int .i64 k ∧ Below w.heap.size w wr ∧ ∀ j, j < k → l.getD j default = m.getD j default) (fun i _ => N - (intOf i).toNat)
    case atStart => exact ⟨0, by omega, rfl, Below.refl _ _, by omega⟩
    case round =>
      obtain ⟨k, hk, rfl, hb, hj⟩ := hrel
      have HJ := Lib.hid hj
      clear hj
      by_cases hkN : k < N
      · obtain ⟨x, y, e1, g1, g2⟩ := HC1.out k hkN
        obtain ⟨z, t, e2, g3, g4⟩ := HC2.out k hkN
        have E1 := Lib.hid e1
        have E2 := Lib.hid e2
        have k1 : wr.cell? ⟨b1, o1 + k * 2, none⟩ = some (.int .i64 x) := (hb.cell (by exact p3)).trans g1
        have k2 : wr.cell? ⟨b1, o1 + k * 2 + 1, none⟩ = some (.int .i64 y) := (hb.cell (by exact p3)).trans g2
        have k3 : wr.cell? ⟨b2, o2 + k * 2, none⟩ = some (.int .i64 z) := (hb.cell (by exact q3)).trans g3
        have k4 : wr.cell? ⟨b2, o2 + k * 2 + 1, none⟩ = some (.int .i64 t) := (hb.cell (by exact q3)).trans g4
        have HB := Lib.hid hb
        have hkk : (k : Int) < N := by omega
        clear e1 e2 g1 g2 g3 g4 hb
        have hne : ∀ w, (binOp .neq 38 (.agg #[.int .i64 x, .int .i64 y]) (.agg #[.int .i64 z, .int .i64 t])).run Try.prog w = .ok (.bool (!decide ((⟨x, y⟩ : Step) = ⟨z, t⟩))) w := fun w => neq38 ⟨x, y⟩ ⟨z, t⟩ w
        have hgu := fun (w : World) (s u : Operand) => run_eqGuard_agg (P := Try.prog) w .neq 38 s u #[.int .i64 x, .int .i64 y] #[.int .i64 z, .int .i64 t] eqg38
        cases hc : decide ((⟨x, y⟩ : Step) = ⟨z, t⟩)
        · rw [hc] at hne
          simp only [Bool.not_false] at hne
          have hrf : r = false := by
            rw [HR.out, decide_eq_false_iff_not]
            intro he
            rw [decide_eq_false_iff_not] at hc
            rw [← E1.out, ← E2.out, he] at hc
            exact hc rfl
          subst hrf
          clear hc
          go_wp2_with fail
          go_quiet (fail)
          go_wp2_with fail
          go_ret
          exact ⟨rfl, below_drewN HB.out _⟩
        · rw [hc] at hne
          simp only [Bool.not_true] at hne
          have hxx : l.getD k default = m.getD k default := by rw [E1.out, E2.out]; simpa using hc
          have HXX := Lib.hid hxx
          clear hc hxx
          go_wp2_with fail
          go_quiet (fail)
          go_wp2_with fail
          go_roundw
          case rel => exact ⟨k + 1, by omega, by go_num, below_drewN HB.out _, fun j hj => by
            by_cases h : j = k
            · subst h; exact HXX.out
            · exact HJ.out j (by omega)⟩
          case measure => simp [intOf]; omega
      · obtain rfl : k = N := by omega
        have hrt : r = true := by
          rw [HR.out, decide_eq_true_iff]
          exact sameList HL.out (by rw [← HN.out]; exact HJ.out)
        subst hrt
        have HB := Lib.hid hb
        clear hb
        have hd : decide ((k : Int) < k) = false := by simp
        go_wp2_with fail
        go_ret
        exact ⟨rfl, HB.out⟩

end Go.Proofs.Ytjknmnmilladlaa

/-
  Walks: Same, at slots and at numbers. (Printed by gen23.py.)
-/
namespace Go.Proofs.Ytjknmnmilladlaa
open Go.RowKit

theorem slotAtV {w : World} {v : Value} {l : List Slot} (h : IsSlots w v l) (hn : 0 < l.length) :
    ∃ b off cap, v = .slice (some ⟨b, off, none⟩) l.length cap ∧ l.length ≤ cap ∧ cap ≤ 9223372036854775807 ∧ b < w.heap.size ∧ ∀ i, i < l.length → ∃ x y z t, l.getD i default = ⟨x, y, z, t⟩ ∧ w.cell? ⟨b, off + i * 4, none⟩ = some (.int .i64 x) ∧ w.cell? ⟨b, off + i * 4 + 1, none⟩ = some (.int .i64 y) ∧ w.cell? ⟨b, off + i * 4 + 2, none⟩ = some (.int .i64 z) ∧ w.cell? ⟨b, off + i * 4 + 3, none⟩ = some (.int .i64 t) := by
  obtain ⟨hl, ao, cap, rfl, h1, h2, h3⟩ := h
  obtain ⟨b, off, rfl, hr⟩ := h3 hn
  unfold maxLen at h2
  have hc : ∀ i j u, i < l.length → j < 4 → (slotCells (slv l i))[j]? = some u → w.cell? ⟨b, off + i * 4 + j, none⟩ = some u := by
    intro i j u hi hj hu
    have := hr (i * 4 + j) u (by rw [flatL_at l i j hi, if_pos hj]; exact hu)
    rw [show off + i * 4 + j = off + (i * 4 + j) by omega]
    exact this
  refine ⟨b, off, cap, rfl, h1, by omega, hr.lt ?_, fun i hi => ⟨_, _, _, _, rfl, hc i 0 _ hi (by omega) rfl, hc i 1 _ hi (by omega) rfl, hc i 2 _ hi (by omega) rfl, hc i 3 _ hi (by omega) rfl⟩⟩
  intro e; rw [e] at hl; simp at hl; omega

set_option maxHeartbeats 4000000 in
set_option maxRecDepth 100000 in
theorem sameSlots {w : World} {v1 v2 : Value} {l m : List Slot} (h1 : IsSlots w v1 l) (h2 : IsSlots w v2 m) :
    Calls Try.prog 25 #[v1, v2] w fun e w' => e = .returned (.bool (decide (l = m))) ∧ Below w.heap.size w w' := by
  by_cases hl : l.length = m.length
  rotate_left
  · have hd : decide (l = m) = false := by
      rw [decide_eq_false_iff_not]
      rintro rfl
      exact hl rfl
    obtain ⟨a1, c1, rfl, p1, p2⟩ := h1.shape
    obtain ⟨a2, c2, rfl, p3, p4⟩ := h2.shape
    rw [hd]
    have hx : ((l.length : Int) != m.length) = true := by simp; omega
    clear h1 h2 hd hl
    go_enter Try.func25, Try.ntmps25
    go_wp2_with fail
    go_ret
    exact ⟨rfl, Below.refl _ _⟩
  by_cases hp : 0 < l.length
  rotate_left
  · have e1 : l = [] := List.eq_nil_of_length_eq_zero (by omega)
    have e2 : m = [] := List.eq_nil_of_length_eq_zero (by omega)
    subst e1
    subst e2
    obtain ⟨a1, c1, rfl, p1, p2⟩ := h1.shape
    obtain ⟨a2, c2, rfl, p3, p4⟩ := h2.shape
    clear h1 h2 hl hp
    simp only [decide_true, List.length_nil]
    go_enter Try.func25, Try.ntmps25
    go_wp2_with fail
    go_loopw [5] (fun i wr => i = .int .i64 0 ∧ Below w.heap.size w wr) (fun _ _ => 0)
    case atStart => exact ⟨rfl, Below.refl _ _⟩
    case round =>
      obtain ⟨rfl, hb⟩ := hrel
      go_wp2_with fail
      go_ret
      exact ⟨rfl, hb⟩
  · obtain ⟨b1, o1, c1, rfl, p1, p2, p3, C1⟩ := slotAtV h1 hp
    obtain ⟨b2, o2, c2, rfl, q1, q2, q3, C2⟩ := slotAtV h2 (by omega)
    obtain ⟨N, hN⟩ : ∃ N, N = l.length := ⟨_, rfl⟩
    rw [← hl] at q1 C2 ⊢
    rw [← hN] at p1 q1 C1 C2 hp ⊢
    obtain ⟨r, hr⟩ : ∃ r, r = decide (l = m) := ⟨_, rfl⟩
    rw [← hr]
    have HR := Lib.hid hr
    have HC1 := Lib.hid C1
    have HC2 := Lib.hid C2
    have HL := Lib.hid hl
    have HN := Lib.hid hN
    clear h1 h2 C1 C2 hr hl hN
    have hx : ((N : Int) != N) = false := by simp
    go_enter Try.func25, Try.ntmps25
    go_wp2_with fail
    go_loopw [5] (fun i wr => ∃ k : Nat, k ≤ N ∧ i = .int .i64 k ∧ Below w.heap.size w wr ∧ ∀ j, j < k → l.getD j default = m.getD j default) (fun i _ => N - (intOf i).toNat)
    case atStart => exact ⟨0, by omega, rfl, Below.refl _ _, by omega⟩
    case round =>
      obtain ⟨k, hk, rfl, hb, hj⟩ := hrel
      have HJ := Lib.hid hj
      clear hj
      by_cases hkN : k < N
      · obtain ⟨x, y, x3, x4, e1, g1, g2, g5, g6⟩ := HC1.out k hkN
        obtain ⟨z, t, z3, z4, e2, g3, g4, g7, g8⟩ := HC2.out k hkN
        have E1 := Lib.hid e1
        have E2 := Lib.hid e2
        have k1 : wr.cell? ⟨b1, o1 + k * 4, none⟩ = some (.int .i64 x) := (hb.cell (by exact p3)).trans g1
        have k2 : wr.cell? ⟨b1, o1 + k * 4 + 1, none⟩ = some (.int .i64 y) := (hb.cell (by exact p3)).trans g2
        have k5 : wr.cell? ⟨b1, o1 + k * 4 + 2, none⟩ = some (.int .i64 x3) := (hb.cell (by exact p3)).trans g5
        have k6 : wr.cell? ⟨b1, o1 + k * 4 + 3, none⟩ = some (.int .i64 x4) := (hb.cell (by exact p3)).trans g6
        have k3 : wr.cell? ⟨b2, o2 + k * 4, none⟩ = some (.int .i64 z) := (hb.cell (by exact q3)).trans g3
        have k4 : wr.cell? ⟨b2, o2 + k * 4 + 1, none⟩ = some (.int .i64 t) := (hb.cell (by exact q3)).trans g4
        have k7 : wr.cell? ⟨b2, o2 + k * 4 + 2, none⟩ = some (.int .i64 z3) := (hb.cell (by exact q3)).trans g7
        have k8 : wr.cell? ⟨b2, o2 + k * 4 + 3, none⟩ = some (.int .i64 z4) := (hb.cell (by exact q3)).trans g8
        have HB := Lib.hid hb
        have hkk : (k : Int) < N := by omega
        clear e1 e2 g1 g2 g3 g4 g5 g6 g7 g8 hb
        have hne : ∀ w, (binOp .neq 29 (.agg #[.int .i64 x, .int .i64 y, .int .i64 x3, .int .i64 x4]) (.agg #[.int .i64 z, .int .i64 t, .int .i64 z3, .int .i64 z4])).run Try.prog w = .ok (.bool (!decide ((⟨x, y, x3, x4⟩ : Slot) = ⟨z, t, z3, z4⟩))) w := fun w => neq29 ⟨x, y, x3, x4⟩ ⟨z, t, z3, z4⟩ w
        have hgu := fun (w : World) (s u : Operand) => run_eqGuard_agg (P := Try.prog) w .neq 29 s u #[.int .i64 x, .int .i64 y, .int .i64 x3, .int .i64 x4] #[.int .i64 z, .int .i64 t, .int .i64 z3, .int .i64 z4] eqg29
        cases hc : decide ((⟨x, y, x3, x4⟩ : Slot) = ⟨z, t, z3, z4⟩)
        · rw [hc] at hne
          simp only [Bool.not_false] at hne
          have hrf : r = false := by
            rw [HR.out, decide_eq_false_iff_not]
            intro he
            rw [decide_eq_false_iff_not] at hc
            rw [← E1.out, ← E2.out, he] at hc
            exact hc rfl
          subst hrf
          clear hc
          go_wp2_with fail
          go_quiet (fail)
          go_wp2_with fail
          go_ret
          exact ⟨rfl, below_drewN HB.out _⟩
        · rw [hc] at hne
          simp only [Bool.not_true] at hne
          have hxx : l.getD k default = m.getD k default := by rw [E1.out, E2.out]; simpa using hc
          have HXX := Lib.hid hxx
          clear hc hxx
          go_wp2_with fail
          go_quiet (fail)
          go_wp2_with fail
          go_roundw
          case rel => exact ⟨k + 1, by omega, by go_num, below_drewN HB.out _, fun j hj => by
            by_cases h : j = k
            · subst h; exact HXX.out
            · exact HJ.out j (by omega)⟩
          case measure => simp [intOf]; omega
      · obtain rfl : k = N := by omega
        have hrt : r = true := by
          rw [HR.out, decide_eq_true_iff]
          exact sameList HL.out (by rw [← HN.out]; exact HJ.out)
        subst hrt
        have HB := Lib.hid hb
        clear hb
        have hd : decide ((k : Int) < k) = false := by simp
        go_wp2_with fail
        go_ret
        exact ⟨rfl, HB.out⟩

theorem intAtV {w : World} {v : Value} {l : List Int} (h : IsInts w v l) (hn : 0 < l.length) :
    ∃ b off cap, v = .slice (some ⟨b, off, none⟩) l.length cap ∧ l.length ≤ cap ∧ cap ≤ 9223372036854775807 ∧ b < w.heap.size ∧ ∀ i, i < l.length → ∃ x, l.getD i default = x ∧ w.cell? ⟨b, off + i, none⟩ = some (.int .i64 x) := by
  obtain ⟨b, off, cap, h0, h1, h2, h3, h4, _⟩ := h.cells hn
  unfold maxLen at h2
  exact ⟨b, off, cap, h0, h1, by omega, h3, fun i hi => ⟨_, rfl, h4 i hi⟩⟩

set_option maxHeartbeats 4000000 in
set_option maxRecDepth 100000 in
theorem sameInts {w : World} {v1 v2 : Value} {l m : List Int} (h1 : IsInts w v1 l) (h2 : IsInts w v2 m) :
    Calls Try.prog 17 #[v1, v2] w fun e w' => e = .returned (.bool (decide (l = m))) ∧ Below w.heap.size w w' := by
  by_cases hl : l.length = m.length
  rotate_left
  · have hd : decide (l = m) = false := by
      rw [decide_eq_false_iff_not]
      rintro rfl
      exact hl rfl
    obtain ⟨a1, c1, rfl, p1, p2⟩ := h1.shape
    obtain ⟨a2, c2, rfl, p3, p4⟩ := h2.shape
    rw [hd]
    have hx : ((l.length : Int) != m.length) = true := by simp; omega
    clear h1 h2 hd hl
    go_enter Try.func17, Try.ntmps17
    go_wp2_with fail
    go_ret
    exact ⟨rfl, Below.refl _ _⟩
  by_cases hp : 0 < l.length
  rotate_left
  · have e1 : l = [] := List.eq_nil_of_length_eq_zero (by omega)
    have e2 : m = [] := List.eq_nil_of_length_eq_zero (by omega)
    subst e1
    subst e2
    obtain ⟨a1, c1, rfl, p1, p2⟩ := h1.shape
    obtain ⟨a2, c2, rfl, p3, p4⟩ := h2.shape
    clear h1 h2 hl hp
    simp only [decide_true, List.length_nil]
    go_enter Try.func17, Try.ntmps17
    go_wp2_with fail
    go_loopw [5] (fun i wr => i = .int .i64 0 ∧ Below w.heap.size w wr) (fun _ _ => 0)
    case atStart => exact ⟨rfl, Below.refl _ _⟩
    case round =>
      obtain ⟨rfl, hb⟩ := hrel
      go_wp2_with fail
      go_ret
      exact ⟨rfl, hb⟩
  · obtain ⟨b1, o1, c1, rfl, p1, p2, p3, C1⟩ := intAtV h1 hp
    obtain ⟨b2, o2, c2, rfl, q1, q2, q3, C2⟩ := intAtV h2 (by omega)
    obtain ⟨N, hN⟩ : ∃ N, N = l.length := ⟨_, rfl⟩
    rw [← hl] at q1 C2 ⊢
    rw [← hN] at p1 q1 C1 C2 hp ⊢
    obtain ⟨r, hr⟩ : ∃ r, r = decide (l = m) := ⟨_, rfl⟩
    rw [← hr]
    have HR := Lib.hid hr
    have HC1 := Lib.hid C1
    have HC2 := Lib.hid C2
    have HL := Lib.hid hl
    have HN := Lib.hid hN
    clear h1 h2 C1 C2 hr hl hN
    have hx : ((N : Int) != N) = false := by simp
    go_enter Try.func17, Try.ntmps17
    go_wp2_with fail
    go_loopw [5] (fun i wr => ∃ k : Nat, k ≤ N ∧ i = .int .i64 k ∧ Below w.heap.size w wr ∧ ∀ j, j < k → l.getD j default = m.getD j default) (fun i _ => N - (intOf i).toNat)
    case atStart => exact ⟨0, by omega, rfl, Below.refl _ _, by omega⟩
    case round =>
      obtain ⟨k, hk, rfl, hb, hj⟩ := hrel
      have HJ := Lib.hid hj
      clear hj
      by_cases hkN : k < N
      · obtain ⟨x, e1, g1⟩ := HC1.out k hkN
        obtain ⟨z, e2, g3⟩ := HC2.out k hkN
        have E1 := Lib.hid e1
        have E2 := Lib.hid e2
        have k1 : wr.cell? ⟨b1, o1 + k, none⟩ = some (.int .i64 x) := (hb.cell (by exact p3)).trans g1
        have k3 : wr.cell? ⟨b2, o2 + k, none⟩ = some (.int .i64 z) := (hb.cell (by exact q3)).trans g3
        have HB := Lib.hid hb
        have hkk : (k : Int) < N := by omega
        clear e1 e2 g1 g3 hb
        cases hc : decide (x = z)
        · have hne : (x != z) = true := by simpa using hc
          have hrf : r = false := by
            rw [HR.out, decide_eq_false_iff_not]
            intro he
            rw [decide_eq_false_iff_not] at hc
            rw [← E1.out, ← E2.out, he] at hc
            exact hc rfl
          subst hrf
          clear hc
          go_wp2_with fail
          go_quiet (fail)
          go_wp2_with fail
          go_ret
          exact ⟨rfl, below_drewN HB.out _⟩
        · have hne : (x != z) = false := by simpa using hc
          have hxx : l.getD k default = m.getD k default := by rw [E1.out, E2.out]; simpa using hc
          have HXX := Lib.hid hxx
          clear hc hxx
          go_wp2_with fail
          go_quiet (fail)
          go_wp2_with fail
          go_roundw
          case rel => exact ⟨k + 1, by omega, by go_num, below_drewN HB.out _, fun j hj => by
            by_cases h : j = k
            · subst h; exact HXX.out
            · exact HJ.out j (by omega)⟩
          case measure => simp [intOf]; omega
      · obtain rfl : k = N := by omega
        have hrt : r = true := by
          rw [HR.out, decide_eq_true_iff]
          exact sameList HL.out (by rw [← HN.out]; exact HJ.out)
        subst hrt
        have HB := Lib.hid hb
        clear hb
        have hd : decide ((k : Int) < k) = false := by simp
        go_wp2_with fail
        go_ret
        exact ⟨rfl, HB.out⟩

end Go.Proofs.Ytjknmnmilladlaa

/-
  Walks: steps.free, slices.MinFunc at steps, steps.span, steps.Least.
-/
namespace Go.Proofs.Ytjknmnmilladlaa
open Go.RowKit

set_option maxHeartbeats 400000 in
theorem frAny (a x c y : Int) (w : World) (h1 : 0 ≤ x) (h2 : x ≤ 10000) (h3 : 0 ≤ y) (h4 : y ≤ 10000) :
    Calls Try.prog 37 #[.agg #[.int .i64 a, .int .i64 x], .agg #[.int .i64 c, .int .i64 y]] w fun e w' => e = .returned (.int .i64 (x - y)) ∧ Below w.heap.size w w' := by
  go_enter Try.func37, Try.ntmps37
  go_wp2_with fail
  go_ret
  exact ⟨rfl, ((Below.refl _ _).alloc (Nat.le_refl _) _).alloc (by simp) _⟩

def MinPost (l : List Step) (w : World) (e : Ending) (w' : World) : Prop := ∃ s ∈ l, e = .returned (stepV s) ∧ Below w.heap.size w w'

set_option maxHeartbeats 4000000 in
set_option maxRecDepth 100000 in
theorem minFunc {w : World} {v : Value} {l : List Step} (h : IsSteps w v l) (hp : 0 < l.length) (hf : ∀ i, i < l.length → 0 ≤ frv l i ∧ frv l i ≤ 10000) :
    Calls Try.prog 36 #[v, .func (.func 37) #[] #[]] w (MinPost l w) := by
  obtain ⟨b, o, c, rfl, p1, p2, p3, C1⟩ := stepAtV h hp
  obtain ⟨N, hN⟩ : ∃ N, N = l.length := ⟨_, rfl⟩
  have hf2 : ∀ i x y, i < l.length → l.getD i default = ⟨x, y⟩ → 0 ≤ y ∧ y ≤ 10000 := by
    intro i x y hi he
    have := hf i hi
    unfold frv at this
    rw [he] at this
    exact this
  rw [← hN] at p1 C1 hp hf2 ⊢
  obtain ⟨x0, y0, e0, g1, g2⟩ := C1 0 hp
  have HC := Lib.hid C1
  have HN := Lib.hid hN
  have HF := Lib.hid hf2
  have HE := Lib.hid e0
  simp only [Nat.zero_mul, Nat.add_zero] at g1 g2
  have hd : decide ((N : Int) < 1) = false := by simp; omega
  clear h hf C1 hN hf2 e0
  go_enter Try.func36, Try.ntmps36
  go_wp2_with fail
  obtain ⟨H, hH⟩ : ∃ H, H = w.heap.size := ⟨_, rfl⟩
  have HH := Lib.hid hH
  rw [← hH]
  have hs0 : ∀ o u, (#[.int .i64 0, .int .i64 0] : Array Value)[o]? = some u → ((w.alloc (.cells #[.int .i64 0, .int .i64 0] 38)).alloc (.cells #[.int .i64 x0, .int .i64 y0] 38)).cell? ⟨H, o, none⟩ = some u := fun o u hu => by rw [hH]; exact cell_old _ (cell_new w _ 38 o hu)
  have hs1 : ∀ o u, (#[.int .i64 x0, .int .i64 y0] : Array Value)[o]? = some u → ((w.alloc (.cells #[.int .i64 0, .int .i64 0] 38)).alloc (.cells #[.int .i64 x0, .int .i64 y0] 38)).cell? ⟨H + 1, o, none⟩ = some u := fun o u hu => by
    rw [show H + 1 = (w.alloc (.cells #[.int .i64 0, .int .i64 0] 38)).heap.size by simp [hH]]; exact cell_new _ _ 38 o hu
  have hz0 : ∀ o, ((w.alloc (.cells #[.int .i64 0, .int .i64 0] 38)).alloc (.cells #[.int .i64 x0, .int .i64 y0] 38)).frozen? ⟨H, o, none⟩ = false := fun o => by rw [hH]; exact (((Below.refl (w.alloc (.cells #[.int .i64 0, .int .i64 0] 38)).heap.size _).alloc (Nat.le_refl _) _).frozen (p := ⟨w.heap.size, o, none⟩) (by simp)).trans (frozen_new w _ 38 o)
  have hz1 : ∀ o, ((w.alloc (.cells #[.int .i64 0, .int .i64 0] 38)).alloc (.cells #[.int .i64 x0, .int .i64 y0] 38)).frozen? ⟨H + 1, o, none⟩ = false := fun o => by
    rw [show H + 1 = (w.alloc (.cells #[.int .i64 0, .int .i64 0] 38)).heap.size by simp [hH]]; exact frozen_new _ _ 38 o
  have q0 := Lib.hid (hs0 0 _ rfl)
  have q1 := Lib.hid (hs0 1 _ rfl)
  have q2 := Lib.hid (hs1 0 _ rfl)
  have q3 := Lib.hid (hs1 1 _ rfl)
  have z0 := Lib.hid hz0
  have z1 := Lib.hid hz1
  have B0 := Lib.hid (((Below.refl w.heap.size w).alloc (Nat.le_refl _) (.cells #[.int .i64 0, .int .i64 0] 38)).alloc (by simp) (.cells #[.int .i64 x0, .int .i64 y0] 38))
  have hsz : H + 1 < ((w.alloc (.cells #[.int .i64 0, .int .i64 0] 38)).alloc (.cells #[.int .i64 x0, .int .i64 y0] 38)).heap.size := by simp; omega
  have HSZ := Lib.hid hsz
  have hbH : b < H := by omega
  clear hs0 hs1 hz0 hz1 hsz hH g1 g2
  go_loopw [6] (fun i wr => ∃ (k j : Nat) (x y : Int), 1 ≤ k ∧ k ≤ N ∧ i = .int .i64 k ∧ Below w.heap.size w wr ∧ H + 1 < wr.heap.size ∧ wr.cell? ⟨H, 0, none⟩ = some (.int .i64 0) ∧ wr.cell? ⟨H, 1, none⟩ = some (.int .i64 0) ∧ (∀ o, wr.frozen? ⟨H, o, none⟩ = false) ∧ wr.cell? ⟨H + 1, 0, none⟩ = some (.int .i64 x) ∧ wr.cell? ⟨H + 1, 1, none⟩ = some (.int .i64 y) ∧ (∀ o, wr.frozen? ⟨H + 1, o, none⟩ = false) ∧ j < N ∧ l.getD j default = ⟨x, y⟩) (fun i _ => N - (intOf i).toNat)
  case atStart => exact ⟨1, 0, x0, y0, by omega, by omega, rfl, B0.out, HSZ.out, q0.out, q1.out, z0.out, q2.out, q3.out, z1.out, hp, HE.out⟩
  case round =>
    obtain ⟨k, j, x, y, hk1, hk, rfl, hb, hsz, r0, r1, y0, r2, r3, y1, hj, he⟩ := hrel
    have HB := Lib.hid hb
    have HJ := Lib.hid he
    have hxy := HF.out j x y hj he
    by_cases hkN : k < N
    · obtain ⟨z, t, e2, g3, g4⟩ := HC.out k hkN
      have hzt := HF.out k z t hkN e2
      have E2 := Lib.hid e2
      have k1 := After.cell (Nat.lt_trans hbH (by omega)) ((hb.cell (p := ⟨b, o + k * 2, none⟩) (by exact p3)).trans g3)
      have k2 := After.cell (Nat.lt_trans hbH (by omega)) ((hb.cell (p := ⟨b, o + k * 2 + 1, none⟩) (by exact p3)).trans g4)
      have k3 := After.cell hsz r2
      have k4 := After.cell hsz r3
      have hkk : (k : Int) < N := by omega
      clear hb he e2 g3 g4
      cases hc : decide (t - y < 0)
      · go_wp2_with fail
        refine wp_region_quiet_after (by kernel_rfl) (by kernel_rfl) ?_
        repeat (go_big_quiet_step ((go_at_call 37; exact after_of (frAny z t x y _ hzt.1 hzt.2 hxy.1 hxy.2))))
        refine wpQuiet_nil ?_
        intro wq hC
        have hwq := after_out hC
        clear hC
        have HQ := Lib.hid hwq; clear hwq
        go_wp2_with fail
        go_roundw
        case rel =>
          have hh : H < wr.heap.size := by omega
          exact ⟨k + 1, j, x, y, by omega, by omega, by go_num, HB.out.trans (HQ.out.mono HB.out.size), Nat.lt_of_lt_of_le hsz HQ.out.size, (HQ.out.cell (p := ⟨H, 0, none⟩) hh).trans r0, (HQ.out.cell (p := ⟨H, 1, none⟩) hh).trans r1, fun o => (HQ.out.frozen (p := ⟨H, o, none⟩) hh).trans (y0 o), (HQ.out.cell (p := ⟨H + 1, 0, none⟩) hsz).trans r2, (HQ.out.cell (p := ⟨H + 1, 1, none⟩) hsz).trans r3, fun o => (HQ.out.frozen (p := ⟨H + 1, o, none⟩) hsz).trans (y1 o), hj, HJ.out⟩
        case measure => simp [intOf]; omega
      · go_wp2_with fail
        refine wp_region_quiet_after (by kernel_rfl) (by kernel_rfl) ?_
        repeat (go_big_quiet_step ((go_at_call 37; exact after_of (frAny z t x y _ hzt.1 hzt.2 hxy.1 hxy.2))))
        refine wpQuiet_nil ?_
        intro wq hC
        have hwq := after_out hC
        have hbr : b < wr.heap.size := by omega
        have k5 := (hwq.cell (p := ⟨b, o + k * 2, none⟩) hbr).trans (k1 ⟨wr, Below.refl _ _⟩)
        have k6 := (hwq.cell (p := ⟨b, o + k * 2 + 1, none⟩) hbr).trans (k2 ⟨wr, Below.refl _ _⟩)
        have s2 := (hwq.cell (p := ⟨H + 1, 0, none⟩) hsz).trans r2
        have s3 := (hwq.cell (p := ⟨H + 1, 1, none⟩) hsz).trans r3
        have s4 := (hwq.frozen (p := ⟨H + 1, 0, none⟩) hsz).trans (y1 0)
        have s5 := (hwq.frozen (p := ⟨H + 1, 1, none⟩) hsz).trans (y1 1)
        clear hC
        have HQ := Lib.hid hwq; clear hwq
        clear k1 k2 k3 k4
        go_wp2_with fail
        go_roundw
        case rel =>
          have hh : H < wr.heap.size := by omega
          have hle : w.heap.size ≤ H + 1 := by have := HH.out; omega
          have hne : H ≠ H + 1 := by omega
          exact ⟨k + 1, k, z, t, by omega, by omega, by go_num, ((HB.out.trans (HQ.out.mono HB.out.size)).setCell hle _).setCell hle _, by simpa [World.setCell] using Nat.lt_of_lt_of_le hsz HQ.out.size,
            (cell_set_other (.inl hne)).trans ((cell_set_other (.inl hne)).trans ((HQ.out.cell (p := ⟨H, 0, none⟩) hh).trans r0)), (cell_set_other (.inl hne)).trans ((cell_set_other (.inl hne)).trans ((HQ.out.cell (p := ⟨H, 1, none⟩) hh).trans r1)),
            fun o => (frozen_set _).trans ((frozen_set _).trans ((HQ.out.frozen (p := ⟨H, o, none⟩) hh).trans (y0 o))), (cell_set_other (.inr (by decide))).trans (cell_set_same s2), cell_set_same ((cell_set_other (.inr (by decide))).trans s3),
            fun o => (frozen_set _).trans ((frozen_set _).trans ((HQ.out.frozen (p := ⟨H + 1, o, none⟩) hsz).trans (y1 o))), hkN, E2.out⟩
        case measure => simp [intOf]; omega
    · obtain rfl : k = N := by omega
      have hd2 : decide ((k : Int) < k) = false := by simp
      have hsx := y0 0
      have hsy := y0 1
      clear hb he
      go_wp2_with fail
      have f0 : ((wr.setCell ⟨H, 0, none⟩ (.int .i64 x)).setCell ⟨H, 1, none⟩ (.int .i64 y)).cell? ⟨H, 0, none⟩ = some (.int .i64 x) := (cell_set_other (.inr (by decide))).trans (cell_set_same r0)
      have f1 : ((wr.setCell ⟨H, 0, none⟩ (.int .i64 x)).setCell ⟨H, 1, none⟩ (.int .i64 y)).cell? ⟨H, 1, none⟩ = some (.int .i64 y) := cell_set_same ((cell_set_other (.inr (by decide))).trans r1)
      refine bodyPost_ret (v := .agg #[.int .i64 x, .int .i64 y]) (by simp [results, Try.f36]; go_simp) rfl ?_
      have hle : w.heap.size ≤ H := by have := HH.out; omega
      have hjl : j < l.length := by rw [← HN.out]; exact hj
      refine ⟨⟨x, y⟩, ?_, rfl, (HB.out.setCell hle _).setCell hle _⟩
      rw [← HJ.out, List.getD_eq_getElem?_getD, List.getElem?_eq_getElem hjl]
      exact List.getElem_mem hjl

theorem checkT {w : World} {v : Value} {l : List Step} (h : IsSteps w v l) (hc : chk l = true) :
    Calls Try.prog 23 #[v] w fun e w' => e = .returned (.int .i64 0) ∧ Below w.heap.size w w' := (checkAny h).mono fun _ _ ⟨h1, h2⟩ => ⟨by rw [h1, hc]; rfl, h2⟩

def SpanPost (l : List Step) (frm to : Int) (w : World) (e : Ending) (w' : World) : Prop := ∃ v, e = .returned (.tuple #[v, .int .i64 0]) ∧ OwnSteps w' w.heap.size v (cutL l frm to) ∧ Below w.heap.size w w'

set_option maxHeartbeats 4000000 in
set_option maxRecDepth 100000 in
theorem spanYes {w : World} {v : Value} {l : List Step} (h : IsSteps w v l) (hc : chk l = true) (frm to : Int) (t1 : isT frm = true) (t2 : isT to = true) (hlt : frm < to) :
    Calls Try.prog 35 #[v, .int .i64 frm, .int .i64 to] w (SpanPost l frm to w) := by
  have HC := Lib.hid (checkT h hc)
  have HS := Lib.hid h
  have HV := Lib.hid (chk_iff.1 hc)
  have T1 := Lib.hid t1
  have T2 := Lib.hid t2
  have HL := Lib.hid hlt
  have hd : decide (to ≤ frm) = false := by simp; omega
  obtain ⟨ao, cp, rfl, _, _⟩ := h.shape
  clear h hc t1 t2 hlt
  go_enter Try.func35, Try.ntmps35
  go_wp2_with fail
  refine (HC.out).mono ?_
  rintro e w1 ⟨rfl, hb1⟩
  have HCU := Lib.hid (cutAny (HS.out.below hb1) HV.out frm to (isT_iff.1 T1.out).1 (isT_iff.1 T1.out).2 HL.out (isT_iff.1 T2.out).2)
  have HB := Lib.hid hb1
  clear hb1
  go_wp2_with fail
  go_wp2_with fail
  refine (clockT frm _ T1.out).mono ?_
  rintro e w2 ⟨rfl, rfl⟩
  go_wp2_with fail
  refine (clockT to _ T2.out).mono ?_
  rintro e w2 ⟨rfl, rfl⟩
  go_wp2_with fail
  refine (HCU.out).mono ?_
  rintro e w3 ⟨u, rfl, hu, hb3⟩
  have HU := Lib.hid hu
  have HB3 := Lib.hid hb3
  clear hu hb3
  go_wp2_with fail
  go_ret2
  exact ⟨_, rfl, HU.out.mono HB.out.size, HB.out.trans (HB3.out.mono HB.out.size)⟩

def LeastPost (l : List Step) (frm to : Int) (w : World) (e : Ending) (w' : World) : Prop := ∃ s ∈ cutL l frm to, e = .returned (.tuple #[.int .i64 s.free, .int .i64 0]) ∧ Below w.heap.size w w'

set_option maxHeartbeats 4000000 in
set_option maxRecDepth 100000 in
theorem leastYes {w : World} {v : Value} {l : List Step} (h : IsSteps w v l) (hc : chk l = true) (frm to : Int) (t1 : isT frm = true) (t2 : isT to = true) (hlt : frm < to) :
    Calls Try.prog 13 #[v, .int .i64 frm, .int .i64 to] w (LeastPost l frm to w) := by
  have hv := chk_iff.1 hc
  have hlen := (hv.cutL_len (isT_iff.1 t1).1 hlt).1
  have hfr := fun i (hi : i < (cutL l frm to).length) => hv.cutL_fr (isT_iff.1 t1).1 hlt hi
  have HS := Lib.hid (spanYes h hc frm to t1 t2 hlt)
  have HLE := Lib.hid hlen
  have HFR := Lib.hid hfr
  obtain ⟨ao, cp, rfl, _, _⟩ := h.shape
  clear h hc t1 t2 hlt hv hlen hfr
  go_enter Try.func13, Try.ntmps13
  go_wp2_with fail
  refine (HS.out).mono ?_
  rintro e w1 ⟨u, rfl, hu, hb1⟩
  have HM := Lib.hid (minFunc hu.is HLE.out HFR.out)
  have HB := Lib.hid hb1
  clear hu hb1
  go_wp2_with fail
  refine (HM.out).mono ?_
  rintro e w2 ⟨⟨x, y⟩, hs, rfl, hb2⟩
  have HX := Lib.hid hs
  have HB2 := Lib.hid hb2
  clear hs hb2
  unfold stepV
  have hfd : ∀ w : World, (Instr.field 38 (.agg #[.int .i64 x, .int .i64 y]) 1).run Try.prog w = .ok (.int .i64 y) w := fun _ => by kernel_rfl
  go_wp2_with fail
  go_ret2
  exact ⟨_, HX.out, rfl, HB.out.trans (HB2.out.mono HB.out.size)⟩

/-- A number in the cut is the profile's at some time of it. -/
theorem mem_cutL_val {l : List Step} (hv : Valid l) {frm to : Int} (h0 : 0 ≤ frm) (h1 : frm < to) {s : Step} (hs : s ∈ cutL l frm to) : ∃ t, frm ≤ t ∧ t < to ∧ val l t = s.free := by
  have hb := cut_between hv h0 h1 hs
  obtain ⟨i, hi1, hi2, rfl⟩ := mem_cutI hs
  refine ⟨_, hb.1, hb.2, ?_⟩
  simp only
  have hq := hv.plc (show 0 ≤ to - 1 by omega)
  have hp := hv.plc h0
  have : plc l (max (atv l i) frm) = i := by
    refine plc_eq (by omega) (by omega) fun z hz hzl => ?_
    have h2 := hv.rise i z hz hzl
    have h3 := hp.2.2 z (by omega) hzl
    omega
  unfold val
  rw [this]

end Go.Proofs.Ytjknmnmilladlaa

/-
  Walks: slices.Index and slices.Contains at numbers.
-/
namespace Go.Proofs.Ytjknmnmilladlaa
open Go.RowKit

def idxOf (l : List Int) (x : Int) : Int := if x ∈ l then (l.idxOf x : Int) else -1

theorem idxOf_found {l : List Int} {x : Int} {k : Nat} (hk : k < l.length) (h : l.getD k default = x) (hb : ∀ j, j < k → l.getD j default ≠ x) : idxOf l x = k := by
  have hm : l[k] = x := by rw [← h, List.getD_eq_getElem?_getD, List.getElem?_eq_getElem hk]; rfl
  unfold idxOf
  rw [if_pos (by rw [← hm]; exact List.getElem_mem hk)]
  congr 1
  have h1 : l.idxOf x ≤ k := by
    rcases Nat.lt_or_ge k (l.idxOf x) with h2 | h2
    · exact absurd hm (List.not_of_lt_findIdx (p := (· == x)) h2 |> fun h3 => by simpa using h3)
    · exact h2
  rcases Nat.lt_or_ge (l.idxOf x) k with h2 | h2
  · have h3 := hb _ h2
    have h4 : l.idxOf x < l.length := by omega
    exfalso
    apply h3
    rw [List.getD_eq_getElem?_getD, List.getElem?_eq_getElem h4]
    simp
  · omega
theorem idxOf_none {l : List Int} {x : Int} (hb : ∀ j, j < l.length → l.getD j default ≠ x) : idxOf l x = -1 := by
  unfold idxOf
  rw [if_neg]
  intro hm
  obtain ⟨i, hi, rfl⟩ := List.getElem_of_mem hm
  exact hb i hi (by rw [List.getD_eq_getElem?_getD, List.getElem?_eq_getElem hi]; rfl)

set_option maxHeartbeats 4000000 in
set_option maxRecDepth 100000 in
theorem indexInts {w : World} {v : Value} {l : List Int} (h : IsInts w v l) (x : Int) :
    Calls Try.prog 58 #[v, .int .i64 x] w fun e w' => e = .returned (.int .i64 (idxOf l x)) ∧ w = w' := by
  by_cases hp : 0 < l.length
  rotate_left
  · have e1 : l = [] := List.eq_nil_of_length_eq_zero (by omega)
    subst e1
    obtain ⟨a1, c1, rfl, p1, p2⟩ := h.shape
    clear h hp
    have hx : idxOf [] x = -1 := by simp [idxOf]
    rw [hx]
    simp only [List.length_nil]
    go_enter Try.func58, Try.ntmps58
    go_wp2_with fail
    go_loop [8] (fun i => i = .int .i64 0) (fun _ => 0)
    case atStart => exact rfl
    case round =>
      obtain rfl := hrel
      go_wp2_with fail
      go_ret
      exact ⟨rfl, rfl⟩
  · obtain ⟨b1, o1, c1, rfl, p1, p2, p3, C1⟩ := intAtV h hp
    obtain ⟨N, hN⟩ : ∃ N, N = l.length := ⟨_, rfl⟩
    rw [← hN] at p1 C1 hp ⊢
    obtain ⟨r, hr⟩ : ∃ r, r = idxOf l x := ⟨_, rfl⟩
    rw [← hr]
    have HR := Lib.hid hr
    have HC := Lib.hid C1
    have HN := Lib.hid hN
    clear h C1 hr hN
    go_enter Try.func58, Try.ntmps58
    go_wp2_with fail
    go_loop [8] (fun i => ∃ k : Nat, k ≤ N ∧ i = .int .i64 k ∧ ∀ j, j < k → l.getD j default ≠ x) (fun i => N - (intOf i).toNat)
    case atStart => exact ⟨0, by omega, rfl, by omega⟩
    case round =>
      obtain ⟨k, hk, rfl, hj⟩ := hrel
      have HJ := Lib.hid hj
      clear hj
      by_cases hkN : k < N
      · obtain ⟨y, e1, g1⟩ := HC.out k hkN
        have E1 := Lib.hid e1
        have hkk : (k : Int) < N := by omega
        clear e1
        cases hc : (x == y)
        · have hxx : l.getD k default ≠ x := by rw [E1.out]; intro e; simp at hc; exact hc e.symm
          have HXX := Lib.hid hxx
          clear hxx
          go_wp2_with fail
          go_round
          case rel => exact ⟨k + 1, by omega, by go_num, fun j hj => by
            by_cases h : j = k
            · subst h; exact HXX.out
            · exact HJ.out j (by omega)⟩
          case measure => simp [intOf]; omega
        · have hrr : (k : Int) = r := by
            rw [HR.out]
            symm
            exact idxOf_found (by rw [← HN.out]; exact hkN) (by rw [E1.out]; simp at hc; exact hc.symm) HJ.out
          have HRR := Lib.hid hrr
          clear hrr
          go_wp2_with fail
          go_ret
          exact ⟨ret_int HRR.out, rfl⟩
      · obtain rfl : k = N := by omega
        have hrr : -1 = r := by
          rw [HR.out]
          symm
          exact idxOf_none (by rw [← HN.out]; exact HJ.out)
        subst hrr
        have hd : decide ((k : Int) < k) = false := by simp
        go_wp2_with fail
        go_ret
        exact ⟨rfl, rfl⟩

set_option maxHeartbeats 4000000 in
set_option maxRecDepth 100000 in
theorem containsInts {w : World} {v : Value} {l : List Int} (h : IsInts w v l) (x : Int) (r : Bool) (hr : decide (x ∈ l) = r) :
    Calls Try.prog 38 #[v, .int .i64 x] w fun e w' => e = .returned (.bool r) ∧ w = w' := by
  have HI := Lib.hid (indexInts h x)
  have hd : decide (0 ≤ idxOf l x) = r := by
    rw [← hr]
    unfold idxOf
    by_cases hm : x ∈ l
    · rw [if_pos hm]; simp [hm]
    · rw [if_neg hm]; simp [hm]
  generalize idxOf l x = k at *
  obtain ⟨a1, c1, rfl, p1, p2⟩ := h.shape
  clear h hr
  cases r
  all_goals
    go_enter Try.func38, Try.ntmps38
    go_wp2_with fail
    refine (HI.out).mono ?_
    rintro e w1 ⟨rfl, rfl⟩
    go_wp2_with fail
    go_ret
    exact ⟨rfl, rfl⟩

end Go.Proofs.Ytjknmnmilladlaa

/-
  Walk: the book's Free.
-/
namespace Go.Proofs.Ytjknmnmilladlaa
open Go.RowKit

/-- Who goes, one behind the other. -/
inductive Drops (fr : List Step) (L : List Slot) : List Int → List Step → List Slot → Prop
  | nil : Drops fr L [] fr L
  | snoc {ids : List Int} {fr2 : List Step} {L2 : List Slot} {s : Slot} : Drops fr L ids fr2 L2 → s ∈ L2 → Drops fr L (ids ++ [s.id]) (addRes fr2 s.frm s.to s.nodes) (without L2 s.id)

theorem Drops.left {fr fr2 : List Step} {L L2 : List Slot} {ids : List Int} (h : Drops fr L ids fr2 L2) : ∀ s ∈ L, s.id ∉ ids → s ∈ L2 := by
  induction h with
  | nil => exact fun s hs _ => hs
  | @snoc ids fr2 L2 s _ _ ih =>
    intro x hx hn
    rw [List.mem_append] at hn
    have h1 := ih x hx (fun h => hn (.inl h))
    unfold without
    rw [List.mem_filter]
    refine ⟨h1, ?_⟩
    have : x.id ≠ s.id := fun e => hn (.inr (by simp [e]))
    simpa using this

def okAt (L : List Slot) (ids : List Int) (j : Nat) : Prop := (∃ s ∈ L, s.id = ids.getD j default) ∧ ids.getD j default ∉ ids.take j
def Good (L : List Slot) (ids : List Int) : Prop := ∀ j, j < ids.length → okAt L ids j

def FreePost (w : World) (bk bm : Nat) (n : Int) (up fr : List Step) (L : List Slot) (ids : List Int) (e : Ending) (w' : World) : Prop :=
  (¬ Good L ids ∧ e = .returned (.int .i64 4) ∧ Below w.heap.size w w') ∨ (Good L ids ∧ e = .returned (.int .i64 0) ∧ ∃ fr2 L2, Drops fr L ids fr2 L2 ∧ LayPost w bk bm n up fr2 L2 w')

theorem freeNil (ao : Option Addr) (n c : Nat) (w : World) : Calls Try.prog 15 #[.pointer none, .slice ao n c] w fun e w' => e = .returned (.int .i64 1) ∧ Below w.heap.size w w' := by
  go_enter Try.func15, Try.ntmps15
  go_wp2_with fail
  go_ret
  exact ⟨rfl, Below.refl _ _⟩

theorem IsInts.take {w : World} {ao : Option Addr} {n c : Nat} {l : List Int} (h : IsInts w (.slice ao n c) l) {k : Nat} (hk : k ≤ l.length) : IsInts w (.slice ao k c) (l.take k) := by
  obtain ⟨hl, ao', cap, hv, h1, h2, h3⟩ := h
  cases hv
  have hlen : (l.take k).length = k := by simp; omega
  refine ⟨length_flatI _, ao, c, by rw [hlen], by omega, h2, fun hn => ?_⟩
  obtain ⟨b, off, rfl, hr⟩ := h3 (by omega)
  refine ⟨b, off, rfl, fun j u hj => hr j u ?_⟩
  unfold flatI at hj ⊢
  rw [List.map_take] at hj
  rw [List.getElem?_take] at hj
  split at hj
  · exact hj
  · cases hj
theorem IsInts.len_eq {w : World} {ao : Option Addr} {n c : Nat} {l : List Int} (h : IsInts w (.slice ao n c) l) : n = l.length := by
  obtain ⟨hl, ao', cap, hv, h1, h2, h3⟩ := h
  cases hv
  rfl

set_option maxHeartbeats 8000000 in
set_option maxRecDepth 100000 in
theorem freeAny {w : World} {bk bm : Nat} {n : Int} {up fr : List Step} {L : List Slot} (h : BookIs w bk bm n up fr L) {v : Value} {ids : List Int} (hv : IsInts w v ids) (hap : Apart bk v) :
    Calls Try.prog 15 #[.pointer (some ⟨bk, 0, none⟩), v] w (FreePost w bk bm n up fr L ids) := by
  obtain ⟨ao, cap, rfl, p1, p2⟩ := hv.shape
  obtain ⟨N, hN⟩ : ∃ N, N = ids.length := ⟨_, rfl⟩
  have C1 : ∀ wr i, IsInts wr (.slice ao N cap) ids → i < N → ∃ b o x, ao = some ⟨b, o, none⟩ ∧ ids.getD i default = x ∧ wr.cell? ⟨b, o + i, none⟩ = some (.int .i64 x) := by
    intro wr i h1 hi
    obtain ⟨b1, o1, c1, e1, _, _, _, C⟩ := intAtV h1 (by omega)
    cases e1
    obtain ⟨x, e2, e3⟩ := C i (by omega)
    exact ⟨_, _, _, rfl, e2, e3⟩
  rw [← hN] at p1 hv hap ⊢
  have HC := Lib.hid C1
  have HN := Lib.hid hN
  have HH := Lib.hid h
  have HV := Lib.hid hv
  have HAP := Lib.hid hap
  have c3 := h.c3
  have hlt := h.lt
  clear h C1 hN hv hap
  go_enter Try.func15, Try.ntmps15
  go_wp2_with fail
  go_loopw [15] (fun i wr => ∃ k : Nat, k ≤ N ∧ i = .int .i64 k ∧ Below w.heap.size w wr ∧ ∀ j, j < k → okAt L ids j) (fun i _ => N - (intOf i).toNat)
  case atStart => exact ⟨0, by omega, rfl, Below.refl _ _, by omega⟩
  case round =>
    obtain ⟨k, hk, rfl, hb, hj⟩ := hrel
    have HJ := Lib.hid hj
    have HB := Lib.hid hb
    clear hj
    by_cases hkN : k < N
    · have hvr := HV.out.below hb
      obtain ⟨b, o, x, rfl, e2, k1⟩ := HC.out wr k hvr hkN
      have HX := Lib.hid e2
      have hkk : (k : Int) < N := by omega
      have HBK := Lib.hid (HH.out.below hb)
      have c3r := HBK.out.c3
      have hltr := HBK.out.lt
      have HVT := Lib.hid (show IsInts wr (.slice (some ⟨b, o, none⟩) k cap) (ids.take k) from hvr.take (by rw [← HN.out]; exact hk))
      have hkN2 : k ≤ cap := by omega
      clear hb hvr e2
      by_cases hs : ∃ s ∈ L, s.id = x
      · obtain ⟨s, hs, hid⟩ := hs
        obtain ⟨id, f0, t0, q⟩ := s
        simp only at hid
        subst hid
        have HS := Lib.hid hs
        clear hs
        cases hc : decide (id ∈ ids.take k)
        · have HCO := Lib.hid (show ∀ w2, Below wr.heap.size wr w2 → _ from fun w2 hb2 => containsInts (HVT.out.below hb2) id false hc)
          have hok : okAt L ids k := ⟨⟨_, HS.out, by rw [HX.out]⟩, by rw [HX.out]; simpa using hc⟩
          have HOK := Lib.hid hok
          clear hc hok
          go_wp2_with (at_lookup; refine wp_look_yes _ rfl _ _ _ rfl bm L ⟨id, f0, t0, q⟩ rfl rfl HBK.out.map HS.out ?_; unfold slotV; simp only [if_true])
          refine (HCO.out _ ((Below.refl _ _).alloc (Nat.le_refl _) _)).mono ?_
          rintro e w2 ⟨rfl, rfl⟩
          go_wp2_with fail
          go_roundw
          case rel => exact ⟨k + 1, by omega, by go_num, HB.out.alloc HB.out.size _, fun j hj => by
            by_cases h : j = k
            · subst h; exact HOK.out
            · exact HJ.out j (by omega)⟩
          case measure => simp [intOf]; omega
        · have HCO := Lib.hid (show ∀ w2, Below wr.heap.size wr w2 → _ from fun w2 hb2 => containsInts (HVT.out.below hb2) id true hc)
          have hok : ¬ Good L ids := fun hg => (hg k (by rw [← HN.out]; exact hkN)).2 (by rw [HX.out]; simpa using hc)
          have HOK := Lib.hid hok
          clear hc hok
          go_wp2_with (at_lookup; refine wp_look_yes _ rfl _ _ _ rfl bm L ⟨id, f0, t0, q⟩ rfl rfl HBK.out.map HS.out ?_; unfold slotV; simp only [if_true])
          refine (HCO.out _ ((Below.refl _ _).alloc (Nat.le_refl _) _)).mono ?_
          rintro e w2 ⟨rfl, rfl⟩
          go_wp2_with fail
          go_ret
          exact .inl ⟨HOK.out, rfl, HB.out.alloc HB.out.size _⟩
      · have hns : ∀ s ∈ L, s.id ≠ x := fun s h1 h2 => hs ⟨s, h1, h2⟩
        have hok : ¬ Good L ids := fun hg => hs (by have := (hg k (by rw [← HN.out]; exact hkN)).1; rwa [HX.out] at this)
        have HOK := Lib.hid hok
        have HS := Lib.hid hns
        clear hs hns hok
        go_wp2_with (at_lookup; refine wp_look_no _ rfl _ _ _ rfl bm L x rfl rfl HBK.out.map HS.out ?_; unfold slotV; simp only [if_true])
        go_ret
        exact .inl ⟨HOK.out, rfl, HB.out.alloc HB.out.size _⟩
    · obtain rfl : k = N := by omega
      have hd : decide ((k : Int) < k) = false := by simp
      have hgood : Good L ids := by
        intro j hj
        exact HJ.out j (by rw [HN.out]; exact hj)
      have HGO := Lib.hid hgood
      clear hgood hb
      go_wp2_with fail
      go_loopw [41] (fun i wr => ∃ (k2 : Nat) (fr2 : List Step) (L2 : List Slot), k2 ≤ k ∧ i = .int .i64 k2 ∧ LayPost w bk bm n up fr2 L2 wr ∧ Drops fr L (ids.take k2) fr2 L2) (fun i _ => k - (intOf i).toNat)
      case atStart => exact ⟨0, fr, L, by omega, rfl, ⟨HH.out.below HB.out, Kept.of_below HB.out, fun X hX hA => hA.below HB.out hlt⟩, Drops.nil⟩
      case round =>
        obtain ⟨k2, fr2, L2, hk2, rfl, hP, hD⟩ := hrel
        have HP := Lib.hid hP
        have HD := Lib.hid hD
        by_cases hkN : k2 < k
        · have hvr : IsInts wr (.slice ao k cap) ids := IsRow.kept (by decide) HV.out hP.2.1 HAP.out HH.out.map
          obtain ⟨b, o, x, rfl, e2, k1⟩ := HC.out wr k2 hvr hkN
          have hkk : (k2 : Int) < k := by omega
          have hx := HGO.out k2 (by rw [← HN.out]; exact hkN)
          unfold okAt at hx
          rw [e2] at hx
          obtain ⟨⟨s, hs, hid⟩, hnt⟩ := hx
          have hs2 := hD.left s hs (by rw [hid]; exact hnt)
          subst hid
          have HDR := Lib.hid (dropAny hP.1 hs2)
          have HX := Lib.hid e2
          have HS2 := Lib.hid hs2
          clear e2 hP hD hvr hs2 hnt hs
          generalize hxx : s.id = x at *
          have HXX := Lib.hid hxx
          clear hxx
          go_wp2_with fail
          refine (HDR.out).mono ?_
          rintro e w2 ⟨rfl, hl2⟩
          have HL2 := Lib.hid hl2
          clear hl2
          go_wp2_with fail
          go_roundw
          case rel =>
            refine ⟨k2 + 1, _, _, by omega, by go_num, HP.out.trans HL2.out, ?_⟩
            have h1 := Drops.snoc HD.out HS2.out
            have h2 : ids.take (k2 + 1) = ids.take k2 ++ [s.id] := by
              have hlt2 : k2 < ids.length := by rw [← HN.out]; exact hkN
              rw [List.take_succ_eq_append_getElem hlt2]
              have := HX.out
              rw [List.getD_eq_getElem?_getD, List.getElem?_eq_getElem hlt2] at this
              rw [HXX.out, ← this]
              rfl
            rw [← h2, HXX.out] at h1
            exact h1
          case measure => simp [intOf]; omega
        · obtain rfl : k2 = k := by omega
          have hd3 : decide ((k2 : Int) < k2) = false := by simp
          clear hP hD
          go_wp2_with fail
          go_ret
          refine .inr ⟨HGO.out, rfl, fr2, L2, ?_, HP.out⟩
          have := HD.out
          rwa [HN.out, List.take_length] at this

end Go.Proofs.Ytjknmnmilladlaa

/-
  What is done to a book, as a relation; each of its methods by it; the invariant is kept.
-/
namespace Go.Proofs.Ytjknmnmilladlaa
open Go.RowKit

/-- timekeeperref11.Do -/
structure Do where
  kind : Int
  s : Slot
  deriving DecidableEq, Inhabited

inductive DoStep (n : Int) (up fr : List Step) (L : List Slot) (d : Do) : List Int → Int → List Step → List Step → List Slot → Prop
  | takeArg : d.kind = 1 → rightOf n d.s = false → DoStep n up fr L d [] 2 up fr L
  | takeTwice {x : Slot} : d.kind = 1 → rightOf n d.s = true → x ∈ L → x.id = d.s.id → DoStep n up fr L d [] 51 up fr L
  | takeLong : d.kind = 1 → rightOf n d.s = true → (∀ x ∈ L, x.id ≠ d.s.id) → 9000 ≤ L.length → DoStep n up fr L d [] 3 up fr L
  | takeRoom : d.kind = 1 → rightOf n d.s = true → (∀ x ∈ L, x.id ≠ d.s.id) → L.length < 9000 → addErr fr d.s.frm d.s.to (-d.s.nodes) ≠ 0 → DoStep n up fr L d [] 70 up fr L
  | take : d.kind = 1 → rightOf n d.s = true → (∀ x ∈ L, x.id ≠ d.s.id) → L.length < 9000 → addErr fr d.s.frm d.s.to (-d.s.nodes) = 0 → DoStep n up fr L d [] 0 up (addRes fr d.s.frm d.s.to (-d.s.nodes)) (L ++ [d.s])
  | freeNone : d.kind = 2 → (∀ x ∈ L, x.id ≠ d.s.id) → DoStep n up fr L d [] 4 up fr L
  | free {s : Slot} : d.kind = 2 → s ∈ L → s.id = d.s.id → DoStep n up fr L d [] 0 up (addRes fr s.frm s.to s.nodes) (without L s.id)
  | cutNone : d.kind = 3 → (∀ x ∈ L, x.id ≠ d.s.id) → DoStep n up fr L d [] 4 up fr L
  | cutArg {s : Slot} : d.kind = 3 → s ∈ L → s.id = d.s.id → (isT d.s.to = false ∨ s.to < d.s.to) → DoStep n up fr L d [] 2 up fr L
  | cutAll {s : Slot} : d.kind = 3 → s ∈ L → s.id = d.s.id → isT d.s.to = true → d.s.to ≤ s.to → d.s.to ≤ s.frm → DoStep n up fr L d [] 0 up (addRes fr s.frm s.to s.nodes) (without L s.id)
  | cut {s : Slot} : d.kind = 3 → s ∈ L → s.id = d.s.id → isT d.s.to = true → d.s.to ≤ s.to → s.frm < d.s.to → addErr (addRes fr s.frm s.to s.nodes) s.frm d.s.to (-s.nodes) = 0 →
      DoStep n up fr L d [] 0 up (addRes (addRes fr s.frm s.to s.nodes) s.frm d.s.to (-s.nodes)) (without L s.id ++ [⟨s.id, s.frm, d.s.to, s.nodes⟩])
  | outArg : d.kind = 5 → outArg n d.s.frm d.s.to d.s.nodes = false → DoStep n up fr L d [] 2 up fr L
  | outLong : d.kind = 5 → Ytjknmnmilladlaa.outArg n d.s.frm d.s.to d.s.nodes = true → 1000 < (outUp up d.s.frm d.s.to d.s.nodes).length → DoStep n up fr L d [] 3 up fr L
  | out {G : List Int} {L2 dn : List Slot} : d.kind = 5 → Ytjknmnmilladlaa.outArg n d.s.frm d.s.to d.s.nodes = true → (outUp up d.s.frm d.s.to d.s.nodes).length ≤ 1000 → Gone (outUp up d.s.frm d.s.to d.s.nodes) L G L2 → HurtIs (outUp up d.s.frm d.s.to d.s.nodes) L2 0 → dn.Perm L2 →
      DoStep n up fr L d (G.mergeSort fun x y => decide (x ≤ y)) 0 (outUp up d.s.frm d.s.to d.s.nodes) (sumF (outUp up d.s.frm d.s.to d.s.nodes) dn) L2
  | moveNone : d.kind ≠ 1 → d.kind ≠ 2 → d.kind ≠ 3 → d.kind ≠ 5 → (∀ x ∈ L, x.id ≠ d.s.id) → DoStep n up fr L d [] 4 up fr L
  | moveTime {s : Slot} : d.kind ≠ 1 → d.kind ≠ 2 → d.kind ≠ 3 → d.kind ≠ 5 → s ∈ L → s.id = d.s.id → isT d.s.frm = false → DoStep n up fr L d [] 2 up fr L
  | moveArg {s : Slot} : d.kind ≠ 1 → d.kind ≠ 2 → d.kind ≠ 3 → d.kind ≠ 5 → s ∈ L → s.id = d.s.id → isT d.s.frm = true → rightOf n (moved s d.s.frm) = false → DoStep n up fr L d [] 2 up fr L
  | moveRoom {s : Slot} : d.kind ≠ 1 → d.kind ≠ 2 → d.kind ≠ 3 → d.kind ≠ 5 → s ∈ L → s.id = d.s.id → isT d.s.frm = true → rightOf n (moved s d.s.frm) = true →
      addErr (addRes fr s.frm s.to s.nodes) (moved s d.s.frm).frm (moved s d.s.frm).to (-(moved s d.s.frm).nodes) ≠ 0 → addErr (addRes fr s.frm s.to s.nodes) s.frm s.to (-s.nodes) = 0 → DoStep n up fr L d [] 70 up (addRes (addRes fr s.frm s.to s.nodes) s.frm s.to (-s.nodes)) (without L s.id ++ [s])
  | move {s : Slot} : d.kind ≠ 1 → d.kind ≠ 2 → d.kind ≠ 3 → d.kind ≠ 5 → s ∈ L → s.id = d.s.id → isT d.s.frm = true → rightOf n (moved s d.s.frm) = true →
      addErr (addRes fr s.frm s.to s.nodes) (moved s d.s.frm).frm (moved s d.s.frm).to (-(moved s d.s.frm).nodes) = 0 →
      DoStep n up fr L d [] 0 up (addRes (addRes fr s.frm s.to s.nodes) (moved s d.s.frm).frm (moved s d.s.frm).to (-(moved s d.s.frm).nodes)) (without L s.id ++ [moved s d.s.frm])

theorem without_no (L : List Slot) (id : Int) : ∀ x ∈ without L id, x.id ≠ id := without_ne L id

/-- The invariant is kept, whatever is done. -/
theorem DoStep.inv {n : Int} {up fr : List Step} {L : List Slot} {d : Do} {ids : List Int} {err : Int} {up2 fr2 : List Step} {L2 : List Slot} (hI : Inv n up fr L) (h : DoStep n up fr L d ids err up2 fr2 L2) : Inv n up2 fr2 L2 := by
  have hwl : ∀ s ∈ L, (without L s.id).length < 9000 := fun s hs => by have := without_lt hs; have := hI.len; omega
  cases h with
  | takeArg _ _ => exact hI
  | takeTwice _ _ _ _ => exact hI
  | takeLong _ _ _ _ => exact hI
  | takeRoom _ _ _ _ _ => exact hI
  | take _ hr hs hl he => exact (hI.lay hr hs hl he).1
  | freeNone _ _ => exact hI
  | free _ hs _ => exact (hI.drop hs).2.1
  | cutNone _ _ => exact hI
  | cutArg _ _ _ _ => exact hI
  | cutAll _ hs _ _ _ _ => exact (hI.drop hs).2.1
  | @cut s _ hs hid ht h1 h2 he =>
    have hr := right_iff.1 (hI.rt s hs)
    exact ((hI.drop hs).2.1.lay (s := ⟨s.id, s.frm, d.s.to, s.nodes⟩) (right_iff.2 ⟨hr.1, hr.2.1, ⟨by simp only; omega, by simp only; omega⟩, h2, hr.2.2.2.2⟩) (without_no L s.id) (hwl s hs) he).1
  | outArg _ _ => exact hI
  | outLong _ _ _ => exact hI
  | out _ ha hl hg hz hp =>
    unfold Ytjknmnmilladlaa.outArg at ha
    simp only [Bool.and_eq_true, decide_eq_true_eq, isT_iff] at ha
    have hn := hI.n1
    have hu := outUp_ok (k := d.s.nodes) hI.vu hI.ul ha.1.1.1.1.1 ha.1.1.2 ha.1.1.1.2.2 ⟨ha.1.2, by omega⟩
    exact hI.out hu.1 hl hg hz hp
  | moveNone _ _ _ _ _ => exact hI
  | moveTime _ _ _ _ _ _ _ => exact hI
  | moveArg _ _ _ _ _ _ _ _ => exact hI
  | @moveRoom s _ _ _ _ hs _ _ _ _ he =>
    exact ((hI.drop hs).2.1.lay (s := s) (hI.rt s hs) (without_no L s.id) (hwl s hs) he).1
  | @move s _ _ _ _ hs hid _ hr he =>
    exact ((hI.drop hs).2.1.lay (s := moved s d.s.frm) hr (without_no L s.id) (hwl s hs) he).1

def MPost (w : World) (bk bm : Nat) (n : Int) (up fr : List Step) (L : List Slot) (d : Do) (e : Ending) (w' : World) : Prop :=
  ∃ err up2 fr2 L2, e = .returned (.int .i64 err) ∧ DoStep n up fr L d [] err up2 fr2 L2 ∧ BookIs w' bk bm n up2 fr2 L2 ∧ Kept bk bm w w'

theorem any_id {L : List Slot} {id : Int} : (∃ x ∈ L, x.id = id) ∨ ∀ x ∈ L, x.id ≠ id := by
  by_cases h : ∃ x ∈ L, x.id = id
  · exact .inl h
  · exact .inr fun x hx e => h ⟨x, hx, e⟩

theorem takeAll {w : World} {bk bm : Nat} {n : Int} {up fr : List Step} {L : List Slot} (h : BookIs w bk bm n up fr L) (hI : Inv n up fr L) (d : Do) (hd : d.kind = 1) :
    Calls Try.prog 11 #[.pointer (some ⟨bk, 0, none⟩), slotV d.s] w (MPost w bk bm n up fr L d) := by
  cases hr : rightOf n d.s
  · exact (takeA h d.s hr).mono fun e w' ⟨h1, h2⟩ => ⟨_, _, _, _, h1, .takeArg hd hr, h.below h2, Kept.of_below h2⟩
  rcases any_id (L := L) (id := d.s.id) with ⟨x, hx, he⟩ | hn
  · exact (takeB h d.s hr (by rw [List.any_eq_true]; exact ⟨x, hx, by simpa using he⟩)).mono fun e w' ⟨h1, h2⟩ => ⟨_, _, _, _, h1, .takeTwice hd hr hx he, h.below h2, Kept.of_below h2⟩
  have ha : L.any (fun x => decide (x.id = d.s.id)) = false := by
    rw [Bool.eq_false_iff]
    intro he
    rw [List.any_eq_true] at he
    obtain ⟨x, hx1, hx2⟩ := he
    exact hn x hx1 (by simpa using hx2)
  have hri := right_iff.1 hr
  have hn1 := hI.n1
  by_cases hl : 9000 ≤ L.length
  · exact (takeC h d.s hr ha hl).mono fun e w' ⟨h1, h2⟩ => ⟨_, _, _, _, h1, .takeLong hd hr hn hl, h.below h2, Kept.of_below h2⟩
  by_cases he : addErr fr d.s.frm d.s.to (-d.s.nodes) = 0
  · exact (takeE h d.s hr ha (by omega) he ⟨by omega, by omega⟩).mono fun e w' ⟨h1, h2⟩ => ⟨_, _, _, _, h1, .take hd hr hn (by omega) he, h2.1, h2.2.1⟩
  · refine (takeD h d.s hr ha (by omega) he ⟨by omega, by omega⟩).mono fun e w' ⟨h1, h2⟩ => ⟨_, _, _, _, h1, ?_, h.below h2, Kept.of_below h2⟩
    rw [(hI.room hr).2 he]
    exact .takeRoom hd hr hn (by omega) he

theorem drops_nil {fr fr2 : List Step} {L L2 : List Slot} (h : Drops fr L [] fr2 L2) : fr2 = fr ∧ L2 = L := by
  generalize hids : ([] : List Int) = ids at h
  cases h with
  | nil => exact ⟨rfl, rfl⟩
  | snoc _ _ =>
    have hl := congrArg List.length hids
    simp at hl
theorem drops_one {fr fr2 : List Step} {L L2 : List Slot} {id : Int} (h : Drops fr L [id] fr2 L2) : ∃ s ∈ L, s.id = id ∧ fr2 = addRes fr s.frm s.to s.nodes ∧ L2 = without L s.id := by
  generalize hids : [id] = ids at h
  cases h with
  | nil => cases hids
  | @snoc ids2 fr3 L3 s h2 hs =>
    have hl := congrArg List.length hids
    simp at hl
    subst hl
    simp at hids
    obtain ⟨rfl, rfl⟩ := drops_nil h2
    exact ⟨s, hs, hids.symm, rfl, rfl⟩

theorem freeOne {w : World} {bk bm : Nat} {n : Int} {up fr : List Step} {L : List Slot} (h : BookIs w bk bm n up fr L) {v : Value} {d : Do} (hd : d.kind = 2) (hv : IsInts w v [d.s.id]) (hap : Apart bk v) :
    Calls Try.prog 15 #[.pointer (some ⟨bk, 0, none⟩), v] w (MPost w bk bm n up fr L d) := by
  refine (freeAny h hv hap).mono ?_
  rintro e w' (⟨h1, h2, h3⟩ | ⟨h1, h2, fr2, L2, h3, h4⟩)
  · refine ⟨_, _, _, _, h2, .freeNone hd ?_, h.below h3, Kept.of_below h3⟩
    intro x hx he
    apply h1
    intro j hj
    have : j = 0 := by simpa using hj
    subst this
    exact ⟨⟨x, hx, by simpa using he⟩, by simp⟩
  · obtain ⟨s, hs, hid, rfl, rfl⟩ := drops_one h3
    exact ⟨_, _, _, _, h2, .free hd hs hid, h4.1, h4.2.1⟩

theorem cutAll {w : World} {bk bm : Nat} {n : Int} {up fr : List Step} {L : List Slot} (h : BookIs w bk bm n up fr L) (hI : Inv n up fr L) (d : Do) (hd : d.kind = 3) :
    Calls Try.prog 20 #[.pointer (some ⟨bk, 0, none⟩), .int .i64 d.s.id, .int .i64 d.s.to] w (MPost w bk bm n up fr L d) := by
  rcases any_id (L := L) (id := d.s.id) with ⟨s, hs, he⟩ | hn
  rotate_left
  · exact (cutBkA h d.s.id d.s.to hn).mono fun e w' ⟨h1, h2⟩ => ⟨_, _, _, _, h1, .cutNone hd hn, h.below h2, Kept.of_below h2⟩
  rw [← he]
  cases ht : isT d.s.to
  · exact (cutBkB h hs d.s.to ht).mono fun e w' ⟨h1, h2⟩ => ⟨_, _, _, _, h1, .cutArg hd hs he (.inl ht), h.below h2, Kept.of_below h2⟩
  by_cases h2 : s.to < d.s.to
  · exact (cutBkC h hs d.s.to ht h2).mono fun e w' ⟨h1, h3⟩ => ⟨_, _, _, _, h1, .cutArg hd hs he (.inr h2), h.below h3, Kept.of_below h3⟩
  by_cases h3 : d.s.to ≤ s.frm
  · exact (cutBkD h hs d.s.to ht (by omega) h3).mono fun e w' ⟨h1, h4⟩ => ⟨_, _, _, _, h1, .cutAll hd hs he ht (by omega) h3, h4.1, h4.2.1⟩
  · have hnn := hI.nodes s hs
    have ha := hI.again hs d.s.to (by omega) (by omega)
    exact (cutBkE h hs d.s.to ht (by omega) (by omega) ⟨by omega, by omega⟩ ha).mono fun e w' ⟨h1, h4⟩ => ⟨_, _, _, _, h1, .cut hd hs he ht (by omega) (by omega) ha, h4.1, h4.2.1⟩

theorem moveAll {w : World} {bk bm : Nat} {n : Int} {up fr : List Step} {L : List Slot} (h : BookIs w bk bm n up fr L) (hI : Inv n up fr L) (d : Do) (d1 : d.kind ≠ 1) (d2 : d.kind ≠ 2) (d3 : d.kind ≠ 3) (d5 : d.kind ≠ 5) :
    Calls Try.prog 29 #[.pointer (some ⟨bk, 0, none⟩), .int .i64 d.s.id, .int .i64 d.s.frm] w (MPost w bk bm n up fr L d) := by
  rcases any_id (L := L) (id := d.s.id) with ⟨s, hs, he⟩ | hn
  rotate_left
  · exact (moveA h d.s.id d.s.frm hn).mono fun e w' ⟨h1, h2⟩ => ⟨_, _, _, _, h1, .moveNone d1 d2 d3 d5 hn, h.below h2, Kept.of_below h2⟩
  have hri := right_iff.1 (hI.rt s hs)
  have hnn := hI.nodes s hs
  rw [← he]
  cases ht : isT d.s.frm
  · exact (moveB h hs d.s.frm ht).mono fun e w' ⟨h1, h2⟩ => ⟨_, _, _, _, h1, .moveTime d1 d2 d3 d5 hs he ht, h.below h2, Kept.of_below h2⟩
  have hf : isT s.frm = true := isT_iff.2 hri.2.1
  have hu : isT s.to = true := isT_iff.2 hri.2.2.1
  cases hr : rightOf n (moved s d.s.frm)
  · exact (moveC h hs d.s.frm ht hf hu hr).mono fun e w' ⟨h1, h2⟩ => ⟨_, _, _, _, h1, .moveArg d1 d2 d3 d5 hs he ht hr, h.below h2, Kept.of_below h2⟩
  by_cases hx : addErr (addRes fr s.frm s.to s.nodes) (moved s d.s.frm).frm (moved s d.s.frm).to (-(moved s d.s.frm).nodes) = 0
  · exact (moveE h hs d.s.frm ht hf hu hr ⟨by omega, by omega⟩ hx).mono fun e w' ⟨h1, h2⟩ => ⟨_, _, _, _, h1, .move d1 d2 d3 d5 hs he ht hr hx, h2.1, h2.2.1⟩
  · have ha := hI.again hs s.to hri.2.2.2.1 (Int.le_refl _)
    refine (moveD h hs d.s.frm ht hf hu hr ⟨by omega, by omega⟩ hx ha).mono fun e w' ⟨h1, h2⟩ => ⟨_, _, _, _, h1, ?_, h2.1, h2.2.1⟩
    rw [((hI.drop hs).2.1.room hr).2 hx]
    exact .moveRoom d1 d2 d3 d5 hs he ht hr hx ha

def OPost (w : World) (bk bm : Nat) (n : Int) (up fr : List Step) (L : List Slot) (d : Do) (e : Ending) (w' : World) : Prop :=
  ∃ v ids err up2 fr2 L2, e = .returned (.tuple #[v, .int .i64 err]) ∧ IsInts w' v ids ∧ DoStep n up fr L d ids err up2 fr2 L2 ∧ BookIs w' bk bm n up2 fr2 L2 ∧ Kept bk bm w w'

theorem isInts_nil (w : World) : IsInts w (.slice none 0 0) [] := ⟨rfl, none, 0, rfl, Nat.le_refl _, Nat.zero_le _, fun h => absurd h (Nat.lt_irrefl _)⟩

theorem outAll {w : World} {bk bm : Nat} {n : Int} {up fr : List Step} {L : List Slot} (h : BookIs w bk bm n up fr L) (hI : Inv n up fr L) (d : Do) (hd : d.kind = 5) :
    Calls Try.prog 24 #[.pointer (some ⟨bk, 0, none⟩), .int .i64 d.s.frm, .int .i64 d.s.to, .int .i64 d.s.nodes] w (OPost w bk bm n up fr L d) := by
  cases ha : Ytjknmnmilladlaa.outArg n d.s.frm d.s.to d.s.nodes
  · exact (outBad h d.s.frm d.s.to d.s.nodes ha).mono fun e w' ⟨h1, h2⟩ => ⟨_, _, _, _, _, _, h1, isInts_nil _, .outArg hd ha, h.below h2, Kept.of_below h2⟩
  · refine (outMain h hI d.s.frm d.s.to d.s.nodes ha).mono ?_
    rintro e w' (⟨h1, h2, h3⟩ | ⟨h1, v, G, L2, dn, h2, h3, h4, h5, h6, h7, h8⟩)
    · exact ⟨_, _, _, _, _, _, h2, isInts_nil _, .outLong hd ha h1, h.below h3, Kept.of_below h3⟩
    · exact ⟨_, _, _, _, _, _, h2, h7, .out hd ha h1 h3 h4 h5, h6, h8⟩

end Go.Proofs.Ytjknmnmilladlaa

/-
  Walk: the law's done. (Printed by gen30.py.)
-/
namespace Go.Proofs.Ytjknmnmilladlaa
open Go.RowKit

def doV (d : Do) : Value := .agg #[.int .i64 d.kind, .int .i64 d.s.id, .int .i64 d.s.frm, .int .i64 d.s.to, .int .i64 d.s.nodes]

theorem opost_of {w w1 w2 : World} {bk bm : Nat} {n : Int} {up fr : List Step} {L : List Slot} {d : Do} {err : Int} {up2 fr2 : List Step} {L2 : List Slot} (hb : Below w.heap.size w w1) (hd : DoStep n up fr L d [] err up2 fr2 L2) (hk : BookIs w2 bk bm n up2 fr2 L2) (hK : Kept bk bm w1 w2) :
    OPost w bk bm n up fr L d (.returned (.tuple #[.slice none 0 0, .int .i64 err])) w2 :=
  ⟨_, _, _, _, _, _, rfl, isInts_nil _, hd, hk, (Kept.of_below hb).trans hK⟩

set_option maxHeartbeats 4000000 in
set_option maxRecDepth 100000 in
theorem done1 {w : World} {bk bm : Nat} {n : Int} {up fr : List Step} {L : List Slot} (h : BookIs w bk bm n up fr L) (hI : Inv n up fr L) (d : Do) (hd : d.kind = 1) :
    Calls Try.prog 18 #[.pointer (some ⟨bk, 0, none⟩), doV d] w (OPost w bk bm n up fr L d) := by
  have HT := Lib.hid (takeAll (h.alloc (.cells #[.int .i64 d.kind, .int .i64 d.s.id, .int .i64 d.s.frm, .int .i64 d.s.to, .int .i64 d.s.nodes] 46)) hI d hd)
  obtain ⟨kd, id, f0, t0, q⟩ := d
  simp only at hd HT
  unfold doV slotV at *
  simp only at HT ⊢
  have e1 : (kd == 1) = true := by simpa using hd
  have HB0 := Lib.hid ((Below.refl w.heap.size w).alloc (Nat.le_refl _) (.cells #[.int .i64 kd, .int .i64 id, .int .i64 f0, .int .i64 t0, .int .i64 q] 46))
  clear h hI hd
  go_enter Try.func18, Try.ntmps18
  go_wp2_with fail
  refine (HT.out).mono ?_
  rintro e w1 ⟨err, up2, fr2, L2, rfl, hd2, hk2, hK2⟩
  have H2 := Lib.hid (opost_of HB0.out hd2 hk2 hK2)
  clear hd2 hk2 hK2
  go_wp2_with fail
  go_ret2
  exact H2.out

set_option maxHeartbeats 4000000 in
set_option maxRecDepth 100000 in
theorem done3 {w : World} {bk bm : Nat} {n : Int} {up fr : List Step} {L : List Slot} (h : BookIs w bk bm n up fr L) (hI : Inv n up fr L) (d : Do) (hd : d.kind = 3) :
    Calls Try.prog 18 #[.pointer (some ⟨bk, 0, none⟩), doV d] w (OPost w bk bm n up fr L d) := by
  have HT := Lib.hid (cutAll (h.alloc (.cells #[.int .i64 d.kind, .int .i64 d.s.id, .int .i64 d.s.frm, .int .i64 d.s.to, .int .i64 d.s.nodes] 46)) hI d hd)
  obtain ⟨kd, id, f0, t0, q⟩ := d
  simp only at hd HT
  unfold doV at *
  simp only at HT ⊢
  have e1 : (kd == 1) = false := by simp; omega
  have e2 : (kd == 2) = false := by simp; omega
  have e3 : (kd == 3) = true := by simpa using hd
  have HB0 := Lib.hid ((Below.refl w.heap.size w).alloc (Nat.le_refl _) (.cells #[.int .i64 kd, .int .i64 id, .int .i64 f0, .int .i64 t0, .int .i64 q] 46))
  clear h hI hd
  go_enter Try.func18, Try.ntmps18
  go_wp2_with fail
  refine (HT.out).mono ?_
  rintro e w1 ⟨err, up2, fr2, L2, rfl, hd2, hk2, hK2⟩
  have H2 := Lib.hid (opost_of HB0.out hd2 hk2 hK2)
  clear hd2 hk2 hK2
  go_wp2_with fail
  go_ret2
  exact H2.out

set_option maxHeartbeats 4000000 in
set_option maxRecDepth 100000 in
theorem doneM {w : World} {bk bm : Nat} {n : Int} {up fr : List Step} {L : List Slot} (h : BookIs w bk bm n up fr L) (hI : Inv n up fr L) (d : Do) (d1 : d.kind ≠ 1) (d2 : d.kind ≠ 2) (d3 : d.kind ≠ 3) (d5 : d.kind ≠ 5) :
    Calls Try.prog 18 #[.pointer (some ⟨bk, 0, none⟩), doV d] w (OPost w bk bm n up fr L d) := by
  have HT := Lib.hid (moveAll (h.alloc (.cells #[.int .i64 d.kind, .int .i64 d.s.id, .int .i64 d.s.frm, .int .i64 d.s.to, .int .i64 d.s.nodes] 46)) hI d d1 d2 d3 d5)
  obtain ⟨kd, id, f0, t0, q⟩ := d
  simp only at d1 d2 d3 d5 HT
  unfold doV at *
  simp only at HT ⊢
  have e1 : (kd == 1) = false := by simpa using d1
  have e2 : (kd == 2) = false := by simpa using d2
  have e3 : (kd == 3) = false := by simpa using d3
  have e5 : (kd == 5) = false := by simpa using d5
  have HB0 := Lib.hid ((Below.refl w.heap.size w).alloc (Nat.le_refl _) (.cells #[.int .i64 kd, .int .i64 id, .int .i64 f0, .int .i64 t0, .int .i64 q] 46))
  clear h hI d1 d2 d3 d5
  go_enter Try.func18, Try.ntmps18
  go_wp2_with fail
  refine (HT.out).mono ?_
  rintro e w1 ⟨err, up2, fr2, L2, rfl, hd2, hk2, hK2⟩
  have H2 := Lib.hid (opost_of HB0.out hd2 hk2 hK2)
  clear hd2 hk2 hK2
  go_wp2_with fail
  go_ret2
  exact H2.out

set_option maxHeartbeats 4000000 in
set_option maxRecDepth 100000 in
theorem done5 {w : World} {bk bm : Nat} {n : Int} {up fr : List Step} {L : List Slot} (h : BookIs w bk bm n up fr L) (hI : Inv n up fr L) (d : Do) (hd : d.kind = 5) :
    Calls Try.prog 18 #[.pointer (some ⟨bk, 0, none⟩), doV d] w (OPost w bk bm n up fr L d) := by
  have HT := Lib.hid (outAll (h.alloc (.cells #[.int .i64 d.kind, .int .i64 d.s.id, .int .i64 d.s.frm, .int .i64 d.s.to, .int .i64 d.s.nodes] 46)) hI d hd)
  obtain ⟨kd, id, f0, t0, q⟩ := d
  simp only at hd HT
  unfold doV at *
  simp only at HT ⊢
  have e1 : (kd == 1) = false := by simp; omega
  have e2 : (kd == 2) = false := by simp; omega
  have e3 : (kd == 3) = false := by simp; omega
  have e5 : (kd == 5) = true := by simpa using hd
  have HB0 := Lib.hid ((Below.refl w.heap.size w).alloc (Nat.le_refl _) (.cells #[.int .i64 kd, .int .i64 id, .int .i64 f0, .int .i64 t0, .int .i64 q] 46))
  clear h hI hd
  go_enter Try.func18, Try.ntmps18
  go_wp2_with fail
  refine (HT.out).mono ?_
  rintro e w1 ⟨v, ids, err, up2, fr2, L2, rfl, hv, hd2, hk2, hK2⟩
  have H2 : Hid (OPost w bk bm n up fr L ⟨kd, id, f0, t0, q⟩ (.returned (.tuple #[v, .int .i64 err])) w1) := Lib.hid ⟨_, _, _, _, _, _, rfl, hv, hd2, hk2, (Kept.of_below HB0.out).trans hK2⟩
  clear hv hd2 hk2 hK2
  go_wp2_with fail
  go_ret2
  exact H2.out

set_option maxHeartbeats 4000000 in
set_option maxRecDepth 100000 in
theorem done2 {w : World} {bk bm : Nat} {n : Int} {up fr : List Step} {L : List Slot} (h : BookIs w bk bm n up fr L) (d : Do) (hd : d.kind = 2) :
    Calls Try.prog 18 #[.pointer (some ⟨bk, 0, none⟩), doV d] w (OPost w bk bm n up fr L d) := by
  have hb2 : BookIs ((w.alloc (.cells #[.int .i64 d.kind, .int .i64 d.s.id, .int .i64 d.s.frm, .int .i64 d.s.to, .int .i64 d.s.nodes] 46)).alloc (.cells #[.int .i64 d.s.id] 3)) bk bm n up fr L := (h.alloc _).alloc _
  have hlt := h.lt
  have hvi : IsInts ((w.alloc (.cells #[.int .i64 d.kind, .int .i64 d.s.id, .int .i64 d.s.frm, .int .i64 d.s.to, .int .i64 d.s.nodes] 46)).alloc (.cells #[.int .i64 d.s.id] 3)) (.slice (some ⟨w.heap.size + 1, 0, none⟩) 1 1) [d.s.id] := by
    have hs : (w.alloc (.cells #[.int .i64 d.kind, .int .i64 d.s.id, .int .i64 d.s.frm, .int .i64 d.s.to, .int .i64 d.s.nodes] 46)).heap.size = w.heap.size + 1 := by simp
    rw [← hs]
    exact (World.ownsRow_lit (e := 3) (size := 1) (w.alloc (.cells #[.int .i64 d.kind, .int .i64 d.s.id, .int .i64 d.s.frm, .int .i64 d.s.to, .int .i64 d.s.nodes] 46)) #[.int .i64 d.s.id] 1 (Nat.le_refl _) (by unfold maxLen; omega) rfl |> fun hx => (show OwnInts _ _ _ [d.s.id] from hx).is)
  have hap : Apart bk (.slice (some ⟨w.heap.size + 1, 0, none⟩) 1 1) := by
    intro a n' c' hv _ he
    cases hv
    have he2 : w.heap.size + 1 = bk := he
    omega
  have HT := Lib.hid (freeOne hb2 hd hvi hap)
  obtain ⟨kd, id, f0, t0, q⟩ := d
  simp only at hd HT
  unfold doV at *
  simp only at HT ⊢
  have e1 : (kd == 1) = false := by simp; omega
  have e2 : (kd == 2) = true := by simpa using hd
  have HB0 := Lib.hid ((Below.refl w.heap.size w).alloc (Nat.le_refl _) (.cells #[.int .i64 kd, .int .i64 id, .int .i64 f0, .int .i64 t0, .int .i64 q] 46))
  have HB1 := Lib.hid (HB0.out.alloc (by simp) (.cells #[.int .i64 id] 3))
  clear h hd hb2 hvi hap
  go_enter Try.func18, Try.ntmps18
  go_wp2_with fail
  refine (HT.out).mono ?_
  rintro e w1 ⟨err, up2, fr2, L2, rfl, hd2, hk2, hK2⟩
  have H2 := Lib.hid (opost_of HB1.out hd2 hk2 hK2)
  clear hd2 hk2 hK2
  go_wp2_with fail
  go_ret2
  exact H2.out

theorem doneAny {w : World} {bk bm : Nat} {n : Int} {up fr : List Step} {L : List Slot} (h : BookIs w bk bm n up fr L) (hI : Inv n up fr L) (d : Do) :
    Calls Try.prog 18 #[.pointer (some ⟨bk, 0, none⟩), doV d] w (OPost w bk bm n up fr L d) := by
  by_cases d1 : d.kind = 1
  · exact done1 h hI d d1
  by_cases d2 : d.kind = 2
  · exact done2 h d d2
  by_cases d3 : d.kind = 3
  · exact done3 h hI d d3
  by_cases d5 : d.kind = 5
  · exact done5 h hI d d5
  exact doneM h hI d d1 d2 d3 d5

end Go.Proofs.Ytjknmnmilladlaa

/-
  Plain: what may have been done to a book, kind by kind. No program here.
-/
namespace Go.Proofs.Ytjknmnmilladlaa

theorem DoStep.take_inv {n : Int} {up fr : List Step} {L : List Slot} {d : Do} {ids : List Int} {err : Int} {up2 fr2 : List Step} {L2 : List Slot} (hk : d.kind = 1) (h : DoStep n up fr L d ids err up2 fr2 L2) :
    ids = [] ∧ up2 = up ∧ ((fr2 = fr ∧ L2 = L ∧ ((rightOf n d.s = false ∧ err = 2) ∨ (rightOf n d.s = true ∧ (∃ x ∈ L, x.id = d.s.id) ∧ err = 51) ∨ (rightOf n d.s = true ∧ (∀ x ∈ L, x.id ≠ d.s.id) ∧ 9000 ≤ L.length ∧ err = 3) ∨
      (rightOf n d.s = true ∧ (∀ x ∈ L, x.id ≠ d.s.id) ∧ L.length < 9000 ∧ addErr fr d.s.frm d.s.to (-d.s.nodes) ≠ 0 ∧ err = 70))) ∨
      (err = 0 ∧ rightOf n d.s = true ∧ (∀ x ∈ L, x.id ≠ d.s.id) ∧ L.length < 9000 ∧ addErr fr d.s.frm d.s.to (-d.s.nodes) = 0 ∧ fr2 = addRes fr d.s.frm d.s.to (-d.s.nodes) ∧ L2 = L ++ [d.s])) := by
  cases h <;> first
    | (exfalso; omega)
    | skip
  case takeArg h1 h2 => exact ⟨rfl, rfl, .inl ⟨rfl, rfl, .inl ⟨h2, rfl⟩⟩⟩
  case takeTwice x h1 h2 h3 h4 => exact ⟨rfl, rfl, .inl ⟨rfl, rfl, .inr (.inl ⟨h2, ⟨x, h3, h4⟩, rfl⟩)⟩⟩
  case takeLong h1 h2 h3 h4 => exact ⟨rfl, rfl, .inl ⟨rfl, rfl, .inr (.inr (.inl ⟨h2, h3, h4, rfl⟩))⟩⟩
  case takeRoom h1 h2 h3 h4 h5 => exact ⟨rfl, rfl, .inl ⟨rfl, rfl, .inr (.inr (.inr ⟨h2, h3, h4, h5, rfl⟩))⟩⟩
  case take h1 h2 h3 h4 h5 => exact ⟨rfl, rfl, .inr ⟨rfl, h2, h3, h4, h5, rfl, rfl⟩⟩

theorem DoStep.free_inv {n : Int} {up fr : List Step} {L : List Slot} {d : Do} {ids : List Int} {err : Int} {up2 fr2 : List Step} {L2 : List Slot} (hk : d.kind = 2) (h : DoStep n up fr L d ids err up2 fr2 L2) :
    ids = [] ∧ up2 = up ∧ ((fr2 = fr ∧ L2 = L ∧ (∀ x ∈ L, x.id ≠ d.s.id) ∧ err = 4) ∨ (err = 0 ∧ ∃ s ∈ L, s.id = d.s.id ∧ fr2 = addRes fr s.frm s.to s.nodes ∧ L2 = without L s.id)) := by
  cases h <;> first
    | (exfalso; omega)
    | skip
  case freeNone h1 h2 => exact ⟨rfl, rfl, .inl ⟨rfl, rfl, h2, rfl⟩⟩
  case free s h1 h2 h3 => exact ⟨rfl, rfl, .inr ⟨rfl, s, h2, h3, rfl, rfl⟩⟩

theorem DoStep.cut_inv {n : Int} {up fr : List Step} {L : List Slot} {d : Do} {ids : List Int} {err : Int} {up2 fr2 : List Step} {L2 : List Slot} (hk : d.kind = 3) (h : DoStep n up fr L d ids err up2 fr2 L2) :
    ids = [] ∧ up2 = up ∧ ((fr2 = fr ∧ L2 = L ∧ (∀ x ∈ L, x.id ≠ d.s.id) ∧ err = 4) ∨ (∃ s ∈ L, s.id = d.s.id ∧ ((fr2 = fr ∧ L2 = L ∧ (isT d.s.to = false ∨ s.to < d.s.to) ∧ err = 2) ∨
      (err = 0 ∧ isT d.s.to = true ∧ d.s.to ≤ s.to ∧ d.s.to ≤ s.frm ∧ fr2 = addRes fr s.frm s.to s.nodes ∧ L2 = without L s.id) ∨
      (err = 0 ∧ isT d.s.to = true ∧ d.s.to ≤ s.to ∧ s.frm < d.s.to ∧ addErr (addRes fr s.frm s.to s.nodes) s.frm d.s.to (-s.nodes) = 0 ∧ fr2 = addRes (addRes fr s.frm s.to s.nodes) s.frm d.s.to (-s.nodes) ∧ L2 = without L s.id ++ [⟨s.id, s.frm, d.s.to, s.nodes⟩])))) := by
  cases h <;> first
    | (exfalso; omega)
    | skip
  case cutNone h1 h2 => exact ⟨rfl, rfl, .inl ⟨rfl, rfl, h2, rfl⟩⟩
  case cutArg s h1 h2 h3 h4 => exact ⟨rfl, rfl, .inr ⟨s, h2, h3, .inl ⟨rfl, rfl, h4, rfl⟩⟩⟩
  case cutAll s h1 h2 h3 h4 h5 h6 => exact ⟨rfl, rfl, .inr ⟨s, h2, h3, .inr (.inl ⟨rfl, h4, h5, h6, rfl, rfl⟩)⟩⟩
  case cut s h1 h2 h3 h4 h5 h6 h7 => exact ⟨rfl, rfl, .inr ⟨s, h2, h3, .inr (.inr ⟨rfl, h4, h5, h6, h7, rfl, rfl⟩)⟩⟩

theorem DoStep.out_inv {n : Int} {up fr : List Step} {L : List Slot} {d : Do} {ids : List Int} {err : Int} {up2 fr2 : List Step} {L2 : List Slot} (hk : d.kind = 5) (h : DoStep n up fr L d ids err up2 fr2 L2) :
    (ids = [] ∧ up2 = up ∧ fr2 = fr ∧ L2 = L ∧ ((Ytjknmnmilladlaa.outArg n d.s.frm d.s.to d.s.nodes = false ∧ err = 2) ∨ (Ytjknmnmilladlaa.outArg n d.s.frm d.s.to d.s.nodes = true ∧ 1000 < (outUp up d.s.frm d.s.to d.s.nodes).length ∧ err = 3))) ∨
      (err = 0 ∧ Ytjknmnmilladlaa.outArg n d.s.frm d.s.to d.s.nodes = true ∧ (outUp up d.s.frm d.s.to d.s.nodes).length ≤ 1000 ∧ up2 = outUp up d.s.frm d.s.to d.s.nodes ∧ ∃ G dn, Gone up2 L G L2 ∧ HurtIs up2 L2 0 ∧ dn.Perm L2 ∧ ids = (G.mergeSort fun x y => decide (x ≤ y)) ∧ fr2 = sumF up2 dn) := by
  cases h <;> first
    | (exfalso; omega)
    | skip
  case outArg h1 h2 => exact .inl ⟨rfl, rfl, rfl, rfl, .inl ⟨h2, rfl⟩⟩
  case outLong h1 h2 h3 => exact .inl ⟨rfl, rfl, rfl, rfl, .inr ⟨h2, h3, rfl⟩⟩
  case out G dn h1 h2 h3 h4 h5 h6 => exact .inr ⟨rfl, h2, h3, rfl, G, dn, h4, h5, h6, rfl, rfl⟩

theorem DoStep.move_inv {n : Int} {up fr : List Step} {L : List Slot} {d : Do} {ids : List Int} {err : Int} {up2 fr2 : List Step} {L2 : List Slot} (d1 : d.kind ≠ 1) (d2 : d.kind ≠ 2) (d3 : d.kind ≠ 3) (d5 : d.kind ≠ 5) (h : DoStep n up fr L d ids err up2 fr2 L2) :
    ids = [] ∧ up2 = up ∧ ((fr2 = fr ∧ L2 = L ∧ (∀ x ∈ L, x.id ≠ d.s.id) ∧ err = 4) ∨ (∃ s ∈ L, s.id = d.s.id ∧ ((fr2 = fr ∧ L2 = L ∧ (isT d.s.frm = false ∨ isT d.s.frm = true ∧ rightOf n (moved s d.s.frm) = false) ∧ err = 2) ∨
      (err = 70 ∧ isT d.s.frm = true ∧ rightOf n (moved s d.s.frm) = true ∧ addErr (addRes fr s.frm s.to s.nodes) (moved s d.s.frm).frm (moved s d.s.frm).to (-(moved s d.s.frm).nodes) ≠ 0 ∧ addErr (addRes fr s.frm s.to s.nodes) s.frm s.to (-s.nodes) = 0 ∧ fr2 = addRes (addRes fr s.frm s.to s.nodes) s.frm s.to (-s.nodes) ∧ L2 = without L s.id ++ [s]) ∨
      (err = 0 ∧ isT d.s.frm = true ∧ rightOf n (moved s d.s.frm) = true ∧ addErr (addRes fr s.frm s.to s.nodes) (moved s d.s.frm).frm (moved s d.s.frm).to (-(moved s d.s.frm).nodes) = 0 ∧ fr2 = addRes (addRes fr s.frm s.to s.nodes) (moved s d.s.frm).frm (moved s d.s.frm).to (-(moved s d.s.frm).nodes) ∧ L2 = without L s.id ++ [moved s d.s.frm])))) := by
  cases h <;> first
    | (exfalso; omega)
    | skip
  case moveNone _ _ _ _ h2 => exact ⟨rfl, rfl, .inl ⟨rfl, rfl, h2, rfl⟩⟩
  case moveTime s _ _ _ _ h2 h3 h4 => exact ⟨rfl, rfl, .inr ⟨s, h2, h3, .inl ⟨rfl, rfl, .inl h4, rfl⟩⟩⟩
  case moveArg s _ _ _ _ h2 h3 h4 h5 => exact ⟨rfl, rfl, .inr ⟨s, h2, h3, .inl ⟨rfl, rfl, .inr ⟨h4, h5⟩, rfl⟩⟩⟩
  case moveRoom s _ _ _ _ h2 h3 h4 h5 h6 h7 => exact ⟨rfl, rfl, .inr ⟨s, h2, h3, .inr (.inl ⟨rfl, h4, h5, h6, h7, rfl, rfl⟩)⟩⟩
  case move s _ _ _ _ h2 h3 h4 h5 h6 => exact ⟨rfl, rfl, .inr ⟨s, h2, h3, .inr (.inr ⟨rfl, h4, h5, h6, rfl, rfl⟩)⟩⟩

/-- The chapter's example. -/
theorem known1 {err : Int} {up2 fr2 : List Step} {L2 : List Slot} (h : DoStep 4 [⟨0, 4⟩] [⟨0, 4⟩] [] ⟨1, ⟨1, 0, 10, 3⟩⟩ [] err up2 fr2 L2) : err = 0 ∧ up2 = [⟨0, 4⟩] ∧ fr2 = [⟨0, 1⟩, ⟨10, 4⟩] ∧ L2 = [⟨1, 0, 10, 3⟩] := by
  have hr : rightOf 4 ⟨1, 0, 10, 3⟩ = true := by decide
  have he : addErr [⟨0, 4⟩] 0 10 (-3) = 0 := by decide
  have hres : addRes [⟨0, 4⟩] 0 10 (-3) = [⟨0, 1⟩, ⟨10, 4⟩] := by decide
  obtain ⟨_, h2, h3 | h3⟩ := h.take_inv rfl
  · obtain ⟨_, _, h4 | h4 | h4 | h4⟩ := h3
    · rw [hr] at h4; simp at h4
    · obtain ⟨_, ⟨x, hx, _⟩, _⟩ := h4; simp at hx
    · simp at h4
    · exact absurd he h4.2.2.2.1
  · obtain ⟨h4, _, _, _, _, h5, h6⟩ := h3
    exact ⟨h4, h2, h5.trans hres, by simpa using h6⟩
theorem known2 {err : Int} {up2 fr2 : List Step} {L2 : List Slot} (h : DoStep 4 [⟨0, 4⟩] [⟨0, 1⟩, ⟨10, 4⟩] [⟨1, 0, 10, 3⟩] ⟨1, ⟨2, 5, 9, 2⟩⟩ [] err up2 fr2 L2) : err = 70 ∧ up2 = [⟨0, 4⟩] ∧ fr2 = [⟨0, 1⟩, ⟨10, 4⟩] ∧ L2 = [⟨1, 0, 10, 3⟩] := by
  have hr : rightOf 4 ⟨2, 5, 9, 2⟩ = true := by decide
  have he : addErr [⟨0, 1⟩, ⟨10, 4⟩] 5 9 (-2) = 70 := by decide
  obtain ⟨_, h2, h3 | h3⟩ := h.take_inv rfl
  · obtain ⟨h5, h6, h4 | h4 | h4 | h4⟩ := h3
    · rw [hr] at h4; simp at h4
    · obtain ⟨_, ⟨x, hx, hid⟩, _⟩ := h4; simp at hx; subst hx; simp at hid
    · simp at h4
    · exact ⟨h4.2.2.2.2, h2, h5, h6⟩
  · have h5 := h3.2.2.2.2.1
    simp only at h5
    rw [he] at h5
    cases h5
theorem known3 {ids : List Int} {err : Int} {up2 fr2 : List Step} {L2 : List Slot} (h : DoStep 4 [⟨0, 4⟩] [⟨0, 1⟩, ⟨10, 4⟩] [⟨1, 0, 10, 3⟩] ⟨5, ⟨0, 3, 4, 2⟩⟩ ids err up2 fr2 L2) : ids = [1] ∧ err = 0 := by
  have ha : outArg 4 3 4 2 = true := by decide
  have hu : outUp [⟨0, 4⟩] 3 4 2 = [⟨0, 4⟩, ⟨3, 2⟩, ⟨4, 4⟩] := by decide
  rcases h.out_inv rfl with ⟨_, _, _, _, h3 | h3⟩ | h3
  · simp only at h3; rw [ha] at h3; simp at h3
  · simp only at h3; rw [hu] at h3; simp at h3
  · obtain ⟨h4, _, _, h5, G, dn, hg, hz, hp, hids, hfr⟩ := h3
    simp only at h5
    rw [hu] at h5
    subst h5
    have hv : Valid [⟨0, 4⟩, ⟨3, 2⟩, ⟨4, 4⟩] := chk_iff.1 (by decide)
    have hsub := hg.sub
    have hL : L2 = [] := by
      rcases List.sublist_cons_iff.1 hsub with h6 | ⟨r, h6, h7⟩
      · exact List.sublist_nil.1 h6
      · have := List.sublist_nil.1 h7
        subst this
        subst h6
        have := hz.fits (n := 4) hv (by intro s hs; simp at hs; subst hs; decide) 3 (by decide)
        exact absurd this (by decide)
    subst hL
    have hlen := hg.len (by simp)
    simp at hlen
    have hfrom := hg.from
    match G, hlen with
    | [g], _ =>
      obtain ⟨s, hs, hsi⟩ := hfrom g (by simp)
      simp at hs
      subst hs
      simp at hsi
      subst hsi
      exact ⟨by rw [hids]; simp, h4⟩

end Go.Proofs.Ytjknmnmilladlaa
