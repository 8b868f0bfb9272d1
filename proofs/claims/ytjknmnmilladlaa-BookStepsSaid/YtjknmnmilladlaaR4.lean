/-
  Walk of the reference: tidy of a whole profile (layer 9's Tidy), at rising times.
-/
import Derived.Test.YtjknmnmilladlaaR3
namespace Go.Proofs.Ytjknmnmilladlaa
open Go.RowKit

def upto (k : Nat) : List Int := (List.range k).map fun i : Nat => (i : Int)
theorem upto_len (k : Nat) : (upto k).length = k := by simp [upto]
theorem upto_succ (k : Nat) : upto (k + 1) = upto k ++ [(k : Int)] := by simp [upto, List.range_succ]
theorem mem_upto (k j : Nat) : (j : Int) ∈ upto k ↔ j < k := by
  unfold upto
  rw [List.mem_map]
  constructor
  · rintro ⟨a, ha, he⟩
    rw [List.mem_range] at ha
    omega
  · intro h
    exact ⟨j, List.mem_range.2 h, rfl⟩

theorem quiet_eq {P : Program} {f : FuncId} {args : Array Value} {w : World} {n : Nat} {v : Value} (h : Calls P f args (w.drewN n) fun e w' => e = .returned v ∧ w.drewN n = w') : Calls P f args (w.drewN n) fun e w' => e = .returned v ∧ ∃ m, w' = w.drewN m :=
  h.mono fun _ _ ⟨a, b⟩ => ⟨a, n, b.symm⟩
theorem quiet_eq2 {P : Program} {f : FuncId} {args : Array Value} {w : World} {n m : Nat} {v : Value} (h : Calls P f args (w.drewN (n + m)) fun e w' => e = .returned v ∧ w.drewN (n + m) = w') : Calls P f args (w.drewN (n + m)) fun e w' => e = .returned v ∧ ∃ q, w' = w.drewN (n + q) :=
  h.mono fun _ _ ⟨a, b⟩ => ⟨a, m, b.symm⟩

theorem owns_grow {w w' : World} {row : Option Nat} {B e k : Nat} {v : Value} {n : Nat} {xs : List Value} (h : w.ownsRow B e k v n xs) (hg : Grow w w' row) (hr : ∀ g, v.ownBlock = some g → some g ≠ row) : w'.ownsRow B e k v n xs := by
  refine ⟨h.1, ?_⟩
  rcases h.2 with h' | ⟨g, cap, cur, rfl, hb, hgg, r⟩
  · exact .inl h'
  · refine .inr ⟨g, cap, cur, rfl, hb, ?_, r⟩
    rw [hg g (Array.getElem?_eq_some_iff.1 hgg).1 (hr g rfl)]
    exact hgg
theorem Grow.of_grown {w w' : World} {row : Option Nat} (h : w.grownBy w' row) : Grow w w' row := fun g hg hn => h.block g hg hn

def bestOf (k j : Nat) : Int := if j ≤ k then -1 else k

set_option maxHeartbeats 8000000 in
set_option maxRecDepth 100000 in
theorem refTidy {w : World} {v : Value} {l : List Step} (h : IsSteps w v l) (hp : 0 < l.length) (hl : l.length ≤ 40000) (hS : ∀ i j, i < j → j < l.length → atv l i < atv l j) :
    Calls Try.prog 68 #[v] w fun e w' => (∃ u, e = .returned u ∧ OwnSteps w' w.heap.size u (tidy l)) ∧ Below w.heap.size w w' := by
  obtain ⟨b0, o0, c0, rfl, p1, p2, p3, C1⟩ := stepAtV h hp
  obtain ⟨N, hN⟩ : ∃ N, N = l.length := ⟨_, rfl⟩
  rw [← hN] at p1 C1 hp hl hS ⊢
  have HC := Lib.hid C1
  have HN := Lib.hid hN
  have HS := Lib.hid hS
  obtain ⟨i0, hi, hz0, hz1, hz2⟩ := info_parts Try.info3
  clear h C1 hN hS
  go_enter Try.func68, Try.ntmps68
  go_wp2_with fail
  go_loopw [3, 4] (fun v3 v4 wr => ∃ k : Nat, k ≤ N ∧ Below w.heap.size w wr ∧ OwnSteps wr w.heap.size v3 (tidyN l k) ∧ OwnInts wr w.heap.size v4 (upto k) ∧ ∀ g, v3.ownBlock = some g → v4.ownBlock ≠ some g) (fun _ v4 _ => N - sliceLen v4)
  case atStart => exact ⟨0, by omega, Below.refl _ _, World.ownsRow_nil _ _ _ _, World.ownsRow_nil _ _ _ _, by simp [Value.ownBlock]⟩
  case round =>
    obtain ⟨k, hk, hb, ho3, ho4, hap⟩ := hrel
    obtain ⟨a4, c4, hv4, r1, r2⟩ := ho4.is.shape
    rw [upto_len] at r1 hv4
    have HB := Lib.hid hb
    have H3 := Lib.hid ho3
    have H4 := Lib.hid ho4
    have HAP := Lib.hid hap
    clear hb ho3 ho4 hap
    by_cases hkN : k < N
    · obtain ⟨x, y, e1, g1, g2⟩ := HC.out k hkN
      have hkk : (k : Int) < N := by omega
      have HE1 := Lib.hid e1
      have k1 : wr.cell? ⟨b0, o0 + k * 2, none⟩ = some (.int .i64 x) := (HB.out.cell (p := ⟨b0, o0 + k * 2, none⟩) p3).trans g1
      have k2 : wr.cell? ⟨b0, o0 + k * 2 + 1, none⟩ = some (.int .i64 y) := (HB.out.cell (p := ⟨b0, o0 + k * 2 + 1, none⟩) p3).trans g2
      have hsx := HB.out.size
      have HW := Lib.hid (show ∃ wz, wz = wr from ⟨_, rfl⟩)
      clear e1 g1 g2
      subst hv4
      go_wp2_with fail
      go_loopw [5, 6] (fun v5 v6 wy => ∃ (j n : Nat), j ≤ N ∧ v6 = .int .i64 j ∧ v5 = .int .i64 (bestOf k j) ∧ wy = wr.drewN n) (fun _ v6 _ => N - (intOf v6).toNat)
      case atStart => exact ⟨0, 0, by omega, rfl, by simp [bestOf], rfl⟩
      case round =>
        obtain ⟨j, n, hj, rfl, rfl, rfl⟩ := hrel
        by_cases hjN : j < N
        · have hjj : (j : Int) < N := by omega
          by_cases hjk : j < k
          · have HH := Lib.hid (show ∀ w2, Below wr.heap.size wr w2 → _ from fun w2 h2 => refHas (H4.out.is.below h2) (j : Int) true (by rw [decide_eq_true_iff, mem_upto]; exact hjk))
            have hbe : bestOf k j = -1 := if_pos (by omega)
            have hbe2 : bestOf k (j + 1) = -1 := if_pos (by omega)
            have HBE := Lib.hid hbe2
            rw [hbe]
            clear hbe hbe2
            go_wp2_with fail
            go_quiet ((go_at_call 95; exact quiet_eq2 (HH.out _ (below_drewN (Below.refl _ _) _))))
            go_wp2_with fail
            go_roundw
            case rel => exact ⟨j + 1, _, by omega, by go_num, by rw [HBE.out], rfl⟩
            case measure => simp [intOf]; omega
          · have HH := Lib.hid (show ∀ w2, Below wr.heap.size wr w2 → _ from fun w2 h2 => refHas (H4.out.is.below h2) (j : Int) false (by rw [decide_eq_false_iff_not, mem_upto]; exact hjk))
            by_cases hje : j = k
            · subst hje
              have hbe : bestOf j j = -1 := if_pos (by omega)
              have hbe2 : bestOf j (j + 1) = j := if_neg (by omega)
              have HBE := Lib.hid hbe2
              rw [hbe]
              clear hbe hbe2
              have dd : decide ((-1 : Int) < 0) = true := by decide
              go_wp2_with fail
              go_quiet ((go_at_call 95; exact quiet_eq2 (HH.out _ (below_drewN (Below.refl _ _) _))))
              go_wp2_with fail
              go_roundw
              case rel => exact ⟨j + 1, _, by omega, by go_num, by rw [HBE.out], rfl⟩
              case measure => simp [intOf]; omega
            · have hbe : bestOf k j = k := if_neg (by omega)
              have hbe2 : bestOf k (j + 1) = k := if_neg (by omega)
              have HBE := Lib.hid hbe2
              rw [hbe]
              clear hbe hbe2
              have dd : decide ((k : Int) < 0) = false := by simp
              obtain ⟨xj, yj, ej, gj, _⟩ := HC.out j hjN
              have kj : wr.cell? ⟨b0, o0 + j * 2, none⟩ = some (.int .i64 xj) := (HB.out.cell (p := ⟨b0, o0 + j * 2, none⟩) p3).trans gj
              have hlt := HS.out k j (by omega) hjN
              unfold atv at hlt
              rw [HE1.out, ej] at hlt
              simp only at hlt
              have dx : decide (xj < x) = false := by simpa using Int.le_of_lt hlt
              clear ej gj hlt
              go_wp2_with fail
              go_quiet ((go_at_call 95; exact quiet_eq2 (HH.out _ (below_drewN (Below.refl _ _) _))))
              go_wp2_with fail
              go_roundw
              case rel => exact ⟨j + 1, _, by omega, by go_num, by rw [HBE.out], rfl⟩
              case measure => simp [intOf]; omega
        · obtain rfl : j = N := by omega
          have hd : decide ((j : Int) < j) = false := by simp
          have hbe : bestOf k j = k := if_neg (by omega)
          rw [hbe]
          clear hbe
          have z0 := cell_new (wr.drewN n) #[.int .i64 0, .int .i64 0] 38 0 rfl
          have z1 := cell_new (wr.drewN n) #[.int .i64 0, .int .i64 0] 38 1 rfl
          have f0 := frozen_new (wr.drewN n) #[.int .i64 0, .int .i64 0] 38 0
          have f1 := frozen_new (wr.drewN n) #[.int .i64 0, .int .i64 0] 38 1
          rw [show (wr.drewN n).heap.size = wr.heap.size from rfl] at z0 z1 f0 f1
          go_wp2_with fail
          obtain ⟨H, hH⟩ : ∃ H, H = wr.heap.size := ⟨_, rfl⟩
          have hbs : Below wr.heap.size wr ((((wr.drewN n).alloc (.cells #[.int .i64 0, .int .i64 0] 38)).setCell ⟨wr.heap.size, 0, none⟩ (.int .i64 x)).setCell ⟨wr.heap.size, 1, none⟩ (.int .i64 y)) :=
            (((below_drewN (Below.refl _ _) n).alloc (Nat.le_refl _) _).setCell (p := ⟨wr.heap.size, 0, none⟩) (Nat.le_refl _) _).setCell (p := ⟨wr.heap.size, 1, none⟩) (Nat.le_refl _) _
          have hcx : ((((wr.drewN n).alloc (.cells #[.int .i64 0, .int .i64 0] 38)).setCell ⟨wr.heap.size, 0, none⟩ (.int .i64 x)).setCell ⟨wr.heap.size, 1, none⟩ (.int .i64 y)).cell? ⟨wr.heap.size, 0, none⟩ = some (.int .i64 x) :=
            (cell_set_other (.inr (by decide))).trans (cell_set_same z0)
          have hcy : ((((wr.drewN n).alloc (.cells #[.int .i64 0, .int .i64 0] 38)).setCell ⟨wr.heap.size, 0, none⟩ (.int .i64 x)).setCell ⟨wr.heap.size, 1, none⟩ (.int .i64 y)).cell? ⟨wr.heap.size, 1, none⟩ = some (.int .i64 y) :=
            cell_set_same ((cell_set_other (.inr (by decide))).trans z1)
          have hfz : ∀ o, ((((wr.drewN n).alloc (.cells #[.int .i64 0, .int .i64 0] 38)).setCell ⟨wr.heap.size, 0, none⟩ (.int .i64 x)).setCell ⟨wr.heap.size, 1, none⟩ (.int .i64 y)).frozen? ⟨wr.heap.size, o, none⟩ = false :=
            fun o => (frozen_set _).trans ((frozen_set _).trans (frozen_new (wr.drewN n) #[.int .i64 0, .int .i64 0] 38 o))
          have hsz : ((((wr.drewN n).alloc (.cells #[.int .i64 0, .int .i64 0] 38)).setCell ⟨wr.heap.size, 0, none⟩ (.int .i64 x)).setCell ⟨wr.heap.size, 1, none⟩ (.int .i64 y)).heap.size = wr.heap.size + 1 := by
            simp [World.setCell, World.drewN]
          clear z0 z1 f0 f1
          generalize ((((wr.drewN n).alloc (.cells #[.int .i64 0, .int .i64 0] 38)).setCell ⟨wr.heap.size, 0, none⟩ (.int .i64 x)).setCell ⟨wr.heap.size, 1, none⟩ (.int .i64 y)) = ws at *
          have HBS := Lib.hid (HB.out.trans (hbs.mono hsx))
          have H3S := Lib.hid (owns_below H3.out hbs)
          have H4S := Lib.hid (owns_below H4.out hbs)
          have h3H : ∀ g, u3.ownBlock = some g → g < wr.heap.size := fun g hg => ((World.ownsRow.lt H3.out) g hg).2
          have h4H : ∀ g, (Value.slice a4 k c4).ownBlock = some g → g < wr.heap.size := fun g hg => ((World.ownsRow.lt H4.out) g hg).2
          rw [← hH] at hcx hcy hfz hsz h3H h4H
          rw [← hH]
          have hBH : w.heap.size ≤ H := by omega
          have H3H := Lib.hid h3H
          have H4H := Lib.hid h4H
          have HCX := Lib.hid hcx
          have HCY := Lib.hid hcy
          have HFZ := Lib.hid hfz
          have HSZ := Lib.hid hsz
          clear hbs hcx hcy hfz hsz h3H h4H hH
          go_loopw [4, 8] (fun v4 v8 wy => ∃ q : Nat, q ≤ j ∧ v8 = .int .i64 q ∧ Below w.heap.size w wy ∧ H < wy.heap.size ∧ wy.cell? ⟨H, 0, none⟩ = some (.int .i64 x) ∧ wy.cell? ⟨H, 1, none⟩ = some (.int .i64 y) ∧ (∀ o, wy.frozen? ⟨H, o, none⟩ = false) ∧ OwnSteps wy w.heap.size u3 (tidyN l k) ∧ OwnInts wy w.heap.size v4 (upto (if q ≤ k then k else k + 1)) ∧ (∀ g, u3.ownBlock = some g → v4.ownBlock ≠ some g) ∧ (q ≤ k → v4.ownBlock ≠ some H)) (fun _ v8 _ => j - (intOf v8).toNat)
          case atStart => exact ⟨0, by omega, rfl, HBS.out, by rw [HSZ.out]; omega, HCX.out, HCY.out, HFZ.out, H3S.out, by rw [if_pos (Nat.zero_le _)]; exact H4S.out, HAP.out, fun _ e => by have := H4H.out H e; omega⟩
          case round =>
            obtain ⟨q, hq, rfl, hb5, hH5, hx5, hy5, hf5, ho3, ho4, hap5, hq5⟩ := hrel
            have HB5 := Lib.hid hb5
            have HF5 := Lib.hid hf5
            have HO3 := Lib.hid ho3
            have HO4 := Lib.hid ho4
            have HAP5 := Lib.hid hap5
            have HQ5 := Lib.hid hq5
            have hs5 := hb5.size
            clear hb5 hf5 ho3 ho4 hap5 hq5
            by_cases hqN : q < j
            · have hqq : (q : Int) < j := by omega
              obtain ⟨xq, yq, eq, gq, gq2⟩ := HC.out q hqN
              have kq := (HB5.out.cell (p := ⟨b0, o0 + q * 2, none⟩) p3).trans gq
              have kq2 := (HB5.out.cell (p := ⟨b0, o0 + q * 2 + 1, none⟩) p3).trans gq2
              have HEQ := Lib.hid eq
              clear eq gq gq2
              by_cases hqk : q = k
              · subst hqk
                have hxx : xq = x ∧ yq = y := by
                  have := HEQ.out.symm.trans HE1.out
                  injection this with a b
                  exact ⟨a, b⟩
                obtain ⟨rfl, rfl⟩ := hxx
                have ff0 := HF5.out 0
                have ff1 := HF5.out 1
                go_wp2_with fail
                go_quiet (fail)
                have h4u := HO4.out
                rw [if_pos (Nat.le_refl _)] at h4u
                have hu4 := HQ5.out (Nat.le_refl _)
                have h4s : OwnInts (((wr.drewN nq).setCell ⟨H, 0, none⟩ (.int .i64 xq)).setCell ⟨H, 1, none⟩ (.int .i64 yq)) w.heap.size u4 (upto q) :=
                  ownsRow_setCell_other (ownsRow_setCell_other (owns_below h4u (below_drewN (Below.refl _ _) nq)) hu4 _) hu4 _
                have h3s : OwnSteps (((wr.drewN nq).setCell ⟨H, 0, none⟩ (.int .i64 xq)).setCell ⟨H, 1, none⟩ (.int .i64 yq)) w.heap.size u3 (tidyN l q) :=
                  ownsRow_setCell_other (ownsRow_setCell_other (owns_below HO3.out (below_drewN (Below.refl _ _) nq)) (fun e => by have := H3H.out H e; omega) _) (fun e => by have := H3H.out H e; omega) _
                have hbs : Below w.heap.size w (((wr.drewN nq).setCell ⟨H, 0, none⟩ (.int .i64 xq)).setCell ⟨H, 1, none⟩ (.int .i64 yq)) :=
                  ((below_drewN HB5.out nq).setCell (p := ⟨H, 0, none⟩) hBH _).setCell (p := ⟨H, 1, none⟩) hBH _
                have hcx : (((wr.drewN nq).setCell ⟨H, 0, none⟩ (.int .i64 xq)).setCell ⟨H, 1, none⟩ (.int .i64 yq)).cell? ⟨H, 0, none⟩ = some (.int .i64 xq) :=
                  (cell_set_other (.inr (by decide))).trans (cell_set_same (w := wr.drewN nq) hx5)
                have hcy : (((wr.drewN nq).setCell ⟨H, 0, none⟩ (.int .i64 xq)).setCell ⟨H, 1, none⟩ (.int .i64 yq)).cell? ⟨H, 1, none⟩ = some (.int .i64 yq) :=
                  cell_set_same ((cell_set_other (.inr (by decide))).trans (show (wr.drewN nq).cell? _ = _ from hy5))
                have hfz : ∀ o, (((wr.drewN nq).setCell ⟨H, 0, none⟩ (.int .i64 xq)).setCell ⟨H, 1, none⟩ (.int .i64 yq)).frozen? ⟨H, o, none⟩ = false :=
                  fun o => (frozen_set _).trans ((frozen_set _).trans (HF5.out o))
                have hsz : (((wr.drewN nq).setCell ⟨H, 0, none⟩ (.int .i64 xq)).setCell ⟨H, 1, none⟩ (.int .i64 yq)).heap.size = wr.heap.size := by
                  simp [World.setCell, World.drewN]
                have H4Q := Lib.hid h4s
                have H3Q := Lib.hid h3s
                have HBQ := Lib.hid hbs
                have HCXQ := Lib.hid hcx
                have HCYQ := Lib.hid hcy
                have HFZQ := Lib.hid hfz
                have HSZQ := Lib.hid hsz
                have hlq := upto_len q
                clear h4u hu4 h4s h3s hbs hcx hcy hfz hsz
                generalize huq : upto q = uq at *
                have HUQ := Lib.hid huq
                clear huq
                unfold OwnInts at H4Q
                rw [hlq] at H4Q
                go_wp2_with (at_builtin; refine wpList_append_own_at _ rfl (.tmp 64) (.tmp 66) 42 rfl w.heap.size 3 i0 _ 1 8 Try.underlying42 hi hz0 hz1 hz2 rfl (by decide) _ _ _ rfl (by exact (owns_below H4Q.out ((Below.refl _ _).alloc (Nat.le_refl _) _))) ⟨wr.heap.size, 0, none⟩ 1 1 [.int .i64 (q : Int)] rfl rfl (news_at _ _ HSZQ.out #[.int .i64 (q : Int)] 3) (by simp [Value.oneCell']) (by unfold maxLen; omega) (by omega) (by have := HSZQ.out; have := HB5.out.size; simp [World.setCell, World.drewN]; omega) ?_)
                intro v' w8 hown8 hgrow hnil hat
                have HO8 := Lib.hid hown8
                have HG8 := Lib.hid hgrow
                have HAT := Lib.hid hat
                clear hown8 hgrow hnil hat
                go_wp2_with fail
                go_roundw
                case rel =>
                  have hgw := Grow.then ((Below.refl _ _).alloc (Nat.le_refl _) _) HG8.out
                  have hsz := HSZQ.out
                  have hu4 := HQ5.out (Nat.le_refl _)
                  have hHl := hH5
                  rw [← hsz] at hHl
                  have hbk := hgw H hHl (fun e => hu4 e.symm)
                  refine ⟨q + 1, by omega, by go_num, (HBQ.out.alloc HBQ.out.size _).grown HG8.out (by have := HBQ.out.size; simp at this ⊢; omega) (fun g hg => ((World.ownsRow.lt H4Q.out) g hg).1), ?_, (World.cell?_of_block hbk).trans HCXQ.out, (World.cell?_of_block hbk).trans HCYQ.out, fun o => (World.frozen?_of_block hbk).trans (HFZQ.out o), owns_grow H3Q.out hgw (fun g hg e => HAP5.out g hg e.symm), ?_, ?_, fun h => absurd h (by omega)⟩
                  · have h1 := HG8.out.size
                    simp at h1
                    have h2 := hsz
                    simp at h2
                    omega
                  · rw [if_neg (by omega), upto_succ, HUQ.out]
                    exact own_int1 HO8.out
                  · intro g hg e
                    have hg2 := H3H.out g hg
                    rcases HAT.out with h | h
                    · exact HAP5.out g hg (h.symm.trans e)
                    · rw [h] at e
                      injection e with e
                      try simp at e
                      simp at hsz
                      omega
                case measure => simp [intOf]; omega
              · have hne : xq ≠ x := by
                  have e1 := HEQ.out
                  have e2 := HE1.out
                  rcases Nat.lt_or_gt_of_ne hqk with h | h
                  · have := HS.out q k h hkN
                    unfold atv at this
                    rw [e1, e2] at this
                    simp at this
                    omega
                  · have := HS.out k q h hqN
                    unfold atv at this
                    rw [e1, e2] at this
                    simp at this
                    omega
                have hbq : (xq == x) = false := by simpa using hne
                have hif : (if q + 1 ≤ k then k else k + 1) = if q ≤ k then k else k + 1 := by
                  by_cases h : q ≤ k
                  · rw [if_pos h, if_pos (by omega)]
                  · rw [if_neg h, if_neg (by omega)]
                have HIF := Lib.hid hif
                clear hif hne
                go_wp2_with fail
                go_quiet (fail)
                go_wp2_with fail
                go_roundw
                case rel => exact ⟨q + 1, by omega, by go_num, below_drewN HB5.out _, hH5, hx5, hy5, HF5.out, owns_below HO3.out (below_drewN (Below.refl _ _) nq), by rw [HIF.out]; exact owns_below HO4.out (below_drewN (Below.refl _ _) nq), HAP5.out, fun h => HQ5.out (by omega)⟩
                case measure => simp [intOf]; omega
            · obtain rfl : q = j := by omega
              have hd : decide ((q : Int) < q) = false := by simp
              have h4u := HO4.out
              rw [if_neg (by omega)] at h4u
              have H4U := Lib.hid h4u
              have HTK := Lib.hid (refTidy1 HO3.out HB5.out.size (by have := length_tidyN l k; omega) ⟨x, y⟩)
              have hts : tidyStep (tidyN l k) ⟨x, y⟩ = tidyN l (k + 1) := by
                rw [tidyN_succ l k (by rw [← HN.out]; exact hkN)]
                unfold atv frv
                rw [HE1.out]
              have HTS := Lib.hid hts
              clear h4u hts
              unfold stepV at HTK
              go_wp2_with fail
              refine (HTK.out).mono ?_
              rintro e w6 ⟨⟨u, rfl, hou, hli⟩, hbu, hgu⟩
              have HOU := Lib.hid hou
              have HLI := Lib.hid hli
              have HBU := Lib.hid hbu
              have HGU := Lib.hid hgu
              clear hou hli hbu hgu
              go_wp2_with fail
              go_roundw
              case rel =>
                refine ⟨k + 1, by omega, HB5.out.trans HBU.out, by rw [← HTS.out]; exact HOU.out, owns_grow H4U.out HGU.out (fun g hg e => HAP5.out g e.symm hg), ?_⟩
                intro g hg e
                rcases HLI.out with h | ⟨g2, h, h2⟩
                · exact HAP5.out g (h.symm.trans hg) e
                · rw [h] at hg
                  injection hg with hg
                  subst hg
                  have := ((World.ownsRow.lt H4U.out) _ e).2
                  omega
              case measure =>
                have h1 := OwnInts.len H4U.out
                rw [upto_len] at h1
                simp [sliceLen] at h1 ⊢
                omega
    · obtain rfl : k = N := by omega
      have hd : decide ((k : Int) < k) = false := by simp
      subst hv4
      go_wp2_with fail
      go_ret
      refine ⟨⟨_, rfl, ?_⟩, HB.out⟩
      have := H3.out
      rw [HN.out, tidyN_all] at this
      exact this
end Go.Proofs.Ytjknmnmilladlaa
