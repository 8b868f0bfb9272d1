/-
  Walks: slices.Clone at steps: a slice that reads the same, in memory of the call's own.
-/
import Derived.Test.YtjknmnmilladlaaW3
import Derived.Lib.SliceRun
namespace Go.Proofs.Ytjknmnmilladlaa
open Go.RowKit

set_option maxHeartbeats 1000000 in
set_option maxRecDepth 100000 in
theorem cloneAny {w : World} {v : Value} {l : List Step} (h : IsSteps w v l) (hl : l.length ≤ 40000) :
    Calls Try.prog 32 #[v] w fun e w' => (∃ v', e = .returned v' ∧ OwnSteps w' w.heap.size v' l) ∧ Below w.heap.size w w' := by
  obtain ⟨hlen, ao, cap, rfl, h1, h2, h3⟩ := h
  have q33 : ∀ (w : World) (a : Option Addr) (n c n' c' : Nat), (binOp .eql 33 (.slice a n c) (.slice none n' c')).run Try.prog w = .ok (.bool a.isNone) w := fun w a n c n' c' => Lib.run_eql_slice_nil w _ _ a n c n' c' Try.underlying33
  cases ao with
  | none =>
    have hn : l = [] := by
      rcases Nat.eq_zero_or_pos l.length with h | h
      · exact List.eq_nil_of_length_eq_zero h
      · obtain ⟨_, _, h, _⟩ := h3 h; simp at h
    subst hn
    clear h3 hlen
    go_enter Try.func32, Try.ntmps32
    go_wp2
    go_ret
    exact ⟨⟨_, rfl, World.ownsRow_nil _ _ _ _⟩, Below.refl _ _⟩
  | some ad =>
    have hnews : ∀ (x : Obj) j u, (flatS l)[j]? = some u → (w.alloc x).cell? (ad.add j) = some u := by
      intro x j u hj
      have hn : 0 < l.length := by
        rcases Nat.eq_zero_or_pos l.length with h | h
        · have := List.eq_nil_of_length_eq_zero h
          subst this; simp [flatS] at hj
        · exact h
      obtain ⟨b, off, hb, hr⟩ := h3 hn
      simp only [Option.some.injEq] at hb
      subst hb
      rw [Addr.add_lit]
      exact Lib.cell?_alloc_some _ (hr j u hj)
    have HN := Lib.hid hnews; clear hnews h3
    have HL := Lib.hid hlen; clear hlen
    obtain ⟨i0, hi, hz0, hz1, hz2⟩ := info_parts Try.info38
    go_enter Try.func32, Try.ntmps32
    go_wp2_with (at_builtin; refine wpList_append_own _ rfl (.tmp 5) (.tmp 6) 33 rfl w.heap.size 38 i0 _ 2 16 Try.underlying33 hi hz0 hz1 hz2 rfl (by decide) _ _ _ rfl (World.ownsRow_made w #[] 0 (Nat.le_refl _) (Nat.zero_le _) (by simp)) ad l.length cap (flatS l) rfl HL.out (HN.out _) (oneCell_flatS l) (by unfold maxLen; omega) (by omega) (by simp) ?_)
    intro v' w1 hown hgrow hnil
    have HO := Lib.hid hown; clear hown
    have HG := Lib.hid hgrow; clear hgrow
    clear hnil
    go_wp2
    go_ret
    refine ⟨⟨v', rfl, ?_⟩, ?_⟩
    · exact HO.out
    · exact ((Below.refl _ w).alloc (Nat.le_refl _) _).grown HG.out (by simp) (by intro k hk; simp [Value.ownBlock] at hk; omega)

end Go.Proofs.Ytjknmnmilladlaa
