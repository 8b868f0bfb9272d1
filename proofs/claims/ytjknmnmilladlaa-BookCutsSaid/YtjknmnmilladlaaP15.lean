/-
  Plain: what a cut leaves free. No program here.
-/
import Derived.Test.YtjknmnmilladlaaP13
namespace Go.Proofs.Ytjknmnmilladlaa

theorem cut_val {n : Int} {up fr : List Step} {L : List Slot} (hI : Inv n up fr L) {s : Slot} (hs : s ∈ L) {to t : Int} (h0 : 0 ≤ t) (h1 : t ≤ 1099511627775) (hto : to ≤ s.to) {err : Int} {up2 fr2 : List Step} {L2 : List Slot} {d : Do} (hd : d.kind = 3) (hid : s.id = d.s.id) (hdt : d.s.to = to) (h : DoStep n up fr L d [] err up2 fr2 L2) (he : err = 0) :
    atOf fr2 t = atOf fr t + if to ≤ t ∧ s.frm ≤ t ∧ t < s.to then s.nodes else 0 := by
  have hI2 := h.inv hI
  rw [atOf_val hI2.vf h0 h1, atOf_val hI.vf h0 h1, hI2.eq t h0, hI.eq t h0]
  obtain ⟨_, hu, h3 | ⟨x, hx, hxid, h3⟩⟩ := h.cut_inv hd
  · obtain ⟨_, _, _, h4⟩ := h3; omega
  · have hxs : x = s := slot_one hI.ids hx hs (by rw [hxid, hid])
    subst hxs
    subst hu
    have hl := load_without hI.ids hs t
    rcases h3 with ⟨_, _, _, h4⟩ | ⟨_, _, h4, h5, _, h6⟩ | ⟨_, _, h4, h5, _, _, h6⟩
    · omega
    · subst h6
      rw [hdt] at h5
      unfold covS at hl
      by_cases hc : x.frm ≤ t ∧ t < x.to
      · rw [if_pos hc] at hl
        rw [if_pos ⟨by omega, hc⟩]
        omega
      · rw [if_neg hc] at hl
        rw [if_neg (fun hh => hc hh.2)]
        omega
    · subst h6
      rw [hdt] at h5 ⊢
      rw [loadOf_snoc]
      unfold covS at hl ⊢
      simp only
      split at hl <;> (split <;> split <;> omega)

end Go.Proofs.Ytjknmnmilladlaa
