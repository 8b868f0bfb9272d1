import Derived.Test.YtjknmnmilladlaaE
import Derived.Deep.Slices
import Derived.ChangeSlices
import Derived.WideKeyArgs
import Derived.ProofKit
import Derived.OpenShut
import Derived.Test.YtjknmnmilladlaaRows
import Derived.Below
import Derived.ChangeSame

/-
  Walk: the law's known.
-/
namespace Go.Proofs.Ytjknmnmilladlaa
open Go.RowKit

set_option maxHeartbeats 8000000 in
set_option maxRecDepth 100000 in
theorem knownYes (w : World) : Calls Try.prog 12 #[] w fun e w' => e = .returned (.bool true) ∧ Below w.heap.size w w' := by
  have HN := Lib.hid (newYes 4 w (by omega) (by omega))
  have hI0 := Inv.new (n := 4) (by omega) (by omega)
  go_enter Try.func12, Try.ntmps12
  go_wp2_with fail
  refine (HN.out).mono ?_
  rintro e w1 ⟨⟨bk, bm, rfl, hk, h1, h2⟩, hb1⟩
  have HT := Lib.hid (takeAll hk hI0 ⟨1, ⟨1, 0, 10, 3⟩⟩ rfl)
  have HB1 := Lib.hid hb1
  have hs1 : w.heap.size ≤ w1.heap.size := hb1.size
  clear hk hb1
  unfold slotV at HT
  simp only at HT
  go_wp2_with fail
  refine (HT.out).mono ?_
  rintro e w2 ⟨err, up2, fr2, L2, rfl, hd, hk2, hK2⟩
  have hI1 := hd.inv hI0
  obtain ⟨rfl, rfl, rfl, rfl⟩ := known1 hd
  have HT2 := Lib.hid (takeAll hk2 hI1 ⟨1, ⟨2, 5, 9, 2⟩⟩ rfl)
  have HK2 := Lib.hid (hK2.below h1 h2 hs1)
  have hs2 : w1.heap.size ≤ w2.heap.size := hK2.size
  clear hd hk2 hK2 hI0 HT
  unfold slotV at HT2
  simp only at HT2
  go_wp2_with fail
  refine (HT2.out).mono ?_
  rintro e w3 ⟨err, up2, fr2, L2, rfl, hd, hk2, hK2⟩
  have hI2 := hd.inv hI1
  obtain ⟨rfl, rfl, rfl, rfl⟩ := known2 hd
  have HT3 := Lib.hid (outAll hk2 hI2 ⟨5, ⟨0, 3, 4, 2⟩⟩ rfl)
  have HK3 := Lib.hid (hK2.below h1 h2 (by omega))
  have hs3 : w2.heap.size ≤ w3.heap.size := hK2.size
  clear hd hk2 hK2 hI1 HT2
  simp only at HT3
  go_wp2_with fail
  refine (HT3.out).mono ?_
  rintro e w4 ⟨v, ids, err, up2, fr2, L2, rfl, hv, hd, hk2, hK2⟩
  obtain ⟨rfl, rfl⟩ := known3 hd
  have HK4 := Lib.hid (hK2.below h1 h2 (by omega))
  have hs4 : w3.heap.size ≤ w4.heap.size := hK2.size
  have hB4 : Below w.heap.size w w4 := ((HB1.out.trans HK2.out).trans HK3.out).trans HK4.out
  have HB4 := Lib.hid hB4
  have HV := Lib.hid hv
  clear hd hk2 hK2 hI2 HT3 hv hB4 h1 h2 HB1 HK2 HK3 HK4
  obtain ⟨ao, cp, rfl, _, _⟩ := HV.out.shape
  have hvi : IsInts (w4.alloc (.cells #[.int .i64 1] 3)) (.slice (some ⟨w4.heap.size, 0, none⟩) 1 1) [1] :=
    (show OwnInts _ w4.heap.size _ [1] from World.ownsRow_lit (e := 3) (size := 1) w4 #[.int .i64 1] 1 (Nat.le_refl _) (by unfold maxLen; omega) rfl).is
  have hBa : Below w4.heap.size w4 (w4.alloc (.cells #[.int .i64 1] 3)) := (Below.refl _ _).alloc (Nat.le_refl _) _
  have HBA := Lib.hid hBa
  have HSI := Lib.hid (sameInts (HV.out.below hBa) hvi)
  simp only [decide_true] at HSI
  clear hvi hBa
  go_wp2_with fail
  refine (HSI.out).mono ?_
  rintro e w5 ⟨rfl, hb5⟩
  have HB5 := Lib.hid ((HB4.out.trans (HBA.out.mono (by omega))).trans (hb5.mono (by simp; omega)))
  clear hb5
  have HF := Lib.hid (freeNil none 0 0 w5)
  go_wp2_with fail
  refine (HF.out).mono ?_
  rintro e w6 ⟨rfl, hb6⟩
  have HB6 := Lib.hid (HB5.out.trans (hb6.mono HB5.out.size))
  clear hb6
  go_wp2_with fail
  go_ret
  exact ⟨rfl, HB6.out⟩

end Go.Proofs.Ytjknmnmilladlaa

/-
  Plain: a book that one reservation of all its nodes fills. No program here.
-/
namespace Go.Proofs.Ytjknmnmilladlaa

theorem val_one (n t : Int) : val [⟨0, n⟩] t = n := by
  unfold val plc
  simp [plcN, frv]

/-- the first reservation fits -/
theorem new1 {n f t : Int} (h1 : 1 ≤ n) (h2 : n ≤ 10000) (h3 : 0 ≤ f) (h4 : f < t) (h5 : t ≤ 1099511627775) {err : Int} {up2 fr2 : List Step} {L2 : List Slot} (h : DoStep n [⟨0, n⟩] [⟨0, n⟩] [] ⟨1, ⟨1, f, t, n⟩⟩ [] err up2 fr2 L2) :
    err = 0 ∧ up2 = [⟨0, n⟩] ∧ L2 = [⟨1, f, t, n⟩] ∧ Inv n [⟨0, n⟩] fr2 [⟨1, f, t, n⟩] := by
  have hI := Inv.new h1 h2
  have hr : rightOf n ⟨1, f, t, n⟩ = true := right_iff.2 ⟨by simp, ⟨h3, by simp only; omega⟩, ⟨by simp only; omega, h5⟩, h4, h1, Int.le_refl _⟩
  have he : addErr [⟨0, n⟩] f t (-n) = 0 := (hI.room hr).1.2 (fun x _ _ => by rw [val_one]; exact Int.le_refl _)
  have hI2 := h.inv hI
  obtain ⟨_, hu, h6 | h6⟩ := h.take_inv rfl
  · obtain ⟨_, _, h7 | h7 | h7 | h7⟩ := h6
    · simp only at h7; rw [hr] at h7; simp at h7
    · obtain ⟨_, ⟨x, hx, _⟩, _⟩ := h7; simp at hx
    · simp at h7
    · exact absurd he h7.2.2.2.1
  · obtain ⟨h7, _, _, _, _, h8, h9⟩ := h6
    simp only [List.nil_append] at h9
    subst hu
    subst h9
    exact ⟨h7, rfl, rfl, hI2⟩
theorem new1_val {n f t : Int} {fr2 : List Step} (hI : Inv n [⟨0, n⟩] fr2 [⟨1, f, t, n⟩]) {x : Int} (h0 : 0 ≤ f) (h1 : f ≤ x) (h2 : x < t) : val fr2 x = 0 := by
  rw [hI.eq x (by omega), val_one]
  simp only [loadOf, covS, List.foldl_cons, List.foldl_nil]
  rw [if_pos ⟨h1, h2⟩]
  omega
/-- no other one does -/
theorem new2 {n f t : Int} (h1 : 1 ≤ n) (h3 : 0 ≤ f) (h4 : f < t) (h5 : t ≤ 1099511627775) {fr : List Step} (hI : Inv n [⟨0, n⟩] fr [⟨1, f, t, n⟩]) {err : Int} {up2 fr2 : List Step} {L2 : List Slot} (h : DoStep n [⟨0, n⟩] fr [⟨1, f, t, n⟩] ⟨1, ⟨2, f, f + 1, 1⟩⟩ [] err up2 fr2 L2) :
    err = 70 ∧ up2 = [⟨0, n⟩] ∧ fr2 = fr ∧ L2 = [⟨1, f, t, n⟩] := by
  have hr : rightOf n ⟨2, f, f + 1, 1⟩ = true := right_iff.2 ⟨by simp, ⟨h3, by simp only; omega⟩, ⟨by simp only; omega, by simp only; omega⟩, by simp only; omega, Int.le_refl _, h1⟩
  have he : addErr fr f (f + 1) (-1) ≠ 0 := by
    intro he
    have h6 := (hI.room hr).1.1 he f (Int.le_refl _) (by simp only; omega)
    rw [new1_val hI h3 (Int.le_refl _) h4] at h6
    simp at h6
  obtain ⟨_, hu, h6 | h6⟩ := h.take_inv rfl
  · obtain ⟨h8, h9, h7 | h7 | h7 | h7⟩ := h6
    · simp only at h7; rw [hr] at h7; simp at h7
    · obtain ⟨_, ⟨x, hx, hid⟩, _⟩ := h7; simp at hx; subst hx; simp at hid
    · simp at h7
    · exact ⟨h7.2.2.2.2, hu, h8, h9⟩
  · exact absurd h6.2.2.2.2.1 he
/-- the first one gone, all is as it was -/
theorem new3 {n f t : Int} {fr : List Step} (hI : Inv n [⟨0, n⟩] fr [⟨1, f, t, n⟩]) {d : Do} (hk : d.kind = 2) (hid : d.s.id = 1) {err : Int} {up2 fr2 : List Step} {L2 : List Slot} (h : DoStep n [⟨0, n⟩] fr [⟨1, f, t, n⟩] d [] err up2 fr2 L2) :
    err = 0 ∧ fr2 = [⟨0, n⟩] ∧ up2 = [⟨0, n⟩] ∧ L2 = [] := by
  have hI2 := h.inv hI
  obtain ⟨_, hu, h6 | h6⟩ := h.free_inv hk
  · exact absurd hid.symm (h6.2.2.1 ⟨1, f, t, n⟩ (by simp))
  · obtain ⟨h7, s, hs, _, h8, h9⟩ := h6
    simp at hs
    subst hs
    have hL : L2 = [] := by rw [h9]; rfl
    subst hL
    subst hu
    refine ⟨h7, valid_eq hI2.vf hI2.vu fun x hx => ?_, rfl, rfl⟩
    rw [hI2.eq x hx]
    simp [loadOf]

end Go.Proofs.Ytjknmnmilladlaa

/-
  Plain: what a cut leaves free. No program here.
-/
namespace Go.Proofs.Ytjknmnmilladlaa

theorem cut_val {n : Int} {up fr : List Step} {L : List Slot} (hI : Inv n up fr L) {s : Slot} (hs : s ∈ L) {to t : Int} (h0 : 0 ≤ t) (h1 : t ≤ 1099511627775) (hto : to ≤ s.to) {err : Int} {up2 fr2 : List Step} {L2 : List Slot} {d : Do} (hd : d.kind = 3) (hid : s.id = d.s.id) (hdt : d.s.to = to) (h : DoStep n up fr L d [] err up2 fr2 L2) (he : err = 0) :
    atOf fr2 t = atOf fr t + if to ≤ t ∧ s.frm ≤ t ∧ t < s.to then s.nodes else 0 := by
  have hI2 := h.inv hI
  rw [atOf_val hI2.vf h0 h1, atOf_val hI.vf h0 h1, hI2.eq t h0, hI.eq t h0]
  obtain ⟨_, hu, h3 | ⟨x, hx, hxid, h3⟩⟩ := h.cut_inv hd
  · obtain ⟨_, _, _, h4⟩ := h3; omega
  · have hxs : x = s := slot_one hI.ids hx hs (by rw [hxid, hid])
    subst hxs
    subst hu
    have hl := load_without hI.ids hs t
    rcases h3 with ⟨_, _, _, h4⟩ | ⟨_, _, h4, h5, _, h6⟩ | ⟨_, _, h4, h5, _, _, h6⟩
    · omega
    · subst h6
      rw [hdt] at h5
      unfold covS at hl
      by_cases hc : x.frm ≤ t ∧ t < x.to
      · rw [if_pos hc] at hl
        rw [if_pos ⟨by omega, hc⟩]
        omega
      · rw [if_neg hc] at hl
        rw [if_neg (fun hh => hc hh.2)]
        omega
    · subst h6
      rw [hdt] at h5 ⊢
      rw [loadOf_snoc]
      unfold covS at hl ⊢
      simp only
      split at hl <;> (split <;> split <;> omega)

end Go.Proofs.Ytjknmnmilladlaa

/-
  The laws' arguments: slices of what is done, of numbers; a slot by value; how they read, and that they read again behind a call that leaves them.
-/
namespace Go.Proofs.Ytjknmnmilladlaa
open Go.RowKit Go.WideShapes Go.ChangeShapes

def doCells (d : Do) : List Value := [.int .i64 d.kind, .int .i64 d.s.id, .int .i64 d.s.frm, .int .i64 d.s.to, .int .i64 d.s.nodes]
def flatD (l : List Do) : List Value := l.flatMap doCells
theorem length_flatD (l : List Do) : (flatD l).length = l.length * 5 := by
  induction l with
  | nil => rfl
  | cons a l ih => simp only [flatD, List.flatMap_cons, List.length_append] at *; rw [ih]; simp [doCells]; omega
theorem flatD_at (l : List Do) (i j : Nat) (h : i < l.length) (hj : j < 5) : (flatD l)[i * 5 + j]? = (doCells (l.getD i default))[j]? := by
  induction l generalizing i with
  | nil => simp at h
  | cons a l ih =>
    cases i with
    | zero => simp only [flatD, List.flatMap_cons]; rw [List.getElem?_append_left (by simp [doCells]; omega)]; simp
    | succ i =>
      have := ih i (by simpa using h)
      simp only [flatD, List.flatMap_cons] at *
      rw [List.getElem?_append_right (by simp [doCells]; omega)]
      simp only [doCells, List.length_cons, List.length_nil] at *
      rw [show (i + 1) * 5 + j - (0 + 1 + 1 + 1 + 1 + 1) = i * 5 + j by omega, this]
      simp

def IsDos (w : World) (v : Value) (l : List Do) : Prop := IsRow w 5 v l.length (flatD l)
theorem IsDos.below {w w' : World} {v : Value} {l : List Do} (h : IsDos w v l) (hB : Below w.heap.size w w') : IsDos w' v l := IsRow.below (by decide) h hB

theorem doAtV {w : World} {v : Value} {l : List Do} (h : IsDos w v l) (hn : 0 < l.length) :
    ∃ b off cap, v = .slice (some ⟨b, off, none⟩) l.length cap ∧ l.length ≤ cap ∧ cap ≤ 9223372036854775807 ∧ b < w.heap.size ∧ ∀ i, i < l.length → ∀ j u, (doCells (l.getD i default))[j]? = some u → w.cell? ⟨b, off + i * 5 + j, none⟩ = some u := by
  obtain ⟨hl, ao, cap, rfl, h1, h2, h3⟩ := h
  obtain ⟨b, off, rfl, hr⟩ := h3 hn
  unfold maxLen at h2
  refine ⟨b, off, cap, rfl, h1, by omega, hr.lt ?_, fun i hi j u hu => ?_⟩
  · intro e; rw [e] at hl; simp at hl; omega
  · have hj : j < 5 := by
      have := (List.getElem?_eq_some_iff.1 hu).1
      simpa [doCells] using this
    have := hr (i * 5 + j) u (by rw [flatD_at l i j hi hj]; exact hu)
    rw [show off + i * 5 + j = off + (i * 5 + j) by omega]
    exact this

theorem cells46 : Try.prog.cellsOf 46 = 5 := by kernel_rfl
theorem cells29 : Try.prog.cellsOf 29 = 4 := by kernel_rfl
theorem cells3 : Try.prog.cellsOf 3 = 1 := by kernel_rfl
theorem cells38 : Try.prog.cellsOf 38 = 2 := by kernel_rfl

set_option maxRecDepth 100000
section
variable {H : Type} {enc : TypeId × Value → H} {w : World}

theorem open_slotC {fuel : Nat} {cs : List Value} {x : DataW H × List MemPlace} {base : Nat} {spare : Nat → Bool} {held : Bool} (h : DataW.trod enc Try.prog w base spare held fuel 29 cs = some x) : ∃ s : Slot, cs = slotCells s ∧ s.id ≤ 9223372036854775807 := by
  obtain ⟨xs, n, _, _, hlen, hxl, hf⟩ := DataW.trod_struct Try.underlying29 h
  rw [cells29] at hlen
  match cs, hlen with
  | [c0, c1, c2, c3], _ =>
    have one : ∀ (i : Nat) (f : Field) (c : Value), f.type = 3 → (#[({ name := "ID", type := 3, offset := 0, embedded := false, tag := "", pkgPath := "", byteOffset := 0 } : Field), { name := "From", type := 3, offset := 1, embedded := false, tag := "", pkgPath := "", byteOffset := 8 }, { name := "To", type := 3, offset := 2, embedded := false, tag := "", pkgPath := "", byteOffset := 16 }, { name := "Nodes", type := 3, offset := 3, embedded := false, tag := "", pkgPath := "", byteOffset := 24 }])[i]? = some f →
        (([c0, c1, c2, c3].drop f.offset).take 1 = [c]) → ∃ z : Int, c = .int .i64 z ∧ z ≤ 9223372036854775807 := by
      intro i f c ht hfi hc
      have h1 := hf i f hfi
      rw [ht, cells3, hc] at h1
      have hi : i < xs.length := by
        rw [hxl]
        exact (Array.getElem?_eq_some_iff.1 hfi).1
      rw [List.getElem?_eq_getElem hi] at h1
      obtain ⟨z, hz, _, hwf⟩ := DataW.trod_int Try.underlying3 h1
      exact ⟨z, by simpa using hz, (bounds_i64 hwf).2⟩
    obtain ⟨z0, rfl, hb0⟩ := one 0 _ c0 rfl rfl rfl
    obtain ⟨z1, rfl, _⟩ := one 1 _ c1 rfl rfl rfl
    obtain ⟨z2, rfl, _⟩ := one 2 _ c2 rfl rfl rfl
    obtain ⟨z3, rfl, _⟩ := one 3 _ c3 rfl rfl rfl
    exact ⟨⟨z0, z1, z2, z3⟩, rfl, hb0⟩

theorem open_doC {fuel : Nat} {cs : List Value} {x : DataW H × List MemPlace} {base : Nat} {spare : Nat → Bool} {held : Bool} (h : DataW.trod enc Try.prog w base spare held fuel 46 cs = some x) : ∃ d : Do, cs = doCells d ∧ d.s.id ≤ 9223372036854775807 := by
  obtain ⟨xs, n, _, _, hlen, hxl, hf⟩ := DataW.trod_struct Try.underlying46 h
  rw [cells46] at hlen
  match cs, hlen with
  | [c0, c1, c2, c3, c4], _ =>
    have hx : xs.length = 2 := hxl
    have h0 : DataW.trod enc Try.prog w base spare held n 3 (List.take (Try.prog.cellsOf 3) (List.drop 0 [c0, c1, c2, c3, c4])) = xs[0]? := hf 0 _ rfl
    have h1 : DataW.trod enc Try.prog w base spare held n 29 (List.take (Try.prog.cellsOf 29) (List.drop 1 [c0, c1, c2, c3, c4])) = xs[1]? := hf 1 _ rfl
    rw [cells3, List.getElem?_eq_getElem (by omega)] at h0
    rw [cells29, List.getElem?_eq_getElem (by omega)] at h1
    obtain ⟨z, hz, _⟩ := DataW.trod_int Try.underlying3 h0
    obtain ⟨s, hs, hsb⟩ := open_slotC h1
    simp [slotCells] at hz hs
    refine ⟨⟨z, s⟩, ?_, hsb⟩
    simp [doCells, hz, hs]

theorem open_dos {v : Value} {d : DataW H} {p : List MemPlace} {r : Reach} {b0 : Nat} (hv : Value.okWide Try.prog w r b0 41 v) (h : DataW.Trod enc Try.prog w 0 (fun _ => true) true 41 v d p) : ∃ l : List Do, IsDos w v l ∧ ∀ d ∈ l, d.s.id ≤ 9223372036854775807 := by
  obtain ⟨a0, len, cap, rfl⟩ := okWide_slice Try.underlying41 hv
  obtain ⟨fuel, hf⟩ := h
  rcases Go.Deep.open_slice Try.underlying41 hf with ⟨hcs, _⟩ | ⟨a, len', cap', m, n, D, Pl, hcs, _, hl, hm, hmm, _, hi⟩
  · simp [Value.cells] at hcs
    obtain ⟨rfl, rfl, rfl⟩ := hcs
    exact ⟨[], ⟨rfl, none, 0, rfl, Nat.le_refl _, Nat.zero_le _, fun h => absurd h (Nat.lt_irrefl _)⟩, by simp⟩
  · simp [Value.cells] at hcs
    obtain ⟨rfl, rfl, rfl⟩ := hcs
    obtain ⟨blk, off, pth⟩ := a
    rw [cells46] at hi
    have hall : ∀ i, ∃ d : Do, i < len → (∀ j u, (doCells d)[j]? = some u → w.cell? ((⟨blk, off, pth⟩ : Addr).add (i * 5 + j)) = some u) ∧ d.s.id ≤ 9223372036854775807 := by
      intro i
      by_cases hil : i < len
      · obtain ⟨cs', hc, ht⟩ := hi i (by rw [hmm]; simp; omega)
        obtain ⟨d, rfl, hdb⟩ := open_doC ht
        refine ⟨d, fun _ => ⟨fun j u hu => ?_, hdb⟩⟩
        obtain ⟨_, _, hat⟩ := World.cells?_some hc
        have hj : j < 5 := by
          have := (List.getElem?_eq_some_iff.1 hu).1
          simpa [doCells] using this
        have := hat j hj
        rw [← Go.Deep.add_add]
        rw [this]
        exact hu
      · exact ⟨default, fun h => absurd h hil⟩
    obtain ⟨F, hF⟩ := Classical.axiomOfChoice hall
    refine ⟨(List.range len).map F, ?_, ?_⟩
    rotate_left
    · intro d hd
      rw [List.mem_map] at hd
      obtain ⟨i, hi, rfl⟩ := hd
      exact (hF i (List.mem_range.1 hi)).2
    have hll : ((List.range len).map F).length = len := by simp
    refine ⟨length_flatD _, some ⟨blk, off, pth⟩, cap, by rw [hll], by omega, hm, fun hn => ?_⟩
    have hn' : 0 < len := by omega
    have hp : pth = none := by
      simpa [Addr.add] using World.cell?_spot ((hF 0 hn').1 0 _ rfl)
    subst hp
    refine ⟨blk, off, rfl, fun j u hj => ?_⟩
    have hjl : j < len * 5 := by
      have := (List.getElem?_eq_some_iff.1 hj).1
      rw [length_flatD, hll] at this
      exact this
    have hd : j = j / 5 * 5 + j % 5 := by omega
    rw [hd, flatD_at _ _ _ (by rw [hll]; omega) (by omega)] at hj
    have hg : ((List.range len).map F).getD (j / 5) default = F (j / 5) := by
      have : j / 5 < len := by omega
      simp [List.getD, this]
    rw [hg] at hj
    have := (hF (j / 5) (by omega)).1 _ _ hj
    rw [Addr.add_lit, ← hd] at this
    exact this
theorem open_intsA {v : Value} {d : DataW H} {p : List MemPlace} {r : Reach} {b0 : Nat} (hv : Value.okWide Try.prog w r b0 42 v) (h : DataW.Trod enc Try.prog w 0 (fun _ => true) true 42 v d p) : ∃ l : List Int, IsInts w v l := by
  obtain ⟨a0, len, cap, rfl⟩ := okWide_slice Try.underlying42 hv
  obtain ⟨fuel, hf⟩ := h
  rcases open_ints Try.underlying42 Try.underlying3 cells3 hf with ⟨hcs, _⟩ | ⟨a, len', cap', zs, hcs, _, hl, hm, hz, _, hcell, _⟩
  · simp [Value.cells] at hcs
    obtain ⟨rfl, rfl, rfl⟩ := hcs
    exact ⟨[], isInts_nil w⟩
  · simp [Value.cells] at hcs
    obtain ⟨rfl, rfl, rfl⟩ := hcs
    have hz' : zs.length = cap := by simpa using hz
    have hll : (zs.take len).length = len := by simp; omega
    by_cases hp : 0 < zs.length
    · obtain ⟨b, off, rfl, hc⟩ := ints_at hcell hp
      refine ⟨zs.take len, length_flatI _, some ⟨b, off, none⟩, cap, by rw [hll], by omega, hm, fun _ => ⟨b, off, rfl, fun j u hj => ?_⟩⟩
      have hjl : j < len := by
        have := (List.getElem?_eq_some_iff.1 hj).1
        rw [length_flatI] at this
        omega
      rw [flatI_at _ _ (by omega)] at hj
      cases hj
      have hg : inv (zs.take len) j = zs.getD j 0 := by
        unfold inv
        simp [hjl]
      rw [hg]
      exact hc j (by omega)
    · refine ⟨[], length_flatI _, some a, cap, ?_, Nat.zero_le _, hm, fun h => absurd h (Nat.lt_irrefl _)⟩
      have : len = 0 := by omega
      rw [this]
      rfl

theorem open_slotV {v : Value} {d : DataW H} {p : List MemPlace} {r : Reach} {b0 : Nat} (hv : Value.okWide Try.prog w r b0 29 v) (h : DataW.Trod enc Try.prog w 0 (fun _ => true) true 29 v d p) : ∃ s : Slot, v = slotV s ∧ s.id ≤ 9223372036854775807 := by
  obtain ⟨cs, rfl, hsz⟩ := okWide_struct Try.underlying29 hv
  obtain ⟨fuel, hf⟩ := h
  obtain ⟨s, hs, hsb⟩ := open_slotC hf
  refine ⟨s, ?_, hsb⟩
  unfold slotV
  congr 1
  apply Array.toList_inj.1
  simpa [Value.cells, slotCells] using hs
end

end Go.Proofs.Ytjknmnmilladlaa

/-
  The row's last step, where the call leaves all that was there as it was.
-/
namespace Go.Proofs.Ytjknmnmilladlaa
open Go.RowKit Go.WideShapes Go.ChangeShapes

theorem postBelow {H : Type} {enc : TypeId × Value → H} {P : Program} {f : Func} {s : ChangeSpec} {apart fresh handsOn again : Bool} {w w' : World} {args : Array Value} {v : Value} {ds gs : List (DataW H)} {before pa pv : List MemPlace}
    (hw : DataW.Whole enc P f.params.toList s.vars apart w args.toList ds gs before)
    (h1 : ∀ (b : Nat) (sp : Nat → Bool) (hd : Bool), DataW.TrodAll enc P w' b sp hd f.resultTypes.toList (v.resultList f.resultTypes.size) (s.fn H (ds ++ gs)).results [])
    (h2 : ∀ sp : Nat → Bool, (∀ p ∈ before, sp p.block = true) → DataW.TrodAll enc P w' 0 sp true f.params.toList args.toList (s.fn H (ds ++ gs)).args pa)
    (h3 : ∀ sp : Nat → Bool, (∀ p ∈ before, sp p.block = true) → DataW.TrodVars enc P w' sp s.vars (s.fn H (ds ++ gs)).vars pv)
    (h4 : before = pa ++ pv) (hb : Below w.heap.size w w')
    (h5 : ∀ (j : Nat) (t : TypeId) (r : Value), f.resultTypes[j]? = some t → (v.resultList f.resultTypes.size)[j]? = some r → Value.okWide P w' .any 0 t r) :
    s.post enc P f apart fresh handsOn again w args v w' := by
  have hall : ∀ p ∈ before, (fun b => decide (b < w.heap.size)) p.block = true := fun p hp => by simpa using hw.lt p hp
  have hmem : ∀ p, p ∈ [] ++ pa ++ pv ↔ p ∈ before := fun p => by rw [h4]; simp
  obtain ⟨_, _, _, _, _, hz, hn⟩ := id hw
  have h2' := h2 (fun b => decide (b < w.heap.size)) hall
  have h3' := h3 (fun b => decide (b < w.heap.size)) hall
  refine ⟨ds, gs, before, [], pa, pv, hw, h1 _ _ _, h2', h3', World.keptBut_mono (fun p hp => ⟨hp, by rw [h4, List.mem_append] at hp; exact .inr hp⟩) (hb.frame (· ∈ before)), fun _ => ⟨h5, _, _, ([] ++ pa) ++ pv, ⟨[] ++ pa, pv, trodAll_append (h2 _ (fun _ _ => rfl)) (h1 _ _ _), h3 _ (fun _ _ => rfl), rfl, ?_, ?_⟩, fun p hp _ => (hmem p).1 hp⟩⟩
  · intro b off hp
    have hin := (hmem _).1 hp
    rw [hb.frozen (hw.lt _ hin)]
    exact hz b off hin
  · intro ha
    have := hn ha
    rw [h4] at this
    simpa using this

end Go.Proofs.Ytjknmnmilladlaa
