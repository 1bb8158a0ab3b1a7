/- Disks that lie apart from what is ours; the steps of a list that is made anew. -/
import Derived.Test.YtebkmpgmcldeoaaDoorSr
import Derived.Shelf.SlSortCmp.KitK
namespace Go.Proofs.YtebkmpgmcldeoaaDoor
open Go Go.Proofs Go.RowKit Go.Sort
set_option linter.unusedVariables false

/-- A disk whose blocks are among G, that all are there. -/
structure DK (w : World) (d : Nat) (G : Nat → Prop) (p : PD) : Prop where
  is : DiskIs w d G p
  lt : ∀ k, G k → k < w.heap.size

theorem DiskIs.trim {w : World} {d : Nat} {G : Nat → Prop} {p : PD} (h : DiskIs w d G p) : DK w d (fun k => G k ∧ k < w.heap.size) p := by
  obtain ⟨σ, h, hp⟩ := h
  refine ⟨⟨σ, { head := h.head, map := h.map, file := h.file, apart := h.apart, footD := ⟨h.footD, lt_of_heap h.head⟩, footM := ⟨h.footM, lt_of_heap h.map⟩, footF := fun f hf => ⟨⟨(h.footF f hf).1, h.lt_blk hf⟩, fun k hk => ⟨(h.footF f hf).2 k hk, ?_⟩⟩, used := h.used, room := h.room, fuse := h.fuse }, hp⟩, fun k hk => hk.2⟩
  exact (h.file f hf).2.1.lt k hk
theorem Stp.next {w w' : World} {d : Nat} {G : Nat → Prop} {p : PD} (h : Stp G d w w' p) : ∃ G', DK w' d G' p ∧ Keep G w w' ∧ ∀ k, k < w.heap.size → ¬ G k → ¬ G' k := by
  obtain ⟨G', h1, h2, h3⟩ := h
  exact ⟨_, h1.trim, h2, fun k hk hn hg => (h3 k hg.1).elim hn (fun h => by omega)⟩
theorem DK.keep {w w' : World} {d : Nat} {G : Nat → Prop} {p : PD} (h : DK w d G p) (hs : w.heap.size ≤ w'.heap.size) (hk : ∀ k, G k → w'.heap[k]? = w.heap[k]?) : DK w' d G p :=
  ⟨h.is.keep fun k hg _ => hk k hg, fun k hg => Nat.lt_of_lt_of_le (h.lt k hg) hs⟩
theorem DK.below {w w' : World} {d : Nat} {G : Nat → Prop} {p : PD} (h : DK w d G p) (hB : RowKit.Below w.heap.size w w') : DK w' d G p := h.keep hB.size fun k hg => hB.block k (h.lt k hg)
theorem DK.drew {w : World} {d : Nat} {G : Nat → Prop} {p : PD} (h : DK w d G p) : DK w.drew d G p := h.keep (Nat.le_refl _) fun _ _ => rfl
theorem Stp.ofDrew {w w' : World} {d : Nat} {G : Nat → Prop} {p : PD} (h : Stp G d w.drew w' p) : Stp G d w w' p := h.ofDrewN (n := 1)

section
variable {w : World} {d mb B1 B2 B3 : Nat} {F : Nat → Prop} {p : PD} {s : ByteArray}
set_option maxHeartbeats 400000 in
set_option maxRecDepth 100000 in
theorem fresh1_calls (h : DiskIs w d F p) {x : Value} {b : List UInt8} (hx : RdB w x b) (hxF : ∀ k, x.ownBlock = some k → k < w.heap.size ∧ ¬ F k) (hb63 : b.length ≤ 140737488355328 - 67108864)
    (c1 : w.cell? ⟨B1, 0, none⟩ = some (.pointer (some ⟨mb, 0, none⟩))) (c2 : w.cell? ⟨mb, 0, none⟩ = some (.pointer (some ⟨d, 0, none⟩))) (c3 : w.cell? ⟨B2, 0, none⟩ = some (.string s)) (c4 : w.cell? ⟨B3, 0, none⟩ = some x) :
    Calls Tryd.prog 54 #[.pointer (some ⟨B1, 0, none⟩), .pointer (some ⟨B2, 0, none⟩), .pointer (some ⟨B3, 0, none⟩)] w fun e w' => e = .returned (.int .i64 (p.appendR s b).2) ∧ Stp F d w w' (p.appendR s b).1 := by
  have hcon := append_calls (w := w.drew) (h.drewN 1) s (hx.keep fun _ _ => rfl) hxF hb63
  obtain ⟨-, A0, c9, rfl, -⟩ := id hx
  clear h hx hxF
  go_enter Tryd.func54, Tryd.ntmps54
  go_wp2_with fail
  refine region_tail 6 (by kernel_rfl) (by kernel_rfl) ?_
  simp only [List.take_succ_cons, List.take_zero, List.drop_succ_cons, List.drop_zero]
  repeat still_step
  refine wpStill_nil ?_
  go_wp2_with fail
  refine hcon.mono ?_
  rintro e w' ⟨rfl, hS⟩
  have HS := Lib.hid hS.ofDrew
  clear hS
  go_wp2_with fail
  go_ret
  exact ⟨rfl, HS.out⟩

set_option maxHeartbeats 400000 in
set_option maxRecDepth 100000 in
theorem fresh2_calls (h : DiskIs w d F p)
    (c1 : w.cell? ⟨B1, 0, none⟩ = some (.pointer (some ⟨mb, 0, none⟩))) (c2 : w.cell? ⟨mb, 0, none⟩ = some (.pointer (some ⟨d, 0, none⟩))) (c3 : w.cell? ⟨B2, 0, none⟩ = some (.string s)) :
    Calls Tryd.prog 55 #[.pointer (some ⟨B1, 0, none⟩), .pointer (some ⟨B2, 0, none⟩)] w fun e w' => e = .returned (.int .i64 (p.syncR s).2) ∧ Stp F d w w' (p.syncR s).1 := by
  have hcon := sync_calls (w := w.drew) (h.drewN 1) s
  clear h
  go_enter Tryd.func55, Tryd.ntmps55
  go_wp2_with fail
  refine region_tail 5 (by kernel_rfl) (by kernel_rfl) ?_
  simp only [List.take_succ_cons, List.take_zero, List.drop_succ_cons, List.drop_zero]
  repeat still_step
  refine wpStill_nil ?_
  go_wp2_with fail
  refine hcon.mono ?_
  rintro e w' ⟨rfl, hS⟩
  have HS := Lib.hid hS.ofDrew
  clear hS
  go_wp2_with fail
  go_ret
  exact ⟨rfl, HS.out⟩
end

set_option maxRecDepth 100000 in
theorem estep_err (w : World) (x : Int) (hx : x ≠ 0) (g : Nat) (cb : Array Value) :
    Calls Tryd.prog 36 #[.int .i64 x, .func (.func g) #[] cb] w fun e w' => e = .returned (.int .i64 x) ∧ w = w' := by
  have hb : (x != 0) = true := by rw [bne_iff_ne]; exact hx
  clear hx
  go_enter Tryd.func36, Tryd.ntmps36
  go_wp2
  go_ret
  exact ⟨rfl, rfl⟩
set_option maxRecDepth 100000 in
theorem estep_ok (w : World) (g : Nat) (cb : Array Value) (eg : ∀ args w, (callFunc g args).run Tryd.prog w = .ok (.enter g args) w) {x : Int} {S : World → Prop}
    (hg : Calls Tryd.prog g cb w fun e w' => e = .returned (.int .i64 x) ∧ S w') :
    Calls Tryd.prog 36 #[.int .i64 0, .func (.func g) #[] cb] w fun e w' => e = .returned (.int .i64 x) ∧ S w' := by
  go_enter Tryd.func36, Tryd.ntmps36
  go_wp2_with fail
  refine hg.mono ?_
  rintro e w' ⟨rfl, hS⟩
  have HS := Lib.hid hS
  clear hS
  go_wp2_with fail
  go_ret
  exact ⟨rfl, HS.out⟩

end Go.Proofs.YtebkmpgmcldeoaaDoor
