/- (*strings.Builder).WriteByte; conditions: none. -/
import Derived.Test.YtggagmafkdhjcaaGreatDoorBdA
set_option linter.unusedVariables false
set_option linter.unusedSimpArgs false
namespace Go.Proofs.YtggagmafkdhjcaaGreatDoor
open Go Go.Shelf Go.RowKit
set_option maxHeartbeats 2000000 in
set_option maxRecDepth 100000 in
theorem xH (c : UInt8) : gY Tryz.prog 31 56 5 (.int .u8 c.toNat) .nilIface [c] := by
  refine ⟨yj Tryz.func31 (by kernel_rfl) rfl, fun B b p u bs w hB hbk hp hown hne hlen hBw => ?_⟩
  obtain ⟨i0, hi, hz0, hz1, hz2⟩ := info_parts rF
  have e0 : ∀ args w, (callFunc 53 args).run Tryz.prog w = .ok (.enter 53 args) w := enters_of Tryz.func53 (by kernel_rfl) rfl
  simp only [List.length_cons, List.length_nil] at hlen
  go_enter Tryz.func31, Tryz.ntmps31
  go_wp2_with (go_at_fn 53; refine (nG b p u _ hbk hp).mono ?_)
  rintro e w1 ⟨rfl, h1, hb1⟩
  have hown1 : w1.ownsRow B 5 1 u bs.length bs := by
    rcases h1 with rfl | rfl
    · exact hown
    · refine eC hown fun g hg => jO (fun e => hne ?_) _ _ _
      rw [(jl hown).1, e] at hg
      exact hg
  have hBw1 : B ≤ w1.heap.size := by
    rcases h1 with rfl | rfl
    · exact hBw
    · rw [(js _ _ _).2.2.2]; exact hBw
  have c0 : w1.cell? ⟨b, 0, none⟩ = some (.pointer (some ⟨b, 0, none⟩)) := by rw [Lib.cell_of_heap hb1]; rfl
  have c1 : w1.cell? ⟨b, 1, none⟩ = some u := by rw [Lib.cell_of_heap hb1]; rfl
  go_wp2_with (at_builtin; refine qe _ rfl _ _ 54 rfl B 5 i0 (.int .u8 0) 1 1 Tryz.underlying54 hi hz0 hz1 hz2 rfl (by decide) _ _ _ rfl (hown1.alloc _) (some ⟨w1.heap.size, 0, none⟩) 1 1 [.int .u8 c.toNat] rfl rfl ?c1 ?c2 ?c3 ?c4 ?c5 ?_)
  case c1 => exact fun _ => ⟨_, rfl, uF w1 _ _ _ rfl⟩
  case c2 => intro u hu; simp at hu; subst hu; rfl
  case c3 => unfold maxLen; omega
  case c4 => omega
  case c5 => simp; omega
  intro v' w2 hown' hgrow hat
  have hgrow1 : w1.grownBy w2 u.ownBlock := ⟨hgrow.os, hgrow.tape, hgrow.output, by have := hgrow.size; simp at this; omega, fun k hk hne' => (hgrow.block k (by simp; omega) hne').trans (Lib.alloc_old w1 _ k hk)⟩
  have hlt : b < w1.heap.size := (Array.getElem?_eq_some_iff.1 hb1).1
  have hb2 : w2.heap[b]? = some (.cells ⟨[.pointer (some ⟨b, 0, none⟩), u]⟩ 56 (0, 0)) := by
    rw [hgrow1.block b hlt (fun e => hne e.symm)]
    exact hb1
  have d0 : w2.cell? ⟨b, 0, none⟩ = some (.pointer (some ⟨b, 0, none⟩)) := by rw [Lib.cell_of_heap hb2]; rfl
  have d1 : w2.cell? ⟨b, 1, none⟩ = some u := by rw [Lib.cell_of_heap hb2]; rfl
  have f1 : w2.frozen? ⟨b, 1, none⟩ = false := Lib.frozen_of_heap hb2 1
  obtain ⟨ao, n', cap, rfl⟩ : ∃ ao n' cap, v' = .slice ao n' cap := by
    rcases hown'.2 with ⟨hv, _⟩ | ⟨g, cap, cur, hv, _⟩
    · exact ⟨_, _, _, hv⟩
    · exact ⟨_, _, _, hv⟩
  go_wp2
  go_ret
  exact ⟨rfl, w1, w2, _, h1, hb1, hgrow1, hown', hat.imp id fun e => ⟨_, by simp, e⟩, rfl⟩
end Go.Proofs.YtggagmafkdhjcaaGreatDoor
