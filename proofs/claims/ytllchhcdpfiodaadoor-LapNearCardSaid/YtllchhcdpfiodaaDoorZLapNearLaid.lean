/- What the listed variable's datum says of its cells. Written by a program of this session (wip/tools/lawrowtied.py). -/
import Derived.Test.YtllchhcdpfiodaaDoorRows
import Derived.Test.YtllchhcdpfiodaaDoorZLapNearM1
import Derived.ProofKit
import Derived.LaidMore
import Derived.OpenShut
import Derived.Stop.Joined
namespace Go.Proofs.YtllchhcdpfiodaaDoor
open Go.ChangeShapes Go.WideShapes Go.ChangeAt Go.WideMaps Go.WideElems Go.RowKit
theorem gW : Tryd.prog.globalNamed "psaltery/lap.weights" = some 0 := by kernel_rfl
theorem tW : (Tryd.prog.globals[0]?).map (·.type) = some 55 := by kernel_rfl
def laidL {H : Type} : List (String × DataW H) := [("psaltery/lap.weights", Rows.laid_psaltery_lap_weights)]
set_option maxRecDepth 100000 in
theorem door_met (os : Os) (args : Array Value) : laidMetH Tryd.prog laidL ((World.doorLaid Tryd.prog 400 os).forCall (fun _ _ => 0) ⟨#[], args, []⟩).memory :=
  laidMetH_of_parts3 (fuel := 8) (laidMet_of_run' 8 (by kernel_rfl) (by kernel_rfl)) (by kernel_rfl) (by kernel_rfl)
theorem of_laid {W : World} (h : laidMetH Tryd.prog laidL W) : Prt.GW W := by
  rw [MakeChecks.laidMetH_plain _ _ _ (by kernel_rfl)] at h
  obtain ⟨ps, ⟨g1, t1, cs1, f1, p1, q1, hg1, ht1, hv1, hd1, _, _⟩, _, _⟩ := h
  obtain rfl := Option.some.inj (gW.symm.trans hg1)
  obtain rfl := Option.some.inj (tW.symm.trans ht1)
  obtain ⟨xs, m1, rfl, hx1, hlen, hn3, hel⟩ := DataW.trod_array Tryd.underlying55 hd1
  have c3 : Tryd.prog.cellsOf 2 = 1 := by kernel_rfl
  have h0 := hel 0 (by decide)
  have h1 := hel 1 (by decide)
  have h2 := hel 2 (by decide)
  have h3 := hel 3 (by decide)
  match xs, hn3, hx1, h0, h1, h2, h3 with
  | [x0, x1, x2, x3], _, hx1, h0, h1, h2, h3 =>
    simp only [Rows.laid_psaltery_lap_weights, Prod.mk.injEq, DataW.agg.injEq, List.map_cons, List.map_nil, List.cons.injEq] at hx1
    obtain ⟨k0, a0, b0, _⟩ := DataW.trod_int Tryd.underlying2 (show DataW.trod _ Tryd.prog W 0 _ false m1 2 _ = some x0 from h0)
    obtain ⟨k1, a1, b1, _⟩ := DataW.trod_int Tryd.underlying2 (show DataW.trod _ Tryd.prog W 0 _ false m1 2 _ = some x1 from h1)
    obtain ⟨k2, a2, b2, _⟩ := DataW.trod_int Tryd.underlying2 (show DataW.trod _ Tryd.prog W 0 _ false m1 2 _ = some x2 from h2)
    obtain ⟨k3, a3, b3, _⟩ := DataW.trod_int Tryd.underlying2 (show DataW.trod _ Tryd.prog W 0 _ false m1 2 _ = some x3 from h3)
    rw [b0, b1, b2, b3] at hx1
    have e0 : k0 = 7 := by simpa using hx1.1.1.symm
    have e1 : k1 = 5 := by simpa using hx1.1.2.1.symm
    have e2 : k2 = 3 := by simpa using hx1.1.2.2.1.symm
    have e3 : k3 = 1 := by simpa using hx1.1.2.2.2.1.symm
    subst e0 e1 e2 e3
    have v0 := World.var?_cell hg1 hv1 0
    have v1 := World.var?_cell hg1 hv1 1
    have v2 := World.var?_cell hg1 hv1 2
    have v3 := World.var?_cell hg1 hv1 3
    obtain ⟨l1⟩ := cs1
    rw [c3] at a0 a1 a2 a3
    match l1, a0, a1, a2, a3 with
    | [], a0, _, _, _ => simp at a0
    | [_], _, a1, _, _ => simp at a1
    | [_, _], _, _, a2, _ => simp at a2
    | [_, _, _], _, _, _, a3 => simp at a3
    | c0 :: d1 :: d2 :: d3 :: _, a0, a1, a2, a3 =>
      simp at a0 a1 a2 a3
      subst a0 a1 a2 a3
      exact ⟨by simpa using v0, by simpa using v1, by simpa using v2, by simpa using v3⟩
end Go.Proofs.YtllchhcdpfiodaaDoor
