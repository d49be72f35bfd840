-- Functions of the program and of the document as plain Lean, each with the proof that the code comes to it. Written by a program of this session (wip/tools/myprint.py, pack.py) over the kit's printer; Lean checks it.
import Derived.Test.YtgjdgpkjdffhkaaZCombOrdersPrt0
import Derived.Test.YtgjdgpkjdffhkaaZCombOrdersWMore
import Derived.Laws.Rows
import Derived.Laws.Tables
import Derived.Deep.WholeRow
namespace Go.Proofs.Ytgjdgpkjdffhkaa.Prt
open Go.RowKit Go.Proofs.YtgjdgpkjdffhkaaW.PrintWords Go.Proofs.YtgjdgpkjdffhkaaW.PrintLast Go.Proofs.YtgjdgpkjdffhkaaW.PrintMore
attribute [local go_sem] max2_int min2_int max_two min_two max_three min_three max_four min_four   -- for this text's walks alone
set_option linter.unusedVariables false
set_option linter.unusedSimpArgs false

/-! ### comb_fair: function 42 -/
def comb_fair.f (a0 : Int) (a1 : Int) : Option (Bool) := if a0 ≥ 1 then (if a0 ≤ 16 then (if a1 ≥ 0 then (some (decide (a1 ≤ 12))) else (some false)) else (some false)) else (some false)
set_option maxHeartbeats 8000000 in
set_option maxRecDepth 100000 in
theorem comb_fair.calls (a0 : Int) (a1 : Int) (r : Bool) (w : World) (h : comb_fair.f a0 a1 = some r) :
  Calls Try.prog 42 #[.int .i64 a0, .int .i64 a1] w fun e w' => e = .returned (.bool r) ∧ Drawn0 w w' := by
 have H : (if a0 ≥ 1 then (if a0 ≤ 16 then (if a1 ≥ 0 then (some (decide (a1 ≤ 12))) else (some false)) else (some false)) else (some false)) = some r := h
 clear h
 by_cases c3 : a0 ≥ 1
 ·
  rw [if_pos c3] at H
  have c3b0 : decide (1 ≤ a0) = true := decide_eq_true c3
  clear c3
  by_cases c4 : a0 ≤ 16
  ·
   rw [if_pos c4] at H
   have c4b0 : decide (a0 ≤ 16) = true := decide_eq_true c4
   clear c4
   by_cases c5 : a1 ≥ 0
   ·
    rw [if_pos c5] at H
    have c5b0 : decide (0 ≤ a1) = true := decide_eq_true c5
    clear c5
    obtain rfl := Option.some.inj H
    go_enter Try.func42, Try.ntmps42
    go_wp2
    go_ret
    exact ⟨by first | rfl | (simp; done) | (simp [*]; done), by repeat (first | exact Drawn0.refl _ | apply Drawn0.step)⟩
   ·
    rw [if_neg c5] at H
    have c5b0 : decide (0 ≤ a1) = false := decide_eq_false c5
    clear c5
    obtain rfl := Option.some.inj H
    go_enter Try.func42, Try.ntmps42
    go_wp2
    go_ret
    exact ⟨by first | rfl | (simp; done) | (simp [*]; done), by repeat (first | exact Drawn0.refl _ | apply Drawn0.step)⟩
  ·
   rw [if_neg c4] at H
   have c4b0 : decide (a0 ≤ 16) = false := decide_eq_false c4
   clear c4
   obtain rfl := Option.some.inj H
   go_enter Try.func42, Try.ntmps42
   go_wp2
   go_ret
   exact ⟨by first | rfl | (simp; done) | (simp [*]; done), by repeat (first | exact Drawn0.refl _ | apply Drawn0.step)⟩
 ·
  rw [if_neg c3] at H
  have c3b0 : decide (1 ≤ a0) = false := decide_eq_false c3
  clear c3
  obtain rfl := Option.some.inj H
  go_enter Try.func42, Try.ntmps42
  go_wp2
  go_ret
  exact ⟨by first | rfl | (simp; done) | (simp [*]; done), by repeat (first | exact Drawn0.refl _ | apply Drawn0.step)⟩

end Go.Proofs.Ytgjdgpkjdffhkaa.Prt

namespace Go.Proofs.Ytgjdgpkjdffhkaa.Prt
open Go Go.RowKit Go.Proofs.YtgjdgpkjdffhkaaW.PrintWords Go.Proofs.YtgjdgpkjdffhkaaW.PrintLast Go.Proofs.YtgjdgpkjdffhkaaW.PrintMore
set_option linter.unusedVariables false
set_option linter.unusedSimpArgs false

/-! ### comb_table: function 43 -/
theorem comb_table.zeroes : ∃ Z : Array Value, (∀ W, (zeroValue 56).run Try.prog W = .ok (.agg Z) W) ∧ Z.toList = encs (Value.int .u64) (List.replicate 221 0) := ⟨_, fun _ => rfl, by rfl⟩
/-- A block of numbers, as its cells. -/
def ABl (xs : List Int) : Array Value := (encs (Value.int .u64) xs).toArray
theorem ABl_get {xs : List Int} {i : Nat} (h : i < xs.length) : (ABl xs)[i]? = some (.int .u64 (xs.getD i 0)) := by
 unfold ABl
 rw [List.getElem?_toArray]
 exact encs_get xs i h
theorem ABl_set (xs : List Int) (i : Nat) (v : Int) : (ABl xs).setIfInBounds i (.int .u64 v) = ABl (xs.set i v) := by
 unfold ABl encs
 rw [List.setIfInBounds_toArray, List.map_set]
theorem ABl_size (xs : List Int) : (ABl xs).size = xs.length := by
 unfold ABl
 rw [List.size_toArray, encs_length]
theorem ABl_one (xs : List Int) : (ABl xs).all (·.oneCell') = true := by
 rw [Array.all_eq_true_iff_forall_mem]
 intro v hv
 unfold ABl encs at hv
 rw [List.mem_toArray, List.mem_map] at hv
 obtain ⟨n, _, rfl⟩ := hv
 rfl
section
variable {P : Program}
/-- A whole array is stored, cell by cell. -/
theorem storeCells_row (w : World) (g : Nat) (t ty : TypeId) (old cells : Array Value) (hg : w.heap[g]? = some (.cells old t (0, 0))) (hi : (P.info? ty).map (·.size) = some cells.size) (ho : old.size = cells.size) (h1 : cells.all (·.oneCell') = true) :
  (storeCells ⟨g, 0, none⟩ cells.toList 0).run P w = .ok () (w.setRow g cells) := by
 have h := run_storeVar_row (P := P) w g t ty old cells hg hi ho h1
 cases hq : P.info? ty with
 | none => simp [hq] at hi
 | some i =>
  have hs : cells.size = i.size := by
   simp [hq] at hi
   omega
  simpa [storeVar, sizeOf, typeInfo, hq, Value.cells, hs] using h
end
theorem below_row {w0 w : World} {B g : Nat} (h : Below B w0 w) (hg : B ≤ g) (cs : Array Value) : Below B w0 (w.setRow g cs) := ⟨h.os, h.tape, h.output, by rw [setRow_size]; exact h.size, fun k hk => (setRow_other _ _ _ _ (by omega)).trans (h.block k hk)⟩
namespace comb_table
def new (xs : List Int) (n k : Nat) : Int := IntKind.u64.wrap (IntKind.u64.wrap (xs.getD ((n-1)*13+k) 0 + xs.getD (n*13+(k-1)) 0) + xs.getD ((n-1)*13+(k-1)) 0)
/-- Row n made up to place k. -/
def U (xs : List Int) (n : Nat) : Nat → List Int
 | 0 => xs.set (n*13) 1
 | k+1 => (U xs n k).set (n*13+(k+1)) (new (U xs n k) n (k+1))
/-- The rows up to n made. -/
def T : Nat → List Int
 | 0 => (List.replicate 221 0).set 0 1
 | n+1 => U (T n) (n+1) 12
theorem U_len (xs : List Int) (n : Nat) : ∀ k, (U xs n k).length = xs.length
 | 0 => by rw [U, List.length_set]
 | k+1 => by rw [U, List.length_set, U_len xs n k]
theorem T_len : ∀ n, (T n).length = 221
 | 0 => by rw [T, List.length_set, List.length_replicate]
 | n+1 => by rw [T, U_len, T_len n]
theorem size16 : (Try.prog.info? 56).map (·.size) = some (ABl (T 16)).size := by
 rw [ABl_size, T_len]
 kernel_rfl
def T10 : Bool × List (List Nat × List Nat) := (true, [([], []), ([], []), ([], []), ([2], [2]), ([], []), ([3], [3]), ([5, 4], [4, 5]), ([6], [6]), ([], []), ([], []), ([9], [9]), ([8], [8]), ([11, 10], [10, 11]), ([12], [12]), ([7, 13], [7, 13]), ([], []), ([15], [15]), ([], []), ([17], [17]), ([16], [16]), ([19, 18], [18, 19]), ([20], [20]), ([14, 21], [14, 21]), ([0], [0]), ([23, 1, 0, 1, 2, 3, 4, 5, 6, 7, 8, 9, 10, 11, 12, 13, 14, 15, 16, 17, 18, 19, 20, 21, 22], [1, 23]), ([24, 22, 0, 1, 2, 3, 4, 5, 6, 7, 8, 9, 10, 11, 12, 13, 14, 15, 16, 17, 18, 19, 20, 21, 22], [22, 24])])
def B10 : List Nat := [0, 0, 0, 4, 0, 12, 60, 124, 0, 0, 512, 256, 3840, 7936, 16380, 0, 32768, 0, 131072, 98304, 1015808, 2064384, 4194300, 1, 16777215, 33554431]
theorem tab10 : rtab .any (opsOf Try.f43 10) = T10 := by kernel_rfl
theorem bits10 : waitsOk T10.2 B10 = true := by kernel_rfl
end comb_table
set_option maxHeartbeats 8000000 in
set_option maxRecDepth 100000 in
theorem comb_table.made (w : World) : Calls Try.prog 43 #[] w fun e w' => e = .returned (.agg (ABl (comb_table.T 16))) ∧ Below w.heap.size w w' := by
 obtain ⟨Z, hz, hZ⟩ := comb_table.zeroes
 have hZ' : Aside0 (Z = ABl (List.replicate 221 0)) := ⟨by
  unfold ABl
  rw [← hZ]⟩
 clear hZ
 have hb2 : ((w.alloc (.cells Z 56)).alloc (.cells Z 56)).heap[w.heap.size + 1]? = some (.cells Z 56 (0, 0)) := by
  have := blk_new (w.alloc (.cells Z 56)) (.cells Z 56)
  simpa using this
 have hc1 : ((w.alloc (.cells Z 56)).alloc (.cells Z 56)).cell? ⟨w.heap.size + 1, 0, none⟩ = some (.int .u64 0) := by
  rw [zs hb2 0, hZ'.out, ABl_get (by rw [List.length_replicate]; decide)]
  rfl
 have hf1 : ((w.alloc (.cells Z 56)).alloc (.cells Z 56)).frozen? ⟨w.heap.size + 1, 0, none⟩ = false := zx hb2 0
 have hb1 : (((w.alloc (.cells Z 56)).alloc (.cells (Z.setIfInBounds 0 (.int .u64 1)) 56))).heap[w.heap.size + 1]? = some (.cells (ABl (comb_table.T 0)) 56 (0, 0)) := by
  have h0 : Z.setIfInBounds 0 (.int .u64 1) = ABl (comb_table.T 0) := by
   rw [hZ'.out, ABl_set]
   rfl
  have e1 : (w.alloc (.cells Z 56)).heap.size = w.heap.size + 1 := by simp
  have h1 := blk_new (w.alloc (.cells Z 56)) (.cells (ABl (comb_table.T 0)) 56)
  rw [e1] at h1
  rw [h0]
  exact h1
 have hb0 : (((w.alloc (.cells Z 56)).alloc (.cells (Z.setIfInBounds 0 (.int .u64 1)) 56))).heap[w.heap.size]? = some (.cells Z 56 (0, 0)) := zi (blk_new w _) _
 have HB : Aside0 (Below w.heap.size w ((w.alloc (.cells Z 56)).alloc (.cells (Z.setIfInBounds 0 (.int .u64 1)) 56))) := ⟨ze (ze (Below.refl _ _) _) _⟩
 clear hb2
 go_enter Try.func43, Try.ntmps43
 go_wp2
 clear hc1 hf1
 generalize ((w.alloc (.cells Z 56)).alloc (.cells (Z.setIfInBounds 0 (.int .u64 1)) 56)) = W1 at hb1 hb0 HB ⊢
 have HC := zm hb1
 have HZ0 := zm hb0
 clear hb1 hb0
 go_loopg [2] 16 (fun kq v2 w' => ∃ (n : Nat) (x : Int), v2 = .int .i64 x ∧ Aside0 (x = ((n + 1 : Nat) : Int)) ∧ Aside0 (n + kq = 16) ∧ Aside0 (w'.heap[w.heap.size + 1]? = some (.cells (ABl (comb_table.T n)) 56 (0, 0))) ∧ Aside0 (w'.heap[w.heap.size]? = some (.cells Z 56 (0, 0))) ∧ Aside0 (Below w.heap.size w w'))
 case atStart => exact ⟨0, 1, rfl, ⟨rfl⟩, ⟨rfl⟩, HC, HZ0, HB⟩
 case round =>
  clear HC HZ0 HB
  obtain ⟨n, x, rfl, HX, HN, HC, HZ0, HB⟩ := hrel
  by_cases c9 : x ≤ 16
  ·
   have c9b0 : decide (x ≤ 16) = true := decide_eq_true c9
   have hx0 : (0 ≤ x) = True := eq_true (by have := HX.out; omega)
   have hx1 : (x < 17) = True := eq_true (by omega)
   have hxn : x.toNat = n + 1 := by have := HX.out; omega
   obtain ⟨n', rfl⟩ : ∃ q, gk = q + 1 := ⟨gk - 1, by have := HN.out; have := HX.out; omega⟩
   have hn15 : n < 16 := by have := HX.out; omega
   have hcl : wr.cell? ⟨w.heap.size + 1, x.toNat * 13, none⟩ = some (.int .u64 ((comb_table.T n).getD (x.toNat * 13) 0)) := by
    rw [zs HC.out, ABl_get (by rw [comb_table.T_len]; omega)]
   have hfr : wr.frozen? ⟨w.heap.size + 1, x.toNat * 13, none⟩ = false := zx HC.out _
   have HXN := zm hxn
   have HN15 := zm hn15
   clear c9 hxn hn15
   go_wp2
   have n1_ : Aside0 ((wr.setCell ⟨w.heap.size + 1, x.toNat * 13, none⟩ (.int .u64 1)).heap[w.heap.size + 1]? = some (.cells (ABl (comb_table.U (comb_table.T n) (n + 1) 0)) 56 (0, 0))) := ⟨by
    have h1 := blk_set HC.out (x.toNat * 13) (.int .u64 1)
    rw [ABl_set, HXN.out] at h1
    rw [HXN.out]
    exact h1⟩
   have n2_ : Aside0 ((wr.setCell ⟨w.heap.size + 1, x.toNat * 13, none⟩ (.int .u64 1)).heap[w.heap.size]? = some (.cells Z 56 (0, 0))) := ⟨zv HZ0.out (by simp) _⟩
   have n3_ : Aside0 (Below w.heap.size w (wr.setCell ⟨w.heap.size + 1, x.toNat * 13, none⟩ (.int .u64 1))) := ⟨zk HB.out (by omega)⟩
   clear HC HZ0 HB hcl hfr
   generalize (wr.setCell ⟨w.heap.size + 1, x.toNat * 13, none⟩ (.int .u64 1)) = W2 at n1_ n2_ n3_ ⊢
   go_loopg [3] 12 (fun kq v3 w' => ∃ (j : Nat) (y : Int), v3 = .int .i64 y ∧ Aside0 (y = ((j + 1 : Nat) : Int)) ∧ Aside0 (j + kq = 12) ∧ Aside0 (w'.heap[w.heap.size + 1]? = some (.cells (ABl (comb_table.U (comb_table.T n) (n + 1) j)) 56 (0, 0))) ∧ Aside0 (w'.heap[w.heap.size]? = some (.cells Z 56 (0, 0))) ∧ Aside0 (Below w.heap.size w w'))
   case atStart => exact ⟨0, 1, rfl, ⟨rfl⟩, ⟨rfl⟩, n1_, n2_, n3_⟩
   case round =>
    clear n1_ n2_ n3_
    obtain ⟨j, y, rfl, HY, HJ, HC, HZ0, HB⟩ := hrel
    by_cases c16 : y ≤ 12
    ·
     have c16b0 : decide (y ≤ 12) = true := decide_eq_true c16
     have hy0 : (0 ≤ y) = True := eq_true (by have := HY.out; omega)
     have hy1 : (y < 13) = True := eq_true (by omega)
     have hyn : y.toNat = j + 1 := by have := HY.out; omega
     have hj11 : j < 12 := by have := HY.out; omega
     obtain ⟨j', rfl⟩ : ∃ q, gk = q + 1 := ⟨gk - 1, by have := HJ.out; omega⟩
     obtain ⟨xm, hxm⟩ : ∃ j_ : Int, wrap64 (x - 1) = j_ := ⟨_, rfl⟩
     have hxmw : (IntKind.i64.wrap (x - 1)) = xm := (i64_w _).trans hxm
     obtain ⟨ym, hym⟩ : ∃ j_ : Int, wrap64 (y - 1) = j_ := ⟨_, rfl⟩
     have hymw : (IntKind.i64.wrap (y - 1)) = ym := (i64_w _).trans hym
     have hxe : xm = (n : Int) := by rw [← hxm]; have := HX.out; have := HN15.out; unfold wrap64; omega
     have hye : ym = (j : Int) := by rw [← hym]; have := HY.out; unfold wrap64; omega
     have hxm0 : (0 ≤ xm) = True := eq_true (by omega)
     have hxm1 : (xm < 17) = True := eq_true (by have := HN15.out; omega)
     have hym0 : (0 ≤ ym) = True := eq_true (by omega)
     have hym1 : (ym < 13) = True := eq_true (by omega)
     have hxmn : xm.toNat = n := by omega
     have hymn : ym.toNat = j := by omega
     have HJ11 := zm hj11
     have HYN := zm hyn
     have HXM := zm hxmn
     have HYM := zm hymn
     obtain ⟨X, hXd⟩ : ∃ X, X = comb_table.U (comb_table.T n) (n + 1) j := ⟨_, rfl⟩
     have hXl : X.length = 221 := by rw [hXd, comb_table.U_len, comb_table.T_len]
     rw [← hXd] at HC
     have HXD := zm hXd
     have HXL := zm hXl
     clear hXd hXl c16 hyn hj11 hxmn hymn hxe hye hxm hym
     try go_wp2
     have n1_ := zm (zj HC.out)
     have n2_ := zm (zj HZ0.out)
     have n3_ := zm (zf HB.out)
     clear HC HZ0 HB
     have HC := n1_
     have HZ0 := n2_
     have HB := n3_
     clear n1_ n2_ n3_
     obtain ⟨va, hva⟩ : ∃ v_, v_ = X.getD (xm.toNat * 13 + y.toNat) 0 := ⟨_, rfl⟩
     obtain ⟨vb, hvb⟩ : ∃ v_, v_ = X.getD (x.toNat * 13 + ym.toNat) 0 := ⟨_, rfl⟩
     obtain ⟨vc, hvc⟩ : ∃ v_, v_ = X.getD (xm.toNat * 13 + ym.toNat) 0 := ⟨_, rfl⟩
     have HVA := zm hva
     have HVB := zm hvb
     have HVC := zm hvc
     clear hva hvb hvc
     have hx1 : wr.drew.cell? ⟨w.heap.size + 1, xm.toNat * 13 + y.toNat, none⟩ = some (.int .u64 va) := by
      rw [zs HC.out, HVA.out, ABl_get (by have := HXL.out; have := HXM.out; have := HYN.out; have := HN15.out; have := HJ11.out; omega)]
     have hx2 : wr.drew.cell? ⟨w.heap.size + 1, x.toNat * 13 + ym.toNat, none⟩ = some (.int .u64 vb) := by
      rw [zs HC.out, HVB.out, ABl_get (by have := HXL.out; have := HXN.out; have := HYM.out; have := HN15.out; have := HJ11.out; omega)]
     have hx3 : wr.drew.cell? ⟨w.heap.size + 1, xm.toNat * 13 + ym.toNat, none⟩ = some (.int .u64 vc) := by
      rw [zs HC.out, HVC.out, ABl_get (by have := HXL.out; have := HXM.out; have := HYM.out; have := HN15.out; have := HJ11.out; omega)]
     have hx4 : wr.drew.cell? ⟨w.heap.size + 1, x.toNat * 13 + y.toNat, none⟩ = some (.int .u64 (X.getD (x.toNat * 13 + y.toNat) 0)) := by
      rw [zs HC.out, ABl_get (by have := HXL.out; have := HXN.out; have := HYN.out; have := HN15.out; have := HJ11.out; omega)]
     have hf4 : wr.drew.frozen? ⟨w.heap.size + 1, x.toNat * 13 + y.toNat, none⟩ = false := zx HC.out _
     refine start_ (n := 26) (S := fun w' => w'.cell? ⟨w.heap.size + 1, xm.toNat * 13 + y.toNat, none⟩ = some (.int .u64 va) ∧ w'.cell? ⟨w.heap.size + 1, x.toNat * 13 + ym.toNat, none⟩ = some (.int .u64 vb) ∧ w'.cell? ⟨w.heap.size + 1, xm.toNat * 13 + ym.toNat, none⟩ = some (.int .u64 vc)) (ds := [25]) #[false, false, false, false, false, false, false, false, false, false, false, false, false, false, false, false, false, false, false, false, false, false, false, false, false, false] (by kernel_rfl) rfl rfl ⟨hx1, hx2, hx3⟩ (fun hHeld => ?_); refine with_tabW comb_table.tab10 comb_table.bits10 (fun HT_ HW_ => ?_)
     generalize wr.drew = w30 at HC HZ0 HB hx1 hx2 hx3 hx4 hf4 hHeld ⊢
     refine pure_ (i := 0) (N := some 17) (v := ?_) (a' := ?_) #[true, false, false, false, false, false, false, false, false, false, false, false, false, false, false, false, false, false, false, false, false, false, false, false, false, false] rfl rfl (any_of HT_.out (by kernel_rfl)) (fun _ _ _ h => h) (Or.inl ⟨by rfl, ?_⟩) ?_ ?_
     rotate_left
     ·
      intro w'
      go_simp
      with_reducible rfl
     rotate_left
     ·
      simp only [Act.put, List.setIfInBounds_toArray, List.set_cons_zero, List.set_cons_succ, i64_w, i32_w]
      rfl
     refine pure_ (i := 1) (N := some 18) (v := ?_) (a' := ?_) #[true, true, false, false, false, false, false, false, false, false, false, false, false, false, false, false, false, false, false, false, false, false, false, false, false, false] rfl rfl (any_of HT_.out (by kernel_rfl)) (fun _ _ _ h => h) (Or.inl ⟨by rfl, ?_⟩) ?_ ?_
     rotate_left
     ·
      intro w'
      go_simp
      with_reducible rfl
     rotate_left
     ·
      simp only [Act.put, List.setIfInBounds_toArray, List.set_cons_zero, List.set_cons_succ, i64_w, i32_w]
      rfl
     refine pure_ (i := 2) (N := some 19) (v := ?_) (a' := ?_) #[true, true, true, false, false, false, false, false, false, false, false, false, false, false, false, false, false, false, false, false, false, false, false, false, false, false] rfl rfl (any_of HT_.out (by kernel_rfl)) (fun _ _ _ h => h) (Or.inl ⟨by rfl, ?_⟩) ?_ ?_
     rotate_left
     ·
      intro w'
      go_simp
      with_reducible rfl
     rotate_left
     ·
      simp only [Act.put, List.setIfInBounds_toArray, List.set_cons_zero, List.set_cons_succ, i64_w, i32_w]
      rfl
     refine pure_ (i := 3) (N := some 20) (v := ?_) (a' := ?_) #[true, true, true, true, false, false, false, false, false, false, false, false, false, false, false, false, false, false, false, false, false, false, false, false, false, false] rfl rfl (any_of HT_.out (by kernel_rfl)) (fun _ _ _ h => h) (Or.inl ⟨by rfl, ?_⟩) ?_ ?_
     rotate_left
     ·
      intro w'
      go_simp
      with_reducible rfl
     rotate_left
     ·
      simp only [Act.put, List.setIfInBounds_toArray, List.set_cons_zero, List.set_cons_succ, i64_w, i32_w]
      rfl
     refine pure_ (i := 4) (N := some 21) (v := ?_) (a' := ?_) #[true, true, true, true, true, false, false, false, false, false, false, false, false, false, false, false, false, false, false, false, false, false, false, false, false, false] rfl rfl (any_of HT_.out (by kernel_rfl)) (fun _ _ _ h => h) (Or.inl ⟨by rfl, ?_⟩) ?_ ?_
     rotate_left
     ·
      intro w'
      go_simp
      with_reducible rfl
     rotate_left
     ·
      simp only [Act.put, List.setIfInBounds_toArray, List.set_cons_zero, List.set_cons_succ, i64_w, i32_w]
      rfl
     refine pure_ (i := 5) (N := some 22) (v := ?_) (a' := ?_) #[true, true, true, true, true, true, false, false, false, false, false, false, false, false, false, false, false, false, false, false, false, false, false, false, false, false] rfl rfl (any_of HT_.out (by kernel_rfl)) (fun _ _ _ h => h) (Or.inl ⟨by rfl, ?_⟩) ?_ ?_
     rotate_left
     ·
      intro w'
      go_simp
      with_reducible rfl
     rotate_left
     ·
      simp only [Act.put, List.setIfInBounds_toArray, List.set_cons_zero, List.set_cons_succ, i64_w, i32_w]
      rfl
     refine pure_ (i := 6) (N := some 23) (v := ?_) (a' := ?_) #[true, true, true, true, true, true, true, false, false, false, false, false, false, false, false, false, false, false, false, false, false, false, false, false, false, false] rfl rfl (any_of HT_.out (by kernel_rfl)) (fun _ _ _ h => h) (Or.inl ⟨by rfl, ?_⟩) ?_ ?_
     rotate_left
     ·
      intro w'
      go_simp
      with_reducible rfl
     rotate_left
     ·
      simp only [Act.put, List.setIfInBounds_toArray, List.set_cons_zero, List.set_cons_succ, i64_w, i32_w]
      rfl
     refine pure_ (i := 8) (N := some 25) (v := ?_) (a' := ?_) #[true, true, true, true, true, true, true, false, true, false, false, false, false, false, false, false, false, false, false, false, false, false, false, false, false, false] rfl rfl (any_of HT_.out (by kernel_rfl)) (fun _ _ _ h => h) (Or.inl ⟨by rfl, ?_⟩) ?_ ?_
     rotate_left
     ·
      intro w'
      go_simp
      with_reducible rfl
     rotate_left
     ·
      simp only [Act.put, List.setIfInBounds_toArray, List.set_cons_zero, List.set_cons_succ, i64_w, i32_w]
      rfl
     refine pure_ (i := 9) (N := some 26) (v := ?_) (a' := ?_) #[true, true, true, true, true, true, true, false, true, true, false, false, false, false, false, false, false, false, false, false, false, false, false, false, false, false] rfl rfl (any_of HT_.out (by kernel_rfl)) (fun _ _ _ h => h) (Or.inl ⟨by rfl, ?_⟩) ?_ ?_
     rotate_left
     ·
      intro w'
      go_simp
      with_reducible rfl
     rotate_left
     ·
      simp only [Act.put, List.setIfInBounds_toArray, List.set_cons_zero, List.set_cons_succ, i64_w, i32_w]
      rfl
     refine pure_ (i := 10) (N := some 27) (v := ?_) (a' := ?_) #[true, true, true, true, true, true, true, false, true, true, true, false, false, false, false, false, false, false, false, false, false, false, false, false, false, false] rfl rfl (any_of HT_.out (by kernel_rfl)) (fun _ _ _ h => h) (Or.inl ⟨by rfl, ?_⟩) ?_ ?_
     rotate_left
     ·
      intro w'
      go_simp
      with_reducible rfl
     rotate_left
     ·
      simp only [Act.put, List.setIfInBounds_toArray, List.set_cons_zero, List.set_cons_succ, i64_w, i32_w]
      rfl
     refine pure_ (i := 11) (N := some 28) (v := ?_) (a' := ?_) #[true, true, true, true, true, true, true, false, true, true, true, true, false, false, false, false, false, false, false, false, false, false, false, false, false, false] rfl rfl (any_of HT_.out (by kernel_rfl)) (fun _ _ _ h => h) (Or.inl ⟨by rfl, ?_⟩) ?_ ?_
     rotate_left
     ·
      intro w'
      go_simp
      with_reducible rfl
     rotate_left
     ·
      simp only [Act.put, List.setIfInBounds_toArray, List.set_cons_zero, List.set_cons_succ, i64_w, i32_w]
      rfl
     refine pure_ (i := 12) (N := some 29) (v := ?_) (a' := ?_) #[true, true, true, true, true, true, true, false, true, true, true, true, true, false, false, false, false, false, false, false, false, false, false, false, false, false] rfl rfl (any_of HT_.out (by kernel_rfl)) (fun _ _ _ h => h) (Or.inl ⟨by rfl, ?_⟩) ?_ ?_
     rotate_left
     ·
      intro w'
      go_simp
      with_reducible rfl
     rotate_left
     ·
      simp only [Act.put, List.setIfInBounds_toArray, List.set_cons_zero, List.set_cons_succ, i64_w, i32_w]
      rfl
     refine pure_ (i := 15) (N := some 32) (v := ?_) (a' := ?_) #[true, true, true, true, true, true, true, false, true, true, true, true, true, false, false, true, false, false, false, false, false, false, false, false, false, false] rfl rfl (any_of HT_.out (by kernel_rfl)) (fun _ _ _ h => h) (Or.inl ⟨by rfl, ?_⟩) ?_ ?_
     rotate_left
     ·
      intro w'
      go_simp
      with_reducible rfl
     rotate_left
     ·
      simp only [Act.put, List.setIfInBounds_toArray, List.set_cons_zero, List.set_cons_succ, i64_w, i32_w]
      rfl
     refine pure_ (i := 16) (N := some 33) (v := ?_) (a' := ?_) #[true, true, true, true, true, true, true, false, true, true, true, true, true, false, false, true, true, false, false, false, false, false, false, false, false, false] rfl rfl (any_of HT_.out (by kernel_rfl)) (fun _ _ _ h => h) (Or.inl ⟨by rfl, ?_⟩) ?_ ?_
     rotate_left
     ·
      intro w'
      go_simp
      with_reducible rfl
     rotate_left
     ·
      simp only [Act.put, List.setIfInBounds_toArray, List.set_cons_zero, List.set_cons_succ, i64_w, i32_w]
      rfl
     refine pure_ (i := 17) (N := some 34) (v := ?_) (a' := ?_) #[true, true, true, true, true, true, true, false, true, true, true, true, true, false, false, true, true, true, false, false, false, false, false, false, false, false] rfl rfl (any_of HT_.out (by kernel_rfl)) (fun _ _ _ h => h) (Or.inl ⟨by rfl, ?_⟩) ?_ ?_
     rotate_left
     ·
      intro w'
      go_simp
      with_reducible rfl
     rotate_left
     ·
      simp only [Act.put, List.setIfInBounds_toArray, List.set_cons_zero, List.set_cons_succ, i64_w, i32_w]
      rfl
     refine pure_ (i := 18) (N := some 35) (v := ?_) (a' := ?_) #[true, true, true, true, true, true, true, false, true, true, true, true, true, false, false, true, true, true, true, false, false, false, false, false, false, false] rfl rfl (any_of HT_.out (by kernel_rfl)) (fun _ _ _ h => h) (Or.inl ⟨by rfl, ?_⟩) ?_ ?_
     rotate_left
     ·
      intro w'
      go_simp
      with_reducible rfl
     rotate_left
     ·
      simp only [Act.put, List.setIfInBounds_toArray, List.set_cons_zero, List.set_cons_succ, i64_w, i32_w]
      rfl
     refine pure_ (i := 19) (N := some 36) (v := ?_) (a' := ?_) #[true, true, true, true, true, true, true, false, true, true, true, true, true, false, false, true, true, true, true, true, false, false, false, false, false, false] rfl rfl (any_of HT_.out (by kernel_rfl)) (fun _ _ _ h => h) (Or.inl ⟨by rfl, ?_⟩) ?_ ?_
     rotate_left
     ·
      intro w'
      go_simp
      with_reducible rfl
     rotate_left
     ·
      simp only [Act.put, List.setIfInBounds_toArray, List.set_cons_zero, List.set_cons_succ, i64_w, i32_w]
      rfl
     refine pure_ (i := 20) (N := some 37) (v := ?_) (a' := ?_) #[true, true, true, true, true, true, true, false, true, true, true, true, true, false, false, true, true, true, true, true, true, false, false, false, false, false] rfl rfl (any_of HT_.out (by kernel_rfl)) (fun _ _ _ h => h) (Or.inl ⟨by rfl, ?_⟩) ?_ ?_
     rotate_left
     ·
      intro w'
      go_simp
      with_reducible rfl
     rotate_left
     ·
      simp only [Act.put, List.setIfInBounds_toArray, List.set_cons_zero, List.set_cons_succ, i64_w, i32_w]
      rfl
     refine pure_ (i := 23) (N := some 40) (v := ?_) (a' := ?_) #[true, true, true, true, true, true, true, false, true, true, true, true, true, false, false, true, true, true, true, true, true, false, false, true, false, false] rfl rfl (any_of HT_.out (by kernel_rfl)) (fun _ _ _ h => h) (Or.inl ⟨by rfl, ?_⟩) ?_ ?_
     rotate_left
     ·
      intro w'
      go_simp
      with_reducible rfl
     rotate_left
     ·
      simp only [Act.put, List.setIfInBounds_toArray, List.set_cons_zero, List.set_cons_succ, i64_w, i32_w]
      rfl
     refine take_ (i := 7) (N := some 24) (v := ?_) (a' := ?_) #[true, true, true, true, true, true, true, true, true, true, true, true, true, false, false, true, true, true, true, true, true, false, false, true, false, false] rfl rfl (take_ofW HT_.out HW_.out (by kernel_rfl)) (fun _ _ _ h => h) (Or.inl ⟨by rfl, ?_⟩) hHeld ?_ ?_
     rotate_left
     ·
      rintro w' ⟨s0, s1, s2⟩
      go_simp
      with_reducible rfl
     rotate_left
     ·
      simp only [Act.put, List.setIfInBounds_toArray, List.set_cons_zero, List.set_cons_succ, i64_w, i32_w]
      rfl
     refine take_ (i := 13) (N := some 30) (v := ?_) (a' := ?_) #[true, true, true, true, true, true, true, true, true, true, true, true, true, true, false, true, true, true, true, true, true, false, false, true, false, false] rfl rfl (take_ofW HT_.out HW_.out (by kernel_rfl)) (fun _ _ _ h => h) (Or.inl ⟨by rfl, ?_⟩) hHeld ?_ ?_
     rotate_left
     ·
      rintro w' ⟨s0, s1, s2⟩
      go_simp
      with_reducible rfl
     rotate_left
     ·
      simp only [Act.put, List.setIfInBounds_toArray, List.set_cons_zero, List.set_cons_succ, i64_w, i32_w]
      rfl
     refine pure_ (i := 14) (N := some 31) (v := ?_) (a' := ?_) #[true, true, true, true, true, true, true, true, true, true, true, true, true, true, true, true, true, true, true, true, true, false, false, true, false, false] rfl rfl (any_of HT_.out (by kernel_rfl)) (fun _ _ _ h => h) (Or.inl ⟨by rfl, ?_⟩) ?_ ?_
     rotate_left
     ·
      intro w'
      go_simp
      with_reducible rfl
     rotate_left
     ·
      simp only [Act.put, List.setIfInBounds_toArray, List.set_cons_zero, List.set_cons_succ, i64_w, i32_w]
      rfl
     refine take_ (i := 21) (N := some 38) (v := ?_) (a' := ?_) #[true, true, true, true, true, true, true, true, true, true, true, true, true, true, true, true, true, true, true, true, true, true, false, true, false, false] rfl rfl (take_ofW HT_.out HW_.out (by kernel_rfl)) (fun _ _ _ h => h) (Or.inl ⟨by rfl, ?_⟩) hHeld ?_ ?_
     rotate_left
     ·
      rintro w' ⟨s0, s1, s2⟩
      go_simp
      with_reducible rfl
     rotate_left
     ·
      simp only [Act.put, List.setIfInBounds_toArray, List.set_cons_zero, List.set_cons_succ, i64_w, i32_w]
      rfl
     refine pure_ (i := 22) (N := some 39) (v := ?_) (a' := ?_) #[true, true, true, true, true, true, true, true, true, true, true, true, true, true, true, true, true, true, true, true, true, true, true, true, false, false] rfl rfl (any_of HT_.out (by kernel_rfl)) (fun _ _ _ h => h) (Or.inl ⟨by rfl, ?_⟩) ?_ ?_
     rotate_left
     ·
      intro w'
      go_simp
      with_reducible rfl
     rotate_left
     ·
      simp only [Act.put, List.setIfInBounds_toArray, List.set_cons_zero, List.set_cons_succ, i64_w, i32_w]
      rfl
     refine pure_ (i := 24) (N := some 41) (v := ?_) (a' := ?_) #[true, true, true, true, true, true, true, true, true, true, true, true, true, true, true, true, true, true, true, true, true, true, true, true, true, false] rfl rfl (any_of HT_.out (by kernel_rfl)) (fun _ _ _ h => h) (Or.inl ⟨by rfl, ?_⟩) ?_ ?_
     rotate_left
     ·
      intro w'
      go_simp
      with_reducible rfl
     rotate_left
     ·
      simp only [Act.put, List.setIfInBounds_toArray, List.set_cons_zero, List.set_cons_succ, i64_w, i32_w]
      rfl
     refine last_ (i := 25) (N := none) #[true, true, true, true, true, true, true, true, true, true, true, true, true, true, true, true, true, true, true, true, true, true, true, true, true, true] rfl rfl (one_of HT_.out (by kernel_rfl)) (by decide) (fun K hK => ?_)
     refine skip_ (w1 := ?_) (by rfl) rfl ?_ ?_
     rotate_left
     ·
      go_simp
      rfl
     refine hK.out _ _ ?_
     clear hK K
     refine done_ (done_of HT_.out (by kernel_rfl)) ?_
     try go_wp2
     go_roundg j'
     case measure => omega
     case rel => exact ⟨j + 1, _, rfl, ⟨by have := HY.out; have := HJ11.out; unfold wrap64; omega⟩, ⟨by have := HJ.out; omega⟩, ⟨by
      have h1 := blk_set HC.out (x.toNat * 13 + y.toNat) (.int .u64 (comb_table.new X (n + 1) (j + 1)))
      rw [ABl_set] at h1
      have h2 : X.set (x.toNat * 13 + y.toNat) (comb_table.new X (n + 1) (j + 1)) = comb_table.U (comb_table.T n) (n + 1) (j + 1) := by
       rw [HXN.out, HYN.out, HXD.out]
       rfl
      have h3 : comb_table.new X (n + 1) (j + 1) = IntKind.u64.wrap (IntKind.u64.wrap (va + vb) + vc) := by
       rw [HVA.out, HVB.out, HVC.out, HXN.out, HYN.out, HXM.out, HYM.out]
       rfl
      rw [h2, h3] at h1
      exact h1⟩, ⟨zv HZ0.out (by simp) _⟩, ⟨zk HB.out (by omega)⟩⟩
    ·
     have c16b0 : decide (y ≤ 12) = false := decide_eq_false c16
     have hj12 : j = 12 := by have := HY.out; have := HJ.out; omega
     have HJ12 := zm hj12
     clear c16 hj12
     go_wp2
     go_roundg n'
     case measure => omega
     case rel => exact ⟨n + 1, _, rfl, ⟨by have := HX.out; have := HN15.out; unfold wrap64; omega⟩, ⟨by have := HN.out; omega⟩, ⟨by rw [HC.out, HJ12.out]; rfl⟩, HZ0, HB⟩
  ·
   have c9b0 : decide (x ≤ 16) = false := decide_eq_false c9
   have hn16 : n = 16 := by have := HX.out; have := HN.out; omega
   have HN16 := zm hn16
   clear c9 hn16
   have HC16 : wr.heap[w.heap.size + 1]? = some (.cells (ABl (comb_table.T 16)) 56 (0, 0)) := by
    rw [← HN16.out]
    exact HC.out
   have HF := zm HC16
   clear HC16 HC
   go_wp2
   refine wp_load_row 56 (.tmp 1) rfl (w.heap.size + 1) rfl 56 _ (0, 0) (.array 17 54) HF.out Try.underlying56 rfl comb_table.size16 ?_
   have hst := storeCells_row (P := Try.prog) wr w.heap.size 56 56 Z (ABl (comb_table.T 16)) HZ0.out comb_table.size16 (by rw [hZ'.out, ABl_size, ABl_size, comb_table.T_len, List.length_replicate]) (ABl_one _)
   go_wp2
   (try simp only [Exit.inBlock, Exit.then])
   refine bodyPost_ret (results_cell_row rfl _ _ w.heap.size 56 (ABl (comb_table.T 16)) (0, 0) (.array 17 54) rfl (setRow_heap _ _ _ _ _ _ HZ0.out) Try.underlying56 rfl comb_table.size16) rfl ?_
   exact ⟨rfl, below_row HB.out (Nat.le_refl _) _⟩

/-- What place k of row n holds. -/
def comb_table.f (a0 a1 : Int) : Option Int := if 0 ≤ a0 then (if a0 < 17 then (if 0 ≤ a1 then (if a1 < 13 then some ((comb_table.T 16).getD (a0.toNat * 13 + a1.toNat) 0) else none) else none) else none) else none
theorem comb_table.parts {n k t : Int} (h : comb_table.f n k = some t) : 0 ≤ n ∧ n < 17 ∧ 0 ≤ k ∧ k < 13 ∧ t = (comb_table.T 16).getD (n.toNat * 13 + k.toNat) 0 := by
 unfold comb_table.f at h
 split at h
 ·
  split at h
  ·
   split at h
   ·
    split at h
    ·
     exact ⟨by assumption, by assumption, by assumption, by assumption, (Option.some.inj h).symm⟩
    ·
     exact absurd h (by simp)
   ·
    exact absurd h (by simp)
  ·
   exact absurd h (by simp)
 ·
  exact absurd h (by simp)
theorem comb_table.inn {n k t : Int} (h : comb_table.f n k = some t) : ((0 ≤ n) = True) ∧ ((n < 17) = True) ∧ ((0 ≤ k) = True) ∧ ((k < 13) = True) := by
 obtain ⟨h0, h1, h2, h3, _⟩ := comb_table.parts h
 exact ⟨eq_true h0, eq_true h1, eq_true h2, eq_true h3⟩
theorem comb_table.look {W : World} {g : Nat} (hg : W.heap[g]? = some (.cells (ABl (comb_table.T 16)) 56 (0, 0))) {n k t : Int} (h : comb_table.f n k = some t) : W.cell? ⟨g, n.toNat * 13 + k.toNat, none⟩ = some (.int .u64 t) := by
 obtain ⟨h0, h1, h2, h3, ht⟩ := comb_table.parts h
 rw [ht, zs hg, ABl_get (by rw [comb_table.T_len]; omega)]
set_option maxRecDepth 100000 in
theorem comb_table.zsize : ∃ Z : Array Value, (∀ W, (zeroValue 56).run Try.prog W = .ok (.agg Z) W) ∧ Aside0 (Z.size = (ABl (comb_table.T 16)).size) := by
 obtain ⟨Z, hz, hZ⟩ := comb_table.zeroes
 refine ⟨Z, hz, ⟨?_⟩⟩
 have h := congrArg List.length hZ
 rw [Array.length_toList, encs_length, List.length_replicate] at h
 exact h.trans (by rw [ABl_size, comb_table.T_len])

end Go.Proofs.Ytgjdgpkjdffhkaa.Prt

namespace Go.Proofs.Ytgjdgpkjdffhkaa.Prt
open Go.RowKit Go.Proofs.YtgjdgpkjdffhkaaW.PrintWords Go.Proofs.YtgjdgpkjdffhkaaW.PrintLast Go.Proofs.YtgjdgpkjdffhkaaW.PrintMore
attribute [local go_sem] max2_int min2_int max_two min_two max_three min_three max_four min_four   -- for this text's walks alone
set_option linter.unusedVariables false
set_option linter.unusedSimpArgs false

/-! ### comb_Vector: function 25 -/
mutual
def comb_Vector.l0 : Nat → Int → Int → Int → List Int → Option (List Int × Int)
 | 0, _, _, _, _ => none
 | k + 1, x0, x1, x2, x9 => if x0 > 0 then ((comb_table.f (wrap64 (x0 - 1)) x1).bind fun t125 => (if x2 ≥ t125 then ((comb_table.f (wrap64 (x0 - 1)) (wrap64 (x1 - 1))).bind fun t126 => (comb_Vector.l1 k x0 x1 (IntKind.u64.wrap (x2 - t125)) x9 1 t126)) else (if x9.length < 17592186044416 then (comb_Vector.l0 k (wrap64 (x0 - 1)) x1 x2 (x9 ++ [0])) else (none)))) else (some (x9, 0))
def comb_Vector.l1 : Nat → Int → Int → Int → List Int → Int → Int → Option (List Int × Int)
 | 0, _, _, _, _, _, _ => none
 | k + 1, x0, x1, x2, x9, x10, x12 => if x2 ≥ (IntKind.u64.wrap (2 * x12)) then ((comb_table.f (wrap64 (x0 - 1)) (wrap64 (x1 - (wrap64 (x10 + 1))))).bind fun t127 => (comb_Vector.l1 k x0 x1 (IntKind.u64.wrap (x2 - (IntKind.u64.wrap (2 * x12)))) x9 (wrap64 (x10 + 1)) t127)) else ((comb_table.f (wrap64 (x0 - 1)) (wrap64 (x1 - x10))).bind fun t128 => (if x2 ≥ t128 then (if x9.length < 17592186044416 then (comb_Vector.l0 k (wrap64 (x0 - 1)) (wrap64 (x1 - x10)) (IntKind.u64.wrap (x2 - t128)) (x9 ++ [wrap64 (-x10)])) else (none)) else (if x9.length < 17592186044416 then (comb_Vector.l0 k (wrap64 (x0 - 1)) (wrap64 (x1 - x10)) x2 (x9 ++ [x10])) else (none))))
end
def comb_Vector.f (k : Nat) (a0 : Int) (a1 : Int) (a2 : Int) : Option (List Int × Int) := (comb_fair.f a0 a1).bind fun t120 => (if t120 = true then ((comb_table.f a0 a1).bind fun t124 => (if a2 ≥ t124 then (some (([] : List Int), 5)) else (comb_Vector.l0 k a0 a1 a2 ([] : List Int)))) else (some (([] : List Int), 1)))
theorem comb_Vector.mono_l : ∀ k, (∀ y0 y1 y2 y3, LeO (comb_Vector.l0 k y0 y1 y2 y3) (comb_Vector.l0 (k + 1) y0 y1 y2 y3)) ∧ (∀ y0 y1 y2 y3 y4 y5, LeO (comb_Vector.l1 k y0 y1 y2 y3 y4 y5) (comb_Vector.l1 (k + 1) y0 y1 y2 y3 y4 y5))
 | 0 => ⟨fun _ _ _ _ r h => by simp [comb_Vector.l0] at h, fun _ _ _ _ _ _ r h => by simp [comb_Vector.l1] at h⟩
 | k + 1 => by
  obtain ⟨ih0, ih1⟩ := comb_Vector.mono_l k
  refine ⟨?_, ?_⟩
  ·
   intro y0 y1 y2 y3
   unfold comb_Vector.l0
   repeat' first
   | (with_reducible exact ih0 _ _ _ _)
   | (with_reducible exact ih1 _ _ _ _ _ _)
   | (with_reducible exact LeO.refl _)
   | (with_reducible exact LeO.none _)
   | (with_reducible refine LeO.ite ?_ ?_)
   | (with_reducible refine LeO.bind ?_ (fun _ => ?_))
   | exact ih0 _ _ _ _
   | exact ih1 _ _ _ _ _ _
   | exact LeO.none _
   | refine LeO.ite ?_ ?_
   | refine LeO.bind ?_ (fun _ => ?_)
  ·
   intro y0 y1 y2 y3 y4 y5
   unfold comb_Vector.l1
   repeat' first
   | (with_reducible exact ih0 _ _ _ _)
   | (with_reducible exact ih1 _ _ _ _ _ _)
   | (with_reducible exact LeO.refl _)
   | (with_reducible exact LeO.none _)
   | (with_reducible refine LeO.ite ?_ ?_)
   | (with_reducible refine LeO.bind ?_ (fun _ => ?_))
   | exact ih0 _ _ _ _
   | exact ih1 _ _ _ _ _ _
   | exact LeO.none _
   | refine LeO.ite ?_ ?_
   | refine LeO.bind ?_ (fun _ => ?_)
theorem comb_Vector.mono : ∀ a0 a1 a2 k, LeO (comb_Vector.f k a0 a1 a2) (comb_Vector.f (k + 1) a0 a1 a2) := by
 intro a0 a1 a2 k
 obtain ⟨ih0, ih1⟩ := comb_Vector.mono_l k
 unfold comb_Vector.f
 repeat' first
   | (with_reducible exact ih0 _ _ _ _)
   | (with_reducible exact ih1 _ _ _ _ _ _)
   | (with_reducible exact LeO.refl _)
   | (with_reducible exact LeO.none _)
   | (with_reducible refine LeO.ite ?_ ?_)
   | (with_reducible refine LeO.bind ?_ (fun _ => ?_))
   | exact ih0 _ _ _ _
   | exact ih1 _ _ _ _ _ _
   | exact LeO.none _
   | refine LeO.ite ?_ ?_
   | refine LeO.bind ?_ (fun _ => ?_)
set_option maxHeartbeats 8000000 in
set_option maxRecDepth 100000 in
theorem comb_Vector.calls (k : Nat) (a0 : Int) (a1 : Int) (a2 : Int) (r1 : List Int) (r2 : Int) (w : World) (h : comb_Vector.f k a0 a1 a2 = some (r1, r2)) :
  Calls Try.prog 25 #[.int .i64 a0, .int .i64 a1, .int .u64 a2] w fun e w' => ∃ v0_ : Value, e = .returned (.tuple #[v0_, .int .i64 r2]) ∧ Kd.R (Kd.int .i64) 3 w' w.heap.size (fun _ => True) v0_ r1 ∧ Below w.heap.size w w' := by
 have HB := zm (Below.refl w.heap.size w)
 have H : ((comb_fair.f a0 a1).bind fun t120 => (if t120 = true then ((comb_table.f a0 a1).bind fun t124 => (if a2 ≥ t124 then (some (([] : List Int), 5)) else (comb_Vector.l0 k a0 a1 a2 ([] : List Int)))) else (some (([] : List Int), 1)))) = some (r1, r2) := h
 clear h
 replace H := Option.bind_eq_some_iff.mp H
 obtain ⟨t120, A40, H⟩ := H
 replace H : (if t120 = true then ((comb_table.f a0 a1).bind fun t124 => (if a2 ≥ t124 then (some (([] : List Int), 5)) else (comb_Vector.l0 k a0 a1 a2 ([] : List Int)))) else (some (([] : List Int), 1))) = some (r1, r2) := H
 have A4 := zm A40
 clear A40
 by_cases c5 : t120 = true
 ·
  subst c5
  have H1 : ((comb_table.f a0 a1).bind fun t124 => (if a2 ≥ t124 then (some (([] : List Int), 5)) else (comb_Vector.l0 k a0 a1 a2 ([] : List Int)))) = some (r1, r2) := by rw [if_pos rfl] at H; exact H
  clear H
  have H := H1
  clear H1
  obtain ⟨y121, hy121⟩ : ∃ y_ : List Int, y_ = (([0] : List Int)) := ⟨_, rfl⟩
  replace H : ((comb_table.f a0 a1).bind fun t124 => (if a2 ≥ t124 then (some (([] : List Int), 5)) else (comb_Vector.l0 k a0 a1 a2 ([] : List Int)))) = some (r1, r2) := by first | (rw [hy121]; with_reducible exact H) | (have H2_ := (Option.bind_some _ _).symm.trans H; rw [hy121]; with_reducible exact H2_) | (have H2_ := (Option.bind_some _ _).symm.trans H; with_reducible exact H2_) | with_reducible exact H | (rw [hy121]; exact H) | exact H
  have Ny121 := zm hy121
  clear hy121
  replace H := Option.bind_eq_some_iff.mp H
  obtain ⟨t124, A60, H⟩ := H
  replace H : (if a2 ≥ t124 then (some (([] : List Int), 5)) else (comb_Vector.l0 k a0 a1 a2 ([] : List Int))) = some (r1, r2) := H
  have A6 := zm A60
  clear A60
  by_cases c7 : a2 ≥ t124
  ·
   rw [if_pos c7] at H
   have c7b0 : decide (t124 ≤ a2) = true := decide_eq_true c7
   clear c7
   simp only [Option.some.injEq, Prod.mk.injEq] at H
   obtain ⟨rfl, rfl⟩ := H
   go_enter Try.func25, Try.ntmps25
   obtain ⟨Z, hz, HZs⟩ := comb_table.zsize
   obtain ⟨ia0, ib0, ic0, id0⟩ := comb_table.inn A6.out
   go_wp2_with (first | ((with_reducible refine gate_callee (f := 42) rfl ?_); refine goesL_ (some 16) rfl rfl Try.func42 (by kernel_rfl) rfl #[.int .i64 a0, .int .i64 a1] rfl (by (try simp only [List.map_toArray, List.map_cons, List.map_nil]); first | done | rfl | (simp only [List.length_drop, List.length_take]; rfl)) ?_; (with_reducible refine (comb_fair.calls a0 a1 true _ A4.out).mono ?_); rintro e w' ⟨rfl, ⟨nd, rfl⟩⟩; refine ⟨_, rfl, ?_⟩) | ((with_reducible refine gate_callee (f := 43) rfl ?_); refine goesL_ (some 18) rfl rfl Try.func43 (by kernel_rfl) rfl #[] rfl (by first | rfl | simp) ?_; (with_reducible refine (comb_table.made _).mono ?_); rintro e w5 ⟨rfl, hb5⟩; refine ⟨_, rfl, ?_⟩; have hst := run_storeCells_new (P := Try.prog) w5 56 Z (ABl (comb_table.T 16)) comb_table.size16 HZs.out (ABl_one _); have n1_ := zm (ze (zJ (by repeat (first | (with_reducible first | exact HB.out | apply ze | apply zd | apply zf) | exact HB.out)) hb5) (.cells (ABl (comb_table.T 16)) 56)); clear HB; have HB := n1_; clear n1_; have hbn := zm (blk_new w5 (.cells (ABl (comb_table.T 16)) 56)); have hcl0 := comb_table.look hbn.out A6.out))
   go_ret2
   exact ⟨_, by first | rfl | (simp [errW_none, errW_some] <;> rfl) | (simp [*, errW_none, errW_some] <;> rfl), by first | exact Kd.R_nil _ _ _ _ _ | exact Kd.N_nil _ _ _ _ _ | exact Kd.V_nil _ _ _ _ _ | exact Kd.Q_nil _ _ _ _ _ | exact Kd.S_nil _ _ _ _ _, by repeat (first | (with_reducible first | exact HB.out | apply ze | apply zd | apply zf) | exact HB.out)⟩
  ·
   rw [if_neg c7] at H
   have c7b0 : decide (t124 ≤ a2) = false := decide_eq_false c7
   clear c7
   have H' := zm H
   clear H
   go_enter Try.func25, Try.ntmps25
   obtain ⟨Z, hz, HZs⟩ := comb_table.zsize
   obtain ⟨ia0, ib0, ic0, id0⟩ := comb_table.inn A6.out
   go_wp2_with (first | ((with_reducible refine gate_callee (f := 42) rfl ?_); refine goesL_ (some 16) rfl rfl Try.func42 (by kernel_rfl) rfl #[.int .i64 a0, .int .i64 a1] rfl (by (try simp only [List.map_toArray, List.map_cons, List.map_nil]); first | done | rfl | (simp only [List.length_drop, List.length_take]; rfl)) ?_; (with_reducible refine (comb_fair.calls a0 a1 true _ A4.out).mono ?_); rintro e w' ⟨rfl, ⟨nd, rfl⟩⟩; refine ⟨_, rfl, ?_⟩) | ((with_reducible refine gate_callee (f := 43) rfl ?_); refine goesL_ (some 18) rfl rfl Try.func43 (by kernel_rfl) rfl #[] rfl (by first | rfl | simp) ?_; (with_reducible refine (comb_table.made _).mono ?_); rintro e w5 ⟨rfl, hb5⟩; refine ⟨_, rfl, ?_⟩; have hst := run_storeCells_new (P := Try.prog) w5 56 Z (ABl (comb_table.T 16)) comb_table.size16 HZs.out (ABl_one _); have n1_ := zm (ze (zJ (by repeat (first | (with_reducible first | exact HB.out | apply ze | apply zd | apply zf) | exact HB.out)) hb5) (.cells (ABl (comb_table.T 16)) 56)); clear HB; have HB := n1_; clear n1_; have hbn := zm (blk_new w5 (.cells (ABl (comb_table.T 16)) 56)); have hcl0 := comb_table.look hbn.out A6.out))
   have hb0 := HB.out
   obtain ⟨W0, hW0⟩ : ∃ W0, W0 = w5.alloc (.cells (ABl (comb_table.T 16)) 56) := ⟨_, rfl⟩
   rw [← hW0] at hb0 hbn
   rw [← hW0]
   clear hW0 HB hst hz HZs
   clear hcl0
   generalize w5.heap.size = B at hbn ⊢
   have HB := zm (Below.refl W0.heap.size W0)
   go_loopg [0, 1, 2, 9] k (fun kq v0 v1 v2 v9 w' => ∃ (x0_1 : Int) (x1_1 : Int) (x2_1 : Int) (x9_1 : List Int), v0 = .int .i64 x0_1 ∧ v1 = .int .i64 x1_1 ∧ v2 = .int .u64 x2_1 ∧ Aside0 (comb_Vector.l0 kq x0_1 x1_1 x2_1 x9_1 = some (r1, r2)) ∧ Aside0 (kq ≤ k) ∧ Aside0 (Kd.R (Kd.int .i64) 3 w' W0.heap.size (fun _ => True) v9 x9_1) ∧ Aside0 (Below W0.heap.size W0 w'))
   case atStart => exact ⟨(a0), (a1), (a2), (([] : List Int)), (by first | rfl | (simp; done) | (simp [*]; done)), (by first | rfl | (simp; done) | (simp [*]; done)), (by first | rfl | (simp; done) | (simp [*]; done)), H', ⟨Nat.le_refl _⟩, ⟨by first | exact Kd.R_nil _ _ _ _ _ | exact Kd.N_nil _ _ _ _ _ | exact Kd.V_nil _ _ _ _ _ | exact Kd.Q_nil _ _ _ _ _ | exact Kd.S_nil _ _ _ _ _⟩, ⟨by repeat (first | (with_reducible first | exact HB.out | apply ze | apply zd | apply zf) | exact HB.out)⟩⟩
   case round =>
    clear H'
    try clear c2
    try clear p2
    try clear c4
    try clear c5
    try clear c7
    try clear c7b0
    obtain ⟨x0_1, x1_1, x2_1, x9_1, rfl, rfl, rfl, HA, HK1, HO_9, HB⟩ := hrel
    cases gk with
    | zero => exact absurd HA.out (by simp [comb_Vector.l0])
    | succ k1 =>
     have H := HA.out
     clear HA
     simp only [comb_Vector.l0] at H
     by_cases c12 : x0_1 > 0
     ·
      rw [if_pos c12] at H
      have c12b0 : decide (0 < x0_1) = true := decide_eq_true c12
      clear c12
      replace H := Option.bind_eq_some_iff.mp H
      obtain ⟨t125, A130, H⟩ := H
      replace H : (if x2_1 ≥ t125 then ((comb_table.f (wrap64 (x0_1 - 1)) (wrap64 (x1_1 - 1))).bind fun t126 => (comb_Vector.l1 k1 x0_1 x1_1 (IntKind.u64.wrap (x2_1 - t125)) x9_1 1 t126)) else (if x9_1.length < 17592186044416 then (comb_Vector.l0 k1 (wrap64 (x0_1 - 1)) x1_1 x2_1 (x9_1 ++ [0])) else (none))) = some (r1, r2) := H
      have A13 := zm A130
      clear A130
      by_cases c14 : x2_1 ≥ t125
      ·
       rw [if_pos c14] at H
       have c14b0 : decide (t125 ≤ x2_1) = true := decide_eq_true c14
       clear c14
       replace H := Option.bind_eq_some_iff.mp H
       obtain ⟨t126, A150, H⟩ := H
       replace H : (comb_Vector.l1 k1 x0_1 x1_1 (IntKind.u64.wrap (x2_1 - t125)) x9_1 1 t126) = some (r1, r2) := H
       have A15 := zm A150
       clear A150
       have H' := zm H
       clear H
       obtain ⟨ia0, ib0, ic0, id0⟩ := comb_table.inn A13.out
       have hcl0 := (HB.out.cell (zb W0 _ (comb_table.look hbn.out A13.out))).trans (comb_table.look hbn.out A13.out)
       obtain ⟨ia1, ib1, ic1, id1⟩ := comb_table.inn A15.out
       have hcl1 := (HB.out.cell (zb W0 _ (comb_table.look hbn.out A15.out))).trans (comb_table.look hbn.out A15.out)
       go_wp2
       go_loopg [2, 10, 12] k1 (fun kq v2 v10 v12 w' => ∃ (x2_2 : Int) (x10_2 : Int) (x12_2 : Int), v2 = .int .u64 x2_2 ∧ v10 = .int .i64 x10_2 ∧ v12 = .int .u64 x12_2 ∧ Aside0 (comb_Vector.l1 kq x0_1 x1_1 x2_2 x9_1 x10_2 x12_2 = some (r1, r2)) ∧ Aside0 (kq ≤ k1) ∧ Aside0 (Kd.R (Kd.int .i64) 3 w' W0.heap.size (fun _ => True) u9 x9_1) ∧ Aside0 (Below W0.heap.size W0 w'))
       case atStart => exact ⟨(IntKind.u64.wrap (x2_1 - t125)), (1), (t126), (by first | rfl | (simp; done) | (simp [*]; done)), (by first | rfl | (simp; done) | (simp [*]; done)), (by first | rfl | (simp; done) | (simp [*]; done)), H', ⟨Nat.le_refl _⟩, ⟨by (with_reducible repeat (first | apply zo | apply zp | apply zq)); exact HO_9.out⟩, ⟨by repeat (first | (with_reducible first | exact HB.out | apply ze | apply zd | apply zf) | exact HB.out)⟩⟩
       case round =>
        clear H'
        try clear c1
        try clear c2
        try clear p2
        try clear c4
        try clear c5
        try clear p6
        try clear c7
        try clear c7b0
        try clear c12
        try clear c12b0
        try clear c14
        try clear c14b0
        try clear p2
        obtain ⟨x2_2, x10_2, x12_2, rfl, rfl, rfl, HA, HK2, HO_9, HB⟩ := hrel
        cases gk with
        | zero => exact absurd HA.out (by simp [comb_Vector.l1])
        | succ k2 =>
         have H := HA.out
         clear HA
         simp only [comb_Vector.l1] at H
         by_cases c16 : x2_2 ≥ (IntKind.u64.wrap (2 * x12_2))
         ·
          rw [if_pos c16] at H
          have c16b0 : decide ((IntKind.u64.wrap (2 * x12_2)) ≤ x2_2) = true := decide_eq_true c16
          clear c16
          replace H := Option.bind_eq_some_iff.mp H
          obtain ⟨t127, A170, H⟩ := H
          replace H : (comb_Vector.l1 k2 x0_1 x1_1 (IntKind.u64.wrap (x2_2 - (IntKind.u64.wrap (2 * x12_2)))) x9_1 (wrap64 (x10_2 + 1)) t127) = some (r1, r2) := H
          have A17 := zm A170
          clear A170
          have H' := zm H
          clear H
          obtain ⟨ia2, ib2, ic2, id2⟩ := comb_table.inn A17.out
          have hcl2 := (HB.out.cell (zb W0 _ (comb_table.look hbn.out A17.out))).trans (comb_table.look hbn.out A17.out)
          go_wp2
          go_roundg k2
          case measure => have := HK1.out; have := HK2.out; omega
          case rel => exact ⟨(IntKind.u64.wrap (x2_2 - (IntKind.u64.wrap (2 * x12_2)))), (wrap64 (x10_2 + 1)), (t127), (by first | rfl | (simp; done) | (simp [*]; done)), (by first | rfl | (simp; done) | (simp [*]; done)), (by first | rfl | (simp; done) | (simp [*]; done)), H', ⟨by have := HK1.out; have := HK2.out; omega⟩, ⟨by (with_reducible repeat (first | apply zo | apply zp | apply zq)); exact HO_9.out⟩, ⟨by repeat (first | (with_reducible first | exact HB.out | apply ze | apply zd | apply zf) | exact HB.out)⟩⟩
         ·
          rw [if_neg c16] at H
          have c16b0 : decide ((IntKind.u64.wrap (2 * x12_2)) ≤ x2_2) = false := decide_eq_false c16
          clear c16
          replace H := Option.bind_eq_some_iff.mp H
          obtain ⟨t128, A180, H⟩ := H
          replace H : (if x2_2 ≥ t128 then (if x9_1.length < 17592186044416 then (comb_Vector.l0 k2 (wrap64 (x0_1 - 1)) (wrap64 (x1_1 - x10_2)) (IntKind.u64.wrap (x2_2 - t128)) (x9_1 ++ [wrap64 (-x10_2)])) else (none)) else (if x9_1.length < 17592186044416 then (comb_Vector.l0 k2 (wrap64 (x0_1 - 1)) (wrap64 (x1_1 - x10_2)) x2_2 (x9_1 ++ [x10_2])) else (none))) = some (r1, r2) := H
          have A18 := zm A180
          clear A180
          by_cases c19 : x2_2 ≥ t128
          ·
           rw [if_pos c19] at H
           have c19b0 : decide (t128 ≤ x2_2) = true := decide_eq_true c19
           clear c19
           by_cases c20 : x9_1.length < 17592186044416
           ·
            rw [if_pos c20] at H
            have LMc20 := zm c20
            clear c20
            obtain ⟨y129, hy129⟩ : ∃ y_ : List Int, y_ = (x9_1 ++ [wrap64 (-x10_2)]) := ⟨_, rfl⟩
            replace H : (comb_Vector.l0 k2 (wrap64 (x0_1 - 1)) (wrap64 (x1_1 - x10_2)) (IntKind.u64.wrap (x2_2 - t128)) y129) = some (r1, r2) := by first | (rw [hy129]; with_reducible exact H) | (have H2_ := (Option.bind_some _ _).symm.trans H; rw [hy129]; with_reducible exact H2_) | (have H2_ := (Option.bind_some _ _).symm.trans H; with_reducible exact H2_) | with_reducible exact H | (rw [hy129]; exact H) | exact H
            have Ny129 := zm hy129
            clear hy129
            have H' := zm H
            clear H
            obtain ⟨ia3, ib3, ic3, id3⟩ := comb_table.inn A18.out
            have hcl3 := (HB.out.cell (zb W0 _ (comb_table.look hbn.out A18.out))).trans (comb_table.look hbn.out A18.out)
            go_wp2_with (first | ((with_reducible refine gate_builtin (b := .append) (xs := #[.tmp 85, .tmp 87]) rfl ?_); at_builtin; refine Kd.R_append (Kd.int .i64) (w0 := W0) W0.heap.size rfl (.tmp 85) (.tmp 87) 32 3 (.int .i64 0) 8 rfl Try.underlying32 info3 rfl (by decide) (by omega) u9 x9_1 (wrap64 (-x10_2)) [.int .i64 (wrap64 (-x10_2))] (fun _ => True) (fun _ => False) rfl rfl ?aP (fun _ hk => hk.elim) ?aF ?aO ?aB ?aS ?aL ?_; (case aP => exact rfl); (case aB => exact (by repeat (first | (with_reducible first | exact HB.out | apply ze | apply zd | apply zf) | exact HB.out))); (case aF => exact (fun _ _ => trivial)); (case aO => exact (by (with_reducible repeat (first | apply zo | apply zp | apply zq)); exact HO_9.out)); (case aS => exact (zE (by repeat (first | (with_reducible first | exact HB.out | apply ze | apply zd | apply zf) | exact HB.out)))); (case aL => have := LMc20.out; omega); intro v130 w21 ho hb hg hat; rw [← Ny129.out] at ho; have n0_ := zm (hb); have n1_ := zm (ho); clear HB; clear HO_9; have HB := n0_; have HO131 := n1_; clear n0_ n1_; clear ho hb hg hat))
            go_roundg k2
            case measure => have := HK1.out; have := HK2.out; omega
            case rel => exact ⟨(wrap64 (x0_1 - 1)), (wrap64 (x1_1 - x10_2)), (IntKind.u64.wrap (x2_2 - t128)), (y129), (by first | rfl | (simp; done) | (simp [*]; done)), (by first | rfl | (simp; done) | (simp [*]; done)), (by first | rfl | (simp; done) | (simp [*]; done)), H', ⟨by have := HK1.out; have := HK2.out; omega⟩, ⟨by (with_reducible repeat (first | apply zo | apply zp | apply zq)); exact HO131.out⟩, ⟨by repeat (first | (with_reducible first | exact HB.out | apply ze | apply zd | apply zf) | exact HB.out)⟩⟩
           ·
            rw [if_neg c20] at H
            exact absurd H (by simp)
          ·
           rw [if_neg c19] at H
           have c19b0 : decide (t128 ≤ x2_2) = false := decide_eq_false c19
           clear c19
           by_cases c22 : x9_1.length < 17592186044416
           ·
            rw [if_pos c22] at H
            have LMc22 := zm c22
            clear c22
            obtain ⟨y132, hy132⟩ : ∃ y_ : List Int, y_ = (x9_1 ++ [x10_2]) := ⟨_, rfl⟩
            replace H : (comb_Vector.l0 k2 (wrap64 (x0_1 - 1)) (wrap64 (x1_1 - x10_2)) x2_2 y132) = some (r1, r2) := by first | (rw [hy132]; with_reducible exact H) | (have H2_ := (Option.bind_some _ _).symm.trans H; rw [hy132]; with_reducible exact H2_) | (have H2_ := (Option.bind_some _ _).symm.trans H; with_reducible exact H2_) | with_reducible exact H | (rw [hy132]; exact H) | exact H
            have Ny132 := zm hy132
            clear hy132
            have H' := zm H
            clear H
            obtain ⟨ia4, ib4, ic4, id4⟩ := comb_table.inn A18.out
            have hcl4 := (HB.out.cell (zb W0 _ (comb_table.look hbn.out A18.out))).trans (comb_table.look hbn.out A18.out)
            go_wp2_with (first | ((with_reducible refine gate_builtin (b := .append) (xs := #[.tmp 85, .tmp 87]) rfl ?_); at_builtin; refine Kd.R_append (Kd.int .i64) (w0 := W0) W0.heap.size rfl (.tmp 85) (.tmp 87) 32 3 (.int .i64 0) 8 rfl Try.underlying32 info3 rfl (by decide) (by omega) u9 x9_1 x10_2 [.int .i64 x10_2] (fun _ => True) (fun _ => False) rfl rfl ?aP (fun _ hk => hk.elim) ?aF ?aO ?aB ?aS ?aL ?_; (case aP => exact rfl); (case aB => exact (by repeat (first | (with_reducible first | exact HB.out | apply ze | apply zd | apply zf) | exact HB.out))); (case aF => exact (fun _ _ => trivial)); (case aO => exact (by (with_reducible repeat (first | apply zo | apply zp | apply zq)); exact HO_9.out)); (case aS => exact (zE (by repeat (first | (with_reducible first | exact HB.out | apply ze | apply zd | apply zf) | exact HB.out)))); (case aL => have := LMc22.out; omega); intro v133 w23 ho hb hg hat; rw [← Ny132.out] at ho; have n0_ := zm (hb); have n1_ := zm (ho); clear HB; clear HO_9; have HB := n0_; have HO134 := n1_; clear n0_ n1_; clear ho hb hg hat))
            go_roundg k2
            case measure => have := HK1.out; have := HK2.out; omega
            case rel => exact ⟨(wrap64 (x0_1 - 1)), (wrap64 (x1_1 - x10_2)), (x2_2), (y132), (by first | rfl | (simp; done) | (simp [*]; done)), (by first | rfl | (simp; done) | (simp [*]; done)), (by first | rfl | (simp; done) | (simp [*]; done)), H', ⟨by have := HK1.out; have := HK2.out; omega⟩, ⟨by (with_reducible repeat (first | apply zo | apply zp | apply zq)); exact HO134.out⟩, ⟨by repeat (first | (with_reducible first | exact HB.out | apply ze | apply zd | apply zf) | exact HB.out)⟩⟩
           ·
            rw [if_neg c22] at H
            exact absurd H (by simp)
      ·
       rw [if_neg c14] at H
       have c14b0 : decide (t125 ≤ x2_1) = false := decide_eq_false c14
       clear c14
       by_cases c24 : x9_1.length < 17592186044416
       ·
        rw [if_pos c24] at H
        have LMc24 := zm c24
        clear c24
        obtain ⟨y135, hy135⟩ : ∃ y_ : List Int, y_ = (x9_1 ++ [0]) := ⟨_, rfl⟩
        replace H : (comb_Vector.l0 k1 (wrap64 (x0_1 - 1)) x1_1 x2_1 y135) = some (r1, r2) := by first | (rw [hy135]; with_reducible exact H) | (have H2_ := (Option.bind_some _ _).symm.trans H; rw [hy135]; with_reducible exact H2_) | (have H2_ := (Option.bind_some _ _).symm.trans H; with_reducible exact H2_) | with_reducible exact H | (rw [hy135]; exact H) | exact H
        have Ny135 := zm hy135
        clear hy135
        have H' := zm H
        clear H
        obtain ⟨ia5, ib5, ic5, id5⟩ := comb_table.inn A13.out
        have hcl5 := (HB.out.cell (zb W0 _ (comb_table.look hbn.out A13.out))).trans (comb_table.look hbn.out A13.out)
        go_wp2_with (first | ((with_reducible refine gate_builtin (b := .append) (xs := #[.tmp 85, .tmp 87]) rfl ?_); at_builtin; refine Kd.R_append (Kd.int .i64) (w0 := W0) W0.heap.size rfl (.tmp 85) (.tmp 87) 32 3 (.int .i64 0) 8 rfl Try.underlying32 info3 rfl (by decide) (by omega) u9 x9_1 0 [.int .i64 0] (fun _ => True) (fun _ => False) rfl rfl ?aP (fun _ hk => hk.elim) ?aF ?aO ?aB ?aS ?aL ?_; (case aP => exact rfl); (case aB => exact (by repeat (first | (with_reducible first | exact HB.out | apply ze | apply zd | apply zf) | exact HB.out))); (case aF => exact (fun _ _ => trivial)); (case aO => exact (by (with_reducible repeat (first | apply zo | apply zp | apply zq)); exact HO_9.out)); (case aS => exact (zE (by repeat (first | (with_reducible first | exact HB.out | apply ze | apply zd | apply zf) | exact HB.out)))); (case aL => have := LMc24.out; omega); intro v136 w25 ho hb hg hat; rw [← Ny135.out] at ho; have n0_ := zm (hb); have n1_ := zm (ho); clear HB; clear HO_9; have HB := n0_; have HO137 := n1_; clear n0_ n1_; clear ho hb hg hat))
        go_roundg k1
        case measure => have := HK1.out; omega
        case rel => exact ⟨(wrap64 (x0_1 - 1)), (x1_1), (x2_1), (y135), (by first | rfl | (simp; done) | (simp [*]; done)), (by first | rfl | (simp; done) | (simp [*]; done)), (by first | rfl | (simp; done) | (simp [*]; done)), H', ⟨by have := HK1.out; omega⟩, ⟨by (with_reducible repeat (first | apply zo | apply zp | apply zq)); exact HO137.out⟩, ⟨by repeat (first | (with_reducible first | exact HB.out | apply ze | apply zd | apply zf) | exact HB.out)⟩⟩
       ·
        rw [if_neg c24] at H
        exact absurd H (by simp)
     ·
      rw [if_neg c12] at H
      have c12b0 : decide (0 < x0_1) = false := decide_eq_false c12
      clear c12
      simp only [Option.some.injEq, Prod.mk.injEq] at H
      obtain ⟨rfl, rfl⟩ := H
      go_wp2
      go_ret2
      exact ⟨_, by first | rfl | (simp [errW_none, errW_some] <;> rfl) | (simp [*, errW_none, errW_some] <;> rfl), Kd.R_lower (by (with_reducible repeat (first | apply zo | apply zp | apply zq)); exact HO_9.out) (zE hb0), zJ hb0 (by repeat (first | (with_reducible first | exact HB.out | apply ze | apply zd | apply zf) | exact HB.out))⟩
 ·
  replace c5 := Bool.eq_false_iff.mpr c5
  subst c5
  have H1 : (some (([] : List Int), 1)) = some (r1, r2) := by rw [if_neg (show ¬ (false = true) by decide)] at H; exact H
  clear H
  have H := H1
  clear H1
  simp only [Option.some.injEq, Prod.mk.injEq] at H
  obtain ⟨rfl, rfl⟩ := H
  go_enter Try.func25, Try.ntmps25
  go_wp2_with (first | ((with_reducible refine gate_callee (f := 42) rfl ?_); refine goesL_ (some 16) rfl rfl Try.func42 (by kernel_rfl) rfl #[.int .i64 a0, .int .i64 a1] rfl (by (try simp only [List.map_toArray, List.map_cons, List.map_nil]); first | done | rfl | (simp only [List.length_drop, List.length_take]; rfl)) ?_; (with_reducible refine (comb_fair.calls a0 a1 false _ A4.out).mono ?_); rintro e w' ⟨rfl, ⟨nd, rfl⟩⟩; refine ⟨_, rfl, ?_⟩))
  go_ret2
  exact ⟨_, by first | rfl | (simp [errW_none, errW_some] <;> rfl) | (simp [*, errW_none, errW_some] <;> rfl), by first | exact Kd.R_nil _ _ _ _ _ | exact Kd.N_nil _ _ _ _ _ | exact Kd.V_nil _ _ _ _ _ | exact Kd.Q_nil _ _ _ _ _ | exact Kd.S_nil _ _ _ _ _, by repeat (first | (with_reducible first | exact HB.out | apply ze | apply zd | apply zf) | exact HB.out)⟩

end Go.Proofs.Ytgjdgpkjdffhkaa.Prt

namespace Go.Proofs.Ytgjdgpkjdffhkaa.Prt
open Go.RowKit Go.Proofs.YtgjdgpkjdffhkaaW.PrintWords Go.Proofs.YtgjdgpkjdffhkaaW.PrintLast Go.Proofs.YtgjdgpkjdffhkaaW.PrintMore
attribute [local go_sem] max2_int min2_int max_two min_two max_three min_three max_four min_four   -- for this text's walks alone
set_option linter.unusedVariables false
set_option linter.unusedSimpArgs false

/-! ### comb_Count: function 16 -/
def comb_Count.f (a0 : Int) (a1 : Int) : Option (Int × Int) := (comb_fair.f a0 a1).bind fun t101 => (if t101 = true then ((comb_table.f a0 a1).bind fun t105 => (some (t105, 0))) else (some (0, 1)))
set_option maxHeartbeats 8000000 in
set_option maxRecDepth 100000 in
theorem comb_Count.calls (a0 : Int) (a1 : Int) (r1 : Int) (r2 : Int) (w : World) (h : comb_Count.f a0 a1 = some (r1, r2)) :
  Calls Try.prog 16 #[.int .i64 a0, .int .i64 a1] w fun e w' => e = .returned (.tuple #[.int .u64 r1, .int .i64 r2]) ∧ Below w.heap.size w w' := by
 have HB := zm (Below.refl w.heap.size w)
 have H : ((comb_fair.f a0 a1).bind fun t101 => (if t101 = true then ((comb_table.f a0 a1).bind fun t105 => (some (t105, 0))) else (some (0, 1)))) = some (r1, r2) := h
 clear h
 replace H := Option.bind_eq_some_iff.mp H
 obtain ⟨t101, A30, H⟩ := H
 replace H : (if t101 = true then ((comb_table.f a0 a1).bind fun t105 => (some (t105, 0))) else (some (0, 1))) = some (r1, r2) := H
 have A3 := zm A30
 clear A30
 by_cases c4 : t101 = true
 ·
  subst c4
  have H1 : ((comb_table.f a0 a1).bind fun t105 => (some (t105, 0))) = some (r1, r2) := by rw [if_pos rfl] at H; exact H
  clear H
  have H := H1
  clear H1
  obtain ⟨y102, hy102⟩ : ∃ y_ : List Int, y_ = (([0] : List Int)) := ⟨_, rfl⟩
  replace H : ((comb_table.f a0 a1).bind fun t105 => (some (t105, 0))) = some (r1, r2) := by first | (rw [hy102]; with_reducible exact H) | (have H2_ := (Option.bind_some _ _).symm.trans H; rw [hy102]; with_reducible exact H2_) | (have H2_ := (Option.bind_some _ _).symm.trans H; with_reducible exact H2_) | with_reducible exact H | (rw [hy102]; exact H) | exact H
  have Ny102 := zm hy102
  clear hy102
  replace H := Option.bind_eq_some_iff.mp H
  obtain ⟨t105, A50, H⟩ := H
  replace H : (some (t105, 0)) = some (r1, r2) := H
  have A5 := zm A50
  clear A50
  simp only [Option.some.injEq, Prod.mk.injEq] at H
  obtain ⟨rfl, rfl⟩ := H
  go_enter Try.func16, Try.ntmps16
  obtain ⟨Z, hz, HZs⟩ := comb_table.zsize
  obtain ⟨ia0, ib0, ic0, id0⟩ := comb_table.inn A5.out
  go_wp2_with (first | ((with_reducible refine gate_callee (f := 42) rfl ?_); refine goesL_ (some 9) rfl rfl Try.func42 (by kernel_rfl) rfl #[.int .i64 a0, .int .i64 a1] rfl (by (try simp only [List.map_toArray, List.map_cons, List.map_nil]); first | done | rfl | (simp only [List.length_drop, List.length_take]; rfl)) ?_; (with_reducible refine (comb_fair.calls a0 a1 true _ A3.out).mono ?_); rintro e w' ⟨rfl, ⟨nd, rfl⟩⟩; refine ⟨_, rfl, ?_⟩) | ((with_reducible refine gate_callee (f := 43) rfl ?_); refine goesL_ (some 11) rfl rfl Try.func43 (by kernel_rfl) rfl #[] rfl (by first | rfl | simp) ?_; (with_reducible refine (comb_table.made _).mono ?_); rintro e w5 ⟨rfl, hb5⟩; refine ⟨_, rfl, ?_⟩; have hst := run_storeCells_new (P := Try.prog) w5 56 Z (ABl (comb_table.T 16)) comb_table.size16 HZs.out (ABl_one _); have n1_ := zm (ze (zJ (by repeat (first | (with_reducible first | exact HB.out | apply ze | apply zd | apply zf) | exact HB.out)) hb5) (.cells (ABl (comb_table.T 16)) 56)); clear HB; have HB := n1_; clear n1_; have hbn := zm (blk_new w5 (.cells (ABl (comb_table.T 16)) 56)); have hcl0 := comb_table.look hbn.out A5.out))
  go_ret2
  exact ⟨by first | rfl | (simp [errW_none, errW_some] <;> rfl) | (simp [*, errW_none, errW_some] <;> rfl), by repeat (first | (with_reducible first | exact HB.out | apply ze | apply zd | apply zf) | exact HB.out)⟩
 ·
  replace c4 := Bool.eq_false_iff.mpr c4
  subst c4
  have H1 : (some (0, 1)) = some (r1, r2) := by rw [if_neg (show ¬ (false = true) by decide)] at H; exact H
  clear H
  have H := H1
  clear H1
  simp only [Option.some.injEq, Prod.mk.injEq] at H
  obtain ⟨rfl, rfl⟩ := H
  go_enter Try.func16, Try.ntmps16
  go_wp2_with (first | ((with_reducible refine gate_callee (f := 42) rfl ?_); refine goesL_ (some 9) rfl rfl Try.func42 (by kernel_rfl) rfl #[.int .i64 a0, .int .i64 a1] rfl (by (try simp only [List.map_toArray, List.map_cons, List.map_nil]); first | done | rfl | (simp only [List.length_drop, List.length_take]; rfl)) ?_; (with_reducible refine (comb_fair.calls a0 a1 false _ A3.out).mono ?_); rintro e w' ⟨rfl, ⟨nd, rfl⟩⟩; refine ⟨_, rfl, ?_⟩))
  go_ret2
  exact ⟨by first | rfl | (simp [errW_none, errW_some] <;> rfl) | (simp [*, errW_none, errW_some] <;> rfl), by repeat (first | (with_reducible first | exact HB.out | apply ze | apply zd | apply zf) | exact HB.out)⟩

end Go.Proofs.Ytgjdgpkjdffhkaa.Prt

namespace Go.Proofs.Ytgjdgpkjdffhkaa.Prt
open Go.RowKit Go.Proofs.YtgjdgpkjdffhkaaW.PrintWords Go.Proofs.YtgjdgpkjdffhkaaW.PrintLast Go.Proofs.YtgjdgpkjdffhkaaW.PrintMore
attribute [local go_sem] max2_int min2_int max_two min_two max_three min_three max_four min_four   -- for this text's walks alone
set_option linter.unusedVariables false
set_option linter.unusedSimpArgs false

/-! ### comb_width: function 44 -/
def comb_width.l0 : Nat → Int → Int → Option (Int)
 | 0, _, _ => none
 | k + 1, x0, x3 => if x0 > 0 then (comb_width.l0 k (x0 / 2) (wrap64 (x3 + 1))) else (some x3)
def comb_width.f (k : Nat) (a0 : Int) : Option (Int) := comb_width.l0 k a0 0
theorem comb_width.mono_l : ∀ k, (∀ y0 y1, LeO (comb_width.l0 k y0 y1) (comb_width.l0 (k + 1) y0 y1))
 | 0 => fun _ _ r h => by simp [comb_width.l0] at h
 | k + 1 => by
  have ih0 := comb_width.mono_l k
  ·
   intro y0 y1
   unfold comb_width.l0
   repeat' first
   | (with_reducible exact ih0 _ _)
   | (with_reducible exact LeO.refl _)
   | (with_reducible exact LeO.none _)
   | (with_reducible refine LeO.ite ?_ ?_)
   | (with_reducible refine LeO.bind ?_ (fun _ => ?_))
   | exact ih0 _ _
   | exact LeO.none _
   | refine LeO.ite ?_ ?_
   | refine LeO.bind ?_ (fun _ => ?_)
theorem comb_width.mono : ∀ a0 k, LeO (comb_width.f k a0) (comb_width.f (k + 1) a0) := by
 intro a0 k
 have ih0 := comb_width.mono_l k
 unfold comb_width.f
 repeat' first
   | (with_reducible exact ih0 _ _)
   | (with_reducible exact LeO.refl _)
   | (with_reducible exact LeO.none _)
   | (with_reducible refine LeO.ite ?_ ?_)
   | (with_reducible refine LeO.bind ?_ (fun _ => ?_))
   | exact ih0 _ _
   | exact LeO.none _
   | refine LeO.ite ?_ ?_
   | refine LeO.bind ?_ (fun _ => ?_)
set_option maxHeartbeats 8000000 in
set_option maxRecDepth 100000 in
theorem comb_width.calls (k : Nat) (a0 : Int) (r : Int) (w : World) (h : comb_width.f k a0 = some r) :
  Calls Try.prog 44 #[.int .u64 a0] w fun e w' => e = .returned (.int .i64 r) ∧ Drawn0 w w' := by
 have H : (comb_width.l0 k a0 0) = some r := h
 clear h
 have H' := zm H
 clear H
 go_enter Try.func44, Try.ntmps44
 go_wp2
 go_loopg [0, 3] k (fun kq v0 v3 w' => ∃ (x0_1 : Int) (x3_1 : Int), v0 = .int .u64 x0_1 ∧ v3 = .int .i64 x3_1 ∧ Aside0 (comb_width.l0 kq x0_1 x3_1 = some r) ∧ Aside0 (kq ≤ k) ∧ Drawn0 w w')
 case atStart => exact ⟨(a0), (0), (by first | rfl | (simp; done) | (simp [*]; done)), (by first | rfl | (simp; done) | (simp [*]; done)), H', ⟨Nat.le_refl _⟩, by repeat (first | exact Drawn0.refl _ | apply Drawn0.step)⟩
 case round =>
  clear H'
  obtain ⟨x0_1, x3_1, rfl, rfl, HA, HK1, ⟨m1, rfl⟩⟩ := hrel
  cases gk with
  | zero => exact absurd HA.out (by simp [comb_width.l0])
  | succ k1 =>
   have H := HA.out
   clear HA
   simp only [comb_width.l0] at H
   by_cases c2 : x0_1 > 0
   ·
    rw [if_pos c2] at H
    have c2b0 : decide (0 < x0_1) = true := decide_eq_true c2
    clear c2
    have H' := zm H
    clear H
    go_wp2
    go_roundg k1
    case measure => have := HK1.out; omega
    case rel => exact ⟨(x0_1 / 2), (wrap64 (x3_1 + 1)), (by first | rfl | (simp; done) | (simp [*]; done)), (by first | rfl | (simp; done) | (simp [*]; done)), H', ⟨by have := HK1.out; omega⟩, by repeat (first | exact Drawn0.refl _ | apply Drawn0.step)⟩
   ·
    rw [if_neg c2] at H
    have c2b0 : decide (0 < x0_1) = false := decide_eq_false c2
    clear c2
    obtain rfl := Option.some.inj H
    go_wp2
    go_ret
    exact ⟨by first | rfl | (simp; done) | (simp [*]; done), by repeat (first | exact Drawn0.refl _ | apply Drawn0.step)⟩

end Go.Proofs.Ytgjdgpkjdffhkaa.Prt

namespace Go.Proofs.Ytgjdgpkjdffhkaa.Prt
open Go.RowKit Go.Proofs.YtgjdgpkjdffhkaaW.PrintWords Go.Proofs.YtgjdgpkjdffhkaaW.PrintLast Go.Proofs.YtgjdgpkjdffhkaaW.PrintMore
attribute [local go_sem] max2_int min2_int max_two min_two max_three min_three max_four min_four   -- for this text's walks alone
set_option linter.unusedVariables false
set_option linter.unusedSimpArgs false

/-! ### comb_Cost: function 17 -/
def comb_Cost.f (k : Nat) (a0 : Int) (a1 : Int) : Option (Int × Int) := (comb_Count.f a0 a1).bind fun bt106 => (if bt106.2 = 0 then (if (IntKind.u64.wrap (bt106.1 - 1)) < 65536 then ((comb_width.f k (IntKind.u64.wrap (bt106.1 - 1))).bind fun t108 => (some (t108, 0))) else ((comb_width.f k ((IntKind.u64.wrap (bt106.1 - 1)) / 65536)).bind fun t109 => (some (wrap64 (t109 + 16), 0)))) else (some (0, bt106.2)))
theorem comb_Cost.mono : ∀ a0 a1 k, LeO (comb_Cost.f k a0 a1) (comb_Cost.f (k + 1) a0 a1) := by
 intro a0 a1 k
 unfold comb_Cost.f
 repeat' first
   | (with_reducible exact comb_width.mono _ _)
   | (with_reducible exact LeO.refl _)
   | (with_reducible exact LeO.none _)
   | (with_reducible refine LeO.ite ?_ ?_)
   | (with_reducible refine LeO.bind ?_ (fun _ => ?_))
   | exact comb_width.mono _ _
   | exact LeO.none _
   | refine LeO.ite ?_ ?_
   | refine LeO.bind ?_ (fun _ => ?_)
set_option maxHeartbeats 8000000 in
set_option maxRecDepth 100000 in
theorem comb_Cost.calls (k : Nat) (a0 : Int) (a1 : Int) (r1 : Int) (r2 : Int) (w : World) (h : comb_Cost.f k a0 a1 = some (r1, r2)) :
  Calls Try.prog 17 #[.int .i64 a0, .int .i64 a1] w fun e w' => e = .returned (.tuple #[.int .i64 r1, .int .i64 r2]) ∧ Below w.heap.size w w' := by
 have HB := zm (Below.refl w.heap.size w)
 have H : ((comb_Count.f a0 a1).bind fun bt106 => (if bt106.2 = 0 then (if (IntKind.u64.wrap (bt106.1 - 1)) < 65536 then ((comb_width.f k (IntKind.u64.wrap (bt106.1 - 1))).bind fun t108 => (some (t108, 0))) else ((comb_width.f k ((IntKind.u64.wrap (bt106.1 - 1)) / 65536)).bind fun t109 => (some (wrap64 (t109 + 16), 0)))) else (some (0, bt106.2)))) = some (r1, r2) := h
 clear h
 replace H := Option.bind_eq_some_iff.mp H
 obtain ⟨⟨t106, t107⟩, A30, H⟩ := H
 replace H : (if t107 = 0 then (if (IntKind.u64.wrap (t106 - 1)) < 65536 then ((comb_width.f k (IntKind.u64.wrap (t106 - 1))).bind fun t108 => (some (t108, 0))) else ((comb_width.f k ((IntKind.u64.wrap (t106 - 1)) / 65536)).bind fun t109 => (some (wrap64 (t109 + 16), 0)))) else (some (0, t107))) = some (r1, r2) := H
 have A3 := zm A30
 clear A30
 by_cases c4 : t107 = 0
 ·
  rw [if_pos c4] at H
  have c4b0 : (t107 == 0) = true := beq_iff_eq.mpr c4
  have c4b1 : (t107 != 0) = false := bne_eq_false_iff_eq.mpr c4
  clear c4
  by_cases c5 : (IntKind.u64.wrap (t106 - 1)) < 65536
  ·
   rw [if_pos c5] at H
   have c5b0 : decide ((IntKind.u64.wrap (t106 - 1)) < 65536) = true := decide_eq_true c5
   clear c5
   replace H := Option.bind_eq_some_iff.mp H
   obtain ⟨t108, A60, H⟩ := H
   replace H : (some (t108, 0)) = some (r1, r2) := H
   have A6 := zm A60
   clear A60
   simp only [Option.some.injEq, Prod.mk.injEq] at H
   obtain ⟨rfl, rfl⟩ := H
   go_enter Try.func17, Try.ntmps17
   go_wp2_with (first | ((with_reducible refine gate_callee (f := 16) rfl ?_); refine goesL_ (some 11) rfl rfl Try.func16 (by kernel_rfl) rfl #[.int .i64 a0, .int .i64 a1] rfl (by (try simp only [List.map_toArray, List.map_cons, List.map_nil]); first | done | rfl | (simp only [List.length_drop, List.length_take]; rfl)) ?_; (with_reducible refine (comb_Count.calls a0 a1 t106 t107 _ A3.out).mono ?_); rintro e w7 ⟨rfl, hb⟩; refine ⟨_, rfl, ?_⟩; have n0_ := zm (zJ (by repeat (first | (with_reducible first | exact HB.out | apply ze | apply zd | apply zf) | exact HB.out)) hb); clear HB; have HB := n0_; clear n0_; (try clear hb); (try clear hb2); (try clear hk); (try clear hi)) | ((with_reducible refine gate_callee (f := 44) rfl ?_); refine goesL_ (some 22) rfl rfl Try.func44 (by kernel_rfl) rfl #[.int .u64 (IntKind.u64.wrap (t106 - 1))] rfl (by (try simp only [List.map_toArray, List.map_cons, List.map_nil]); first | done | rfl | (simp only [List.length_drop, List.length_take]; rfl)) ?_; (with_reducible refine (comb_width.calls k (IntKind.u64.wrap (t106 - 1)) t108 _ A6.out).mono ?_); rintro e w' ⟨rfl, ⟨nd, rfl⟩⟩; refine ⟨_, rfl, ?_⟩))
   go_ret2
   exact ⟨by first | rfl | (simp [errW_none, errW_some] <;> rfl) | (simp [*, errW_none, errW_some] <;> rfl), by repeat (first | (with_reducible first | exact HB.out | apply ze | apply zd | apply zf) | exact HB.out)⟩
  ·
   rw [if_neg c5] at H
   have c5b0 : decide ((IntKind.u64.wrap (t106 - 1)) < 65536) = false := decide_eq_false c5
   clear c5
   replace H := Option.bind_eq_some_iff.mp H
   obtain ⟨t109, A80, H⟩ := H
   replace H : (some (wrap64 (t109 + 16), 0)) = some (r1, r2) := H
   have A8 := zm A80
   clear A80
   simp only [Option.some.injEq, Prod.mk.injEq] at H
   obtain ⟨rfl, rfl⟩ := H
   go_enter Try.func17, Try.ntmps17
   go_wp2_with (first | ((with_reducible refine gate_callee (f := 16) rfl ?_); refine goesL_ (some 11) rfl rfl Try.func16 (by kernel_rfl) rfl #[.int .i64 a0, .int .i64 a1] rfl (by (try simp only [List.map_toArray, List.map_cons, List.map_nil]); first | done | rfl | (simp only [List.length_drop, List.length_take]; rfl)) ?_; (with_reducible refine (comb_Count.calls a0 a1 t106 t107 _ A3.out).mono ?_); rintro e w9 ⟨rfl, hb⟩; refine ⟨_, rfl, ?_⟩; have n0_ := zm (zJ (by repeat (first | (with_reducible first | exact HB.out | apply ze | apply zd | apply zf) | exact HB.out)) hb); clear HB; have HB := n0_; clear n0_; (try clear hb); (try clear hb2); (try clear hk); (try clear hi)) | ((with_reducible refine gate_callee (f := 44) rfl ?_); refine goesL_ (some 25) rfl rfl Try.func44 (by kernel_rfl) rfl #[.int .u64 ((IntKind.u64.wrap (t106 - 1)) / 65536)] rfl (by (try simp only [List.map_toArray, List.map_cons, List.map_nil]); first | done | rfl | (simp only [List.length_drop, List.length_take]; rfl)) ?_; (with_reducible refine (comb_width.calls k ((IntKind.u64.wrap (t106 - 1)) / 65536) t109 _ A8.out).mono ?_); rintro e w' ⟨rfl, ⟨nd, rfl⟩⟩; refine ⟨_, rfl, ?_⟩))
   go_ret2
   exact ⟨by first | rfl | (simp [errW_none, errW_some] <;> rfl) | (simp [*, errW_none, errW_some] <;> rfl), by repeat (first | (with_reducible first | exact HB.out | apply ze | apply zd | apply zf) | exact HB.out)⟩
 ·
  rw [if_neg c4] at H
  have c4b0 : (t107 == 0) = false := beq_eq_false_iff_ne.mpr c4
  have c4b1 : (t107 != 0) = true := bne_iff_ne.mpr c4
  simp only [Option.some.injEq, Prod.mk.injEq] at H
  obtain ⟨rfl, rfl⟩ := H
  go_enter Try.func17, Try.ntmps17
  go_wp2_with (first | ((with_reducible refine gate_callee (f := 16) rfl ?_); refine goesL_ (some 11) rfl rfl Try.func16 (by kernel_rfl) rfl #[.int .i64 a0, .int .i64 a1] rfl (by (try simp only [List.map_toArray, List.map_cons, List.map_nil]); first | done | rfl | (simp only [List.length_drop, List.length_take]; rfl)) ?_; (with_reducible refine (comb_Count.calls a0 a1 t106 t107 _ A3.out).mono ?_); rintro e w10 ⟨rfl, hb⟩; refine ⟨_, rfl, ?_⟩; have n0_ := zm (zJ (by repeat (first | (with_reducible first | exact HB.out | apply ze | apply zd | apply zf) | exact HB.out)) hb); clear HB; have HB := n0_; clear n0_; (try clear hb); (try clear hb2); (try clear hk); (try clear hi)))
  go_ret2
  exact ⟨by first | rfl | (simp [errW_none, errW_some] <;> rfl) | (simp [*, errW_none, errW_some] <;> rfl), by repeat (first | (with_reducible first | exact HB.out | apply ze | apply zd | apply zf) | exact HB.out)⟩

end Go.Proofs.Ytgjdgpkjdffhkaa.Prt

namespace Go.Proofs.Ytgjdgpkjdffhkaa.Prt
open Go.RowKit Go.Proofs.YtgjdgpkjdffhkaaW.PrintWords Go.Proofs.YtgjdgpkjdffhkaaW.PrintLast Go.Proofs.YtgjdgpkjdffhkaaW.PrintMore
attribute [local go_sem] max2_int min2_int max_two min_two max_three min_three max_four min_four   -- for this text's walks alone
set_option linter.unusedVariables false
set_option linter.unusedSimpArgs false

/-! ### comb_size: function 47 -/
def comb_size.f (a0 : Int) : Option (Int) := if a0 < (-12) then (some 13) else (if a0 > 12 then (some 13) else (some (mx a0 (wrap64 (-a0)))))
set_option maxHeartbeats 8000000 in
set_option maxRecDepth 100000 in
theorem comb_size.calls (a0 : Int) (r : Int) (w : World) (h : comb_size.f a0 = some r) :
  Calls Try.prog 47 #[.int .i64 a0] w fun e w' => e = .returned (.int .i64 r) ∧ Below w.heap.size w w' := by
 have HB := zm (Below.refl w.heap.size w)
 have H : (if a0 < (-12) then (some 13) else (if a0 > 12 then (some 13) else (some (mx a0 (wrap64 (-a0)))))) = some r := h
 clear h
 by_cases c2 : a0 < (-12)
 ·
  rw [if_pos c2] at H
  have c2b0 : decide (a0 < (-12)) = true := decide_eq_true c2
  clear c2
  obtain rfl := Option.some.inj H
  go_enter Try.func47, Try.ntmps47
  go_wp2
  go_ret
  exact ⟨by first | rfl | (simp [errW_none, errW_some] <;> rfl) | (simp [*, errW_none, errW_some] <;> rfl), by repeat (first | (with_reducible first | exact HB.out | apply ze | apply zd | apply zf) | exact HB.out)⟩
 ·
  rw [if_neg c2] at H
  have c2b0 : decide (a0 < (-12)) = false := decide_eq_false c2
  clear c2
  by_cases c3 : a0 > 12
  ·
   rw [if_pos c3] at H
   have c3b0 : decide (12 < a0) = true := decide_eq_true c3
   clear c3
   obtain rfl := Option.some.inj H
   go_enter Try.func47, Try.ntmps47
   go_wp2
   go_ret
   exact ⟨by first | rfl | (simp [errW_none, errW_some] <;> rfl) | (simp [*, errW_none, errW_some] <;> rfl), by repeat (first | (with_reducible first | exact HB.out | apply ze | apply zd | apply zf) | exact HB.out)⟩
  ·
   rw [if_neg c3] at H
   have c3b0 : decide (12 < a0) = false := decide_eq_false c3
   clear c3
   obtain ⟨ji4, hji4⟩ : ∃ j_ : Int, (mx a0 (wrap64 (-a0))) = j_ := ⟨_, rfl⟩
   replace H : (some ji4) = some r := by first | (rw [hji4] at H; exact H) | (simp only [hji4] at H ⊢; exact H)
   have hji4_ : (if a0 < (wrap64 (-a0)) then (wrap64 (-a0)) else a0) = ji4 := hji4
   obtain rfl := Option.some.inj H
   go_enter Try.func47, Try.ntmps47
   go_wp2
   go_ret
   exact ⟨by first | rfl | (simp [errW_none, errW_some] <;> rfl) | (simp only [← hji4]; first | rfl | (simp [errW_none, errW_some] <;> rfl)) | (simp [*, errW_none, errW_some] <;> rfl), by repeat (first | (with_reducible first | exact HB.out | apply ze | apply zd | apply zf) | exact HB.out)⟩

end Go.Proofs.Ytgjdgpkjdffhkaa.Prt

namespace Go.Proofs.Ytgjdgpkjdffhkaa.Prt
open Go.RowKit Go.Proofs.YtgjdgpkjdffhkaaW.PrintWords Go.Proofs.YtgjdgpkjdffhkaaW.PrintLast Go.Proofs.YtgjdgpkjdffhkaaW.PrintMore
attribute [local go_sem] max2_int min2_int max_two min_two max_three min_three max_four min_four   -- for this text's walks alone
set_option linter.unusedVariables false
set_option linter.unusedSimpArgs false

/-! ### comb_Index: function 22 -/
mutual
def comb_Index.j0 : Nat → List Int → Bool → Option (Int × Int)
 | 0, _, _ => none
 | k + 1, x0, x21 => if x21 = true then (some (0, 1)) else (comb_Index.l0 k x0 0 x0 (x0.length : Int) 0)
def comb_Index.l0 : Nat → List Int → Int → List Int → Int → Int → Option (Int × Int)
 | 0, _, _, _, _, _ => none
 | k + 1, x0, x4, x22, x23, x24 => if x24 < x23 then (if 0 ≤ x24 then (if x24 < (x22.length : Int) then ((comb_size.f (rd x22 x24)).bind fun t111 => (comb_Index.l0 k x0 (wrap64 (x4 + t111)) x22 x23 (wrap64 (x24 + 1)))) else (none)) else (none)) else (if x4 > 12 then (some (0, 1)) else (comb_Index.l1 k x0 x4 0 x0 (x0.length : Int) 0))
def comb_Index.l1 : Nat → List Int → Int → Int → List Int → Int → Int → Option (Int × Int)
 | 0, _, _, _, _, _, _ => none
 | k + 1, x0, x4, x8, x36, x37, x38 => if x38 < x37 then (if 0 ≤ x38 then (if x38 < (x36.length : Int) then ((comb_size.f (rd x36 x38)).bind fun t116 => (if t116 > 0 then ((comb_table.f (wrap64 ((wrap64 ((x0.length : Int) - x38)) - 1)) x4).bind fun t117 => (comb_Index.j3 k x0 x4 (IntKind.u64.wrap (x8 + t117)) (rd x36 x38) (wrap64 ((wrap64 ((x0.length : Int) - x38)) - 1)) t116 x36 x37 x38)) else (comb_Index.j3 k x0 x4 x8 (rd x36 x38) (wrap64 ((wrap64 ((x0.length : Int) - x38)) - 1)) t116 x36 x37 x38))) else (none)) else (none)) else (some (x8, 0))
def comb_Index.j3 : Nat → List Int → Int → Int → Int → Int → Int → List Int → Int → Int → Option (Int × Int)
 | 0, _, _, _, _, _, _, _, _, _ => none
 | k + 1, x0, x4, x8, x10, x11, x12, x36, x37, x38 => comb_Index.l2 k x0 x4 x8 x10 x11 x12 1 x36 x37 x38
def comb_Index.l2 : Nat → List Int → Int → Int → Int → Int → Int → Int → List Int → Int → Int → Option (Int × Int)
 | 0, _, _, _, _, _, _, _, _, _, _ => none
 | k + 1, x0, x4, x8, x10, x11, x12, x13, x36, x37, x38 => if x13 < x12 then ((comb_table.f x11 (wrap64 (x4 - x13))).bind fun t118 => (comb_Index.l2 k x0 x4 (IntKind.u64.wrap (x8 + (IntKind.u64.wrap (2 * t118)))) x10 x11 x12 (wrap64 (x13 + 1)) x36 x37 x38)) else (if x10 < 0 then ((comb_table.f x11 (wrap64 (x4 - x12))).bind fun t119 => (comb_Index.l1 k x0 (wrap64 (x4 - x12)) (IntKind.u64.wrap (x8 + t119)) x36 x37 (wrap64 (x38 + 1)))) else (comb_Index.l1 k x0 (wrap64 (x4 - x12)) x8 x36 x37 (wrap64 (x38 + 1))))
end
def comb_Index.f (k : Nat) (l0 : List Int) : Option (Int × Int) := if (l0.length : Int) < 1 then (comb_Index.j0 k l0 true) else (comb_Index.j0 k l0 (decide ((l0.length : Int) > 16)))
theorem comb_Index.mono_l : ∀ k, (∀ y0 y1, LeO (comb_Index.j0 k y0 y1) (comb_Index.j0 (k + 1) y0 y1)) ∧ (∀ y0 y1 y2 y3 y4, LeO (comb_Index.l0 k y0 y1 y2 y3 y4) (comb_Index.l0 (k + 1) y0 y1 y2 y3 y4)) ∧ (∀ y0 y1 y2 y3 y4 y5, LeO (comb_Index.l1 k y0 y1 y2 y3 y4 y5) (comb_Index.l1 (k + 1) y0 y1 y2 y3 y4 y5)) ∧ (∀ y0 y1 y2 y3 y4 y5 y6 y7 y8, LeO (comb_Index.j3 k y0 y1 y2 y3 y4 y5 y6 y7 y8) (comb_Index.j3 (k + 1) y0 y1 y2 y3 y4 y5 y6 y7 y8)) ∧ (∀ y0 y1 y2 y3 y4 y5 y6 y7 y8 y9, LeO (comb_Index.l2 k y0 y1 y2 y3 y4 y5 y6 y7 y8 y9) (comb_Index.l2 (k + 1) y0 y1 y2 y3 y4 y5 y6 y7 y8 y9))
 | 0 => ⟨fun _ _ r h => by simp [comb_Index.j0] at h, fun _ _ _ _ _ r h => by simp [comb_Index.l0] at h, fun _ _ _ _ _ _ r h => by simp [comb_Index.l1] at h, fun _ _ _ _ _ _ _ _ _ r h => by simp [comb_Index.j3] at h, fun _ _ _ _ _ _ _ _ _ _ r h => by simp [comb_Index.l2] at h⟩
 | k + 1 => by
  obtain ⟨ih0, ih1, ih2, ih3, ih4⟩ := comb_Index.mono_l k
  refine ⟨?_, ?_, ?_, ?_, ?_⟩
  ·
   intro y0 y1
   unfold comb_Index.j0
   repeat' first
   | (with_reducible exact ih0 _ _)
   | (with_reducible exact ih1 _ _ _ _ _)
   | (with_reducible exact ih2 _ _ _ _ _ _)
   | (with_reducible exact ih3 _ _ _ _ _ _ _ _ _)
   | (with_reducible exact ih4 _ _ _ _ _ _ _ _ _ _)
   | (with_reducible exact LeO.refl _)
   | (with_reducible exact LeO.none _)
   | (with_reducible refine LeO.ite ?_ ?_)
   | (with_reducible refine LeO.bind ?_ (fun _ => ?_))
   | exact ih0 _ _
   | exact ih1 _ _ _ _ _
   | exact ih2 _ _ _ _ _ _
   | exact ih3 _ _ _ _ _ _ _ _ _
   | exact ih4 _ _ _ _ _ _ _ _ _ _
   | exact LeO.none _
   | refine LeO.ite ?_ ?_
   | refine LeO.bind ?_ (fun _ => ?_)
  ·
   intro y0 y1 y2 y3 y4
   unfold comb_Index.l0
   repeat' first
   | (with_reducible exact ih0 _ _)
   | (with_reducible exact ih1 _ _ _ _ _)
   | (with_reducible exact ih2 _ _ _ _ _ _)
   | (with_reducible exact ih3 _ _ _ _ _ _ _ _ _)
   | (with_reducible exact ih4 _ _ _ _ _ _ _ _ _ _)
   | (with_reducible exact LeO.refl _)
   | (with_reducible exact LeO.none _)
   | (with_reducible refine LeO.ite ?_ ?_)
   | (with_reducible refine LeO.bind ?_ (fun _ => ?_))
   | exact ih0 _ _
   | exact ih1 _ _ _ _ _
   | exact ih2 _ _ _ _ _ _
   | exact ih3 _ _ _ _ _ _ _ _ _
   | exact ih4 _ _ _ _ _ _ _ _ _ _
   | exact LeO.none _
   | refine LeO.ite ?_ ?_
   | refine LeO.bind ?_ (fun _ => ?_)
  ·
   intro y0 y1 y2 y3 y4 y5
   unfold comb_Index.l1
   repeat' first
   | (with_reducible exact ih0 _ _)
   | (with_reducible exact ih1 _ _ _ _ _)
   | (with_reducible exact ih2 _ _ _ _ _ _)
   | (with_reducible exact ih3 _ _ _ _ _ _ _ _ _)
   | (with_reducible exact ih4 _ _ _ _ _ _ _ _ _ _)
   | (with_reducible exact LeO.refl _)
   | (with_reducible exact LeO.none _)
   | (with_reducible refine LeO.ite ?_ ?_)
   | (with_reducible refine LeO.bind ?_ (fun _ => ?_))
   | exact ih0 _ _
   | exact ih1 _ _ _ _ _
   | exact ih2 _ _ _ _ _ _
   | exact ih3 _ _ _ _ _ _ _ _ _
   | exact ih4 _ _ _ _ _ _ _ _ _ _
   | exact LeO.none _
   | refine LeO.ite ?_ ?_
   | refine LeO.bind ?_ (fun _ => ?_)
  ·
   intro y0 y1 y2 y3 y4 y5 y6 y7 y8
   unfold comb_Index.j3
   repeat' first
   | (with_reducible exact ih0 _ _)
   | (with_reducible exact ih1 _ _ _ _ _)
   | (with_reducible exact ih2 _ _ _ _ _ _)
   | (with_reducible exact ih3 _ _ _ _ _ _ _ _ _)
   | (with_reducible exact ih4 _ _ _ _ _ _ _ _ _ _)
   | (with_reducible exact LeO.refl _)
   | (with_reducible exact LeO.none _)
   | (with_reducible refine LeO.ite ?_ ?_)
   | (with_reducible refine LeO.bind ?_ (fun _ => ?_))
   | exact ih0 _ _
   | exact ih1 _ _ _ _ _
   | exact ih2 _ _ _ _ _ _
   | exact ih3 _ _ _ _ _ _ _ _ _
   | exact ih4 _ _ _ _ _ _ _ _ _ _
   | exact LeO.none _
   | refine LeO.ite ?_ ?_
   | refine LeO.bind ?_ (fun _ => ?_)
  ·
   intro y0 y1 y2 y3 y4 y5 y6 y7 y8 y9
   unfold comb_Index.l2
   repeat' first
   | (with_reducible exact ih0 _ _)
   | (with_reducible exact ih1 _ _ _ _ _)
   | (with_reducible exact ih2 _ _ _ _ _ _)
   | (with_reducible exact ih3 _ _ _ _ _ _ _ _ _)
   | (with_reducible exact ih4 _ _ _ _ _ _ _ _ _ _)
   | (with_reducible exact LeO.refl _)
   | (with_reducible exact LeO.none _)
   | (with_reducible refine LeO.ite ?_ ?_)
   | (with_reducible refine LeO.bind ?_ (fun _ => ?_))
   | exact ih0 _ _
   | exact ih1 _ _ _ _ _
   | exact ih2 _ _ _ _ _ _
   | exact ih3 _ _ _ _ _ _ _ _ _
   | exact ih4 _ _ _ _ _ _ _ _ _ _
   | exact LeO.none _
   | refine LeO.ite ?_ ?_
   | refine LeO.bind ?_ (fun _ => ?_)
theorem comb_Index.mono : ∀ a0 k, LeO (comb_Index.f k a0) (comb_Index.f (k + 1) a0) := by
 intro a0 k
 obtain ⟨ih0, ih1, ih2, ih3, ih4⟩ := comb_Index.mono_l k
 unfold comb_Index.f
 repeat' first
   | (with_reducible exact ih0 _ _)
   | (with_reducible exact ih1 _ _ _ _ _)
   | (with_reducible exact ih2 _ _ _ _ _ _)
   | (with_reducible exact ih3 _ _ _ _ _ _ _ _ _)
   | (with_reducible exact ih4 _ _ _ _ _ _ _ _ _ _)
   | (with_reducible exact LeO.refl _)
   | (with_reducible exact LeO.none _)
   | (with_reducible refine LeO.ite ?_ ?_)
   | (with_reducible refine LeO.bind ?_ (fun _ => ?_))
   | exact ih0 _ _
   | exact ih1 _ _ _ _ _
   | exact ih2 _ _ _ _ _ _
   | exact ih3 _ _ _ _ _ _ _ _ _
   | exact ih4 _ _ _ _ _ _ _ _ _ _
   | exact LeO.none _
   | refine LeO.ite ?_ ?_
   | refine LeO.bind ?_ (fun _ => ?_)
set_option maxHeartbeats 8000000 in
set_option maxRecDepth 100000 in
theorem comb_Index.calls (k : Nat) (A0 : Option Addr) (c0 : Nat) (l0 : List Int) (r1 : Int) (r2 : Int) (w : World) (hr0 : Kd.C (Kd.int .i64) w A0 l0.length l0) (hc0 : l0.length ≤ c0) (h : comb_Index.f k l0 = some (r1, r2)) :
  Calls Try.prog 22 #[.slice A0 l0.length c0] w fun e w' => e = .returned (.tuple #[.int .u64 r1, .int .i64 r2]) ∧ Below w.heap.size w w' := by
 have HR0 := zm hr0
 have HC0 := zm hc0
 clear hr0 hc0
 have HB := zm (Below.refl w.heap.size w)
 have H : (if (l0.length : Int) < 1 then (comb_Index.j0 k l0 true) else (comb_Index.j0 k l0 (decide ((l0.length : Int) > 16)))) = some (r1, r2) := h
 clear h
 have HC2 := zm H
 clear H
 go_enter Try.func22, Try.ntmps22
 go_upto_region 1 with (fail)
 go_cut [21] (fun v21 wc => ∃ (kq : Nat) (x21_1 : Bool), v21 = .bool x21_1 ∧ Aside0 (comb_Index.j0 kq l0 x21_1 = some (r1, r2)) ∧ Aside0 (kq ≤ k) ∧ Aside0 (Below w.heap.size w wc))
 case first =>
  have H := HC2.out
  clear HC2
  by_cases c3 : (l0.length : Int) < 1
  ·
   rw [if_pos c3] at H
   have c3b0 : decide ((l0.length : Int) < 1) = true := decide_eq_true c3
   have c3b1 : decide (l0.length < 1) = true := decide_eq_true (by omega)
   clear c3
   (first | rw [c3b0] | (simp only [i64_w, i32_w]; rw [c3b0]) | skip)
   have H' := zm H
   clear H
   go_wp2
   go_meet
   case rel => exact ⟨_, (true), (by first | rfl | (simp; done) | (simp [*]; done)), H', ⟨by first | omega | exact Nat.le_refl _⟩, ⟨by repeat (first | (with_reducible first | exact HB.out | apply ze | apply zd | apply zf) | exact HB.out)⟩⟩
  ·
   rw [if_neg c3] at H
   have c3b0 : decide ((l0.length : Int) < 1) = false := decide_eq_false c3
   have c3b1 : decide (l0.length < 1) = false := decide_eq_false (by omega)
   clear c3
   (first | rw [c3b0] | (simp only [i64_w, i32_w]; rw [c3b0]) | skip)
   have H' := zm H
   clear H
   go_wp2
   go_meet
   case rel => exact ⟨_, (decide ((l0.length : Int) > 16)), (by first | rfl | (simp; done) | (simp [*]; done)), H', ⟨by first | omega | exact Nat.le_refl _⟩, ⟨by repeat (first | (with_reducible first | exact HB.out | apply ze | apply zd | apply zf) | exact HB.out)⟩⟩
 case rest =>
  clear HC2
  try clear c2
  try clear p2
  try clear c3
  try clear c3b0
  try clear c3b1
  obtain ⟨kq, x21_1, rfl, HA, HJ1, HB⟩ := hcut
  cases kq with
  | zero => exact absurd HA.out (by simp [comb_Index.j0])
  | succ kj1 =>
   have H := HA.out
   clear HA
   simp only [comb_Index.j0] at H
   by_cases c4 : x21_1 = true
   ·
    subst c4
    have H1 : (some (0, 1)) = some (r1, r2) := by rw [if_pos rfl] at H; exact H
    clear H
    have H := H1
    clear H1
    simp only [Option.some.injEq, Prod.mk.injEq] at H
    obtain ⟨rfl, rfl⟩ := H
    go_wp2
    go_ret2
    exact ⟨by first | rfl | (simp [errW_none, errW_some] <;> rfl) | (simp [*, errW_none, errW_some] <;> rfl), by repeat (first | (with_reducible first | exact HB.out | apply ze | apply zd | apply zf) | exact HB.out)⟩
   ·
    replace c4 := Bool.eq_false_iff.mpr c4
    subst c4
    have H1 : (comb_Index.l0 kj1 l0 0 l0 (l0.length : Int) 0) = some (r1, r2) := by rw [if_neg (show ¬ (false = true) by decide)] at H; exact H
    clear H
    have H := H1
    clear H1
    have H' := zm H
    clear H
    go_wp2
    go_loopg [4, 24] kj1 (fun kq v4 v24 w' => ∃ (x4_2 : Int) (x24_2 : Int), v4 = .int .i64 x4_2 ∧ v24 = .int .i64 x24_2 ∧ Aside0 (comb_Index.l0 kq l0 x4_2 l0 (l0.length : Int) x24_2 = some (r1, r2)) ∧ Aside0 (kq ≤ kj1) ∧ Aside0 (Below w.heap.size w w'))
    case atStart => exact ⟨(0), (0), (by first | rfl | (simp; done) | (simp [*]; done)), (by first | rfl | (simp; done) | (simp [*]; done)), H', ⟨Nat.le_refl _⟩, ⟨by repeat (first | (with_reducible first | exact HB.out | apply ze | apply zd | apply zf) | exact HB.out)⟩⟩
    case round =>
     clear H'
     try clear c2
     try clear p2
     try clear c3
     try clear c3b0
     try clear c3b1
     try clear c4
     try clear p2
     obtain ⟨x4_2, x24_2, rfl, rfl, HA, HK2, HB⟩ := hrel
     cases gk with
     | zero => exact absurd HA.out (by simp [comb_Index.l0])
     | succ k2 =>
      have H := HA.out
      clear HA
      simp only [comb_Index.l0] at H
      by_cases c5 : x24_2 < (l0.length : Int)
      ·
       rw [if_pos c5] at H
       have c5b0 : decide (x24_2 < (l0.length : Int)) = true := decide_eq_true c5
       clear c5
       by_cases c6 : 0 ≤ x24_2
       ·
        rw [if_pos c6] at H
        have c6b0 : decide (0 ≤ x24_2) = true := decide_eq_true c6
        clear c6
        by_cases c7 : x24_2 < (l0.length : Int)
        ·
         rw [if_pos c7] at H
         have c7b0 : decide (x24_2 < (l0.length : Int)) = true := decide_eq_true c7
         clear c7
         replace H := Option.bind_eq_some_iff.mp H
         obtain ⟨t111, A80, H⟩ := H
         replace H : (comb_Index.l0 k2 l0 (wrap64 (x4_2 + t111)) l0 (l0.length : Int) (wrap64 (x24_2 + 1))) = some (r1, r2) := H
         have A8 := zm A80
         clear A80
         have H' := zm H
         clear H
         have p110 : 0 ≤ (x24_2 : Int) := of_decide_eq_true (by first | (with_reducible assumption) | assumption)
         have q110 : x24_2 < (l0.length : Int) := of_decide_eq_true (by first | (with_reducible assumption) | assumption)
         obtain ⟨ad110, e110, hx110_0⟩ := Kd.at_int HR0.out x24_2 p110 q110
         cases e110
         replace hx110_0 := (HB.out.cell (zb w _ hx110_0)).trans hx110_0
         replace p110 := eq_true p110
         replace q110 := eq_true q110
         go_wp2_with (first | ((with_reducible refine gate_callee (f := 47) rfl ?_); refine goesL_ (some 30) rfl rfl Try.func47 (by kernel_rfl) rfl #[.int .i64 (rd l0 x24_2)] rfl (by (try simp only [List.map_toArray, List.map_cons, List.map_nil]); first | done | rfl | (simp only [List.length_drop, List.length_take]; rfl)) ?_; (with_reducible refine (comb_size.calls (rd l0 x24_2) t111 _ A8.out).mono ?_); rintro e w9 ⟨rfl, hb⟩; refine ⟨_, rfl, ?_⟩; have n0_ := zm (zJ (by repeat (first | (with_reducible first | exact HB.out | apply ze | apply zd | apply zf) | exact HB.out)) hb); clear HB; have HB := n0_; clear n0_; (try clear hb); (try clear hb2); (try clear hk); (try clear hi)))
         go_roundg k2
         case measure => have := HJ1.out; have := HK2.out; omega
         case rel => exact ⟨(wrap64 (x4_2 + t111)), (wrap64 (x24_2 + 1)), (by first | rfl | (simp; done) | (simp [*]; done)), (by first | rfl | (simp; done) | (simp [*]; done)), H', ⟨by have := HJ1.out; have := HK2.out; omega⟩, ⟨by repeat (first | (with_reducible first | exact HB.out | apply ze | apply zd | apply zf) | exact HB.out)⟩⟩
        ·
         rw [if_neg c7] at H
         exact absurd H (by simp)
       ·
        rw [if_neg c6] at H
        exact absurd H (by simp)
      ·
       rw [if_neg c5] at H
       have c5b0 : decide (x24_2 < (l0.length : Int)) = false := decide_eq_false c5
       clear c5
       by_cases c10 : x4_2 > 12
       ·
        rw [if_pos c10] at H
        have c10b0 : decide (12 < x4_2) = true := decide_eq_true c10
        clear c10
        simp only [Option.some.injEq, Prod.mk.injEq] at H
        obtain ⟨rfl, rfl⟩ := H
        go_wp2
        go_ret2
        exact ⟨by first | rfl | (simp [errW_none, errW_some] <;> rfl) | (simp [*, errW_none, errW_some] <;> rfl), by repeat (first | (with_reducible first | exact HB.out | apply ze | apply zd | apply zf) | exact HB.out)⟩
       ·
        rw [if_neg c10] at H
        have c10b0 : decide (12 < x4_2) = false := decide_eq_false c10
        clear c10
        obtain ⟨y112, hy112⟩ : ∃ y_ : List Int, y_ = (([0] : List Int)) := ⟨_, rfl⟩
        replace H : (comb_Index.l1 k2 l0 x4_2 0 l0 (l0.length : Int) 0) = some (r1, r2) := by first | (rw [hy112]; with_reducible exact H) | (have H2_ := (Option.bind_some _ _).symm.trans H; rw [hy112]; with_reducible exact H2_) | (have H2_ := (Option.bind_some _ _).symm.trans H; with_reducible exact H2_) | with_reducible exact H | (rw [hy112]; exact H) | exact H
        have Ny112 := zm hy112
        clear hy112
        have H' := zm H
        clear H
        obtain ⟨Z, hz, HZs⟩ := comb_table.zsize
        go_wp2_with (first | ((with_reducible refine gate_callee (f := 43) rfl ?_); refine goesL_ (some 35) rfl rfl Try.func43 (by kernel_rfl) rfl #[] rfl (by first | rfl | simp) ?_; (with_reducible refine (comb_table.made _).mono ?_); rintro e w5 ⟨rfl, hb5⟩; refine ⟨_, rfl, ?_⟩; have hst := run_storeCells_new (P := Try.prog) w5 56 Z (ABl (comb_table.T 16)) comb_table.size16 HZs.out (ABl_one _); have n1_ := zm (ze (zJ (by repeat (first | (with_reducible first | exact HB.out | apply ze | apply zd | apply zf) | exact HB.out)) hb5) (.cells (ABl (comb_table.T 16)) 56)); clear HB; have HB := n1_; clear n1_; have hbn := zm (blk_new w5 (.cells (ABl (comb_table.T 16)) 56))))
        have hb0 := HB.out
        obtain ⟨W0, hW0⟩ : ∃ W0, W0 = w5.alloc (.cells (ABl (comb_table.T 16)) 56) := ⟨_, rfl⟩
        rw [← hW0] at hb0 hbn
        rw [← hW0]
        clear hW0 HB hst hz HZs
        generalize w5.heap.size = B at hbn ⊢
        replace HR0 := zm (Kd.C_below HR0.out hb0)
        have HB := zm (Below.refl W0.heap.size W0)
        go_loopg [4, 8, 38] k2 (fun kq v4 v8 v38 w' => ∃ (x4_3 : Int) (x8_3 : Int) (x38_3 : Int), v4 = .int .i64 x4_3 ∧ v8 = .int .u64 x8_3 ∧ v38 = .int .i64 x38_3 ∧ Aside0 (comb_Index.l1 kq l0 x4_3 x8_3 l0 (l0.length : Int) x38_3 = some (r1, r2)) ∧ Aside0 (kq ≤ k2) ∧ Aside0 (Below W0.heap.size W0 w'))
        case atStart => exact ⟨(x4_2), (0), (0), (by first | rfl | (simp; done) | (simp [*]; done)), (by first | rfl | (simp; done) | (simp [*]; done)), (by first | rfl | (simp; done) | (simp [*]; done)), H', ⟨Nat.le_refl _⟩, ⟨by repeat (first | (with_reducible first | exact HB.out | apply ze | apply zd | apply zf) | exact HB.out)⟩⟩
        case round =>
         clear H'
         try clear c1
         try clear p1
         try clear q1
         try clear hx1
         try clear c2
         try clear p2
         try clear c3
         try clear c3b0
         try clear c3b1
         try clear c4
         try clear c5
         try clear c5b0
         try clear c6
         try clear c6b0
         try clear p6
         try clear c7
         try clear c7b0
         try clear c10
         try clear c10b0
         try clear p11
         try clear q11
         try clear hx11
         try clear hx110_0
         try clear p110
         try clear p2
         try clear q110
         obtain ⟨x4_3, x8_3, x38_3, rfl, rfl, rfl, HA, HK3, HB⟩ := hrel
         cases gk with
         | zero => exact absurd HA.out (by simp [comb_Index.l1])
         | succ k3 =>
          have H := HA.out
          clear HA
          simp only [comb_Index.l1] at H
          by_cases c13 : x38_3 < (l0.length : Int)
          ·
           rw [if_pos c13] at H
           have c13b0 : decide (x38_3 < (l0.length : Int)) = true := decide_eq_true c13
           clear c13
           by_cases c14 : 0 ≤ x38_3
           ·
            rw [if_pos c14] at H
            have c14b0 : decide (0 ≤ x38_3) = true := decide_eq_true c14
            clear c14
            by_cases c15 : x38_3 < (l0.length : Int)
            ·
             rw [if_pos c15] at H
             have c15b0 : decide (x38_3 < (l0.length : Int)) = true := decide_eq_true c15
             clear c15
             replace H := Option.bind_eq_some_iff.mp H
             obtain ⟨t116, A160, H⟩ := H
             replace H : (if t116 > 0 then ((comb_table.f (wrap64 ((wrap64 ((l0.length : Int) - x38_3)) - 1)) x4_3).bind fun t117 => (comb_Index.j3 k3 l0 x4_3 (IntKind.u64.wrap (x8_3 + t117)) (rd l0 x38_3) (wrap64 ((wrap64 ((l0.length : Int) - x38_3)) - 1)) t116 l0 (l0.length : Int) x38_3)) else (comb_Index.j3 k3 l0 x4_3 x8_3 (rd l0 x38_3) (wrap64 ((wrap64 ((l0.length : Int) - x38_3)) - 1)) t116 l0 (l0.length : Int) x38_3)) = some (r1, r2) := H
             have A16 := zm A160
             clear A160
             have HC17 := zm H
             clear H
             have p115 : 0 ≤ (x38_3 : Int) := of_decide_eq_true (by first | (with_reducible assumption) | assumption)
             have q115 : x38_3 < (l0.length : Int) := of_decide_eq_true (by first | (with_reducible assumption) | assumption)
             obtain ⟨ad115, e115, hx115_0⟩ := Kd.at_int HR0.out x38_3 p115 q115
             cases e115
             replace hx115_0 := (HB.out.cell (zb W0 _ hx115_0)).trans hx115_0
             replace p115 := eq_true p115
             replace q115 := eq_true q115
             go_upto_if 51 with (first | ((with_reducible refine gate_callee (f := 47) rfl ?_); refine goesL_ (some 49) rfl rfl Try.func47 (by kernel_rfl) rfl #[.int .i64 (rd l0 x38_3)] rfl (by (try simp only [List.map_toArray, List.map_cons, List.map_nil]); first | done | rfl | (simp only [List.length_drop, List.length_take]; rfl)) ?_; (with_reducible refine (comb_size.calls (rd l0 x38_3) t116 _ A16.out).mono ?_); rintro e w18 ⟨rfl, hb⟩; refine ⟨_, rfl, ?_⟩; have n0_ := zm (zJ (by repeat (first | (with_reducible first | exact HB.out | apply ze | apply zd | apply zf) | exact HB.out)) hb); clear HB; have HB := n0_; clear n0_; (try clear hb); (try clear hb2); (try clear hk); (try clear hi)))
             (try simp only [Act.put, List.setIfInBounds_toArray, List.set_cons_zero, List.set_cons_succ])
             go_cut [8] (fun v8 wc => ∃ (kq : Nat) (x8_16 : Int), v8 = .int .u64 x8_16 ∧ Aside0 (comb_Index.j3 kq l0 x4_3 x8_16 (rd l0 x38_3) (wrap64 ((wrap64 ((l0.length : Int) - x38_3)) - 1)) t116 l0 (l0.length : Int) x38_3 = some (r1, r2)) ∧ Aside0 (kq ≤ k3) ∧ Aside0 (Below W0.heap.size W0 wc))
             case first =>
              have H := HC17.out
              clear HC17
              by_cases c19 : t116 > 0
              ·
               rw [if_pos c19] at H
               have c19b0 : decide (0 < t116) = true := decide_eq_true c19
               clear c19
               (first | rw [c19b0] | (simp only [i64_w, i32_w]; rw [c19b0]) | skip)
               replace H := Option.bind_eq_some_iff.mp H
               obtain ⟨t117, A200, H⟩ := H
               replace H : (comb_Index.j3 k3 l0 x4_3 (IntKind.u64.wrap (x8_3 + t117)) (rd l0 x38_3) (wrap64 ((wrap64 ((l0.length : Int) - x38_3)) - 1)) t116 l0 (l0.length : Int) x38_3) = some (r1, r2) := H
               have A20 := zm A200
               clear A200
               have H' := zm H
               clear H
               obtain ⟨ia0, ib0, ic0, id0⟩ := comb_table.inn A20.out
               have hcl0 := (HB.out.cell (zb W0 _ (comb_table.look hbn.out A20.out))).trans (comb_table.look hbn.out A20.out)
               go_wp2
               go_meet
               case rel => exact ⟨_, (IntKind.u64.wrap (x8_3 + t117)), (by first | rfl | (simp; done) | (simp [*]; done)), H', ⟨by have := HJ1.out; have := HK2.out; have := HK3.out; first | omega | exact Nat.le_refl _⟩, ⟨by repeat (first | (with_reducible first | exact HB.out | apply ze | apply zd | apply zf) | exact HB.out)⟩⟩
              ·
               rw [if_neg c19] at H
               have c19b0 : decide (0 < t116) = false := decide_eq_false c19
               clear c19
               (first | rw [c19b0] | (simp only [i64_w, i32_w]; rw [c19b0]) | skip)
               have H' := zm H
               clear H
               go_wp2
               go_meet
               case rel => exact ⟨_, (x8_3), (by first | rfl | (simp; done) | (simp [*]; done)), H', ⟨by have := HJ1.out; have := HK2.out; have := HK3.out; first | omega | exact Nat.le_refl _⟩, ⟨by repeat (first | (with_reducible first | exact HB.out | apply ze | apply zd | apply zf) | exact HB.out)⟩⟩
             case rest =>
              clear HC17
              try clear c1
              try clear p1
              try clear q1
              try clear hx1
              try clear c2
              try clear p2
              try clear c3
              try clear c3b0
              try clear c3b1
              try clear c4
              try clear c5
              try clear c5b0
              try clear c6
              try clear c6b0
              try clear p6
              try clear c7
              try clear c7b0
              try clear c10
              try clear c10b0
              try clear p11
              try clear q11
              try clear hx11
              try clear c13
              try clear c13b0
              try clear c14
              try clear c14b0
              try clear c15
              try clear c15b0
              try clear c19
              try clear c19b0
              try clear hx110_0
              try clear hx115_0
              try clear p1
              try clear p11
              try clear p110
              try clear p115
              try clear p2
              try clear p6
              try clear q1
              try clear q11
              try clear q110
              try clear q115
              obtain ⟨kq, x8_16, rfl, HA, HJ16, HB⟩ := hcut
              cases kq with
              | zero => exact absurd HA.out (by simp [comb_Index.j3])
              | succ kj16 =>
               have H := HA.out
               clear HA
               simp only [comb_Index.j3] at H
               have H' := zm H
               clear H
               go_wp2
               go_loopg [8, 13] kj16 (fun kq v8 v13 w' => ∃ (x8_5 : Int) (x13_5 : Int), v8 = .int .u64 x8_5 ∧ v13 = .int .i64 x13_5 ∧ Aside0 (comb_Index.l2 kq l0 x4_3 x8_5 (rd l0 x38_3) (wrap64 ((wrap64 ((l0.length : Int) - x38_3)) - 1)) t116 x13_5 l0 (l0.length : Int) x38_3 = some (r1, r2)) ∧ Aside0 (kq ≤ kj16) ∧ Aside0 (Below W0.heap.size W0 w'))
               case atStart => exact ⟨(x8_16), (1), (by first | rfl | (simp; done) | (simp [*]; done)), (by first | rfl | (simp; done) | (simp [*]; done)), H', ⟨Nat.le_refl _⟩, ⟨by repeat (first | (with_reducible first | exact HB.out | apply ze | apply zd | apply zf) | exact HB.out)⟩⟩
               case round =>
                clear H'
                try clear c1
                try clear p1
                try clear q1
                try clear hx1
                try clear c2
                try clear p2
                try clear c3
                try clear c3b0
                try clear c3b1
                try clear c4
                try clear c5
                try clear c5b0
                try clear c6
                try clear c6b0
                try clear p6
                try clear c7
                try clear c7b0
                try clear c10
                try clear c10b0
                try clear p11
                try clear q11
                try clear hx11
                try clear c13
                try clear c13b0
                try clear c14
                try clear c14b0
                try clear c15
                try clear c15b0
                try clear c19
                try clear c19b0
                try clear hx110_0
                try clear hx115_0
                try clear p1
                try clear p11
                try clear p110
                try clear p115
                try clear p2
                try clear p6
                try clear q1
                try clear q11
                try clear q110
                try clear q115
                obtain ⟨x8_5, x13_5, rfl, rfl, HA, HK5, HB⟩ := hrel
                cases gk with
                | zero => exact absurd HA.out (by simp [comb_Index.l2])
                | succ k5 =>
                 have H := HA.out
                 clear HA
                 simp only [comb_Index.l2] at H
                 by_cases c21 : x13_5 < t116
                 ·
                  rw [if_pos c21] at H
                  have c21b0 : decide (x13_5 < t116) = true := decide_eq_true c21
                  clear c21
                  replace H := Option.bind_eq_some_iff.mp H
                  obtain ⟨t118, A220, H⟩ := H
                  replace H : (comb_Index.l2 k5 l0 x4_3 (IntKind.u64.wrap (x8_5 + (IntKind.u64.wrap (2 * t118)))) (rd l0 x38_3) (wrap64 ((wrap64 ((l0.length : Int) - x38_3)) - 1)) t116 (wrap64 (x13_5 + 1)) l0 (l0.length : Int) x38_3) = some (r1, r2) := H
                  have A22 := zm A220
                  clear A220
                  have H' := zm H
                  clear H
                  obtain ⟨ia1, ib1, ic1, id1⟩ := comb_table.inn A22.out
                  have hcl1 := (HB.out.cell (zb W0 _ (comb_table.look hbn.out A22.out))).trans (comb_table.look hbn.out A22.out)
                  go_wp2
                  go_roundg k5
                  case measure => have := HJ1.out; have := HK2.out; have := HK3.out; have := HJ16.out; have := HK5.out; omega
                  case rel => exact ⟨(IntKind.u64.wrap (x8_5 + (IntKind.u64.wrap (2 * t118)))), (wrap64 (x13_5 + 1)), (by first | rfl | (simp; done) | (simp [*]; done)), (by first | rfl | (simp; done) | (simp [*]; done)), H', ⟨by have := HJ1.out; have := HK2.out; have := HK3.out; have := HJ16.out; have := HK5.out; omega⟩, ⟨by repeat (first | (with_reducible first | exact HB.out | apply ze | apply zd | apply zf) | exact HB.out)⟩⟩
                 ·
                  rw [if_neg c21] at H
                  have c21b0 : decide (x13_5 < t116) = false := decide_eq_false c21
                  clear c21
                  by_cases c23 : (rd l0 x38_3) < 0
                  ·
                   rw [if_pos c23] at H
                   have c23b0 : decide ((rd l0 x38_3) < 0) = true := decide_eq_true c23
                   clear c23
                   replace H := Option.bind_eq_some_iff.mp H
                   obtain ⟨t119, A240, H⟩ := H
                   replace H : (comb_Index.l1 k5 l0 (wrap64 (x4_3 - t116)) (IntKind.u64.wrap (x8_5 + t119)) l0 (l0.length : Int) (wrap64 (x38_3 + 1))) = some (r1, r2) := H
                   have A24 := zm A240
                   clear A240
                   have H' := zm H
                   clear H
                   obtain ⟨ia2, ib2, ic2, id2⟩ := comb_table.inn A24.out
                   have hcl2 := (HB.out.cell (zb W0 _ (comb_table.look hbn.out A24.out))).trans (comb_table.look hbn.out A24.out)
                   go_wp2
                   go_roundg k5
                   case measure => have := HJ1.out; have := HK2.out; have := HK3.out; have := HJ16.out; have := HK5.out; omega
                   case rel => exact ⟨(wrap64 (x4_3 - t116)), (IntKind.u64.wrap (x8_5 + t119)), (wrap64 (x38_3 + 1)), (by first | rfl | (simp; done) | (simp [*]; done)), (by first | rfl | (simp; done) | (simp [*]; done)), (by first | rfl | (simp; done) | (simp [*]; done)), H', ⟨by have := HJ1.out; have := HK2.out; have := HK3.out; have := HJ16.out; have := HK5.out; omega⟩, ⟨by repeat (first | (with_reducible first | exact HB.out | apply ze | apply zd | apply zf) | exact HB.out)⟩⟩
                  ·
                   rw [if_neg c23] at H
                   have c23b0 : decide ((rd l0 x38_3) < 0) = false := decide_eq_false c23
                   clear c23
                   have H' := zm H
                   clear H
                   go_wp2
                   go_roundg k5
                   case measure => have := HJ1.out; have := HK2.out; have := HK3.out; have := HJ16.out; have := HK5.out; omega
                   case rel => exact ⟨(wrap64 (x4_3 - t116)), (x8_5), (wrap64 (x38_3 + 1)), (by first | rfl | (simp; done) | (simp [*]; done)), (by first | rfl | (simp; done) | (simp [*]; done)), (by first | rfl | (simp; done) | (simp [*]; done)), H', ⟨by have := HJ1.out; have := HK2.out; have := HK3.out; have := HJ16.out; have := HK5.out; omega⟩, ⟨by repeat (first | (with_reducible first | exact HB.out | apply ze | apply zd | apply zf) | exact HB.out)⟩⟩
            ·
             rw [if_neg c15] at H
             exact absurd H (by simp)
           ·
            rw [if_neg c14] at H
            exact absurd H (by simp)
          ·
           rw [if_neg c13] at H
           have c13b0 : decide (x38_3 < (l0.length : Int)) = false := decide_eq_false c13
           clear c13
           simp only [Option.some.injEq, Prod.mk.injEq] at H
           obtain ⟨rfl, rfl⟩ := H
           go_wp2
           go_ret2
           exact ⟨by first | rfl | (simp [errW_none, errW_some] <;> rfl) | (simp [*, errW_none, errW_some] <;> rfl), zJ hb0 (by repeat (first | (with_reducible first | exact HB.out | apply ze | apply zd | apply zf) | exact HB.out))⟩

end Go.Proofs.Ytgjdgpkjdffhkaa.Prt

namespace Go.Proofs.Ytgjdgpkjdffhkaa.Prt
open Go.RowKit Go.Proofs.YtgjdgpkjdffhkaaW.PrintWords Go.Proofs.YtgjdgpkjdffhkaaW.PrintLast Go.Proofs.YtgjdgpkjdffhkaaW.PrintMore
attribute [local go_sem] max2_int min2_int max_two min_two max_three min_three max_four min_four   -- for this text's walks alone
set_option linter.unusedVariables false
set_option linter.unusedSimpArgs false

/-! ### psalteryref06_Same: function 26 -/
def psalteryref06_Same.l0 : Nat → List Int → List Int → Int → Option (Bool)
 | 0, _, _, _ => none
 | k + 1, x0, x1, x5 => if x5 < (x0.length : Int) then (if 0 ≤ x5 then (if x5 < (x1.length : Int) then (if (rd x0 x5) = (rd x1 x5) then (psalteryref06_Same.l0 k x0 x1 (wrap64 (x5 + 1))) else (some false)) else (none)) else (none)) else (some true)
def psalteryref06_Same.f (k : Nat) (l0 : List Int) (l1 : List Int) : Option (Bool) := if (l0.length : Int) = (l1.length : Int) then (psalteryref06_Same.l0 k l0 l1 0) else (some false)
theorem psalteryref06_Same.mono_l : ∀ k, (∀ y0 y1 y2, LeO (psalteryref06_Same.l0 k y0 y1 y2) (psalteryref06_Same.l0 (k + 1) y0 y1 y2))
 | 0 => fun _ _ _ r h => by simp [psalteryref06_Same.l0] at h
 | k + 1 => by
  have ih0 := psalteryref06_Same.mono_l k
  ·
   intro y0 y1 y2
   unfold psalteryref06_Same.l0
   repeat' first
   | (with_reducible exact ih0 _ _ _)
   | (with_reducible exact LeO.refl _)
   | (with_reducible exact LeO.none _)
   | (with_reducible refine LeO.ite ?_ ?_)
   | (with_reducible refine LeO.bind ?_ (fun _ => ?_))
   | exact ih0 _ _ _
   | exact LeO.none _
   | refine LeO.ite ?_ ?_
   | refine LeO.bind ?_ (fun _ => ?_)
theorem psalteryref06_Same.mono : ∀ a0 a1 k, LeO (psalteryref06_Same.f k a0 a1) (psalteryref06_Same.f (k + 1) a0 a1) := by
 intro a0 a1 k
 have ih0 := psalteryref06_Same.mono_l k
 unfold psalteryref06_Same.f
 repeat' first
   | (with_reducible exact ih0 _ _ _)
   | (with_reducible exact LeO.refl _)
   | (with_reducible exact LeO.none _)
   | (with_reducible refine LeO.ite ?_ ?_)
   | (with_reducible refine LeO.bind ?_ (fun _ => ?_))
   | exact ih0 _ _ _
   | exact LeO.none _
   | refine LeO.ite ?_ ?_
   | refine LeO.bind ?_ (fun _ => ?_)
set_option maxHeartbeats 8000000 in
set_option maxRecDepth 100000 in
theorem psalteryref06_Same.calls (k : Nat) (A0 : Option Addr) (c0 : Nat) (l0 : List Int) (A1 : Option Addr) (c1 : Nat) (l1 : List Int) (r : Bool) (w : World) (hr0 : Kd.C (Kd.int .i64) w A0 l0.length l0) (hc0 : l0.length ≤ c0) (hr1 : Kd.C (Kd.int .i64) w A1 l1.length l1) (hc1 : l1.length ≤ c1) (h : psalteryref06_Same.f k l0 l1 = some r) :
  Calls Try.prog 26 #[.slice A0 l0.length c0, .slice A1 l1.length c1] w fun e w' => e = .returned (.bool r) ∧ Drawn0 w w' := by
 have HR0 := zm hr0
 have HC0 := zm hc0
 clear hr0 hc0
 have HR1 := zm hr1
 have HC1 := zm hc1
 clear hr1 hc1
 have H : (if (l0.length : Int) = (l1.length : Int) then (psalteryref06_Same.l0 k l0 l1 0) else (some false)) = some r := h
 clear h
 by_cases c3 : (l0.length : Int) = (l1.length : Int)
 ·
  rw [if_pos c3] at H
  have c3b0 : ((l0.length : Int) == (l1.length : Int)) = true := beq_iff_eq.mpr c3
  have c3b1 : ((l0.length : Int) != (l1.length : Int)) = false := bne_eq_false_iff_eq.mpr c3
  have c3b2 : (l0.length == l1.length) = true := by first | simpa using c3 | (simp at c3 ⊢; omega)
  clear c3
  have H' := zm H
  clear H
  go_enter Try.func26, Try.ntmps26
  go_wp2
  repeat (go_quiet (fail); try go_wp2)
  go_loopg [5] k (fun kq v5 w' => ∃ (x5_1 : Int), v5 = .int .i64 x5_1 ∧ Aside0 (psalteryref06_Same.l0 kq l0 l1 x5_1 = some r) ∧ Aside0 (kq ≤ k) ∧ Drawn0 w w')
  case atStart => exact ⟨(0), (by first | rfl | (simp; done) | (simp [*]; done)), H', ⟨Nat.le_refl _⟩, by repeat (first | exact Drawn0.refl _ | apply Drawn0.step)⟩
  case round =>
   clear H'
   try clear c1
   try clear c2
   try clear p2
   try clear c3
   try clear c3b0
   try clear c3b1
   try clear c3b2
   obtain ⟨x5_1, rfl, HA, HK1, ⟨m1, rfl⟩⟩ := hrel
   cases gk with
   | zero => exact absurd HA.out (by simp [psalteryref06_Same.l0])
   | succ k1 =>
    have H := HA.out
    clear HA
    simp only [psalteryref06_Same.l0] at H
    by_cases c4 : x5_1 < (l0.length : Int)
    ·
     rw [if_pos c4] at H
     have c4b0 : decide (x5_1 < (l0.length : Int)) = true := decide_eq_true c4
     clear c4
     by_cases c5 : 0 ≤ x5_1
     ·
      rw [if_pos c5] at H
      have c5b0 : decide (0 ≤ x5_1) = true := decide_eq_true c5
      clear c5
      by_cases c6 : x5_1 < (l1.length : Int)
      ·
       rw [if_pos c6] at H
       have c6b0 : decide (x5_1 < (l1.length : Int)) = true := decide_eq_true c6
       clear c6
       by_cases c7 : (rd l0 x5_1) = (rd l1 x5_1)
       ·
        rw [if_pos c7] at H
        have c7b0 : ((rd l0 x5_1) == (rd l1 x5_1)) = true := beq_iff_eq.mpr c7
        have c7b1 : ((rd l0 x5_1) != (rd l1 x5_1)) = false := bne_eq_false_iff_eq.mpr c7
        clear c7
        have H' := zm H
        clear H
        have p138 : 0 ≤ (x5_1 : Int) := of_decide_eq_true (by first | (with_reducible assumption) | assumption)
        have q138 : x5_1 < (l0.length : Int) := of_decide_eq_true (by first | (with_reducible assumption) | assumption)
        obtain ⟨ad138, e138, hx138_0⟩ := Kd.at_int HR0.out x5_1 p138 q138
        cases e138
        replace p138 := eq_true p138
        replace q138 := eq_true q138
        have p139 : 0 ≤ (x5_1 : Int) := of_decide_eq_true (by first | (with_reducible assumption) | assumption)
        have q139 : x5_1 < (l1.length : Int) := of_decide_eq_true (by first | (with_reducible assumption) | assumption)
        obtain ⟨ad139, e139, hx139_0⟩ := Kd.at_int HR1.out x5_1 p139 q139
        cases e139
        replace p139 := eq_true p139
        replace q139 := eq_true q139
        go_wp2
        repeat (go_quiet (fail); try go_wp2)
        go_roundg k1
        case measure => have := HK1.out; omega
        case rel => exact ⟨(wrap64 (x5_1 + 1)), (by first | rfl | (simp; done) | (simp [*]; done)), H', ⟨by have := HK1.out; omega⟩, by repeat (first | exact Drawn0.refl _ | apply Drawn0.step)⟩
       ·
        rw [if_neg c7] at H
        have c7b0 : ((rd l0 x5_1) == (rd l1 x5_1)) = false := beq_eq_false_iff_ne.mpr c7
        have c7b1 : ((rd l0 x5_1) != (rd l1 x5_1)) = true := bne_iff_ne.mpr c7
        obtain rfl := Option.some.inj H
        have p138 : 0 ≤ (x5_1 : Int) := of_decide_eq_true (by first | (with_reducible assumption) | assumption)
        have q138 : x5_1 < (l0.length : Int) := of_decide_eq_true (by first | (with_reducible assumption) | assumption)
        obtain ⟨ad138, e138, hx138_0⟩ := Kd.at_int HR0.out x5_1 p138 q138
        cases e138
        replace p138 := eq_true p138
        replace q138 := eq_true q138
        have p139 : 0 ≤ (x5_1 : Int) := of_decide_eq_true (by first | (with_reducible assumption) | assumption)
        have q139 : x5_1 < (l1.length : Int) := of_decide_eq_true (by first | (with_reducible assumption) | assumption)
        obtain ⟨ad139, e139, hx139_0⟩ := Kd.at_int HR1.out x5_1 p139 q139
        cases e139
        replace p139 := eq_true p139
        replace q139 := eq_true q139
        go_wp2
        repeat (go_quiet (fail); try go_wp2)
        go_ret
        exact ⟨by first | rfl | (simp; done) | (simp [*]; done), by repeat (first | exact Drawn0.refl _ | apply Drawn0.step)⟩
      ·
       rw [if_neg c6] at H
       exact absurd H (by simp)
     ·
      rw [if_neg c5] at H
      exact absurd H (by simp)
    ·
     rw [if_neg c4] at H
     have c4b0 : decide (x5_1 < (l0.length : Int)) = false := decide_eq_false c4
     clear c4
     obtain rfl := Option.some.inj H
     go_wp2
     repeat (go_quiet (fail); try go_wp2)
     go_ret
     exact ⟨by first | rfl | (simp; done) | (simp [*]; done), by repeat (first | exact Drawn0.refl _ | apply Drawn0.step)⟩
 ·
  rw [if_neg c3] at H
  have c3b0 : ((l0.length : Int) == (l1.length : Int)) = false := beq_eq_false_iff_ne.mpr c3
  have c3b1 : ((l0.length : Int) != (l1.length : Int)) = true := bne_iff_ne.mpr c3
  have c3b2 : (l0.length == l1.length) = false := by first | simpa using c3 | (simp at c3 ⊢; omega)
  obtain rfl := Option.some.inj H
  go_enter Try.func26, Try.ntmps26
  go_wp2
  repeat (go_quiet (fail); try go_wp2)
  go_ret
  exact ⟨by first | rfl | (simp; done) | (simp [*]; done), by repeat (first | exact Drawn0.refl _ | apply Drawn0.step)⟩

end Go.Proofs.Ytgjdgpkjdffhkaa.Prt

namespace Go.Proofs.Ytgjdgpkjdffhkaa.Prt
open Go.RowKit Go.Proofs.YtgjdgpkjdffhkaaW.PrintWords Go.Proofs.YtgjdgpkjdffhkaaW.PrintLast Go.Proofs.YtgjdgpkjdffhkaaW.PrintMore
attribute [local go_sem] max2_int min2_int max_two min_two max_three min_three max_four min_four   -- for this text's walks alone
set_option linter.unusedVariables false
set_option linter.unusedSimpArgs false

/-! ### psalterylaw06_knows: function 19 -/
def psalterylaw06_knows.f (k : Nat)  : Option (Bool) := (comb_Count.f 3 2).bind fun bt140 => ((comb_Vector.f k 2 1 1).bind fun bt142 => ((comb_Index.f k (([1, (-1)] : List Int))).bind fun bt149 => ((comb_Cost.f k 2 1).bind fun bt151 => (if bt140.1 = 18 then (if bt140.2 = 0 then ((psalteryref06_Same.f k bt142.1 (([0, (-1)] : List Int))).bind fun t156 => (if t156 = true then (if bt142.2 = 0 then (if bt149.1 = 3 then (if bt149.2 = 0 then (if bt151.1 = 2 then (some (bt151.2 == 0)) else (none)) else (none)) else (none)) else (none)) else (none))) else (none)) else (none)))))
theorem psalterylaw06_knows.mono : ∀ k, LeO (psalterylaw06_knows.f k ) (psalterylaw06_knows.f (k + 1) ) := by
 intro  k
 unfold psalterylaw06_knows.f
 repeat' first
   | (with_reducible exact comb_Cost.mono _ _ _)
   | (with_reducible exact comb_Index.mono _ _)
   | (with_reducible exact comb_Vector.mono _ _ _ _)
   | (with_reducible exact psalteryref06_Same.mono _ _ _)
   | (with_reducible exact LeO.refl _)
   | (with_reducible exact LeO.none _)
   | (with_reducible refine LeO.ite ?_ ?_)
   | (with_reducible refine LeO.bind ?_ (fun _ => ?_))
   | exact comb_Cost.mono _ _ _
   | exact comb_Index.mono _ _
   | exact comb_Vector.mono _ _ _ _
   | exact psalteryref06_Same.mono _ _ _
   | exact LeO.none _
   | refine LeO.ite ?_ ?_
   | refine LeO.bind ?_ (fun _ => ?_)
set_option maxHeartbeats 8000000 in
set_option maxRecDepth 100000 in
theorem psalterylaw06_knows.calls (k : Nat)  (r : Bool) (w : World) (h : psalterylaw06_knows.f k  = some r) :
  Calls Try.prog 19 #[] w fun e w' => e = .returned (.bool r) ∧ Below w.heap.size w w' := by
 have HB := zm (Below.refl w.heap.size w)
 have H : ((comb_Count.f 3 2).bind fun bt140 => ((comb_Vector.f k 2 1 1).bind fun bt142 => ((comb_Index.f k (([1, (-1)] : List Int))).bind fun bt149 => ((comb_Cost.f k 2 1).bind fun bt151 => (if bt140.1 = 18 then (if bt140.2 = 0 then ((psalteryref06_Same.f k bt142.1 (([0, (-1)] : List Int))).bind fun t156 => (if t156 = true then (if bt142.2 = 0 then (if bt149.1 = 3 then (if bt149.2 = 0 then (if bt151.1 = 2 then (some (bt151.2 == 0)) else (none)) else (none)) else (none)) else (none)) else (none))) else (none)) else (none)))))) = some r := h
 clear h
 replace H := Option.bind_eq_some_iff.mp H
 obtain ⟨⟨t140, t141⟩, A10, H⟩ := H
 replace H : ((comb_Vector.f k 2 1 1).bind fun bt142 => ((comb_Index.f k (([1, (-1)] : List Int))).bind fun bt149 => ((comb_Cost.f k 2 1).bind fun bt151 => (if t140 = 18 then (if t141 = 0 then ((psalteryref06_Same.f k bt142.1 (([0, (-1)] : List Int))).bind fun t156 => (if t156 = true then (if bt142.2 = 0 then (if bt149.1 = 3 then (if bt149.2 = 0 then (if bt151.1 = 2 then (some (bt151.2 == 0)) else (none)) else (none)) else (none)) else (none)) else (none))) else (none)) else (none))))) = some r := H
 have A1 := zm A10
 clear A10
 replace H := Option.bind_eq_some_iff.mp H
 obtain ⟨⟨t142, t143⟩, A20, H⟩ := H
 replace H : ((comb_Index.f k (([1, (-1)] : List Int))).bind fun bt149 => ((comb_Cost.f k 2 1).bind fun bt151 => (if t140 = 18 then (if t141 = 0 then ((psalteryref06_Same.f k t142 (([0, (-1)] : List Int))).bind fun t156 => (if t156 = true then (if t143 = 0 then (if bt149.1 = 3 then (if bt149.2 = 0 then (if bt151.1 = 2 then (some (bt151.2 == 0)) else (none)) else (none)) else (none)) else (none)) else (none))) else (none)) else (none)))) = some r := H
 have A2 := zm A20
 clear A20
 obtain ⟨y146, hy146⟩ : ∃ y_ : List Int, y_ = (([1, (-1)] : List Int)) := ⟨_, rfl⟩
 replace H : ((comb_Index.f k y146).bind fun bt149 => ((comb_Cost.f k 2 1).bind fun bt151 => (if t140 = 18 then (if t141 = 0 then ((psalteryref06_Same.f k t142 (([0, (-1)] : List Int))).bind fun t156 => (if t156 = true then (if t143 = 0 then (if bt149.1 = 3 then (if bt149.2 = 0 then (if bt151.1 = 2 then (some (bt151.2 == 0)) else (none)) else (none)) else (none)) else (none)) else (none))) else (none)) else (none)))) = some r := by first | (rw [hy146]; with_reducible exact H) | (have H2_ := (Option.bind_some _ _).symm.trans H; rw [hy146]; with_reducible exact H2_) | (have H2_ := (Option.bind_some _ _).symm.trans H; with_reducible exact H2_) | with_reducible exact H | (rw [hy146]; exact H) | exact H
 have Ny146 := zm hy146
 clear hy146
 replace H := Option.bind_eq_some_iff.mp H
 obtain ⟨⟨t149, t150⟩, A30, H⟩ := H
 replace H : ((comb_Cost.f k 2 1).bind fun bt151 => (if t140 = 18 then (if t141 = 0 then ((psalteryref06_Same.f k t142 (([0, (-1)] : List Int))).bind fun t156 => (if t156 = true then (if t143 = 0 then (if t149 = 3 then (if t150 = 0 then (if bt151.1 = 2 then (some (bt151.2 == 0)) else (none)) else (none)) else (none)) else (none)) else (none))) else (none)) else (none))) = some r := H
 have A3 := zm A30
 clear A30
 replace H := Option.bind_eq_some_iff.mp H
 obtain ⟨⟨t151, t152⟩, A40, H⟩ := H
 replace H : (if t140 = 18 then (if t141 = 0 then ((psalteryref06_Same.f k t142 (([0, (-1)] : List Int))).bind fun t156 => (if t156 = true then (if t143 = 0 then (if t149 = 3 then (if t150 = 0 then (if t151 = 2 then (some (t152 == 0)) else (none)) else (none)) else (none)) else (none)) else (none))) else (none)) else (none)) = some r := H
 have A4 := zm A40
 clear A40
 by_cases c5 : t140 = 18
 ·
  rw [if_pos c5] at H
  have c5b0 : (t140 == 18) = true := beq_iff_eq.mpr c5
  have c5b1 : (t140 != 18) = false := bne_eq_false_iff_eq.mpr c5
  clear c5
  by_cases c6 : t141 = 0
  ·
   rw [if_pos c6] at H
   have c6b0 : (t141 == 0) = true := beq_iff_eq.mpr c6
   have c6b1 : (t141 != 0) = false := bne_eq_false_iff_eq.mpr c6
   clear c6
   obtain ⟨y153, hy153⟩ : ∃ y_ : List Int, y_ = (([0, (-1)] : List Int)) := ⟨_, rfl⟩
   replace H : ((psalteryref06_Same.f k t142 y153).bind fun t156 => (if t156 = true then (if t143 = 0 then (if t149 = 3 then (if t150 = 0 then (if t151 = 2 then (some (t152 == 0)) else (none)) else (none)) else (none)) else (none)) else (none))) = some r := by first | (rw [hy153]; with_reducible exact H) | (have H2_ := (Option.bind_some _ _).symm.trans H; rw [hy153]; with_reducible exact H2_) | (have H2_ := (Option.bind_some _ _).symm.trans H; with_reducible exact H2_) | with_reducible exact H | (rw [hy153]; exact H) | exact H
   have Ny153 := zm hy153
   clear hy153
   replace H := Option.bind_eq_some_iff.mp H
   obtain ⟨t156, A70, H⟩ := H
   replace H : (if t156 = true then (if t143 = 0 then (if t149 = 3 then (if t150 = 0 then (if t151 = 2 then (some (t152 == 0)) else (none)) else (none)) else (none)) else (none)) else (none)) = some r := H
   have A7 := zm A70
   clear A70
   by_cases c8 : t156 = true
   ·
    subst c8
    have H1 : (if t143 = 0 then (if t149 = 3 then (if t150 = 0 then (if t151 = 2 then (some (t152 == 0)) else (none)) else (none)) else (none)) else (none)) = some r := by rw [if_pos rfl] at H; exact H
    clear H
    have H := H1
    clear H1
    by_cases c9 : t143 = 0
    ·
     rw [if_pos c9] at H
     have c9b0 : (t143 == 0) = true := beq_iff_eq.mpr c9
     have c9b1 : (t143 != 0) = false := bne_eq_false_iff_eq.mpr c9
     clear c9
     by_cases c10 : t149 = 3
     ·
      rw [if_pos c10] at H
      have c10b0 : (t149 == 3) = true := beq_iff_eq.mpr c10
      have c10b1 : (t149 != 3) = false := bne_eq_false_iff_eq.mpr c10
      clear c10
      by_cases c11 : t150 = 0
      ·
       rw [if_pos c11] at H
       have c11b0 : (t150 == 0) = true := beq_iff_eq.mpr c11
       have c11b1 : (t150 != 0) = false := bne_eq_false_iff_eq.mpr c11
       clear c11
       by_cases c12 : t151 = 2
       ·
        rw [if_pos c12] at H
        have c12b0 : (t151 == 2) = true := beq_iff_eq.mpr c12
        have c12b1 : (t151 != 2) = false := bne_eq_false_iff_eq.mpr c12
        clear c12
        obtain rfl := Option.some.inj H
        go_enter Try.func19, Try.ntmps19
        go_wp2_with (first | ((with_reducible refine gate_callee (f := 16) rfl ?_); refine goesL_ (some 10) rfl rfl Try.func16 (by kernel_rfl) rfl #[.int .i64 3, .int .i64 2] rfl (by (try simp only [List.map_toArray, List.map_cons, List.map_nil]); first | done | rfl | (simp only [List.length_drop, List.length_take]; rfl)) ?_; (with_reducible refine (comb_Count.calls 3 2 t140 t141 _ A1.out).mono ?_); rintro e w13 ⟨rfl, hb⟩; refine ⟨_, rfl, ?_⟩; have n0_ := zm (zJ (by repeat (first | (with_reducible first | exact HB.out | apply ze | apply zd | apply zf) | exact HB.out)) hb); clear HB; have HB := n0_; clear n0_; (try clear hb); (try clear hb2); (try clear hk); (try clear hi)) | ((with_reducible refine gate_callee (f := 25) rfl ?_); refine goesL_ (some 14) rfl rfl Try.func25 (by kernel_rfl) rfl #[.int .i64 2, .int .i64 1, .int .u64 1] rfl (by (try simp only [List.map_toArray, List.map_cons, List.map_nil]); first | done | rfl | (simp only [List.length_drop, List.length_take]; rfl)) ?_; (with_reducible refine (comb_Vector.calls k 2 1 1 t142 t143 _ A2.out).mono ?_); rintro e w14 ⟨v144, rfl, ho0, hb⟩; refine ⟨_, rfl, ?_⟩; have n0_ := zm (Kd.R_lower ho0 (zE (by repeat (first | (with_reducible first | exact HB.out | apply ze | apply zd | apply zf) | exact HB.out)))); have n1_ := zm (zJ (by repeat (first | (with_reducible first | exact HB.out | apply ze | apply zd | apply zf) | exact HB.out)) hb); clear HB; have HO145 := n0_; have HB := n1_; clear n0_ n1_; (try clear hb); (try clear hb2); (try clear hk); (try clear hi); (try clear ho0)) | ((with_reducible refine gate_dst (N := 18) rfl ?_); (try (refine gate_guard (by rfl) ?_; dsimp only)); refine Kd.R_lit (Kd.int .i64) _ 3 ?hg (N := 18) ?hd (xs := ([1, (-1)] : List Int)) (inner := [.int .i64 1, .int .i64 (-1)]) (ok := fun _ => True) (okp := fun _ => True) ?hr ?hp (fun _ hk => hk) trivial (Below.refl _ _) (Nat.le_refl _) (by simp) ?_; (case hd => rfl); (case hg => rfl); (case hr => first | (go_simp; done) | (go_simp; rfl)); (case hp => exact (Reps.one (show Kd.M (Kd.int .i64) _ _ _ 1 [.int .i64 1] from rfl) (Reps.one (show Kd.M (Kd.int .i64) _ _ _ (-1) [.int .i64 (-1)] from rfl) (Reps.none _ _)))); intro v147 w15 ho16 hb hg_ hnew_; clear hg_ hnew_; (first | rw [← Ny146.out] at ho16 | (simp only [Int.reduceToNat] at ho16; rw [← Ny146.out] at ho16)); have n0_ := zm (Kd.R_elder' (by (with_reducible repeat (first | apply zo | apply zp | apply zq)); exact HO145.out) (Kd.R_base ho16) hb); have n1_ := zm (Kd.R_lower (Kd.R_new' ho16 (Kd.R_lt (by (with_reducible repeat (first | apply zo | apply zp | apply zq)); exact HO145.out))) (zE (by repeat (first | (with_reducible first | exact HB.out | apply ze | apply zd | apply zf) | exact HB.out)))); have n2_ := zm (zJ (by repeat (first | (with_reducible first | exact HB.out | apply ze | apply zd | apply zf) | exact HB.out)) hb); clear HO145; clear HB; have HO145 := n0_; have HO148 := n1_; have HB := n2_; clear n0_ n1_ n2_; clear hb ho16; obtain ⟨Ao17, co17, eo17⟩ := Kd.R_slice HO148.out; subst eo17) | ((with_reducible refine gate_callee (f := 22) rfl ?_); refine goesL_ (some 19) rfl rfl Try.func22 (by kernel_rfl) rfl #[.slice Ao17 y146.length co17] rfl (by (try simp only [List.map_toArray, List.map_cons, List.map_nil]); first | done | rfl | (simp only [List.length_drop, List.length_take]; rfl)) ?_; (with_reducible refine (comb_Index.calls k _ _ y146 t149 t150 _ ?side1 ?side2 A3.out).mono ?_); (case side1 => repeat (first | exact (Kd.R_reads' HO148.out).2.2 | (with_reducible refine Kd.C_alloc ?_ _) | (with_reducible refine Kd.C_drewN ?_ _) | (with_reducible refine Kd.C_drew ?_))); (case side2 => exact (Kd.R_reads' HO148.out).2.1); rintro e w18 ⟨rfl, hb⟩; refine ⟨_, rfl, ?_⟩; have n0_ := zm (Kd.R_below (by (with_reducible repeat (first | apply zo | apply zp | apply zq)); exact HO145.out) hb); have n1_ := zm (Kd.R_below (by (with_reducible repeat (first | apply zo | apply zp | apply zq)); exact HO148.out) hb); have n2_ := zm (zJ (by repeat (first | (with_reducible first | exact HB.out | apply ze | apply zd | apply zf) | exact HB.out)) hb); clear HO145; clear HO148; clear HB; have HO145 := n0_; have HO148 := n1_; have HB := n2_; clear n0_ n1_ n2_; (try clear hb); (try clear hb2); (try clear hk); (try clear hi)) | ((with_reducible refine gate_callee (f := 17) rfl ?_); refine goesL_ (some 23) rfl rfl Try.func17 (by kernel_rfl) rfl #[.int .i64 2, .int .i64 1] rfl (by (try simp only [List.map_toArray, List.map_cons, List.map_nil]); first | done | rfl | (simp only [List.length_drop, List.length_take]; rfl)) ?_; (with_reducible refine (comb_Cost.calls k 2 1 t151 t152 _ A4.out).mono ?_); rintro e w19 ⟨rfl, hb⟩; refine ⟨_, rfl, ?_⟩; have n0_ := zm (Kd.R_below (by (with_reducible repeat (first | apply zo | apply zp | apply zq)); exact HO145.out) hb); have n1_ := zm (Kd.R_below (by (with_reducible repeat (first | apply zo | apply zp | apply zq)); exact HO148.out) hb); have n2_ := zm (zJ (by repeat (first | (with_reducible first | exact HB.out | apply ze | apply zd | apply zf) | exact HB.out)) hb); clear HO145; clear HO148; clear HB; have HO145 := n0_; have HO148 := n1_; have HB := n2_; clear n0_ n1_ n2_; (try clear hb); (try clear hb2); (try clear hk); (try clear hi)) | ((with_reducible refine gate_dst (N := 34) rfl ?_); (try (refine gate_guard (by rfl) ?_; dsimp only)); refine Kd.R_lit (Kd.int .i64) _ 3 ?hg (N := 34) ?hd (xs := ([0, (-1)] : List Int)) (inner := [.int .i64 0, .int .i64 (-1)]) (ok := fun _ => True) (okp := fun _ => True) ?hr ?hp (fun _ hk => hk) trivial (Below.refl _ _) (Nat.le_refl _) (by simp) ?_; (case hd => rfl); (case hg => rfl); (case hr => first | (go_simp; done) | (go_simp; rfl)); (case hp => exact (Reps.one (show Kd.M (Kd.int .i64) _ _ _ 0 [.int .i64 0] from rfl) (Reps.one (show Kd.M (Kd.int .i64) _ _ _ (-1) [.int .i64 (-1)] from rfl) (Reps.none _ _)))); intro v154 w20 ho21 hb hg_ hnew_; clear hg_ hnew_; (first | rw [← Ny153.out] at ho21 | (simp only [Int.reduceToNat] at ho21; rw [← Ny153.out] at ho21)); have n0_ := zm (Kd.R_elder' (by (with_reducible repeat (first | apply zo | apply zp | apply zq)); exact HO145.out) (Kd.R_base ho21) hb); have n1_ := zm (Kd.R_elder' (by (with_reducible repeat (first | apply zo | apply zp | apply zq)); exact HO148.out) (Kd.R_base ho21) hb); have n2_ := zm (Kd.R_lower (Kd.R_new' (Kd.R_new' ho21 (Kd.R_lt (by (with_reducible repeat (first | apply zo | apply zp | apply zq)); exact HO145.out))) (Kd.R_lt (by (with_reducible repeat (first | apply zo | apply zp | apply zq)); exact HO148.out))) (zE (by repeat (first | (with_reducible first | exact HB.out | apply ze | apply zd | apply zf) | exact HB.out)))); have n3_ := zm (zJ (by repeat (first | (with_reducible first | exact HB.out | apply ze | apply zd | apply zf) | exact HB.out)) hb); clear HO145; clear HO148; clear HB; have HO145 := n0_; have HO148 := n1_; have HO155 := n2_; have HB := n3_; clear n0_ n1_ n2_ n3_; clear hb ho21; obtain ⟨Ao22, co22, eo22⟩ := Kd.R_slice HO145.out; subst eo22; obtain ⟨Ao23, co23, eo23⟩ := Kd.R_slice HO155.out; subst eo23) | (go_at_call 26; (with_reducible refine (psalteryref06_Same.calls k _ _ t142 _ _ y153 true _ ?side1 ?side2 ?side3 ?side4 A7.out).mono ?_); (case side1 => repeat (first | exact (Kd.R_reads' HO145.out).2.2 | (with_reducible refine Kd.C_alloc ?_ _) | (with_reducible refine Kd.C_drewN ?_ _) | (with_reducible refine Kd.C_drew ?_))); (case side2 => exact (Kd.R_reads' HO145.out).2.1); (case side3 => repeat (first | exact (Kd.R_reads' HO155.out).2.2 | (with_reducible refine Kd.C_alloc ?_ _) | (with_reducible refine Kd.C_drewN ?_ _) | (with_reducible refine Kd.C_drew ?_))); (case side4 => exact (Kd.R_reads' HO155.out).2.1); rintro e w' ⟨rfl, ⟨nd, rfl⟩⟩))
        go_ret
        exact ⟨by first | rfl | (simp [errW_none, errW_some] <;> rfl) | (simp [*, errW_none, errW_some] <;> rfl), by repeat (first | (with_reducible first | exact HB.out | apply ze | apply zd | apply zf) | exact HB.out)⟩
       ·
        rw [if_neg c12] at H
        exact absurd H (by simp)
      ·
       rw [if_neg c11] at H
       exact absurd H (by simp)
     ·
      rw [if_neg c10] at H
      exact absurd H (by simp)
    ·
     rw [if_neg c9] at H
     exact absurd H (by simp)
   ·
    replace c8 := Bool.eq_false_iff.mpr c8
    subst c8
    have H1 : (none) = some r := by rw [if_neg (show ¬ (false = true) by decide)] at H; exact H
    clear H
    have H := H1
    clear H1
    exact absurd H (by simp)
  ·
   rw [if_neg c6] at H
   exact absurd H (by simp)
 ·
  rw [if_neg c5] at H
  exact absurd H (by simp)

end Go.Proofs.Ytgjdgpkjdffhkaa.Prt

namespace Go.Proofs.Ytgjdgpkjdffhkaa.Prt
open Go.RowKit Go.Proofs.YtgjdgpkjdffhkaaW.PrintWords Go.Proofs.YtgjdgpkjdffhkaaW.PrintLast Go.Proofs.YtgjdgpkjdffhkaaW.PrintMore
attribute [local go_sem] max2_int min2_int max_two min_two max_three min_three max_four min_four   -- for this text's walks alone
set_option linter.unusedVariables false
set_option linter.unusedSimpArgs false

/-! ### psalterylaw06_place: function 28 -/
def psalterylaw06_place.f (a0 : Int) : Option (Int) := if a0 > 0 then (some (wrap64 ((wrap64 (2 * a0)) - 1))) else (some (wrap64 ((-2) * a0)))
set_option maxHeartbeats 8000000 in
set_option maxRecDepth 100000 in
theorem psalterylaw06_place.calls (a0 : Int) (r : Int) (w : World) (h : psalterylaw06_place.f a0 = some r) :
  Calls Try.prog 28 #[.int .i64 a0] w fun e w' => e = .returned (.int .i64 r) ∧ Drawn0 w w' := by
 have H : (if a0 > 0 then (some (wrap64 ((wrap64 (2 * a0)) - 1))) else (some (wrap64 ((-2) * a0)))) = some r := h
 clear h
 by_cases c2 : a0 > 0
 ·
  rw [if_pos c2] at H
  have c2b0 : decide (0 < a0) = true := decide_eq_true c2
  clear c2
  obtain rfl := Option.some.inj H
  go_enter Try.func28, Try.ntmps28
  go_wp2
  go_ret
  exact ⟨by first | rfl | (simp; done) | (simp [*]; done), by repeat (first | exact Drawn0.refl _ | apply Drawn0.step)⟩
 ·
  rw [if_neg c2] at H
  have c2b0 : decide (0 < a0) = false := decide_eq_false c2
  clear c2
  obtain rfl := Option.some.inj H
  go_enter Try.func28, Try.ntmps28
  go_wp2
  go_ret
  exact ⟨by first | rfl | (simp; done) | (simp [*]; done), by repeat (first | exact Drawn0.refl _ | apply Drawn0.step)⟩

end Go.Proofs.Ytgjdgpkjdffhkaa.Prt

namespace Go.Proofs.Ytgjdgpkjdffhkaa.Prt
open Go.RowKit Go.Proofs.YtgjdgpkjdffhkaaW.PrintWords Go.Proofs.YtgjdgpkjdffhkaaW.PrintLast Go.Proofs.YtgjdgpkjdffhkaaW.PrintMore
attribute [local go_sem] max2_int min2_int max_two min_two max_three min_three max_four min_four   -- for this text's walks alone
set_option linter.unusedVariables false
set_option linter.unusedSimpArgs false

/-! ### psalteryref06_Row: function 45 -/
mutual
def psalteryref06_Row.l0 : Nat → Int → List Int → Int → Option (List Int)
 | 0, _, _, _ => none
 | k + 1, x0, x3, x4 => if x4 ≤ 12 then (if x4 = 0 then (if x3.length < 17592186044416 then (psalteryref06_Row.l0 k x0 (x3 ++ [1]) (wrap64 (x4 + 1))) else (none)) else (if x3.length < 17592186044416 then (psalteryref06_Row.l0 k x0 (x3 ++ [0]) (wrap64 (x4 + 1))) else (none))) else (psalteryref06_Row.l1 k x0 x3 0)
def psalteryref06_Row.l1 : Nat → Int → List Int → Int → Option (List Int)
 | 0, _, _, _ => none
 | k + 1, x0, x3, x5 => if x5 < x0 then (psalteryref06_Row.l2 k x0 x3 x5 ([] : List Int) 0) else (some x3)
def psalteryref06_Row.l2 : Nat → Int → List Int → Int → List Int → Int → Option (List Int)
 | 0, _, _, _, _, _ => none
 | k + 1, x0, x3, x5, x6, x7 => if x7 ≤ 12 then (if 0 ≤ x7 then (if x7 < (x3.length : Int) then (psalteryref06_Row.l3 k x0 x3 x5 x6 x7 (rd x3 x7) 1) else (none)) else (none)) else (psalteryref06_Row.l1 k x0 x6 (wrap64 (x5 + 1)))
def psalteryref06_Row.l3 : Nat → Int → List Int → Int → List Int → Int → Int → Int → Option (List Int)
 | 0, _, _, _, _, _, _, _ => none
 | k + 1, x0, x3, x5, x6, x7, x8, x9 => if x9 ≤ x7 then (if 0 ≤ (wrap64 (x7 - x9)) then (if (wrap64 (x7 - x9)) < (x3.length : Int) then (psalteryref06_Row.l3 k x0 x3 x5 x6 x7 (IntKind.u64.wrap (x8 + (IntKind.u64.wrap (2 * (rd x3 (wrap64 (x7 - x9))))))) (wrap64 (x9 + 1))) else (none)) else (none)) else (if x6.length < 17592186044416 then (psalteryref06_Row.l2 k x0 x3 x5 (x6 ++ [x8]) (wrap64 (x7 + 1))) else (none))
end
def psalteryref06_Row.f (k : Nat) (a0 : Int) : Option (List Int) := psalteryref06_Row.l0 k a0 ([] : List Int) 0
theorem psalteryref06_Row.mono_l : ∀ k, (∀ y0 y1 y2, LeO (psalteryref06_Row.l0 k y0 y1 y2) (psalteryref06_Row.l0 (k + 1) y0 y1 y2)) ∧ (∀ y0 y1 y2, LeO (psalteryref06_Row.l1 k y0 y1 y2) (psalteryref06_Row.l1 (k + 1) y0 y1 y2)) ∧ (∀ y0 y1 y2 y3 y4, LeO (psalteryref06_Row.l2 k y0 y1 y2 y3 y4) (psalteryref06_Row.l2 (k + 1) y0 y1 y2 y3 y4)) ∧ (∀ y0 y1 y2 y3 y4 y5 y6, LeO (psalteryref06_Row.l3 k y0 y1 y2 y3 y4 y5 y6) (psalteryref06_Row.l3 (k + 1) y0 y1 y2 y3 y4 y5 y6))
 | 0 => ⟨fun _ _ _ r h => by simp [psalteryref06_Row.l0] at h, fun _ _ _ r h => by simp [psalteryref06_Row.l1] at h, fun _ _ _ _ _ r h => by simp [psalteryref06_Row.l2] at h, fun _ _ _ _ _ _ _ r h => by simp [psalteryref06_Row.l3] at h⟩
 | k + 1 => by
  obtain ⟨ih0, ih1, ih2, ih3⟩ := psalteryref06_Row.mono_l k
  refine ⟨?_, ?_, ?_, ?_⟩
  ·
   intro y0 y1 y2
   unfold psalteryref06_Row.l0
   repeat' first
   | (with_reducible exact ih0 _ _ _)
   | (with_reducible exact ih1 _ _ _)
   | (with_reducible exact ih2 _ _ _ _ _)
   | (with_reducible exact ih3 _ _ _ _ _ _ _)
   | (with_reducible exact LeO.refl _)
   | (with_reducible exact LeO.none _)
   | (with_reducible refine LeO.ite ?_ ?_)
   | (with_reducible refine LeO.bind ?_ (fun _ => ?_))
   | exact ih0 _ _ _
   | exact ih1 _ _ _
   | exact ih2 _ _ _ _ _
   | exact ih3 _ _ _ _ _ _ _
   | exact LeO.none _
   | refine LeO.ite ?_ ?_
   | refine LeO.bind ?_ (fun _ => ?_)
  ·
   intro y0 y1 y2
   unfold psalteryref06_Row.l1
   repeat' first
   | (with_reducible exact ih0 _ _ _)
   | (with_reducible exact ih1 _ _ _)
   | (with_reducible exact ih2 _ _ _ _ _)
   | (with_reducible exact ih3 _ _ _ _ _ _ _)
   | (with_reducible exact LeO.refl _)
   | (with_reducible exact LeO.none _)
   | (with_reducible refine LeO.ite ?_ ?_)
   | (with_reducible refine LeO.bind ?_ (fun _ => ?_))
   | exact ih0 _ _ _
   | exact ih1 _ _ _
   | exact ih2 _ _ _ _ _
   | exact ih3 _ _ _ _ _ _ _
   | exact LeO.none _
   | refine LeO.ite ?_ ?_
   | refine LeO.bind ?_ (fun _ => ?_)
  ·
   intro y0 y1 y2 y3 y4
   unfold psalteryref06_Row.l2
   repeat' first
   | (with_reducible exact ih0 _ _ _)
   | (with_reducible exact ih1 _ _ _)
   | (with_reducible exact ih2 _ _ _ _ _)
   | (with_reducible exact ih3 _ _ _ _ _ _ _)
   | (with_reducible exact LeO.refl _)
   | (with_reducible exact LeO.none _)
   | (with_reducible refine LeO.ite ?_ ?_)
   | (with_reducible refine LeO.bind ?_ (fun _ => ?_))
   | exact ih0 _ _ _
   | exact ih1 _ _ _
   | exact ih2 _ _ _ _ _
   | exact ih3 _ _ _ _ _ _ _
   | exact LeO.none _
   | refine LeO.ite ?_ ?_
   | refine LeO.bind ?_ (fun _ => ?_)
  ·
   intro y0 y1 y2 y3 y4 y5 y6
   unfold psalteryref06_Row.l3
   repeat' first
   | (with_reducible exact ih0 _ _ _)
   | (with_reducible exact ih1 _ _ _)
   | (with_reducible exact ih2 _ _ _ _ _)
   | (with_reducible exact ih3 _ _ _ _ _ _ _)
   | (with_reducible exact LeO.refl _)
   | (with_reducible exact LeO.none _)
   | (with_reducible refine LeO.ite ?_ ?_)
   | (with_reducible refine LeO.bind ?_ (fun _ => ?_))
   | exact ih0 _ _ _
   | exact ih1 _ _ _
   | exact ih2 _ _ _ _ _
   | exact ih3 _ _ _ _ _ _ _
   | exact LeO.none _
   | refine LeO.ite ?_ ?_
   | refine LeO.bind ?_ (fun _ => ?_)
theorem psalteryref06_Row.mono : ∀ a0 k, LeO (psalteryref06_Row.f k a0) (psalteryref06_Row.f (k + 1) a0) := by
 intro a0 k
 obtain ⟨ih0, ih1, ih2, ih3⟩ := psalteryref06_Row.mono_l k
 unfold psalteryref06_Row.f
 repeat' first
   | (with_reducible exact ih0 _ _ _)
   | (with_reducible exact ih1 _ _ _)
   | (with_reducible exact ih2 _ _ _ _ _)
   | (with_reducible exact ih3 _ _ _ _ _ _ _)
   | (with_reducible exact LeO.refl _)
   | (with_reducible exact LeO.none _)
   | (with_reducible refine LeO.ite ?_ ?_)
   | (with_reducible refine LeO.bind ?_ (fun _ => ?_))
   | exact ih0 _ _ _
   | exact ih1 _ _ _
   | exact ih2 _ _ _ _ _
   | exact ih3 _ _ _ _ _ _ _
   | exact LeO.none _
   | refine LeO.ite ?_ ?_
   | refine LeO.bind ?_ (fun _ => ?_)
set_option maxHeartbeats 8000000 in
set_option maxRecDepth 100000 in
theorem psalteryref06_Row.calls (k : Nat) (a0 : Int) (r : List Int) (w : World) (h : psalteryref06_Row.f k a0 = some r) :
  Calls Try.prog 45 #[.int .i64 a0] w fun e w' => ∃ v0_ : Value, e = .returned (v0_) ∧ Kd.R (Kd.int .u64) 22 w' w.heap.size (fun _ => True) v0_ r ∧ Below w.heap.size w w' := by
 have HB := zm (Below.refl w.heap.size w)
 have H : (psalteryref06_Row.l0 k a0 ([] : List Int) 0) = some r := h
 clear h
 have H' := zm H
 clear H
 go_enter Try.func45, Try.ntmps45
 go_wp2
 go_loopg [3, 4] k (fun kq v3 v4 w' => ∃ (x3_1 : List Int) (x4_1 : Int), v4 = .int .i64 x4_1 ∧ Aside0 (psalteryref06_Row.l0 kq a0 x3_1 x4_1 = some r) ∧ Aside0 (kq ≤ k) ∧ Aside0 (Kd.R (Kd.int .u64) 22 w' w.heap.size (fun _ => True) v3 x3_1) ∧ Aside0 (Below w.heap.size w w'))
 case atStart => exact ⟨(([] : List Int)), (0), (by first | rfl | (simp; done) | (simp [*]; done)), H', ⟨Nat.le_refl _⟩, ⟨by first | exact Kd.R_nil _ _ _ _ _ | exact Kd.N_nil _ _ _ _ _ | exact Kd.V_nil _ _ _ _ _ | exact Kd.Q_nil _ _ _ _ _ | exact Kd.S_nil _ _ _ _ _⟩, ⟨by repeat (first | (with_reducible first | exact HB.out | apply ze | apply zd | apply zf) | exact HB.out)⟩⟩
 case round =>
  clear H'
  obtain ⟨x3_1, x4_1, rfl, HA, HK1, HO_3, HB⟩ := hrel
  cases gk with
  | zero => exact absurd HA.out (by simp [psalteryref06_Row.l0])
  | succ k1 =>
   have H := HA.out
   clear HA
   simp only [psalteryref06_Row.l0] at H
   by_cases c2 : x4_1 ≤ 12
   ·
    rw [if_pos c2] at H
    have c2b0 : decide (x4_1 ≤ 12) = true := decide_eq_true c2
    clear c2
    by_cases c3 : x4_1 = 0
    ·
     rw [if_pos c3] at H
     have c3b0 : (x4_1 == 0) = true := beq_iff_eq.mpr c3
     have c3b1 : (x4_1 != 0) = false := bne_eq_false_iff_eq.mpr c3
     clear c3
     by_cases c4 : x3_1.length < 17592186044416
     ·
      rw [if_pos c4] at H
      have LMc4 := zm c4
      clear c4
      obtain ⟨y157, hy157⟩ : ∃ y_ : List Int, y_ = (x3_1 ++ [1]) := ⟨_, rfl⟩
      replace H : (psalteryref06_Row.l0 k1 a0 y157 (wrap64 (x4_1 + 1))) = some r := by first | (rw [hy157]; with_reducible exact H) | (have H2_ := (Option.bind_some _ _).symm.trans H; rw [hy157]; with_reducible exact H2_) | (have H2_ := (Option.bind_some _ _).symm.trans H; with_reducible exact H2_) | with_reducible exact H | (rw [hy157]; exact H) | exact H
      have Ny157 := zm hy157
      clear hy157
      have H' := zm H
      clear H
      go_wp2_with (first | ((with_reducible refine gate_builtin (b := .append) (xs := #[.tmp 16, .tmp 17]) rfl ?_); at_builtin; refine Kd.R_append (Kd.int .u64) (w0 := w) w.heap.size rfl (.tmp 16) (.tmp 17) 60 22 (.int .u64 0) 8 rfl Try.underlying60 info22 rfl (by decide) (by omega) u3 x3_1 1 [.int .u64 1] (fun _ => True) (fun _ => False) rfl rfl ?aP (fun _ hk => hk.elim) ?aF ?aO ?aB ?aS ?aL ?_; (case aP => exact rfl); (case aB => exact (by repeat (first | (with_reducible first | exact HB.out | apply ze | apply zd | apply zf) | exact HB.out))); (case aF => exact (fun _ _ => trivial)); (case aO => exact (by (with_reducible repeat (first | apply zo | apply zp | apply zq)); exact HO_3.out)); (case aS => exact (zE (by repeat (first | (with_reducible first | exact HB.out | apply ze | apply zd | apply zf) | exact HB.out)))); (case aL => have := LMc4.out; omega); intro v158 w5 ho hb hg hat; rw [← Ny157.out] at ho; have n0_ := zm (hb); have n1_ := zm (ho); clear HB; clear HO_3; have HB := n0_; have HO159 := n1_; clear n0_ n1_; clear ho hb hg hat))
      go_roundg k1
      case measure => have := HK1.out; omega
      case rel => exact ⟨(y157), (wrap64 (x4_1 + 1)), (by first | rfl | (simp; done) | (simp [*]; done)), H', ⟨by have := HK1.out; omega⟩, ⟨by (with_reducible repeat (first | apply zo | apply zp | apply zq)); exact HO159.out⟩, ⟨by repeat (first | (with_reducible first | exact HB.out | apply ze | apply zd | apply zf) | exact HB.out)⟩⟩
     ·
      rw [if_neg c4] at H
      exact absurd H (by simp)
    ·
     rw [if_neg c3] at H
     have c3b0 : (x4_1 == 0) = false := beq_eq_false_iff_ne.mpr c3
     have c3b1 : (x4_1 != 0) = true := bne_iff_ne.mpr c3
     by_cases c6 : x3_1.length < 17592186044416
     ·
      rw [if_pos c6] at H
      have LMc6 := zm c6
      clear c6
      obtain ⟨y160, hy160⟩ : ∃ y_ : List Int, y_ = (x3_1 ++ [0]) := ⟨_, rfl⟩
      replace H : (psalteryref06_Row.l0 k1 a0 y160 (wrap64 (x4_1 + 1))) = some r := by first | (rw [hy160]; with_reducible exact H) | (have H2_ := (Option.bind_some _ _).symm.trans H; rw [hy160]; with_reducible exact H2_) | (have H2_ := (Option.bind_some _ _).symm.trans H; with_reducible exact H2_) | with_reducible exact H | (rw [hy160]; exact H) | exact H
      have Ny160 := zm hy160
      clear hy160
      have H' := zm H
      clear H
      go_wp2_with (first | ((with_reducible refine gate_builtin (b := .append) (xs := #[.tmp 19, .tmp 20]) rfl ?_); at_builtin; refine Kd.R_append (Kd.int .u64) (w0 := w) w.heap.size rfl (.tmp 19) (.tmp 20) 60 22 (.int .u64 0) 8 rfl Try.underlying60 info22 rfl (by decide) (by omega) u3 x3_1 0 [.int .u64 0] (fun _ => True) (fun _ => False) rfl rfl ?aP (fun _ hk => hk.elim) ?aF ?aO ?aB ?aS ?aL ?_; (case aP => exact rfl); (case aB => exact (by repeat (first | (with_reducible first | exact HB.out | apply ze | apply zd | apply zf) | exact HB.out))); (case aF => exact (fun _ _ => trivial)); (case aO => exact (by (with_reducible repeat (first | apply zo | apply zp | apply zq)); exact HO_3.out)); (case aS => exact (zE (by repeat (first | (with_reducible first | exact HB.out | apply ze | apply zd | apply zf) | exact HB.out)))); (case aL => have := LMc6.out; omega); intro v161 w7 ho hb hg hat; rw [← Ny160.out] at ho; have n0_ := zm (hb); have n1_ := zm (ho); clear HB; clear HO_3; have HB := n0_; have HO162 := n1_; clear n0_ n1_; clear ho hb hg hat))
      go_roundg k1
      case measure => have := HK1.out; omega
      case rel => exact ⟨(y160), (wrap64 (x4_1 + 1)), (by first | rfl | (simp; done) | (simp [*]; done)), H', ⟨by have := HK1.out; omega⟩, ⟨by (with_reducible repeat (first | apply zo | apply zp | apply zq)); exact HO162.out⟩, ⟨by repeat (first | (with_reducible first | exact HB.out | apply ze | apply zd | apply zf) | exact HB.out)⟩⟩
     ·
      rw [if_neg c6] at H
      exact absurd H (by simp)
   ·
    rw [if_neg c2] at H
    have c2b0 : decide (x4_1 ≤ 12) = false := decide_eq_false c2
    clear c2
    have H' := zm H
    clear H
    go_wp2
    go_loopg [3, 5] k1 (fun kq v3 v5 w' => ∃ (x3_2 : List Int) (x5_2 : Int), v5 = .int .i64 x5_2 ∧ Aside0 (psalteryref06_Row.l1 kq a0 x3_2 x5_2 = some r) ∧ Aside0 (kq ≤ k1) ∧ Aside0 (Kd.R (Kd.int .u64) 22 w' w.heap.size (fun _ => True) v3 x3_2) ∧ Aside0 (Below w.heap.size w w'))
    case atStart => exact ⟨(x3_1), (0), (by first | rfl | (simp; done) | (simp [*]; done)), H', ⟨Nat.le_refl _⟩, ⟨by (with_reducible repeat (first | apply zo | apply zp | apply zq)); exact HO_3.out⟩, ⟨by repeat (first | (with_reducible first | exact HB.out | apply ze | apply zd | apply zf) | exact HB.out)⟩⟩
    case round =>
     clear H'
     try clear c2
     try clear c2b0
     try clear p2
     try clear c3
     try clear c3b0
     try clear c3b1
     try clear c4
     try clear c6
     try clear p6
     obtain ⟨x3_2, x5_2, rfl, HA, HK2, HO_3, HB⟩ := hrel
     cases gk with
     | zero => exact absurd HA.out (by simp [psalteryref06_Row.l1])
     | succ k2 =>
      have H := HA.out
      clear HA
      simp only [psalteryref06_Row.l1] at H
      by_cases c8 : x5_2 < a0
      ·
       rw [if_pos c8] at H
       have c8b0 : decide (x5_2 < a0) = true := decide_eq_true c8
       clear c8
       have H' := zm H
       clear H
       go_wp2
       go_loopg [6, 7] k2 (fun kq v6 v7 w' => ∃ (x6_3 : List Int) (x7_3 : Int), v7 = .int .i64 x7_3 ∧ Aside0 (psalteryref06_Row.l2 kq a0 x3_2 x5_2 x6_3 x7_3 = some r) ∧ Aside0 (kq ≤ k2) ∧ Aside0 (Kd.R (Kd.int .u64) 22 w' w.heap.size (fun k_ => some k_ ≠ (v6 : Value).ownBlock) u3 x3_2) ∧ Aside0 (Kd.R (Kd.int .u64) 22 w' w.heap.size (fun k_ => some k_ ≠ (u3 : Value).ownBlock) v6 x6_3) ∧ Aside0 (Below w.heap.size w w'))
       case atStart => exact ⟨(([] : List Int)), (0), (by first | rfl | (simp; done) | (simp [*]; done)), H', ⟨Nat.le_refl _⟩, ⟨by (with_reducible repeat (first | apply zo | apply zp | apply zq)); exact zG HO_3.out (fun _ hk => (by simp [Value.ownBlock]))⟩, ⟨by first | exact Kd.R_nil _ _ _ _ _ | exact Kd.N_nil _ _ _ _ _ | exact Kd.V_nil _ _ _ _ _ | exact Kd.Q_nil _ _ _ _ _ | exact Kd.S_nil _ _ _ _ _⟩, ⟨by repeat (first | (with_reducible first | exact HB.out | apply ze | apply zd | apply zf) | exact HB.out)⟩⟩
       case round =>
        clear H'
        try clear c2
        try clear c2b0
        try clear p2
        try clear c3
        try clear c3b0
        try clear c3b1
        try clear c4
        try clear c6
        try clear p6
        try clear c8
        try clear c8b0
        try clear p2
        try clear p6
        obtain ⟨x6_3, x7_3, rfl, HA, HK3, HO_3, HO_6, HB⟩ := hrel
        cases gk with
        | zero => exact absurd HA.out (by simp [psalteryref06_Row.l2])
        | succ k3 =>
         have H := HA.out
         clear HA
         simp only [psalteryref06_Row.l2] at H
         by_cases c9 : x7_3 ≤ 12
         ·
          rw [if_pos c9] at H
          have c9b0 : decide (x7_3 ≤ 12) = true := decide_eq_true c9
          clear c9
          by_cases c10 : 0 ≤ x7_3
          ·
           rw [if_pos c10] at H
           have c10b0 : decide (0 ≤ x7_3) = true := decide_eq_true c10
           clear c10
           by_cases c11 : x7_3 < (x3_2.length : Int)
           ·
            rw [if_pos c11] at H
            have c11b0 : decide (x7_3 < (x3_2.length : Int)) = true := decide_eq_true c11
            clear c11
            have H' := zm H
            clear H
            obtain ⟨Ao12, co12, eo12⟩ := Kd.R_slice HO_3.out
            subst eo12
            have p163 : 0 ≤ (x7_3 : Int) := of_decide_eq_true (by first | (with_reducible assumption) | assumption)
            have q163 : x7_3 < (x3_2.length : Int) := of_decide_eq_true (by first | (with_reducible assumption) | assumption)
            obtain ⟨ad163, e163, hx163_0⟩ := Kd.at_int (Kd.R_reads' HO_3.out).2.2 x7_3 p163 q163
            cases e163
            replace p163 := eq_true p163
            replace q163 := eq_true q163
            go_wp2
            go_loopg [8, 9] k3 (fun kq v8 v9 w' => ∃ (x8_4 : Int) (x9_4 : Int), v8 = .int .u64 x8_4 ∧ v9 = .int .i64 x9_4 ∧ Aside0 (psalteryref06_Row.l3 kq a0 x3_2 x5_2 x6_3 x7_3 x8_4 x9_4 = some r) ∧ Aside0 (kq ≤ k3) ∧ Aside0 (Kd.R (Kd.int .u64) 22 w' w.heap.size (fun k_ => some k_ ≠ (u6 : Value).ownBlock) (.slice (some ad163) x3_2.length co12) x3_2) ∧ Aside0 (Kd.R (Kd.int .u64) 22 w' w.heap.size (fun k_ => some k_ ≠ ((.slice (some ad163) x3_2.length co12) : Value).ownBlock) u6 x6_3) ∧ Aside0 (Below w.heap.size w w'))
            case atStart => exact ⟨(rd x3_2 x7_3), (1), (by first | rfl | (simp; done) | (simp [*]; done)), (by first | rfl | (simp; done) | (simp [*]; done)), H', ⟨Nat.le_refl _⟩, ⟨by (with_reducible repeat (first | apply zo | apply zp | apply zq)); exact HO_3.out⟩, ⟨by (with_reducible repeat (first | apply zo | apply zp | apply zq)); exact HO_6.out⟩, ⟨by repeat (first | (with_reducible first | exact HB.out | apply ze | apply zd | apply zf) | exact HB.out)⟩⟩
            case round =>
             clear H'
             try clear c1
             try clear p1
             try clear q1
             try clear hx1
             try clear c2
             try clear c2b0
             try clear p2
             try clear c3
             try clear c3b0
             try clear c3b1
             try clear c4
             try clear c6
             try clear p6
             try clear c8
             try clear c8b0
             try clear c9
             try clear c9b0
             try clear c10
             try clear c10b0
             try clear c11
             try clear c11b0
             try clear hx163_0
             try clear p163
             try clear p2
             try clear p6
             try clear q163
             obtain ⟨x8_4, x9_4, rfl, rfl, HA, HK4, HO_3, HO_6, HB⟩ := hrel
             cases gk with
             | zero => exact absurd HA.out (by simp [psalteryref06_Row.l3])
             | succ k4 =>
              have H := HA.out
              clear HA
              simp only [psalteryref06_Row.l3] at H
              by_cases c13 : x9_4 ≤ x7_3
              ·
               rw [if_pos c13] at H
               have c13b0 : decide (x9_4 ≤ x7_3) = true := decide_eq_true c13
               clear c13
               obtain ⟨ji14, hji14⟩ : ∃ j_ : Int, (wrap64 (x7_3 - x9_4)) = j_ := ⟨_, rfl⟩
               replace H : (if 0 ≤ (ji14) then (if (ji14) < (x3_2.length : Int) then (psalteryref06_Row.l3 k4 a0 x3_2 x5_2 x6_3 x7_3 (IntKind.u64.wrap (x8_4 + (IntKind.u64.wrap (2 * (rd x3_2 (ji14)))))) (wrap64 (x9_4 + 1))) else (none)) else (none)) = some r := by first | (rw [hji14] at H; exact H) | (simp only [hji14] at H ⊢; exact H)
               have hji14w : (IntKind.i64.wrap (x7_3 - x9_4)) = ji14 := (i64_w _).trans hji14
               by_cases c15 : 0 ≤ (ji14)
               ·
                rw [if_pos c15] at H
                have c15b0 : decide (0 ≤ (ji14)) = true := decide_eq_true c15
                clear c15
                by_cases c16 : (ji14) < (x3_2.length : Int)
                ·
                 rw [if_pos c16] at H
                 have c16b0 : decide ((ji14) < (x3_2.length : Int)) = true := decide_eq_true c16
                 clear c16
                 have H' := zm H
                 clear H
                 have p164 : 0 ≤ ((ji14) : Int) := of_decide_eq_true (by first | (with_reducible assumption) | assumption)
                 have q164 : (ji14) < (x3_2.length : Int) := of_decide_eq_true (by first | (with_reducible assumption) | assumption)
                 obtain ⟨ad164, e164, hx164_0⟩ := Kd.at_int (Kd.R_reads' HO_3.out).2.2 (ji14) p164 q164
                 obtain rfl : ad163 = ad164 := (by injection e164)
                 replace p164 := eq_true p164
                 replace q164 := eq_true q164
                 go_wp2
                 go_roundg k4
                 case measure => have := HK1.out; have := HK2.out; have := HK3.out; have := HK4.out; omega
                 case rel => exact ⟨(IntKind.u64.wrap (x8_4 + (IntKind.u64.wrap (2 * (rd x3_2 (ji14)))))), (wrap64 (x9_4 + 1)), (by first | rfl | (simp; done) | (simp only [← hji14] <;> (first | rfl | simp)) | (simp [*]; done)), (by first | rfl | (simp; done) | (simp [*]; done)), H', ⟨by have := HK1.out; have := HK2.out; have := HK3.out; have := HK4.out; omega⟩, ⟨by (with_reducible repeat (first | apply zo | apply zp | apply zq)); exact HO_3.out⟩, ⟨by (with_reducible repeat (first | apply zo | apply zp | apply zq)); exact HO_6.out⟩, ⟨by repeat (first | (with_reducible first | exact HB.out | apply ze | apply zd | apply zf) | exact HB.out)⟩⟩
                ·
                 rw [if_neg c16] at H
                 exact absurd H (by simp)
               ·
                rw [if_neg c15] at H
                exact absurd H (by simp)
              ·
               rw [if_neg c13] at H
               have c13b0 : decide (x9_4 ≤ x7_3) = false := decide_eq_false c13
               clear c13
               by_cases c17 : x6_3.length < 17592186044416
               ·
                rw [if_pos c17] at H
                have LMc17 := zm c17
                clear c17
                obtain ⟨y165, hy165⟩ : ∃ y_ : List Int, y_ = (x6_3 ++ [x8_4]) := ⟨_, rfl⟩
                replace H : (psalteryref06_Row.l2 k4 a0 x3_2 x5_2 y165 (wrap64 (x7_3 + 1))) = some r := by first | (rw [hy165]; with_reducible exact H) | (have H2_ := (Option.bind_some _ _).symm.trans H; rw [hy165]; with_reducible exact H2_) | (have H2_ := (Option.bind_some _ _).symm.trans H; with_reducible exact H2_) | with_reducible exact H | (rw [hy165]; exact H) | exact H
                have Ny165 := zm hy165
                clear hy165
                have H' := zm H
                clear H
                go_wp2_with (first | ((with_reducible refine gate_builtin (b := .append) (xs := #[.tmp 49, .tmp 51]) rfl ?_); at_builtin; refine Kd.R_append (Kd.int .u64) (w0 := w) w.heap.size rfl (.tmp 49) (.tmp 51) 60 22 (.int .u64 0) 8 rfl Try.underlying60 info22 rfl (by decide) (by omega) u6 x6_3 x8_4 [.int .u64 x8_4] (fun k_ => some k_ ≠ (.slice (some ad163) x3_2.length co12 : Value).ownBlock) (fun _ => False) rfl rfl ?aP (fun _ hk => hk.elim) ?aF ?aO ?aB ?aS ?aL ?_; (case aP => exact rfl); (case aB => exact (by repeat (first | (with_reducible first | exact HB.out | apply ze | apply zd | apply zf) | exact HB.out))); (case aF => exact (fun k_ hk => Kd.fresh' (Kd.R_lt (by (with_reducible repeat (first | apply zo | apply zp | apply zq)); exact HO_3.out)) k_ hk)); (case aO => exact (by (with_reducible repeat (first | apply zo | apply zp | apply zq)); exact HO_6.out)); (case aS => exact (zE (by repeat (first | (with_reducible first | exact HB.out | apply ze | apply zd | apply zf) | exact HB.out)))); (case aL => have := LMc17.out; omega); intro v166 w18 ho hb hg hat; rw [← Ny165.out] at ho; have n0_ := zm (Kd.R_after (ok := (fun _ => True)) (by (with_reducible repeat (first | apply zo | apply zp | apply zq)); exact zG HO_3.out (fun _ hk => ⟨trivial, hk⟩)) hg hat); have n1_ := zm (hb); have n2_ := zm (ho); clear HO_3; clear HB; clear HO_6; have HO_3 := n0_; have HB := n1_; have HO167 := n2_; clear n0_ n1_ n2_; clear ho hb hg hat))
                go_roundg k4
                case measure => have := HK1.out; have := HK2.out; have := HK3.out; have := HK4.out; omega
                case rel => exact ⟨(y165), (wrap64 (x7_3 + 1)), (by first | rfl | (simp; done) | (simp [*]; done)), H', ⟨by have := HK1.out; have := HK2.out; have := HK3.out; have := HK4.out; omega⟩, ⟨by (with_reducible repeat (first | apply zo | apply zp | apply zq)); exact zG HO_3.out (fun _ hk => hk.2)⟩, ⟨by (with_reducible repeat (first | apply zo | apply zp | apply zq)); exact HO167.out⟩, ⟨by repeat (first | (with_reducible first | exact HB.out | apply ze | apply zd | apply zf) | exact HB.out)⟩⟩
               ·
                rw [if_neg c17] at H
                exact absurd H (by simp)
           ·
            rw [if_neg c11] at H
            exact absurd H (by simp)
          ·
           rw [if_neg c10] at H
           exact absurd H (by simp)
         ·
          rw [if_neg c9] at H
          have c9b0 : decide (x7_3 ≤ 12) = false := decide_eq_false c9
          clear c9
          have H' := zm H
          clear H
          go_wp2
          go_roundg k3
          case measure => have := HK1.out; have := HK2.out; have := HK3.out; omega
          case rel => exact ⟨(x6_3), (wrap64 (x5_2 + 1)), (by first | rfl | (simp; done) | (simp [*]; done)), H', ⟨by have := HK1.out; have := HK2.out; have := HK3.out; omega⟩, ⟨by (with_reducible repeat (first | apply zo | apply zp | apply zq)); exact zG HO_6.out (fun _ hk => trivial)⟩, ⟨by repeat (first | (with_reducible first | exact HB.out | apply ze | apply zd | apply zf) | exact HB.out)⟩⟩
      ·
       rw [if_neg c8] at H
       have c8b0 : decide (x5_2 < a0) = false := decide_eq_false c8
       clear c8
       obtain rfl := Option.some.inj H
       go_wp2
       go_ret
       exact ⟨_, by first | rfl | (simp [errW_none, errW_some] <;> rfl) | (simp [*, errW_none, errW_some] <;> rfl), by (with_reducible repeat (first | apply zo | apply zp | apply zq)); exact HO_3.out, by repeat (first | (with_reducible first | exact HB.out | apply ze | apply zd | apply zf) | exact HB.out)⟩

end Go.Proofs.Ytgjdgpkjdffhkaa.Prt

namespace Go.Proofs.Ytgjdgpkjdffhkaa.Prt
open Go.RowKit Go.Proofs.YtgjdgpkjdffhkaaW.PrintWords Go.Proofs.YtgjdgpkjdffhkaaW.PrintLast Go.Proofs.YtgjdgpkjdffhkaaW.PrintMore
attribute [local go_sem] max2_int min2_int max_two min_two max_three min_three max_four min_four   -- for this text's walks alone
set_option linter.unusedVariables false
set_option linter.unusedSimpArgs false

/-! ### psalteryref06_Count: function 20 -/
def psalteryref06_Count.f (k : Nat) (a0 : Int) (a1 : Int) : Option (Int) := (psalteryref06_Row.f k a0).bind fun t168 => (if 0 ≤ a1 then (if a1 < (t168.length : Int) then (some (rd t168 a1)) else (none)) else (none))
theorem psalteryref06_Count.mono : ∀ a0 a1 k, LeO (psalteryref06_Count.f k a0 a1) (psalteryref06_Count.f (k + 1) a0 a1) := by
 intro a0 a1 k
 unfold psalteryref06_Count.f
 repeat' first
   | (with_reducible exact psalteryref06_Row.mono _ _)
   | (with_reducible exact LeO.refl _)
   | (with_reducible exact LeO.none _)
   | (with_reducible refine LeO.ite ?_ ?_)
   | (with_reducible refine LeO.bind ?_ (fun _ => ?_))
   | exact psalteryref06_Row.mono _ _
   | exact LeO.none _
   | refine LeO.ite ?_ ?_
   | refine LeO.bind ?_ (fun _ => ?_)
set_option maxHeartbeats 8000000 in
set_option maxRecDepth 100000 in
theorem psalteryref06_Count.calls (k : Nat) (a0 : Int) (a1 : Int) (r : Int) (w : World) (h : psalteryref06_Count.f k a0 a1 = some r) :
  Calls Try.prog 20 #[.int .i64 a0, .int .i64 a1] w fun e w' => e = .returned (.int .u64 r) ∧ Below w.heap.size w w' := by
 have HB := zm (Below.refl w.heap.size w)
 have H : ((psalteryref06_Row.f k a0).bind fun t168 => (if 0 ≤ a1 then (if a1 < (t168.length : Int) then (some (rd t168 a1)) else (none)) else (none))) = some r := h
 clear h
 replace H := Option.bind_eq_some_iff.mp H
 obtain ⟨t168, A30, H⟩ := H
 replace H : (if 0 ≤ a1 then (if a1 < (t168.length : Int) then (some (rd t168 a1)) else (none)) else (none)) = some r := H
 have A3 := zm A30
 clear A30
 by_cases c4 : 0 ≤ a1
 ·
  rw [if_pos c4] at H
  have c4b0 : decide (0 ≤ a1) = true := decide_eq_true c4
  clear c4
  by_cases c5 : a1 < (t168.length : Int)
  ·
   rw [if_pos c5] at H
   have c5b0 : decide (a1 < (t168.length : Int)) = true := decide_eq_true c5
   clear c5
   obtain rfl := Option.some.inj H
   go_enter Try.func20, Try.ntmps20
   go_wp2_with (first | ((with_reducible refine gate_callee (f := 45) rfl ?_); refine goesL_ (some 6) rfl rfl Try.func45 (by kernel_rfl) rfl #[.int .i64 a0] rfl (by (try simp only [List.map_toArray, List.map_cons, List.map_nil]); first | done | rfl | (simp only [List.length_drop, List.length_take]; rfl)) ?_; (with_reducible refine (psalteryref06_Row.calls k a0 t168 _ A3.out).mono ?_); rintro e w6 ⟨v169, rfl, ho0, hb⟩; refine ⟨_, rfl, ?_⟩; have n0_ := zm (Kd.R_lower ho0 (zE (by repeat (first | (with_reducible first | exact HB.out | apply ze | apply zd | apply zf) | exact HB.out)))); have n1_ := zm (zJ (by repeat (first | (with_reducible first | exact HB.out | apply ze | apply zd | apply zf) | exact HB.out)) hb); clear HB; have HO170 := n0_; have HB := n1_; clear n0_ n1_; (try clear hb); (try clear hb2); (try clear hk); (try clear hi); (try clear ho0); obtain ⟨Ao7, co7, eo7⟩ := Kd.R_slice HO170.out; subst eo7; have p171 : 0 ≤ (a1 : Int) := of_decide_eq_true (by first | (with_reducible assumption) | assumption); have q171 : a1 < (t168.length : Int) := of_decide_eq_true (by first | (with_reducible assumption) | assumption); obtain ⟨ad171, e171, hx171_0⟩ := Kd.at_int (Kd.R_reads' HO170.out).2.2 a1 p171 q171; cases e171; replace p171 := eq_true p171; replace q171 := eq_true q171))
   go_ret
   exact ⟨by first | rfl | (simp [errW_none, errW_some] <;> rfl) | (simp [*, errW_none, errW_some] <;> rfl), by repeat (first | (with_reducible first | exact HB.out | apply ze | apply zd | apply zf) | exact HB.out)⟩
  ·
   rw [if_neg c5] at H
   exact absurd H (by simp)
 ·
  rw [if_neg c4] at H
  exact absurd H (by simp)

end Go.Proofs.Ytgjdgpkjdffhkaa.Prt

namespace Go.Proofs.Ytgjdgpkjdffhkaa.Prt
open Go.RowKit Go.Proofs.YtgjdgpkjdffhkaaW.PrintWords Go.Proofs.YtgjdgpkjdffhkaaW.PrintLast Go.Proofs.YtgjdgpkjdffhkaaW.PrintMore
attribute [local go_sem] max2_int min2_int max_two min_two max_three min_three max_four min_four   -- for this text's walks alone
set_option linter.unusedVariables false
set_option linter.unusedSimpArgs false

/-! ### psalteryref06_Fair: function 18 -/
def psalteryref06_Fair.f (a0 : Int) (a1 : Int) : Option (Bool) := if a0 > 0 then (if a0 ≤ 16 then (if a1 ≥ 0 then (some (decide (a1 ≤ 12))) else (some false)) else (some false)) else (some false)
set_option maxHeartbeats 8000000 in
set_option maxRecDepth 100000 in
theorem psalteryref06_Fair.calls (a0 : Int) (a1 : Int) (r : Bool) (w : World) (h : psalteryref06_Fair.f a0 a1 = some r) :
  Calls Try.prog 18 #[.int .i64 a0, .int .i64 a1] w fun e w' => e = .returned (.bool r) ∧ Drawn0 w w' := by
 have H : (if a0 > 0 then (if a0 ≤ 16 then (if a1 ≥ 0 then (some (decide (a1 ≤ 12))) else (some false)) else (some false)) else (some false)) = some r := h
 clear h
 by_cases c3 : a0 > 0
 ·
  rw [if_pos c3] at H
  have c3b0 : decide (0 < a0) = true := decide_eq_true c3
  clear c3
  by_cases c4 : a0 ≤ 16
  ·
   rw [if_pos c4] at H
   have c4b0 : decide (a0 ≤ 16) = true := decide_eq_true c4
   clear c4
   by_cases c5 : a1 ≥ 0
   ·
    rw [if_pos c5] at H
    have c5b0 : decide (0 ≤ a1) = true := decide_eq_true c5
    clear c5
    obtain rfl := Option.some.inj H
    go_enter Try.func18, Try.ntmps18
    go_wp2
    go_ret
    exact ⟨by first | rfl | (simp; done) | (simp [*]; done), by repeat (first | exact Drawn0.refl _ | apply Drawn0.step)⟩
   ·
    rw [if_neg c5] at H
    have c5b0 : decide (0 ≤ a1) = false := decide_eq_false c5
    clear c5
    obtain rfl := Option.some.inj H
    go_enter Try.func18, Try.ntmps18
    go_wp2
    go_ret
    exact ⟨by first | rfl | (simp; done) | (simp [*]; done), by repeat (first | exact Drawn0.refl _ | apply Drawn0.step)⟩
  ·
   rw [if_neg c4] at H
   have c4b0 : decide (a0 ≤ 16) = false := decide_eq_false c4
   clear c4
   obtain rfl := Option.some.inj H
   go_enter Try.func18, Try.ntmps18
   go_wp2
   go_ret
   exact ⟨by first | rfl | (simp; done) | (simp [*]; done), by repeat (first | exact Drawn0.refl _ | apply Drawn0.step)⟩
 ·
  rw [if_neg c3] at H
  have c3b0 : decide (0 < a0) = false := decide_eq_false c3
  clear c3
  obtain rfl := Option.some.inj H
  go_enter Try.func18, Try.ntmps18
  go_wp2
  go_ret
  exact ⟨by first | rfl | (simp; done) | (simp [*]; done), by repeat (first | exact Drawn0.refl _ | apply Drawn0.step)⟩

end Go.Proofs.Ytgjdgpkjdffhkaa.Prt

namespace Go.Proofs.Ytgjdgpkjdffhkaa.Prt
open Go.RowKit Go.Proofs.YtgjdgpkjdffhkaaW.PrintWords Go.Proofs.YtgjdgpkjdffhkaaW.PrintLast Go.Proofs.YtgjdgpkjdffhkaaW.PrintMore
attribute [local go_sem] max2_int min2_int max_two min_two max_three min_three max_four min_four   -- for this text's walks alone
set_option linter.unusedVariables false
set_option linter.unusedSimpArgs false

/-! ### psalterylaw06_CombOrders: function 9 -/
mutual
def psalterylaw06_CombOrders.j0 : Nat → Int → Int → Int → Int → Bool → Option (Bool)
 | 0, _, _, _, _, _ => none
 | k + 1, x0, x1, x2, x3, x29 => if x29 = true then ((psalterylaw06_knows.f k).bind fun t279 => (some t279)) else ((comb_Vector.f k x0 x1 x2).bind fun bt280 => ((comb_Vector.f k x0 x1 x3).bind fun bt284 => (if bt280.2 = 0 then (if bt284.2 = 0 then (if (bt280.1.length : Int) = x0 then (psalterylaw06_CombOrders.j1 k x0 bt280.1 bt284.1 ((bt284.1.length : Int) != x0)) else (psalterylaw06_CombOrders.j1 k x0 bt280.1 bt284.1 true)) else (psalterylaw06_CombOrders.j1 k x0 bt280.1 bt284.1 true)) else (psalterylaw06_CombOrders.j1 k x0 bt280.1 bt284.1 true))))
def psalterylaw06_CombOrders.j1 : Nat → Int → List Int → List Int → Bool → Option (Bool)
 | 0, _, _, _, _ => none
 | k + 1, x0, x9, x11, x62 => if x62 = true then (none) else (psalterylaw06_CombOrders.l0 k x0 x9 x11 0)
def psalterylaw06_CombOrders.l0 : Nat → Int → List Int → List Int → Int → Option (Bool)
 | 0, _, _, _, _ => none
 | k + 1, x0, x9, x11, x13 => if x13 < x0 then (if 0 ≤ x13 then (if x13 < (x9.length : Int) then (if x13 < (x11.length : Int) then (if (rd x9 x13) = (rd x11 x13) then (psalterylaw06_CombOrders.l0 k x0 x9 x11 (wrap64 (x13 + 1))) else ((psalterylaw06_place.f (rd x9 x13)).bind fun t291 => ((psalterylaw06_place.f (rd x11 x13)).bind fun t293 => (if t291 < t293 then ((psalterylaw06_knows.f k).bind fun t294 => (some t294)) else (none))))) else (none)) else (none)) else (none)) else (none)
end
def psalterylaw06_CombOrders.f (k : Nat) (a0 : Int) (a1 : Int) (a2 : Int) (a3 : Int) : Option (Bool) := (psalteryref06_Fair.f a0 a1).bind fun t277 => (if t277 = true then (if a2 ≥ a3 then (psalterylaw06_CombOrders.j0 k a0 a1 a2 a3 true) else ((psalteryref06_Count.f k a0 a1).bind fun t278 => (psalterylaw06_CombOrders.j0 k a0 a1 a2 a3 (decide (a3 ≥ t278))))) else (psalterylaw06_CombOrders.j0 k a0 a1 a2 a3 true))
theorem psalterylaw06_CombOrders.mono_l : ∀ k, (∀ y0 y1 y2 y3 y4, LeO (psalterylaw06_CombOrders.j0 k y0 y1 y2 y3 y4) (psalterylaw06_CombOrders.j0 (k + 1) y0 y1 y2 y3 y4)) ∧ (∀ y0 y1 y2 y3, LeO (psalterylaw06_CombOrders.j1 k y0 y1 y2 y3) (psalterylaw06_CombOrders.j1 (k + 1) y0 y1 y2 y3)) ∧ (∀ y0 y1 y2 y3, LeO (psalterylaw06_CombOrders.l0 k y0 y1 y2 y3) (psalterylaw06_CombOrders.l0 (k + 1) y0 y1 y2 y3))
 | 0 => ⟨fun _ _ _ _ _ r h => by simp [psalterylaw06_CombOrders.j0] at h, fun _ _ _ _ r h => by simp [psalterylaw06_CombOrders.j1] at h, fun _ _ _ _ r h => by simp [psalterylaw06_CombOrders.l0] at h⟩
 | k + 1 => by
  obtain ⟨ih0, ih1, ih2⟩ := psalterylaw06_CombOrders.mono_l k
  refine ⟨?_, ?_, ?_⟩
  ·
   intro y0 y1 y2 y3 y4
   unfold psalterylaw06_CombOrders.j0
   repeat' first
   | (with_reducible exact ih0 _ _ _ _ _)
   | (with_reducible exact ih1 _ _ _ _)
   | (with_reducible exact ih2 _ _ _ _)
   | (with_reducible exact comb_Vector.mono _ _ _ _)
   | (with_reducible exact psalterylaw06_knows.mono _)
   | (with_reducible exact psalteryref06_Count.mono _ _ _)
   | (with_reducible exact LeO.refl _)
   | (with_reducible exact LeO.none _)
   | (with_reducible refine LeO.ite ?_ ?_)
   | (with_reducible refine LeO.bind ?_ (fun _ => ?_))
   | exact ih0 _ _ _ _ _
   | exact ih1 _ _ _ _
   | exact ih2 _ _ _ _
   | exact comb_Vector.mono _ _ _ _
   | exact psalterylaw06_knows.mono _
   | exact psalteryref06_Count.mono _ _ _
   | exact LeO.none _
   | refine LeO.ite ?_ ?_
   | refine LeO.bind ?_ (fun _ => ?_)
  ·
   intro y0 y1 y2 y3
   unfold psalterylaw06_CombOrders.j1
   repeat' first
   | (with_reducible exact ih0 _ _ _ _ _)
   | (with_reducible exact ih1 _ _ _ _)
   | (with_reducible exact ih2 _ _ _ _)
   | (with_reducible exact comb_Vector.mono _ _ _ _)
   | (with_reducible exact psalterylaw06_knows.mono _)
   | (with_reducible exact psalteryref06_Count.mono _ _ _)
   | (with_reducible exact LeO.refl _)
   | (with_reducible exact LeO.none _)
   | (with_reducible refine LeO.ite ?_ ?_)
   | (with_reducible refine LeO.bind ?_ (fun _ => ?_))
   | exact ih0 _ _ _ _ _
   | exact ih1 _ _ _ _
   | exact ih2 _ _ _ _
   | exact comb_Vector.mono _ _ _ _
   | exact psalterylaw06_knows.mono _
   | exact psalteryref06_Count.mono _ _ _
   | exact LeO.none _
   | refine LeO.ite ?_ ?_
   | refine LeO.bind ?_ (fun _ => ?_)
  ·
   intro y0 y1 y2 y3
   unfold psalterylaw06_CombOrders.l0
   repeat' first
   | (with_reducible exact ih0 _ _ _ _ _)
   | (with_reducible exact ih1 _ _ _ _)
   | (with_reducible exact ih2 _ _ _ _)
   | (with_reducible exact comb_Vector.mono _ _ _ _)
   | (with_reducible exact psalterylaw06_knows.mono _)
   | (with_reducible exact psalteryref06_Count.mono _ _ _)
   | (with_reducible exact LeO.refl _)
   | (with_reducible exact LeO.none _)
   | (with_reducible refine LeO.ite ?_ ?_)
   | (with_reducible refine LeO.bind ?_ (fun _ => ?_))
   | exact ih0 _ _ _ _ _
   | exact ih1 _ _ _ _
   | exact ih2 _ _ _ _
   | exact comb_Vector.mono _ _ _ _
   | exact psalterylaw06_knows.mono _
   | exact psalteryref06_Count.mono _ _ _
   | exact LeO.none _
   | refine LeO.ite ?_ ?_
   | refine LeO.bind ?_ (fun _ => ?_)
theorem psalterylaw06_CombOrders.mono : ∀ a0 a1 a2 a3 k, LeO (psalterylaw06_CombOrders.f k a0 a1 a2 a3) (psalterylaw06_CombOrders.f (k + 1) a0 a1 a2 a3) := by
 intro a0 a1 a2 a3 k
 obtain ⟨ih0, ih1, ih2⟩ := psalterylaw06_CombOrders.mono_l k
 unfold psalterylaw06_CombOrders.f
 repeat' first
   | (with_reducible exact ih0 _ _ _ _ _)
   | (with_reducible exact ih1 _ _ _ _)
   | (with_reducible exact ih2 _ _ _ _)
   | (with_reducible exact comb_Vector.mono _ _ _ _)
   | (with_reducible exact psalterylaw06_knows.mono _)
   | (with_reducible exact psalteryref06_Count.mono _ _ _)
   | (with_reducible exact LeO.refl _)
   | (with_reducible exact LeO.none _)
   | (with_reducible refine LeO.ite ?_ ?_)
   | (with_reducible refine LeO.bind ?_ (fun _ => ?_))
   | exact ih0 _ _ _ _ _
   | exact ih1 _ _ _ _
   | exact ih2 _ _ _ _
   | exact comb_Vector.mono _ _ _ _
   | exact psalterylaw06_knows.mono _
   | exact psalteryref06_Count.mono _ _ _
   | exact LeO.none _
   | refine LeO.ite ?_ ?_
   | refine LeO.bind ?_ (fun _ => ?_)
def psalterylaw06_CombOrders.T10 : Bool × List (List Nat × List Nat) := (true, [([], []), ([], []), ([0, 1], [0, 1]), ([2], [2]), ([], []), ([], []), ([4, 5], [4, 5]), ([6], [6]), ([3, 7], [3, 7])])
def psalterylaw06_CombOrders.B10 : List Nat := [0, 0, 3, 7, 0, 0, 48, 112, 255]
theorem psalterylaw06_CombOrders.tab10 : rtab .any (opsOf Try.f9 10) = psalterylaw06_CombOrders.T10 := by kernel_rfl
theorem psalterylaw06_CombOrders.bits10 : waitsOk psalterylaw06_CombOrders.T10.2 psalterylaw06_CombOrders.B10 = true := by kernel_rfl
def psalterylaw06_CombOrders.T11 : Bool × List (List Nat × List Nat) := (true, [([], []), ([], []), ([0, 1], [0, 1]), ([2], [2]), ([3], [3]), ([], []), ([], []), ([5, 6], [5, 6]), ([7], [7]), ([8, 4], [8]), ([4, 9], [4, 9]), ([10, 9], [10]), ([11, 11], [11]), ([11, 12], [11, 12]), ([13, 12, 0, 1, 2, 3, 4, 5, 6, 7, 8, 9, 10, 11, 12, 13], [13])])
def psalterylaw06_CombOrders.B11 : List Nat := [0, 0, 3, 7, 15, 0, 0, 96, 224, 511, 1023, 2047, 4095, 8191, 16383]
theorem psalterylaw06_CombOrders.tab11 : rtab .any (opsOf Try.f9 11) = psalterylaw06_CombOrders.T11 := by kernel_rfl
theorem psalterylaw06_CombOrders.bits11 : waitsOk psalterylaw06_CombOrders.T11.2 psalterylaw06_CombOrders.B11 = true := by kernel_rfl
set_option maxHeartbeats 8000000 in
set_option maxRecDepth 100000 in
theorem psalterylaw06_CombOrders.calls (k : Nat) (a0 : Int) (a1 : Int) (a2 : Int) (a3 : Int) (r : Bool) (w : World) (h : psalterylaw06_CombOrders.f k a0 a1 a2 a3 = some r) :
  Calls Try.prog 9 #[.int .i64 a0, .int .i64 a1, .int .u64 a2, .int .u64 a3] w fun e w' => e = .returned (.bool r) ∧ Below w.heap.size w w' := by
 have HB := zm (Below.refl w.heap.size w)
 have H : ((psalteryref06_Fair.f a0 a1).bind fun t277 => (if t277 = true then (if a2 ≥ a3 then (psalterylaw06_CombOrders.j0 k a0 a1 a2 a3 true) else ((psalteryref06_Count.f k a0 a1).bind fun t278 => (psalterylaw06_CombOrders.j0 k a0 a1 a2 a3 (decide (a3 ≥ t278))))) else (psalterylaw06_CombOrders.j0 k a0 a1 a2 a3 true))) = some r := h
 clear h
 have HC5 := zm H
 clear H
 go_enter Try.func9, Try.ntmps9
 go_upto_region 1 with (fail)
 go_cut [29] (fun v29 wc => ∃ (kq : Nat) (x29_4 : Bool), v29 = .bool x29_4 ∧ Aside0 (psalterylaw06_CombOrders.j0 kq a0 a1 a2 a3 x29_4 = some r) ∧ Aside0 (kq ≤ k) ∧ Aside0 (Below w.heap.size w wc))
 case first =>
  have H := HC5.out
  clear HC5
  replace H := Option.bind_eq_some_iff.mp H
  obtain ⟨t277, A60, H⟩ := H
  replace H : (if t277 = true then (if a2 ≥ a3 then (psalterylaw06_CombOrders.j0 k a0 a1 a2 a3 true) else ((psalteryref06_Count.f k a0 a1).bind fun t278 => (psalterylaw06_CombOrders.j0 k a0 a1 a2 a3 (decide (a3 ≥ t278))))) else (psalterylaw06_CombOrders.j0 k a0 a1 a2 a3 true)) = some r := H
  have A6 := zm A60
  clear A60
  by_cases c7 : t277 = true
  ·
   subst c7
   have H1 : (if a2 ≥ a3 then (psalterylaw06_CombOrders.j0 k a0 a1 a2 a3 true) else ((psalteryref06_Count.f k a0 a1).bind fun t278 => (psalterylaw06_CombOrders.j0 k a0 a1 a2 a3 (decide (a3 ≥ t278))))) = some r := by rw [if_pos rfl] at H; exact H
   clear H
   have H := H1
   clear H1
   by_cases c8 : a2 ≥ a3
   ·
    rw [if_pos c8] at H
    have c8b0 : decide (a3 ≤ a2) = true := decide_eq_true c8
    clear c8
    (first | rw [c8b0] | (simp only [i64_w, i32_w]; rw [c8b0]) | skip)
    have H' := zm H
    clear H
    go_wp2_with (first | ((with_reducible refine gate_callee (f := 18) rfl ?_); refine goesL_ (some 16) rfl rfl Try.func18 (by kernel_rfl) rfl #[.int .i64 a0, .int .i64 a1] rfl (by (try simp only [List.map_toArray, List.map_cons, List.map_nil]); first | done | rfl | (simp only [List.length_drop, List.length_take]; rfl)) ?_; (with_reducible refine (psalteryref06_Fair.calls a0 a1 true _ A6.out).mono ?_); rintro e w' ⟨rfl, ⟨nd, rfl⟩⟩; refine ⟨_, rfl, ?_⟩))
    go_meet
    case rel => exact ⟨_, (true), (by first | rfl | (simp; done) | (simp [*]; done)), H', ⟨by first | omega | exact Nat.le_refl _⟩, ⟨by repeat (first | (with_reducible first | exact HB.out | apply ze | apply zd | apply zf) | exact HB.out)⟩⟩
   ·
    rw [if_neg c8] at H
    have c8b0 : decide (a3 ≤ a2) = false := decide_eq_false c8
    clear c8
    (first | rw [c8b0] | (simp only [i64_w, i32_w]; rw [c8b0]) | skip)
    replace H := Option.bind_eq_some_iff.mp H
    obtain ⟨t278, A90, H⟩ := H
    replace H : (psalterylaw06_CombOrders.j0 k a0 a1 a2 a3 (decide (a3 ≥ t278))) = some r := H
    have A9 := zm A90
    clear A90
    have H' := zm H
    clear H
    go_wp2_with (first | ((with_reducible refine gate_callee (f := 18) rfl ?_); refine goesL_ (some 16) rfl rfl Try.func18 (by kernel_rfl) rfl #[.int .i64 a0, .int .i64 a1] rfl (by (try simp only [List.map_toArray, List.map_cons, List.map_nil]); first | done | rfl | (simp only [List.length_drop, List.length_take]; rfl)) ?_; (with_reducible refine (psalteryref06_Fair.calls a0 a1 true _ A6.out).mono ?_); rintro e w' ⟨rfl, ⟨nd, rfl⟩⟩; refine ⟨_, rfl, ?_⟩) | (go_at_call 20; (with_reducible refine (psalteryref06_Count.calls k a0 a1 t278 _ A9.out).mono ?_); rintro e w10 ⟨rfl, hb⟩; have n0_ := zm (zJ (by repeat (first | (with_reducible first | exact HB.out | apply ze | apply zd | apply zf) | exact HB.out)) hb); clear HB; have HB := n0_; clear n0_; (try clear hb); (try clear hb2); (try clear hk); (try clear hi)))
    go_meet
    case rel => exact ⟨_, (decide (a3 ≥ t278)), (by first | rfl | (simp; done) | (simp [*]; done)), H', ⟨by first | omega | exact Nat.le_refl _⟩, ⟨by repeat (first | (with_reducible first | exact HB.out | apply ze | apply zd | apply zf) | exact HB.out)⟩⟩
  ·
   replace c7 := Bool.eq_false_iff.mpr c7
   subst c7
   have H1 : (psalterylaw06_CombOrders.j0 k a0 a1 a2 a3 true) = some r := by rw [if_neg (show ¬ (false = true) by decide)] at H; exact H
   clear H
   have H := H1
   clear H1
   have H' := zm H
   clear H
   go_wp2_with (first | ((with_reducible refine gate_callee (f := 18) rfl ?_); refine goesL_ (some 16) rfl rfl Try.func18 (by kernel_rfl) rfl #[.int .i64 a0, .int .i64 a1] rfl (by (try simp only [List.map_toArray, List.map_cons, List.map_nil]); first | done | rfl | (simp only [List.length_drop, List.length_take]; rfl)) ?_; (with_reducible refine (psalteryref06_Fair.calls a0 a1 false _ A6.out).mono ?_); rintro e w' ⟨rfl, ⟨nd, rfl⟩⟩; refine ⟨_, rfl, ?_⟩))
   go_meet
   case rel => exact ⟨_, (true), (by first | rfl | (simp; done) | (simp [*]; done)), H', ⟨by first | omega | exact Nat.le_refl _⟩, ⟨by repeat (first | (with_reducible first | exact HB.out | apply ze | apply zd | apply zf) | exact HB.out)⟩⟩
 case rest =>
  clear HC5
  try clear c1
  try clear p2
  try clear c7
  try clear c8
  try clear c8b0
  try clear c9
  obtain ⟨kq, x29_4, rfl, HA, HJ4, HB⟩ := hcut
  cases kq with
  | zero => exact absurd HA.out (by simp [psalterylaw06_CombOrders.j0])
  | succ kj4 =>
   have H := HA.out
   clear HA
   simp only [psalterylaw06_CombOrders.j0] at H
   by_cases c11 : x29_4 = true
   ·
    subst c11
    have H1 : ((psalterylaw06_knows.f kj4).bind fun t279 => (some t279)) = some r := by rw [if_pos rfl] at H; exact H
    clear H
    have H := H1
    clear H1
    replace H := Option.bind_eq_some_iff.mp H
    obtain ⟨t279, A120, H⟩ := H
    replace H : (some t279) = some r := H
    have A12 := zm A120
    clear A120
    obtain rfl := Option.some.inj H
    go_wp2_with (first | ((with_reducible refine gate_callee (f := 19) rfl ?_); refine goesL_ (some 30) rfl rfl Try.func19 (by kernel_rfl) rfl #[] rfl (by (try simp only [List.map_toArray, List.map_cons, List.map_nil]); first | done | rfl | (simp only [List.length_drop, List.length_take]; rfl)) ?_; (with_reducible refine (psalterylaw06_knows.calls kj4  t279 _ A12.out).mono ?_); rintro e w13 ⟨rfl, hb⟩; refine ⟨_, rfl, ?_⟩; have n0_ := zm (zJ (by repeat (first | (with_reducible first | exact HB.out | apply ze | apply zd | apply zf) | exact HB.out)) hb); clear HB; have HB := n0_; clear n0_; (try clear hb); (try clear hb2); (try clear hk); (try clear hi)))
    go_ret
    exact ⟨by first | rfl | (simp [errW_none, errW_some] <;> rfl) | (simp [*, errW_none, errW_some] <;> rfl), by repeat (first | (with_reducible first | exact HB.out | apply ze | apply zd | apply zf) | exact HB.out)⟩
   ·
    replace c11 := Bool.eq_false_iff.mpr c11
    subst c11
    have H1 : ((comb_Vector.f kj4 a0 a1 a2).bind fun bt280 => ((comb_Vector.f kj4 a0 a1 a3).bind fun bt284 => (if bt280.2 = 0 then (if bt284.2 = 0 then (if (bt280.1.length : Int) = a0 then (psalterylaw06_CombOrders.j1 kj4 a0 bt280.1 bt284.1 ((bt284.1.length : Int) != a0)) else (psalterylaw06_CombOrders.j1 kj4 a0 bt280.1 bt284.1 true)) else (psalterylaw06_CombOrders.j1 kj4 a0 bt280.1 bt284.1 true)) else (psalterylaw06_CombOrders.j1 kj4 a0 bt280.1 bt284.1 true)))) = some r := by rw [if_neg (show ¬ (false = true) by decide)] at H; exact H
    clear H
    have H := H1
    clear H1
    replace H := Option.bind_eq_some_iff.mp H
    obtain ⟨⟨t280, t281⟩, A140, H⟩ := H
    replace H : ((comb_Vector.f kj4 a0 a1 a3).bind fun bt284 => (if t281 = 0 then (if bt284.2 = 0 then (if (t280.length : Int) = a0 then (psalterylaw06_CombOrders.j1 kj4 a0 t280 bt284.1 ((bt284.1.length : Int) != a0)) else (psalterylaw06_CombOrders.j1 kj4 a0 t280 bt284.1 true)) else (psalterylaw06_CombOrders.j1 kj4 a0 t280 bt284.1 true)) else (psalterylaw06_CombOrders.j1 kj4 a0 t280 bt284.1 true))) = some r := H
    have A14 := zm A140
    clear A140
    replace H := Option.bind_eq_some_iff.mp H
    obtain ⟨⟨t284, t285⟩, A150, H⟩ := H
    replace H : (if t281 = 0 then (if t285 = 0 then (if (t280.length : Int) = a0 then (psalterylaw06_CombOrders.j1 kj4 a0 t280 t284 ((t284.length : Int) != a0)) else (psalterylaw06_CombOrders.j1 kj4 a0 t280 t284 true)) else (psalterylaw06_CombOrders.j1 kj4 a0 t280 t284 true)) else (psalterylaw06_CombOrders.j1 kj4 a0 t280 t284 true)) = some r := H
    have A15 := zm A150
    clear A150
    have HC16 := zm H
    clear H
    go_upto_region 5 with (first | ((with_reducible refine gate_callee (f := 25) rfl ?_); refine goesL_ (some 35) rfl rfl Try.func25 (by kernel_rfl) rfl #[.int .i64 a0, .int .i64 a1, .int .u64 a2] rfl (by (try simp only [List.map_toArray, List.map_cons, List.map_nil]); first | done | rfl | (simp only [List.length_drop, List.length_take]; rfl)) ?_; (with_reducible refine (comb_Vector.calls kj4 a0 a1 a2 t280 t281 _ A14.out).mono ?_); rintro e w17 ⟨v282, rfl, ho0, hb⟩; refine ⟨_, rfl, ?_⟩; have n0_ := zm (Kd.R_lower ho0 (zE (by repeat (first | (with_reducible first | exact HB.out | apply ze | apply zd | apply zf) | exact HB.out)))); have n1_ := zm (zJ (by repeat (first | (with_reducible first | exact HB.out | apply ze | apply zd | apply zf) | exact HB.out)) hb); clear HB; have HO283 := n0_; have HB := n1_; clear n0_ n1_; (try clear hb); (try clear hb2); (try clear hk); (try clear hi); (try clear ho0)) | ((with_reducible refine gate_callee (f := 25) rfl ?_); refine goesL_ (some 42) rfl rfl Try.func25 (by kernel_rfl) rfl #[.int .i64 a0, .int .i64 a1, .int .u64 a3] rfl (by (try simp only [List.map_toArray, List.map_cons, List.map_nil]); first | done | rfl | (simp only [List.length_drop, List.length_take]; rfl)) ?_; (with_reducible refine (comb_Vector.calls kj4 a0 a1 a3 t284 t285 _ A15.out).mono ?_); rintro e w18 ⟨v286, rfl, ho0, hb⟩; refine ⟨_, rfl, ?_⟩; have n0_ := zm (Kd.R_elder' (by (with_reducible repeat (first | apply zo | apply zp | apply zq)); exact HO283.out) (Kd.R_base ho0) hb); have n1_ := zm (Kd.R_lower (Kd.R_new' ho0 (Kd.R_lt (by (with_reducible repeat (first | apply zo | apply zp | apply zq)); exact HO283.out))) (zE (by repeat (first | (with_reducible first | exact HB.out | apply ze | apply zd | apply zf) | exact HB.out)))); have n2_ := zm (zJ (by repeat (first | (with_reducible first | exact HB.out | apply ze | apply zd | apply zf) | exact HB.out)) hb); clear HO283; clear HB; have HO283 := n0_; have HO287 := n1_; have HB := n2_; clear n0_ n1_ n2_; (try clear hb); (try clear hb2); (try clear hk); (try clear hi); (try clear ho0)))
    (try simp only [Act.put, List.setIfInBounds_toArray, List.set_cons_zero, List.set_cons_succ])
    go_cut [62] (fun v62 wc => ∃ (kq : Nat) (x62_15 : Bool), v62 = .bool x62_15 ∧ Aside0 (psalterylaw06_CombOrders.j1 kq a0 t280 t284 x62_15 = some r) ∧ Aside0 (kq ≤ kj4) ∧ Aside0 (Kd.R (Kd.int .i64) 3 wc w.heap.size (fun k_ => some k_ ≠ (v286 : Value).ownBlock) v282 t280) ∧ Aside0 (Kd.R (Kd.int .i64) 3 wc w.heap.size (fun k_ => some k_ ≠ (v282 : Value).ownBlock) v286 t284) ∧ Aside0 (Below w.heap.size w wc))
    case first =>
     have H := HC16.out
     clear HC16
     by_cases c19 : t281 = 0
     ·
      rw [if_pos c19] at H
      have c19b0 : (t281 == 0) = true := beq_iff_eq.mpr c19
      have c19b1 : (t281 != 0) = false := bne_eq_false_iff_eq.mpr c19
      clear c19
      (first | rw [c19b0] | (simp only [i64_w, i32_w]; rw [c19b0]) | skip)
      by_cases c20 : t285 = 0
      ·
       rw [if_pos c20] at H
       have c20b0 : (t285 == 0) = true := beq_iff_eq.mpr c20
       have c20b1 : (t285 != 0) = false := bne_eq_false_iff_eq.mpr c20
       clear c20
       by_cases c21 : (t280.length : Int) = a0
       ·
        rw [if_pos c21] at H
        have c21b0 : ((t280.length : Int) == a0) = true := beq_iff_eq.mpr c21
        have c21b1 : ((t280.length : Int) != a0) = false := bne_eq_false_iff_eq.mpr c21
        clear c21
        have H' := zm H
        clear H
        obtain ⟨Ao22, co22, eo22⟩ := Kd.R_slice HO283.out
        subst eo22
        obtain ⟨Ao23, co23, eo23⟩ := Kd.R_slice HO287.out
        subst eo23
        go_wp2
        go_meet
        case rel => exact ⟨_, (((t284.length : Int) != a0)), (by first | rfl | (simp; done) | (simp [*]; done)), H', ⟨by have := HJ4.out; first | omega | exact Nat.le_refl _⟩, ⟨by (with_reducible repeat (first | apply zo | apply zp | apply zq)); exact zG HO283.out (fun _ hk => hk.2)⟩, ⟨by (with_reducible repeat (first | apply zo | apply zp | apply zq)); exact zG HO287.out (fun _ hk => hk.2)⟩, ⟨by repeat (first | (with_reducible first | exact HB.out | apply ze | apply zd | apply zf) | exact HB.out)⟩⟩
       ·
        rw [if_neg c21] at H
        have c21b0 : ((t280.length : Int) == a0) = false := beq_eq_false_iff_ne.mpr c21
        have c21b1 : ((t280.length : Int) != a0) = true := bne_iff_ne.mpr c21
        have H' := zm H
        clear H
        obtain ⟨Ao24, co24, eo24⟩ := Kd.R_slice HO283.out
        subst eo24
        go_wp2
        go_meet
        case rel => exact ⟨_, (true), (by first | rfl | (simp; done) | (simp [*]; done)), H', ⟨by have := HJ4.out; first | omega | exact Nat.le_refl _⟩, ⟨by (with_reducible repeat (first | apply zo | apply zp | apply zq)); exact zG HO283.out (fun _ hk => hk.2)⟩, ⟨by (with_reducible repeat (first | apply zo | apply zp | apply zq)); exact zG HO287.out (fun _ hk => hk.2)⟩, ⟨by repeat (first | (with_reducible first | exact HB.out | apply ze | apply zd | apply zf) | exact HB.out)⟩⟩
      ·
       rw [if_neg c20] at H
       have c20b0 : (t285 == 0) = false := beq_eq_false_iff_ne.mpr c20
       have c20b1 : (t285 != 0) = true := bne_iff_ne.mpr c20
       have H' := zm H
       clear H
       go_wp2
       go_meet
       case rel => exact ⟨_, (true), (by first | rfl | (simp; done) | (simp [*]; done)), H', ⟨by have := HJ4.out; first | omega | exact Nat.le_refl _⟩, ⟨by (with_reducible repeat (first | apply zo | apply zp | apply zq)); exact zG HO283.out (fun _ hk => hk.2)⟩, ⟨by (with_reducible repeat (first | apply zo | apply zp | apply zq)); exact zG HO287.out (fun _ hk => hk.2)⟩, ⟨by repeat (first | (with_reducible first | exact HB.out | apply ze | apply zd | apply zf) | exact HB.out)⟩⟩
     ·
      rw [if_neg c19] at H
      have c19b0 : (t281 == 0) = false := beq_eq_false_iff_ne.mpr c19
      have c19b1 : (t281 != 0) = true := bne_iff_ne.mpr c19
      (first | rw [c19b0] | (simp only [i64_w, i32_w]; rw [c19b0]) | skip)
      have H' := zm H
      clear H
      go_wp2
      go_meet
      case rel => exact ⟨_, (true), (by first | rfl | (simp; done) | (simp [*]; done)), H', ⟨by have := HJ4.out; first | omega | exact Nat.le_refl _⟩, ⟨by (with_reducible repeat (first | apply zo | apply zp | apply zq)); exact zG HO283.out (fun _ hk => hk.2)⟩, ⟨by (with_reducible repeat (first | apply zo | apply zp | apply zq)); exact zG HO287.out (fun _ hk => hk.2)⟩, ⟨by repeat (first | (with_reducible first | exact HB.out | apply ze | apply zd | apply zf) | exact HB.out)⟩⟩
    case rest =>
     clear HC16
     try clear c1
     try clear c2
     try clear p2
     try clear c7
     try clear c8
     try clear c8b0
     try clear c9
     try clear c11
     try clear c18
     try clear c19
     try clear c19b0
     try clear c19b1
     try clear c20
     try clear c20b0
     try clear c20b1
     try clear c21
     try clear c21b0
     try clear c21b1
     try clear p2
     obtain ⟨kq, x62_15, rfl, HA, HJ15, HO_9, HO_11, HB⟩ := hcut
     cases kq with
     | zero => exact absurd HA.out (by simp [psalterylaw06_CombOrders.j1])
     | succ kj15 =>
      have H := HA.out
      clear HA
      simp only [psalterylaw06_CombOrders.j1] at H
      by_cases c25 : x62_15 = true
      ·
       subst c25
       have H1 : (none) = some r := by rw [if_pos rfl] at H; exact H
       clear H
       have H := H1
       clear H1
       exact absurd H (by simp)
      ·
       replace c25 := Bool.eq_false_iff.mpr c25
       subst c25
       have H1 : (psalterylaw06_CombOrders.l0 kj15 a0 t280 t284 0) = some r := by rw [if_neg (show ¬ (false = true) by decide)] at H; exact H
       clear H
       have H := H1
       clear H1
       have H' := zm H
       clear H
       go_wp2
       go_loopg [13] kj15 (fun kq v13 w' => ∃ (x13_3 : Int), v13 = .int .i64 x13_3 ∧ Aside0 (psalterylaw06_CombOrders.l0 kq a0 t280 t284 x13_3 = some r) ∧ Aside0 (kq ≤ kj15) ∧ Aside0 (Kd.R (Kd.int .i64) 3 w' w.heap.size (fun k_ => some k_ ≠ (v286 : Value).ownBlock) v282 t280) ∧ Aside0 (Kd.R (Kd.int .i64) 3 w' w.heap.size (fun k_ => some k_ ≠ (v282 : Value).ownBlock) v286 t284) ∧ Aside0 (Below w.heap.size w w'))
       case atStart => exact ⟨(0), (by first | rfl | (simp; done) | (simp [*]; done)), H', ⟨Nat.le_refl _⟩, ⟨by (with_reducible repeat (first | apply zo | apply zp | apply zq)); exact HO_9.out⟩, ⟨by (with_reducible repeat (first | apply zo | apply zp | apply zq)); exact HO_11.out⟩, ⟨by repeat (first | (with_reducible first | exact HB.out | apply ze | apply zd | apply zf) | exact HB.out)⟩⟩
       case round =>
        clear H'
        try clear c1
        try clear c2
        try clear p2
        try clear c7
        try clear c8
        try clear c8b0
        try clear c9
        try clear c11
        try clear c18
        try clear c19
        try clear c19b0
        try clear c19b1
        try clear c20
        try clear c20b0
        try clear c20b1
        try clear c21
        try clear c21b0
        try clear c21b1
        try clear c25
        try clear p2
        obtain ⟨x13_3, rfl, HA, HK3, HO_9, HO_11, HB⟩ := hrel
        cases gk with
        | zero => exact absurd HA.out (by simp [psalterylaw06_CombOrders.l0])
        | succ k3 =>
         have H := HA.out
         clear HA
         simp only [psalterylaw06_CombOrders.l0] at H
         by_cases c26 : x13_3 < a0
         ·
          rw [if_pos c26] at H
          have c26b0 : decide (x13_3 < a0) = true := decide_eq_true c26
          clear c26
          by_cases c27 : 0 ≤ x13_3
          ·
           rw [if_pos c27] at H
           have c27b0 : decide (0 ≤ x13_3) = true := decide_eq_true c27
           clear c27
           by_cases c28 : x13_3 < (t280.length : Int)
           ·
            rw [if_pos c28] at H
            have c28b0 : decide (x13_3 < (t280.length : Int)) = true := decide_eq_true c28
            clear c28
            by_cases c29 : x13_3 < (t284.length : Int)
            ·
             rw [if_pos c29] at H
             have c29b0 : decide (x13_3 < (t284.length : Int)) = true := decide_eq_true c29
             clear c29
             by_cases c30 : (rd t280 x13_3) = (rd t284 x13_3)
             ·
              rw [if_pos c30] at H
              have c30b0 : ((rd t280 x13_3) == (rd t284 x13_3)) = true := beq_iff_eq.mpr c30
              have c30b1 : ((rd t280 x13_3) != (rd t284 x13_3)) = false := bne_eq_false_iff_eq.mpr c30
              clear c30
              have H' := zm H
              clear H
              try go_wp2
              have n0_ := zm (zq HO_9.out)
              have n1_ := zm (zq HO_11.out)
              have n2_ := zm (zf HB.out)
              clear HO_9
              clear HO_11
              clear HB
              have HO_9 := n0_
              have HO_11 := n1_
              have HB := n2_
              clear n0_ n1_ n2_
              obtain ⟨Ao32, co32, eo32⟩ := Kd.R_slice HO_9.out
              (first | subst eo32 | (injection eo32 with f1_ f2_ f3_; have f4_ := f1_.symm; have f5_ := f3_.symm; clear f1_ f2_ f3_; subst f4_; subst f5_))
              have p288 : 0 ≤ (x13_3 : Int) := of_decide_eq_true (by first | (with_reducible assumption) | assumption)
              have q288 : x13_3 < (t280.length : Int) := of_decide_eq_true (by first | (with_reducible assumption) | assumption)
              obtain ⟨ad288, e288, hx288_0⟩ := Kd.at_int (Kd.R_reads' HO_9.out).2.2 x13_3 p288 q288
              cases e288
              replace p288 := eq_true p288
              replace q288 := eq_true q288
              obtain ⟨Ao33, co33, eo33⟩ := Kd.R_slice HO_11.out
              (first | subst eo33 | (injection eo33 with f1_ f2_ f3_; have f4_ := f1_.symm; have f5_ := f3_.symm; clear f1_ f2_ f3_; subst f4_; subst f5_))
              have p289 : 0 ≤ (x13_3 : Int) := of_decide_eq_true (by first | (with_reducible assumption) | assumption)
              have q289 : x13_3 < (t284.length : Int) := of_decide_eq_true (by first | (with_reducible assumption) | assumption)
              obtain ⟨ad289, e289, hx289_0⟩ := Kd.at_int (Kd.R_reads' HO_11.out).2.2 x13_3 p289 q289
              cases e289
              replace p289 := eq_true p289
              replace q289 := eq_true q289
              refine start_ (n := 9) (S := fun w' => w'.cell? (ad288.add (x13_3).toNat) = some (.int .i64 (rd t280 x13_3)) ∧ w'.cell? (ad289.add (x13_3).toNat) = some (.int .i64 (rd t284 x13_3))) (ds := []) #[false, false, false, false, false, false, false, false, false] (by kernel_rfl) rfl rfl ⟨hx288_0, hx289_0⟩ (fun hHeld => ?_); refine with_tabW psalterylaw06_CombOrders.tab10 psalterylaw06_CombOrders.bits10 (fun HT_ HW_ => ?_)
              generalize wr.drew = w31 at HO_9 HO_11 HB hx288_0 hx289_0 hHeld ⊢
              refine pure_ (i := 0) (N := some 68) (v := ?_) (a' := ?_) #[true, false, false, false, false, false, false, false, false] rfl rfl (any_of HT_.out (by kernel_rfl)) (fun _ _ _ h => h) (Or.inl ⟨by rfl, ?_⟩) ?_ ?_
              rotate_left
              ·
               intro w'
               go_simp
               with_reducible rfl
              rotate_left
              ·
               simp only [Act.put, List.setIfInBounds_toArray, List.set_cons_zero, List.set_cons_succ, i64_w, i32_w]
               rfl
              refine pure_ (i := 1) (N := some 69) (v := ?_) (a' := ?_) #[true, true, false, false, false, false, false, false, false] rfl rfl (any_of HT_.out (by kernel_rfl)) (fun _ _ _ h => h) (Or.inl ⟨by rfl, ?_⟩) ?_ ?_
              rotate_left
              ·
               intro w'
               go_simp
               with_reducible rfl
              rotate_left
              ·
               simp only [Act.put, List.setIfInBounds_toArray, List.set_cons_zero, List.set_cons_succ, i64_w, i32_w]
               rfl
              refine pure_ (i := 2) (N := some 70) (v := ?_) (a' := ?_) #[true, true, true, false, false, false, false, false, false] rfl rfl (any_of HT_.out (by kernel_rfl)) (fun _ _ _ h => h) (Or.inl ⟨by rfl, ?_⟩) ?_ ?_
              rotate_left
              ·
               intro w'
               go_simp
               with_reducible rfl
              rotate_left
              ·
               simp only [Act.put, List.setIfInBounds_toArray, List.set_cons_zero, List.set_cons_succ, i64_w, i32_w]
               rfl
              refine pure_ (i := 4) (N := some 72) (v := ?_) (a' := ?_) #[true, true, true, false, true, false, false, false, false] rfl rfl (any_of HT_.out (by kernel_rfl)) (fun _ _ _ h => h) (Or.inl ⟨by rfl, ?_⟩) ?_ ?_
              rotate_left
              ·
               intro w'
               go_simp
               with_reducible rfl
              rotate_left
              ·
               simp only [Act.put, List.setIfInBounds_toArray, List.set_cons_zero, List.set_cons_succ, i64_w, i32_w]
               rfl
              refine pure_ (i := 5) (N := some 73) (v := ?_) (a' := ?_) #[true, true, true, false, true, true, false, false, false] rfl rfl (any_of HT_.out (by kernel_rfl)) (fun _ _ _ h => h) (Or.inl ⟨by rfl, ?_⟩) ?_ ?_
              rotate_left
              ·
               intro w'
               go_simp
               with_reducible rfl
              rotate_left
              ·
               simp only [Act.put, List.setIfInBounds_toArray, List.set_cons_zero, List.set_cons_succ, i64_w, i32_w]
               rfl
              refine pure_ (i := 6) (N := some 74) (v := ?_) (a' := ?_) #[true, true, true, false, true, true, true, false, false] rfl rfl (any_of HT_.out (by kernel_rfl)) (fun _ _ _ h => h) (Or.inl ⟨by rfl, ?_⟩) ?_ ?_
              rotate_left
              ·
               intro w'
               go_simp
               with_reducible rfl
              rotate_left
              ·
               simp only [Act.put, List.setIfInBounds_toArray, List.set_cons_zero, List.set_cons_succ, i64_w, i32_w]
               rfl
              refine take_ (i := 3) (N := some 71) (v := ?_) (a' := ?_) #[true, true, true, true, true, true, true, false, false] rfl rfl (take_ofW HT_.out HW_.out (by kernel_rfl)) (fun _ _ _ h => h) (Or.inl ⟨by rfl, ?_⟩) hHeld ?_ ?_
              rotate_left
              ·
               rintro w' ⟨s0, s1⟩
               go_simp
               with_reducible rfl
              rotate_left
              ·
               simp only [Act.put, List.setIfInBounds_toArray, List.set_cons_zero, List.set_cons_succ, i64_w, i32_w]
               rfl
              refine take_ (i := 7) (N := some 75) (v := ?_) (a' := ?_) #[true, true, true, true, true, true, true, true, false] rfl rfl (take_ofW HT_.out HW_.out (by kernel_rfl)) (fun _ _ _ h => h) (Or.inl ⟨by rfl, ?_⟩) hHeld ?_ ?_
              rotate_left
              ·
               rintro w' ⟨s0, s1⟩
               go_simp
               with_reducible rfl
              rotate_left
              ·
               simp only [Act.put, List.setIfInBounds_toArray, List.set_cons_zero, List.set_cons_succ, i64_w, i32_w]
               rfl
              refine pure_ (i := 8) (N := some 76) (v := ?_) (a' := ?_) #[true, true, true, true, true, true, true, true, true] rfl rfl (any_of HT_.out (by kernel_rfl)) (fun _ _ _ h => h) (Or.inl ⟨by rfl, ?_⟩) ?_ ?_
              rotate_left
              ·
               intro w'
               go_simp
               with_reducible rfl
              rotate_left
              ·
               simp only [Act.put, List.setIfInBounds_toArray, List.set_cons_zero, List.set_cons_succ, i64_w, i32_w]
               rfl
              refine done_ (done_of HT_.out (by kernel_rfl)) ?_
              try go_wp2
              go_roundg k3
              case measure => have := HJ4.out; have := HJ15.out; have := HK3.out; omega
              case rel => exact ⟨(wrap64 (x13_3 + 1)), (by first | rfl | (simp; done) | (simp [*]; done)), H', ⟨by have := HJ4.out; have := HJ15.out; have := HK3.out; omega⟩, ⟨by (with_reducible repeat (first | apply zo | apply zp | apply zq)); exact HO_9.out⟩, ⟨by (with_reducible repeat (first | apply zo | apply zp | apply zq)); exact HO_11.out⟩, ⟨by repeat (first | (with_reducible first | exact HB.out | apply ze | apply zd | apply zf) | exact HB.out)⟩⟩
             ·
              rw [if_neg c30] at H
              have c30b0 : ((rd t280 x13_3) == (rd t284 x13_3)) = false := beq_eq_false_iff_ne.mpr c30
              have c30b1 : ((rd t280 x13_3) != (rd t284 x13_3)) = true := bne_iff_ne.mpr c30
              replace H := Option.bind_eq_some_iff.mp H
              obtain ⟨t291, A340, H⟩ := H
              replace H : ((psalterylaw06_place.f (rd t284 x13_3)).bind fun t293 => (if t291 < t293 then ((psalterylaw06_knows.f k3).bind fun t294 => (some t294)) else (none))) = some r := H
              have A34 := zm A340
              clear A340
              replace H := Option.bind_eq_some_iff.mp H
              obtain ⟨t293, A350, H⟩ := H
              replace H : (if t291 < t293 then ((psalterylaw06_knows.f k3).bind fun t294 => (some t294)) else (none)) = some r := H
              have A35 := zm A350
              clear A350
              by_cases c36 : t291 < t293
              ·
               rw [if_pos c36] at H
               have c36b0 : decide (t291 < t293) = true := decide_eq_true c36
               clear c36
               replace H := Option.bind_eq_some_iff.mp H
               obtain ⟨t294, A370, H⟩ := H
               replace H : (some t294) = some r := H
               have A37 := zm A370
               clear A370
               obtain rfl := Option.some.inj H
               try go_wp2
               have n0_ := zm (zq HO_9.out)
               have n1_ := zm (zq HO_11.out)
               have n2_ := zm (zf HB.out)
               clear HO_9
               clear HO_11
               clear HB
               have HO_9 := n0_
               have HO_11 := n1_
               have HB := n2_
               clear n0_ n1_ n2_
               obtain ⟨Ao39, co39, eo39⟩ := Kd.R_slice HO_9.out
               (first | subst eo39 | (injection eo39 with f1_ f2_ f3_; have f4_ := f1_.symm; have f5_ := f3_.symm; clear f1_ f2_ f3_; subst f4_; subst f5_))
               have p288 : 0 ≤ (x13_3 : Int) := of_decide_eq_true (by first | (with_reducible assumption) | assumption)
               have q288 : x13_3 < (t280.length : Int) := of_decide_eq_true (by first | (with_reducible assumption) | assumption)
               obtain ⟨ad288, e288, hx288_0⟩ := Kd.at_int (Kd.R_reads' HO_9.out).2.2 x13_3 p288 q288
               cases e288
               replace p288 := eq_true p288
               replace q288 := eq_true q288
               obtain ⟨Ao40, co40, eo40⟩ := Kd.R_slice HO_11.out
               (first | subst eo40 | (injection eo40 with f1_ f2_ f3_; have f4_ := f1_.symm; have f5_ := f3_.symm; clear f1_ f2_ f3_; subst f4_; subst f5_))
               have p289 : 0 ≤ (x13_3 : Int) := of_decide_eq_true (by first | (with_reducible assumption) | assumption)
               have q289 : x13_3 < (t284.length : Int) := of_decide_eq_true (by first | (with_reducible assumption) | assumption)
               obtain ⟨ad289, e289, hx289_0⟩ := Kd.at_int (Kd.R_reads' HO_11.out).2.2 x13_3 p289 q289
               cases e289
               replace p289 := eq_true p289
               replace q289 := eq_true q289
               refine start_ (n := 9) (S := fun w' => w'.cell? (ad288.add (x13_3).toNat) = some (.int .i64 (rd t280 x13_3)) ∧ w'.cell? (ad289.add (x13_3).toNat) = some (.int .i64 (rd t284 x13_3))) (ds := []) #[false, false, false, false, false, false, false, false, false] (by kernel_rfl) rfl rfl ⟨hx288_0, hx289_0⟩ (fun hHeld => ?_); refine with_tabW psalterylaw06_CombOrders.tab10 psalterylaw06_CombOrders.bits10 (fun HT_ HW_ => ?_)
               generalize wr.drew = w38 at HO_9 HO_11 HB hx288_0 hx289_0 hHeld ⊢
               refine pure_ (i := 0) (N := some 68) (v := ?_) (a' := ?_) #[true, false, false, false, false, false, false, false, false] rfl rfl (any_of HT_.out (by kernel_rfl)) (fun _ _ _ h => h) (Or.inl ⟨by rfl, ?_⟩) ?_ ?_
               rotate_left
               ·
                intro w'
                go_simp
                with_reducible rfl
               rotate_left
               ·
                simp only [Act.put, List.setIfInBounds_toArray, List.set_cons_zero, List.set_cons_succ, i64_w, i32_w]
                rfl
               refine pure_ (i := 1) (N := some 69) (v := ?_) (a' := ?_) #[true, true, false, false, false, false, false, false, false] rfl rfl (any_of HT_.out (by kernel_rfl)) (fun _ _ _ h => h) (Or.inl ⟨by rfl, ?_⟩) ?_ ?_
               rotate_left
               ·
                intro w'
                go_simp
                with_reducible rfl
               rotate_left
               ·
                simp only [Act.put, List.setIfInBounds_toArray, List.set_cons_zero, List.set_cons_succ, i64_w, i32_w]
                rfl
               refine pure_ (i := 2) (N := some 70) (v := ?_) (a' := ?_) #[true, true, true, false, false, false, false, false, false] rfl rfl (any_of HT_.out (by kernel_rfl)) (fun _ _ _ h => h) (Or.inl ⟨by rfl, ?_⟩) ?_ ?_
               rotate_left
               ·
                intro w'
                go_simp
                with_reducible rfl
               rotate_left
               ·
                simp only [Act.put, List.setIfInBounds_toArray, List.set_cons_zero, List.set_cons_succ, i64_w, i32_w]
                rfl
               refine pure_ (i := 4) (N := some 72) (v := ?_) (a' := ?_) #[true, true, true, false, true, false, false, false, false] rfl rfl (any_of HT_.out (by kernel_rfl)) (fun _ _ _ h => h) (Or.inl ⟨by rfl, ?_⟩) ?_ ?_
               rotate_left
               ·
                intro w'
                go_simp
                with_reducible rfl
               rotate_left
               ·
                simp only [Act.put, List.setIfInBounds_toArray, List.set_cons_zero, List.set_cons_succ, i64_w, i32_w]
                rfl
               refine pure_ (i := 5) (N := some 73) (v := ?_) (a' := ?_) #[true, true, true, false, true, true, false, false, false] rfl rfl (any_of HT_.out (by kernel_rfl)) (fun _ _ _ h => h) (Or.inl ⟨by rfl, ?_⟩) ?_ ?_
               rotate_left
               ·
                intro w'
                go_simp
                with_reducible rfl
               rotate_left
               ·
                simp only [Act.put, List.setIfInBounds_toArray, List.set_cons_zero, List.set_cons_succ, i64_w, i32_w]
                rfl
               refine pure_ (i := 6) (N := some 74) (v := ?_) (a' := ?_) #[true, true, true, false, true, true, true, false, false] rfl rfl (any_of HT_.out (by kernel_rfl)) (fun _ _ _ h => h) (Or.inl ⟨by rfl, ?_⟩) ?_ ?_
               rotate_left
               ·
                intro w'
                go_simp
                with_reducible rfl
               rotate_left
               ·
                simp only [Act.put, List.setIfInBounds_toArray, List.set_cons_zero, List.set_cons_succ, i64_w, i32_w]
                rfl
               refine take_ (i := 3) (N := some 71) (v := ?_) (a' := ?_) #[true, true, true, true, true, true, true, false, false] rfl rfl (take_ofW HT_.out HW_.out (by kernel_rfl)) (fun _ _ _ h => h) (Or.inl ⟨by rfl, ?_⟩) hHeld ?_ ?_
               rotate_left
               ·
                rintro w' ⟨s0, s1⟩
                go_simp
                with_reducible rfl
               rotate_left
               ·
                simp only [Act.put, List.setIfInBounds_toArray, List.set_cons_zero, List.set_cons_succ, i64_w, i32_w]
                rfl
               refine take_ (i := 7) (N := some 75) (v := ?_) (a' := ?_) #[true, true, true, true, true, true, true, true, false] rfl rfl (take_ofW HT_.out HW_.out (by kernel_rfl)) (fun _ _ _ h => h) (Or.inl ⟨by rfl, ?_⟩) hHeld ?_ ?_
               rotate_left
               ·
                rintro w' ⟨s0, s1⟩
                go_simp
                with_reducible rfl
               rotate_left
               ·
                simp only [Act.put, List.setIfInBounds_toArray, List.set_cons_zero, List.set_cons_succ, i64_w, i32_w]
                rfl
               refine pure_ (i := 8) (N := some 76) (v := ?_) (a' := ?_) #[true, true, true, true, true, true, true, true, true] rfl rfl (any_of HT_.out (by kernel_rfl)) (fun _ _ _ h => h) (Or.inl ⟨by rfl, ?_⟩) ?_ ?_
               rotate_left
               ·
                intro w'
                go_simp
                with_reducible rfl
               rotate_left
               ·
                simp only [Act.put, List.setIfInBounds_toArray, List.set_cons_zero, List.set_cons_succ, i64_w, i32_w]
                rfl
               refine done_ (done_of HT_.out (by kernel_rfl)) ?_
               try go_wp2
               have n0_ := zm (zq HO_9.out)
               have n1_ := zm (zq HO_11.out)
               have n2_ := zm (zf HB.out)
               clear HO_9
               clear HO_11
               clear HB
               have HO_9 := n0_
               have HO_11 := n1_
               have HB := n2_
               clear n0_ n1_ n2_
               have p290 : 0 ≤ (x13_3 : Int) := of_decide_eq_true (by first | (with_reducible assumption) | assumption)
               have q290 : x13_3 < (t280.length : Int) := of_decide_eq_true (by first | (with_reducible assumption) | assumption)
               obtain ⟨ad290, e290, hx290_0⟩ := Kd.at_int (Kd.R_reads' HO_9.out).2.2 x13_3 p290 q290
               obtain rfl : ad288 = ad290 := (by injection e290)
               replace p290 := eq_true p290
               replace q290 := eq_true q290
               have p292 : 0 ≤ (x13_3 : Int) := of_decide_eq_true (by first | (with_reducible assumption) | assumption)
               have q292 : x13_3 < (t284.length : Int) := of_decide_eq_true (by first | (with_reducible assumption) | assumption)
               obtain ⟨ad292, e292, hx292_0⟩ := Kd.at_int (Kd.R_reads' HO_11.out).2.2 x13_3 p292 q292
               obtain rfl : ad289 = ad292 := (by injection e292)
               replace p292 := eq_true p292
               replace q292 := eq_true q292
               refine start_ (n := 15) (S := fun w' => w'.cell? (ad288.add (x13_3).toNat) = some (.int .i64 (rd t280 x13_3)) ∧ w'.cell? (ad289.add (x13_3).toNat) = some (.int .i64 (rd t284 x13_3))) (ds := []) #[false, false, false, false, false, false, false, false, false, false, false, false, false, false, false] (by kernel_rfl) rfl rfl ⟨hx290_0, hx292_0⟩ (fun hHeld => ?_); refine with_tabW psalterylaw06_CombOrders.tab11 psalterylaw06_CombOrders.bits11 (fun HT_ HW_ => ?_)
               generalize w38.drew = w41 at HO_9 HO_11 HB hx290_0 hx292_0 hHeld ⊢
               refine pure_ (i := 0) (N := some 77) (v := ?_) (a' := ?_) #[true, false, false, false, false, false, false, false, false, false, false, false, false, false, false] rfl rfl (any_of HT_.out (by kernel_rfl)) (fun _ _ _ h => h) (Or.inl ⟨by rfl, ?_⟩) ?_ ?_
               rotate_left
               ·
                intro w'
                go_simp
                with_reducible rfl
               rotate_left
               ·
                simp only [Act.put, List.setIfInBounds_toArray, List.set_cons_zero, List.set_cons_succ, i64_w, i32_w]
                rfl
               refine pure_ (i := 1) (N := some 78) (v := ?_) (a' := ?_) #[true, true, false, false, false, false, false, false, false, false, false, false, false, false, false] rfl rfl (any_of HT_.out (by kernel_rfl)) (fun _ _ _ h => h) (Or.inl ⟨by rfl, ?_⟩) ?_ ?_
               rotate_left
               ·
                intro w'
                go_simp
                with_reducible rfl
               rotate_left
               ·
                simp only [Act.put, List.setIfInBounds_toArray, List.set_cons_zero, List.set_cons_succ, i64_w, i32_w]
                rfl
               refine pure_ (i := 2) (N := some 79) (v := ?_) (a' := ?_) #[true, true, true, false, false, false, false, false, false, false, false, false, false, false, false] rfl rfl (any_of HT_.out (by kernel_rfl)) (fun _ _ _ h => h) (Or.inl ⟨by rfl, ?_⟩) ?_ ?_
               rotate_left
               ·
                intro w'
                go_simp
                with_reducible rfl
               rotate_left
               ·
                simp only [Act.put, List.setIfInBounds_toArray, List.set_cons_zero, List.set_cons_succ, i64_w, i32_w]
                rfl
               refine pure_ (i := 5) (N := some 82) (v := ?_) (a' := ?_) #[true, true, true, false, false, true, false, false, false, false, false, false, false, false, false] rfl rfl (any_of HT_.out (by kernel_rfl)) (fun _ _ _ h => h) (Or.inl ⟨by rfl, ?_⟩) ?_ ?_
               rotate_left
               ·
                intro w'
                go_simp
                with_reducible rfl
               rotate_left
               ·
                simp only [Act.put, List.setIfInBounds_toArray, List.set_cons_zero, List.set_cons_succ, i64_w, i32_w]
                rfl
               refine pure_ (i := 6) (N := some 83) (v := ?_) (a' := ?_) #[true, true, true, false, false, true, true, false, false, false, false, false, false, false, false] rfl rfl (any_of HT_.out (by kernel_rfl)) (fun _ _ _ h => h) (Or.inl ⟨by rfl, ?_⟩) ?_ ?_
               rotate_left
               ·
                intro w'
                go_simp
                with_reducible rfl
               rotate_left
               ·
                simp only [Act.put, List.setIfInBounds_toArray, List.set_cons_zero, List.set_cons_succ, i64_w, i32_w]
                rfl
               refine pure_ (i := 7) (N := some 84) (v := ?_) (a' := ?_) #[true, true, true, false, false, true, true, true, false, false, false, false, false, false, false] rfl rfl (any_of HT_.out (by kernel_rfl)) (fun _ _ _ h => h) (Or.inl ⟨by rfl, ?_⟩) ?_ ?_
               rotate_left
               ·
                intro w'
                go_simp
                with_reducible rfl
               rotate_left
               ·
                simp only [Act.put, List.setIfInBounds_toArray, List.set_cons_zero, List.set_cons_succ, i64_w, i32_w]
                rfl
               refine take_ (i := 3) (N := some 80) (v := ?_) (a' := ?_) #[true, true, true, true, false, true, true, true, false, false, false, false, false, false, false] rfl rfl (take_ofW HT_.out HW_.out (by kernel_rfl)) (fun _ _ _ h => h) (Or.inl ⟨by rfl, ?_⟩) hHeld ?_ ?_
               rotate_left
               ·
                rintro w' ⟨s0, s1⟩
                go_simp
                with_reducible rfl
               rotate_left
               ·
                simp only [Act.put, List.setIfInBounds_toArray, List.set_cons_zero, List.set_cons_succ, i64_w, i32_w]
                rfl
               refine take_ (i := 8) (N := some 85) (v := ?_) (a' := ?_) #[true, true, true, true, false, true, true, true, true, false, false, false, false, false, false] rfl rfl (take_ofW HT_.out HW_.out (by kernel_rfl)) (fun _ _ _ h => h) (Or.inl ⟨by rfl, ?_⟩) hHeld ?_ ?_
               rotate_left
               ·
                rintro w' ⟨s0, s1⟩
                go_simp
                with_reducible rfl
               rotate_left
               ·
                simp only [Act.put, List.setIfInBounds_toArray, List.set_cons_zero, List.set_cons_succ, i64_w, i32_w]
                rfl
               refine one_ (i := 4) (N := some 81) #[true, true, true, true, true, true, true, true, true, false, false, false, false, false, false] rfl rfl (one_of HT_.out (by kernel_rfl)) (by decide) (fun K hK => ?_)
               refine goes_ Try.func28 (by kernel_rfl) rfl #[.int .i64 (rd t280 x13_3)] (by rfl) rfl rfl (by (try simp only [List.map_toArray, List.map_cons, List.map_nil]); first | done | rfl | (simp only [List.length_drop, List.length_take]; rfl)) ?_
               with_reducible refine (psalterylaw06_place.calls (rd t280 x13_3) t291 _ A34.out).mono ?_
               rintro e w' ⟨rfl, ⟨nd, rfl⟩⟩
               refine ⟨_, rfl, ?_⟩
               refine hK.out _ _ ⟨hHeld.1, hHeld.2⟩ (fun hHeld => ?_)
               clear hK K
               refine norm_ (a' := ?_) ?_ ?_
               rotate_left
               ·
                show Act.put _ (some 81) _ = _
                simp only [Act.put, List.setIfInBounds_toArray, List.set_cons_zero, List.set_cons_succ, i64_w, i32_w]
                rfl
               refine one_ (i := 9) (N := some 86) #[true, true, true, true, true, true, true, true, true, true, false, false, false, false, false] rfl rfl (one_of HT_.out (by kernel_rfl)) (by decide) (fun K hK => ?_)
               refine goes_ Try.func28 (by kernel_rfl) rfl #[.int .i64 (rd t284 x13_3)] (by rfl) rfl rfl (by (try simp only [List.map_toArray, List.map_cons, List.map_nil]); first | done | rfl | (simp only [List.length_drop, List.length_take]; rfl)) ?_
               with_reducible refine (psalterylaw06_place.calls (rd t284 x13_3) t293 _ A35.out).mono ?_
               rintro e w' ⟨rfl, ⟨nd, rfl⟩⟩
               refine ⟨_, rfl, ?_⟩
               refine hK.out _ _ ⟨hHeld.1, hHeld.2⟩ (fun hHeld => ?_)
               clear hK K
               refine norm_ (a' := ?_) ?_ ?_
               rotate_left
               ·
                show Act.put _ (some 86) _ = _
                simp only [Act.put, List.setIfInBounds_toArray, List.set_cons_zero, List.set_cons_succ, i64_w, i32_w]
                rfl
               refine pure_ (i := 10) (N := some 87) (v := ?_) (a' := ?_) #[true, true, true, true, true, true, true, true, true, true, true, false, false, false, false] rfl rfl (any_of HT_.out (by kernel_rfl)) (fun _ _ _ h => h) (Or.inl ⟨by rfl, ?_⟩) ?_ ?_
               rotate_left
               ·
                intro w'
                go_simp
                with_reducible rfl
               rotate_left
               ·
                simp only [Act.put, List.setIfInBounds_toArray, List.set_cons_zero, List.set_cons_succ, i64_w, i32_w]
                rfl
               refine pure_ (i := 11) (N := some 88) (v := ?_) (a' := ?_) #[true, true, true, true, true, true, true, true, true, true, true, true, false, false, false] rfl rfl (any_of HT_.out (by kernel_rfl)) (fun _ _ _ h => h) (Or.inl ⟨by rfl, ?_⟩) ?_ ?_
               rotate_left
               ·
                intro w'
                go_simp
                with_reducible rfl
               rotate_left
               ·
                simp only [Act.put, List.setIfInBounds_toArray, List.set_cons_zero, List.set_cons_succ, i64_w, i32_w]
                rfl
               refine one_ (i := 12) (N := some 89) #[true, true, true, true, true, true, true, true, true, true, true, true, true, false, false] rfl rfl (one_of HT_.out (by kernel_rfl)) (by decide) (fun K hK => ?_)
               refine goes_ Try.func19 (by kernel_rfl) rfl #[] (by rfl) rfl rfl (by (try simp only [List.map_toArray, List.map_cons, List.map_nil]); first | done | rfl | (simp only [List.length_drop, List.length_take]; rfl)) ?_
               with_reducible refine (psalterylaw06_knows.calls k3  t294 _ A37.out).mono ?_
               rintro e w42 ⟨rfl, hb⟩
               have HS0_ := (hb.cell (zb _ _ (hHeld.1))).trans (hHeld.1)
               have HS1_ := (hb.cell (zb _ _ (hHeld.2))).trans (hHeld.2)
               refine ⟨_, rfl, ?_⟩
               have n0_ := zm (Kd.R_below (by (with_reducible repeat (first | apply zo | apply zp | apply zq)); exact HO_9.out) hb)
               have n1_ := zm (Kd.R_below (by (with_reducible repeat (first | apply zo | apply zp | apply zq)); exact HO_11.out) hb)
               have n2_ := zm (zJ (by repeat (first | (with_reducible first | exact HB.out | apply ze | apply zd | apply zf) | exact HB.out)) hb)
               clear HO_9
               clear HO_11
               clear HB
               have HO_9 := n0_
               have HO_11 := n1_
               have HB := n2_
               clear n0_ n1_ n2_
               (try clear hb)
               (try clear hb2)
               (try clear hk)
               (try clear hi)
               refine hK.out _ _ ⟨HS0_, HS1_⟩ (fun hHeld => ?_)
               clear hK K
               refine norm_ (a' := ?_) ?_ ?_
               rotate_left
               ·
                show Act.put _ (some 89) _ = _
                simp only [Act.put, List.setIfInBounds_toArray, List.set_cons_zero, List.set_cons_succ, i64_w, i32_w]
                rfl
               refine pure_ (i := 13) (N := some 90) (v := ?_) (a' := ?_) #[true, true, true, true, true, true, true, true, true, true, true, true, true, true, false] rfl rfl (any_of HT_.out (by kernel_rfl)) (fun _ _ _ h => h) (Or.inl ⟨by rfl, ?_⟩) ?_ ?_
               rotate_left
               ·
                intro w'
                go_simp
                with_reducible rfl
               rotate_left
               ·
                simp only [Act.put, List.setIfInBounds_toArray, List.set_cons_zero, List.set_cons_succ, i64_w, i32_w]
                rfl
               refine pure_ (i := 14) (N := some 8) (v := ?_) (a' := ?_) #[true, true, true, true, true, true, true, true, true, true, true, true, true, true, true] rfl rfl (any_of HT_.out (by kernel_rfl)) (fun _ _ _ h => h) (Or.inl ⟨by rfl, ?_⟩) ?_ ?_
               rotate_left
               ·
                intro w'
                go_simp
                with_reducible rfl
               rotate_left
               ·
                simp only [Act.put, List.setIfInBounds_toArray, List.set_cons_zero, List.set_cons_succ, i64_w, i32_w]
                rfl
               refine done_ (done_of HT_.out (by kernel_rfl)) ?_
               try go_wp2
               go_ret
               exact ⟨by first | rfl | (simp [errW_none, errW_some] <;> rfl) | (simp [*, errW_none, errW_some] <;> rfl), by repeat (first | (with_reducible first | exact HB.out | apply ze | apply zd | apply zf) | exact HB.out)⟩
              ·
               rw [if_neg c36] at H
               have c36b0 : decide (t291 < t293) = false := decide_eq_false c36
               clear c36
               exact absurd H (by simp)
            ·
             rw [if_neg c29] at H
             exact absurd H (by simp)
           ·
            rw [if_neg c28] at H
            exact absurd H (by simp)
          ·
           rw [if_neg c27] at H
           exact absurd H (by simp)
         ·
          rw [if_neg c26] at H
          exact absurd H (by simp)

/-- THE ONE PURE STATEMENT of psalterylaw06_CombOrders: yours. -/
def psalterylaw06_CombOrders.Pure : Prop := ∀ (a0 : Int) (a1 : Int) (a2 : Int) (a3 : Int), (Lit.int .i64 a0).wf = true → (Lit.int .i64 a1).wf = true → (Lit.int .u64 a2).wf = true → (Lit.int .u64 a3).wf = true → ∃ k, psalterylaw06_CombOrders.f k a0 a1 a2 a3 = some true
theorem psalterylaw06_CombOrders.walk (P : psalterylaw06_CombOrders.Pure) (a0 : Int) (a1 : Int) (a2 : Int) (a3 : Int) (w : World) (w0 : (Lit.int .i64 a0).wf = true) (w1 : (Lit.int .i64 a1).wf = true) (w2 : (Lit.int .u64 a2).wf = true) (w3 : (Lit.int .u64 a3).wf = true) :
  Calls Try.prog 9 #[.int .i64 a0, .int .i64 a1, .int .u64 a2, .int .u64 a3] w fun e w' => e = .returned (.bool true) ∧ Below w.heap.size w w' := by
 obtain ⟨k, h⟩ := P a0 a1 a2 a3 w0 w1 w2 w3
 refine (psalterylaw06_CombOrders.calls k a0 a1 a2 a3 true w h).mono ?_
 rintro e w' ⟨rfl, hd⟩
 exact ⟨rfl, hd⟩

end Go.Proofs.Ytgjdgpkjdffhkaa.Prt
