/- The examples of the alloc's chapter, once for all rounds. -/
import Derived.Test.YtnmbndkojpjkmaaZPackRightsM1
import Derived.Test.YtnmbndkojpjkmaaZPackRightsM4
import Derived.Test.YtnmbndkojpjkmaaZPackRightsWMore
namespace Go.Proofs.Ytnmbndkojpjkmaa.Alo
open Go Go.RowKit Go.Proofs.YtnmbndkojpjkmaaW.PrintWords Go.Proofs.Ytnmbndkojpjkmaa.Prt
theorem w64 {x : Int} (h0 : -9223372036854775808≤x) (h1 : x≤9223372036854775807) : wrap64 x=x:=by unfold wrap64;omega
def rightB (a b : Int) : Bool:=decide ((b=1∧11≤a∧a≤60)∨(b=2∧17≤a∧a≤60))
theorem right_iff {a b : Int} : rightB a b=true ↔ (b=1∧11≤a∧a≤60)∨(b=2∧17≤a∧a≤60):=by
  unfold rightB
  exact decide_eq_true_iff
theorem right_f (a b : Int) : alloc_Right.f a b=some (rightB a b)∧psalteryref12_Right.f a b=some (rightB a b):=by
  unfold alloc_Right.f psalteryref12_Right.f rightB
  refine ⟨?_, ?_⟩
  · by_cases h1 : b=1
    · rw [if_pos h1]
      by_cases h2 : a ≥ 11
      · rw [if_pos h2]
        congr 1
        rw [decide_eq_decide]
        omega
      · rw [if_neg h2,decide_eq_false (by omega)]
    · rw [if_neg h1]
      by_cases h3 : b=2
      · rw [if_pos h3]
        by_cases h2 : a ≥ 17
        · rw [if_pos h2]
          congr 1
          rw [decide_eq_decide]
          omega
        · rw [if_neg h2,decide_eq_false (by omega)]
      · rw [if_neg h3,decide_eq_false (by omega)]
  · by_cases h0 : a≤60
    · rw [if_pos h0]
      by_cases h1 : b=1
      · rw [if_pos h1]
        by_cases h2 : a ≥ 11
        · rw [if_pos h2,decide_eq_true (by omega)]
        · rw [if_neg h2,if_neg (by omega),decide_eq_false (by omega)]
      · rw [if_neg h1]
        by_cases h3 : b=2
        · rw [if_pos h3]
          congr 1
          rw [decide_eq_decide]
          omega
        · rw [if_neg h3,decide_eq_false (by omega)]
    · rw [if_neg h0,decide_eq_false (by omega)]
def room (a b : Int) : Int:=if b=1 then 8 * a - 86 else (8 * a - 131) / 2
theorem room_ok {a b : Int} (h : rightB a b=true) : alloc_Room.f a b=some (room a b)∧psalteryref12_Room.f a b=some (room a b):=by
  unfold alloc_Room.f psalteryref12_Room.f room
  rw [(right_f a b).1,(right_f a b).2,h,Option.bind_some,Option.bind_some,if_pos rfl,if_pos rfl]
  have hg : gain_Most.f false=some 45:=rfl
  rw [hg,Option.bind_some]
  rcases right_iff.1 h with ⟨rfl,h1,h2⟩ | ⟨rfl,h1,h2⟩
  · rw [if_neg (by decide),if_pos rfl,if_pos rfl,w64 (x:=8 * a) (by omega) (by omega),w64 (x:=8 * a - 41) (by omega) (by omega),w64 (x:=(45 : Int) * 1) (by omega) (by omega),w64 (x:=8 * a - 41 - 45 * 1) (by omega) (by omega),w64 (x:=8 * a - 86) (by omega) (by omega),Int.tdiv_eq_ediv_of_nonneg (by omega),w64 (by omega) (by omega)]
    exact ⟨by congr 1;omega,rfl⟩
  · rw [if_neg (by decide),if_neg (by decide),if_neg (by decide),w64 (x:=8 * a) (by omega) (by omega),w64 (x:=8 * a - 41) (by omega) (by omega),w64 (x:=(45 : Int) * 2) (by omega) (by omega),w64 (x:=8 * a - 41 - 45 * 2) (by omega) (by omega),w64 (x:=8 * a - 131) (by omega) (by omega),Int.tdiv_eq_ediv_of_nonneg (by omega),Int.tdiv_eq_ediv_of_nonneg (by omega),w64 (by omega) (by omega),w64 (by omega) (by omega)]
    exact ⟨by congr 1;omega,rfl⟩
theorem room_in {a b : Int} (h : rightB a b=true) : 0≤room a b∧room a b≤400:=by
  unfold room
  rcases right_iff.1 h with ⟨rfl,h1,h2⟩ | ⟨rfl,h1,h2⟩
  · rw [if_pos rfl];omega
  · rw [if_neg (by decide)];omega
end Go.Proofs.Ytnmbndkojpjkmaa.Alo
