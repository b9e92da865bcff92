/-
  Contains.
-/
import Derived.Test.YtiaaoajnecppnaaIdx
namespace Go.Proofs.Ytiaaoajnecppnaa
open Go.RowKit

theorem contains_any {w : World} {p : Option Addr} {cap : Nat} {l : List Int} (hR : SlI w p cap l) (v : Int) :
    Calls Try.prog 32 #[.slice p l.length cap, .int .i64 v] w fun e w' => e = .returned (.bool (decide (v ∈ l))) ∧ w' = w := by
  have C := indexI_val hR v
  have hmem : l.findIdx (· == v) < l.length ↔ v ∈ l := by
    rw [List.findIdx_lt_length]
    constructor
    · rintro ⟨x, hx, e⟩
      have : x = v := by simpa using e
      exact this ▸ hx
    · exact fun h => ⟨v, h, by simp⟩
  by_cases hv : v ∈ l
  · rw [decide_eq_true hv]
    have HM := Lib.hid (hmem.2 hv)
    have HC := Lib.hid C
    clear C hmem hv
    go_enter Try.func32, Try.ntmps32
    go_wp2_with fail
    refine HC.out.mono ?_
    rintro e w' (⟨h1, rfl, rfl⟩ | ⟨h1, rfl, rfl⟩)
    · generalize l.findIdx (· == v) = k at *
      have hk : (0 : Int) ≤ (k : Int) := by omega
      go_wp2_with fail
      go_ret
      exact ⟨rfl, rfl⟩
    · exact absurd HM.out (by rw [h1]; omega)
  · rw [decide_eq_false hv]
    have HM := Lib.hid (fun h => hv (hmem.1 h))
    have HC := Lib.hid C
    clear C hmem hv
    go_enter Try.func32, Try.ntmps32
    go_wp2_with fail
    refine HC.out.mono ?_
    rintro e w' (⟨h1, rfl, rfl⟩ | ⟨h1, rfl, rfl⟩)
    · exact absurd h1 HM.out
    · go_wp2_with fail
      go_ret
      exact ⟨rfl, rfl⟩
end Go.Proofs.Ytiaaoajnecppnaa
