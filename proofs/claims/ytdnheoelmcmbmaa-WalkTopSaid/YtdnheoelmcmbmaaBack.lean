/-
  WalkBack: the walk of the law: it answers true, and writes nothing that was there.
-/
import Derived.Test.YtdnheoelmcmbmaaWalks2
import Derived.Test.YtdnheoelmcmbmaaLaws
namespace Go.Proofs.Ytdnheoelmcmbmaa
open Go.RowKit

/-- The marks l lie in w, and of what lay in W nothing has turned. -/
structure St (W w : World) (p : Option Addr) (l : List Mk) : Prop where
  marks : Marks w p l
  bel : Below W.heap.size W w

theorem St.next {W w w' : World} {p : Option Addr} {l : List Mk} (h : St W w p l) (hw : Below w.heap.size w w') : St W w' p l :=
  ⟨h.marks.below hw, h.bel.trans (hw.mono h.bel.size)⟩

theorem begun_st {W w : World} {p : Option Addr} {l : List Mk} (h : St W w p l) : Calls Try.prog 6 #[] w fun e w' => e = .returned (.bool true) ∧ St W w' p l :=
  (begun_any w).mono fun _ _ ⟨he, hw⟩ => ⟨he, h.next hw⟩

theorem next_st {W w : World} {p : Option Addr} {l : List Mk} (h : St W w p l) (cap : Nat) {i how a e : Int} {b : Bool} (hx : nextM l i how = (a, b, e)) :
    Calls Try.prog 8 #[.slice p l.length cap, .int .i64 i, .int .i64 how] w
      fun r w' => r = .returned (.tuple #[.int .i64 a, .bool b, .int .i64 e]) ∧ St W w' p l :=
  (next_is h.marks cap hx).mono fun _ _ ⟨he, hw⟩ => ⟨he, h.next hw⟩

theorem last_st {W w : World} {p : Option Addr} {l : List Mk} (h : St W w p l) (cap : Nat) {i how a e : Int} {b : Bool} (hx : lastM l i how = (a, b, e)) :
    Calls Try.prog 7 #[.slice p l.length cap, .int .i64 i, .int .i64 how] w
      fun r w' => r = .returned (.tuple #[.int .i64 a, .bool b, .int .i64 e]) ∧ St W w' p l :=
  (last_is h.marks cap hx).mono fun _ _ ⟨he, hw⟩ => ⟨he, h.next hw⟩

theorem top_st {W w : World} {p : Option Addr} {l : List Mk} (h : St W w p l) (cap : Nat) {i a e : Int} (hx : topM l i = (a, e)) :
    Calls Try.prog 9 #[.slice p l.length cap, .int .i64 i] w
      fun r w' => r = .returned (.tuple #[.int .i64 a, .int .i64 e]) ∧ St W w' p l :=
  (top_is h.marks cap hx).mono fun _ _ ⟨he, hw⟩ => ⟨he, h.next hw⟩

set_option maxHeartbeats 1000000 in
theorem back_any {w : World} {p : Option Addr} {l : List Mk} (hM : Marks w p l) (cap : Nat) (i how : Int) :
    Calls Try.prog 3 #[.slice p l.length cap, .int .i64 i, .int .i64 how] w fun e w' => e = .returned (.bool true) ∧ Below w.heap.size w w' := by
  have hS : St w w p l := ⟨hM, Below.refl _ _⟩
  clear hM
  by_cases hc : chk l.length i how = 0
  · obtain ⟨h0, h1, h2, -, -⟩ := chk_zero hc
    obtain ⟨n, rfl⟩ := Int.eq_ofNat_of_zero_le h0
    rcases last_next hc with hla | ⟨a, k, ha1, ha2, hk, hla, hnk⟩ <;> rcases next_last hc with hnb | ⟨b, m, hb1, hb2, hm1, hm2, hnb, hlm⟩
    all_goals
      clear hc
      go_enter Try.func3, Try.ntmps3
      go_wp2_with (first
        | (go_at_call 6; refine (begun_st hS).mono ?_; rintro e w1 ⟨rfl, hS⟩)
        | (go_at_call 7; refine (last_st hS _ (by assumption)).mono ?_; rintro e w1 ⟨rfl, hS⟩)
        | (go_at_call 8; refine (next_st hS _ (by assumption)).mono ?_; rintro e w1 ⟨rfl, hS⟩))
      go_ret
      exact ⟨rfl, hS.bel⟩
  · have hla := lastM_bad hc
    have hnb := nextM_bad hc
    have hb : (chk l.length i how != 0) = true := by simpa using hc
    clear hc
    go_enter Try.func3, Try.ntmps3
    go_wp2_with (first
        | (go_at_call 6; refine (begun_st hS).mono ?_; rintro e w1 ⟨rfl, hS⟩)
        | (go_at_call 7; refine (last_st hS _ (by assumption)).mono ?_; rintro e w1 ⟨rfl, hS⟩)
        | (go_at_call 8; refine (next_st hS _ (by assumption)).mono ?_; rintro e w1 ⟨rfl, hS⟩))
    go_ret
    exact ⟨rfl, hS.bel⟩

end Go.Proofs.Ytdnheoelmcmbmaa
