/-
  The plain law of HuntParts.
-/
import Derived.Test.YtoillodfabdeeaaFindsLaw
namespace Go.Proofs.Ytoillodfabdeeaa
open Go.RowKit Go.Sort

/-- What both answers leave: a and b. -/
structure PartsLaw (ps : List Pt) (k : Nat) (good S : List Int) (n : Nat) (a b : List Int) : Prop where
  pick : pickM ps k good = (n : Int)
  ea : askE ps n good = 0
  la : susL ps n good = a
  eb : askE ps k (good ++ [(n : Int)]) = 0
  lb : susL ps k (good ++ [(n : Int)]) = b
  lta : a.length < S.length
  ltb : b.length < S.length
  sum : a.length + b.length = S.length
  mem : (n : Int) ∈ S
  ne : n ≠ k
  each : ∀ x ∈ S, decide (x ∈ a) = !decide (x ∈ b)
theorem parts_law {ps : List Pt} (hO : OkD ps) {k : Nat} (hk : k < ps.length) {good : List Int} (hg : GoodOk ps good) (hb : (k : Int) ∈ suspP ps k good) (hp : 0 ≤ pickM ps k good) :
    ∃ (n : Nat) (a b : List Int), PartsLaw ps k good (suspP ps k good) n a b := by
  obtain ⟨n, hn, hnl, hnb, hns, -⟩ := pick_law hp
  obtain ⟨l1, l2, l3, l4⟩ := lens_lt hO hk hb hns hnb
  have hg2 : GoodOk ps (good ++ [(n : Int)]) := fun x hx => by
    rcases List.mem_append.1 hx with h | h
    · exact hg x h
    · rw [List.mem_singleton.1 h]; omega
  have ea := askE_ok hO hnl hg l3
  have eb := askE_ok hO hk hg2 l4
  refine ⟨n, _, _, hn, ea, ?_, eb, ?_, l1, l2, susp_lens hO hk hns, hns, hnb, fun x hx => ?_⟩
  · unfold susL; rw [if_pos ea, Int.toNat_natCast]
  · unfold susL; rw [if_pos eb, Int.toNat_natCast]
  · rw [susp_yes hO hk hns, susp_no]
    cases hd : decide (x ∈ Bk ps n)
    · rw [decide_eq_false (fun h => by rw [List.mem_filter, hd] at h; cases h.2), decide_eq_true (by rw [List.mem_filter, hd]; exact ⟨hx, rfl⟩)]; rfl
    · rw [decide_eq_true (by rw [List.mem_filter, hd]; exact ⟨hx, rfl⟩), decide_eq_false (fun h => by rw [List.mem_filter, hd] at h; cases h.2)]; rfl
/-- None picked: the bad one alone. -/
theorem parts_end {ps : List Pt} (hO : OkD ps) {k : Nat} (hk : k < ps.length) {good : List Int} (hb : (k : Int) ∈ suspP ps k good) (hp : pickM ps k good < 0) : suspP ps k good = [(k : Int)] :=
  rising_ext (susp_rising ps k good) (by simp) fun x => ⟨fun hx => by rw [pick_none hO hk hp hx]; simp, fun hx => by rw [List.mem_singleton.1 hx]; exact hb⟩
/-- Where no error is told. -/
theorem askE_zero {ps : List Pt} {bad : Int} {good : List Int} (he : askE ps bad good = 0) : OkD ps ∧ (0 ≤ bad ∧ bad < ps.length) ∧ GoodOk ps good ∧ bad ∈ suspP ps bad.toNat good ∧ susL ps bad good = suspP ps bad.toNat good := by
  have hsl : susL ps bad good = suspP ps bad.toNat good := by unfold susL; rw [if_pos he]
  have hez : errB ps bad good = 0 ∧ bad ∈ suspP ps bad.toNat good := by
    unfold askE at he
    split at he
    · next h => split at he
                · next h2 => exact ⟨h, h2⟩
                · omega
    · next h => exact absurd he h
  obtain ⟨hO, hbad, hgok⟩ := errB_zero hez.1
  exact ⟨hO, hbad, hgok, hez.2, hsl⟩
end Go.Proofs.Ytoillodfabdeeaa
