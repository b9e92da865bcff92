/-
  Conditions: not (A and B) is not A or not B.
-/
import Derived.Test.YtjojjcdminbnlaaDoorLy
namespace Go.Proofs.YtjojjcdminbnlaaDoor

theorem rd_loop {k : Nat} {c : UInt8} {y z xb : Ex} {t u v : List UInt8} (hk : k ≤ 4) (hk2 : k ≠ 2) (hc : c ∈ ranksM k) (hr : Rd .un t xb u) (hs : Stops (k + 1) u) (h : Rd (.loop k (.bin c y xb)) u z v) : Rd (.loop k y) (c :: t) z v := by
  have h0 := (ranks_mem hc).1
  have h32 : c ≠ 32 := by rintro rfl; simp at h0
  have hc0 : c ≠ 0 := by rintro rfl; simp at h0
  exact .more hk2 (sign_one _ c t h32 hc) hc0 (Rd.down hr (5 - (k + 1)) (k + 1) (by omega) hs) h
theorem rd_op {k : Nat} {c : UInt8} {xa xb : Ex} {s t u : List UInt8} (hk : k ≤ 4) (hc : c ∈ ranksM k) (hl : Rd .un s xa (c :: t)) (hr : Rd .un t xb u) (hs : Stops 0 u) : Rd (.bin 0) s (.bin c xa xb) u := by
  have h0 := (ranks_mem hc).1
  have h32 : c ≠ 32 := by rintro rfl; simp at h0
  have hc0 : c ≠ 0 := by rintro rfl; simp at h0
  have h1 := Rd.down hl (5 - (k + 1)) (k + 1) (by omega) (stops_op hc hk t)
  have h2 := Rd.down hr (5 - (k + 1)) (k + 1) (by omega) (hs.up (Nat.zero_le _))
  refine Rd.lower (j := k) ?_ (by omega) k 0 (by omega) hs
  refine .bin (by omega) h1 ?_
  by_cases hk2 : k = 2
  · subst hk2; exact .two (sign_one _ c t h32 hc) hc0 h2
  · exact .more hk2 (sign_one _ c t h32 hc) hc0 h2 (.stop (hs.sign (Nat.zero_le _) hk))
def lg1 (a b : List UInt8) : List UInt8 := [33, 40, 40] ++ a ++ [41, 38, 40] ++ b ++ [41, 41]
def lg2 (a b : List UInt8) : List UInt8 := [33, 40] ++ a ++ [41, 124, 33, 40] ++ b ++ [41]
def lg3 (a b : List UInt8) : List UInt8 := [40] ++ a ++ [41, 60, 40] ++ b ++ [41]
def lg5 (a b : List UInt8) : List UInt8 := [40] ++ a ++ [41, 43, 40] ++ b ++ [41, 45, 40] ++ b ++ [41, 45, 40] ++ a ++ [41]
def vUn (op : UInt8) (r : Int × Bool) : Int × Bool := if r.2 then (unV op r.1, true) else (0, false)
def vBin (op : UInt8) (r q : Int × Bool) : Int × Bool := if r.2 then if q.2 then (binV op r.1 q.1, true) else (0, false) else (0, false)
theorem val_unE (of : List UInt8 → Int × Bool) (op : UInt8) (x : Ex) : (Ex.un op x).val of = vUn op (x.val of) := rfl
theorem val_binE (of : List UInt8 → Int × Bool) (op : UInt8) (x y : Ex) : (Ex.bin op x y).val of = vBin op (x.val of) (y.val of) := rfl
section
variable {a b : List UInt8} {xa xb : Ex} (ha : parseM a = (xa, 0)) (hb : parseM b = (xb, 0))
theorem parse_det {text : List UInt8} {x y : Ex} (h : parseM text = (x, 0)) (h' : Rd (.bin 0) text y []) : x = y := by
  obtain ⟨-, -, -, -, t, hR, -⟩ := parse_ok h
  exact (hR.det h').1
theorem lg_bt {a : List UInt8} {xa : Ex} (ha : parseM a = (xa, 0)) (z : List UInt8) : Rd .un (40 :: (a ++ 41 :: z)) xa z := by
  obtain ⟨-, -, -, -, t, hR, ht⟩ := parse_ok ha
  exact hR.between ht z
include ha hb
theorem rd_lg3 : Rd (.bin 0) (lg3 a b) (.bin 60 xa xb) [] := by
  have e : lg3 a b = 40 :: (a ++ 41 :: (60 :: (40 :: (b ++ 41 :: [])))) := by simp [lg3]
  rw [e]
  exact rd_op (k := 2) (by decide) (by decide) (lg_bt ha _) (lg_bt hb []) trivial
theorem rd_lg2 : Rd (.bin 0) (lg2 a b) (.bin 124 (.un 33 xa) (.un 33 xb)) [] := by
  have e : lg2 a b = 33 :: (40 :: (a ++ 41 :: (124 :: (33 :: (40 :: (b ++ 41 :: [])))))) := by simp [lg2]
  rw [e]
  exact rd_op (k := 0) (by decide) (by decide) (.not (sign_one _ 33 _ (by decide) (by decide)) (lg_bt ha _)) (.not (sign_one _ 33 _ (by decide) (by decide)) (lg_bt hb [])) trivial
theorem rd_lg1 : Rd (.bin 0) (lg1 a b) (.un 33 (.bin 38 xa xb)) [] := by
  have e : lg1 a b = 33 :: (40 :: ((40 :: (a ++ 41 :: (38 :: (40 :: (b ++ 41 :: []))))) ++ 41 :: [])) := by simp [lg1]
  rw [e]
  have h1 := rd_op (k := 1) (c := 38) (by decide) (by decide) (lg_bt ha (38 :: (40 :: (b ++ 41 :: [])))) (lg_bt hb []) trivial
  exact Rd.down (.not (sign_one _ 33 _ (by decide) (by decide)) (h1.between rfl [])) 5 0 rfl trivial
theorem rd_lg5 : Rd (.bin 0) (lg5 a b) (.bin 45 (.bin 45 (.bin 43 xa xb) xb) xa) [] := by
  have e : lg5 a b = 40 :: (a ++ 41 :: (43 :: (40 :: (b ++ 41 :: (45 :: (40 :: (b ++ 41 :: (45 :: (40 :: (a ++ 41 :: [])))))))))) := by simp [lg5]
  rw [e]
  refine Rd.lower (j := 3) ?_ (by decide) 3 0 rfl trivial
  refine .bin (by decide) (Rd.down (lg_bt ha _) 1 4 rfl (stops_op (k := 3) (by decide) (by decide) _)) ?_
  refine rd_loop (k := 3) (by decide) (by decide) (by decide) (lg_bt hb _) (stops_op (k := 3) (by decide) (by decide) _) ?_
  refine rd_loop (k := 3) (by decide) (by decide) (by decide) (lg_bt hb _) (stops_op (k := 3) (by decide) (by decide) _) ?_
  refine rd_loop (k := 3) (by decide) (by decide) (by decide) (lg_bt ha _) trivial ?_
  exact .stop rfl
omit ha hb in
theorem value_of {text : List UInt8} {l : List (List UInt8 × Int)} {n : Int} {x : Ex} (h : valueM text l = (n, 0)) (hR : Rd (.bin 0) text x []) : x.val (fun n => lookM n l) = (n, true) := by
  unfold valueM at h
  cases hp : parseM text with
  | mk y e =>
    rw [hp] at h
    dsimp only at h
    split at h
    · next he => simp only [Prod.mk.injEq] at h; exact absurd h.2 he
    · next he =>
      have he : e = 0 := by omega
      subst he
      rw [parse_det hp hR] at h
      split at h
      · next ok => simp only [Prod.mk.injEq, and_true] at h; rw [← h, ← ok]
      · simp at h
theorem logic_law {l : List (List UInt8 × Int)} {x y p q z : Int} (h1 : valueM (lg1 a b) l = (x, 0)) (h2 : valueM (lg2 a b) l = (y, 0)) (h3 : valueM (lg3 a b) l = (p, 0)) (h4 : valueM (lg3 b a) l = (q, 0)) (h5 : valueM (lg5 a b) l = (z, 0)) :
    x = y ∧ p + q < 2 ∧ 0 ≤ p ∧ 0 ≤ q ∧ z = 0 := by
  have k1 := value_of h1 (rd_lg1 ha hb)
  have k2 := value_of h2 (rd_lg2 ha hb)
  have k3 := value_of h3 (rd_lg3 ha hb)
  have k4 := value_of h4 (rd_lg3 hb ha)
  have k5 := value_of h5 (rd_lg5 ha hb)
  simp only [val_unE, val_binE] at k1 k2 k3 k4 k5
  generalize (xa.val fun n => lookM n l) = u at k1 k2 k3 k4 k5
  generalize (xb.val fun n => lookM n l) = v at k1 k2 k3 k4 k5
  obtain ⟨u, ou⟩ := u
  obtain ⟨v, ov⟩ := v
  cases ou <;> cases ov
  · simp [vBin] at k3
  · simp [vBin] at k3
  · simp [vBin] at k3
  · simp only [vUn, vBin, if_true, Prod.mk.injEq, and_true] at k1 k2 k3 k4 k5
    have b1 : binV 38 u v = truthM (u != 0 && v != 0) := rfl
    have b2 : ∀ a b, binV 124 a b = truthM (a != 0 || b != 0) := fun _ _ => rfl
    have b3 : ∀ a b, binV 60 a b = truthM (decide (a < b)) := fun _ _ => rfl
    have b4 : ∀ a b, binV 43 a b = IntKind.i64.wrap (a + b) := fun _ _ => rfl
    have b5 : ∀ a b, binV 45 a b = IntKind.i64.wrap (a - b) := fun _ _ => rfl
    have b6 : ∀ a, unV 33 a = truthM (a == 0) := fun _ => rfl
    rw [b6, b1] at k1
    rw [b6, b6, b2] at k2
    rw [b3] at k3 k4
    rw [b5, b5, b4] at k5
    refine ⟨?_, ?_, ?_, ?_, ?_⟩
    · rw [← k1, ← k2]
      by_cases hu : u = 0 <;> by_cases hv : v = 0 <;> simp [truthM, hu, hv]
    · rw [← k3, ← k4]
      unfold truthM
      by_cases hu : u < v <;> by_cases hv : v < u <;> simp [hu, hv]
      omega
    · rw [← k3]; unfold truthM; split <;> decide
    · rw [← k4]; unfold truthM; split <;> decide
    · rw [← k5]
      simp only [IntKind.wrap_i64]
      omega
end
end Go.Proofs.YtjojjcdminbnlaaDoor
