/-
  What Order makes: the pairs of one lock behind another one.
-/
import Derived.Test.YtfcimbhjoioinaaCmp
import Derived.Test.YtfcimbhjoioinaaEv
import Derived.Test.YtfcimbhjoioinaaGr
namespace Go.Proofs.Ytfcimbhjoioinaa

def prs (own : List Int) (a : Int) : List Dp := (own.filter (· != a)).map fun n => ⟨n, a⟩
def ordN (e : Ev) (N : Int → List Int) : Int → List Int :=
  if e.k = 13 then (if e.A ∈ N e.t then N else updN N e.t (N e.t ++ [e.A])) else if e.k = 14 ∧ e.A ∈ N e.t then updN N e.t ((N e.t).eraseIdx ((N e.t).findIdx (· == e.A))) else N
def ordP (e : Ev) (N : Int → List Int) : List Dp := if e.k = 13 then prs (N e.t) e.A else []
def ordS : List Ev → (Int → List Int) → (Int → List Int)
  | [], N => N
  | e :: l, N => ordS l (ordN e N)
def ordO : List Ev → (Int → List Int) → List Dp
  | [], _ => []
  | e :: l, N => ordP e N ++ ordO l (ordN e N)
theorem ordS_snoc (l : List Ev) (e : Ev) (N : Int → List Int) : ordS (l ++ [e]) N = ordN e (ordS l N) := by
  induction l generalizing N with
  | nil => rfl
  | cons a l ih => exact ih _
theorem ordO_snoc (l : List Ev) (e : Ev) (N : Int → List Int) : ordO (l ++ [e]) N = ordO l N ++ ordP e (ordS l N) := by
  induction l generalizing N with
  | nil => simp [ordO, ordS]
  | cons a l ih =>
    show ordP a N ++ ordO (l ++ [e]) (ordN a N) = ordP a N ++ ordO l (ordN a N) ++ ordP e (ordS l (ordN a N))
    rw [ih, List.append_assoc]
def orderL (l : List Ev) : List Dp := compP (sortP (ordO l fun _ => []))
def orderM (l : List Ev) : List Dp × Int := if 200 < l.length then ([], 2) else (orderL l, 0)
theorem prs_snoc (own : List Int) (z a : Int) : prs (own ++ [z]) a = prs own a ++ (if z = a then [] else [⟨z, a⟩]) := by
  unfold prs
  rw [List.filter_append, List.map_append]
  congr 1
  by_cases e : z = a
  · rw [if_pos e]; simp [e]
  · rw [if_neg e]; simp [e]
theorem prs_len (own : List Int) (a : Int) : (prs own a).length ≤ own.length := by
  unfold prs; rw [List.length_map]; exact List.length_filter_le _ _
end Go.Proofs.Ytfcimbhjoioinaa
