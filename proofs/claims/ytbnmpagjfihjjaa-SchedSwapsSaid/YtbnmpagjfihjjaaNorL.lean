/-
  check; what Normal reckons; how its rows lie.
-/
import Derived.Test.YtbnmpagjfihjjaaHangs
import Derived.Test.YtbnmpagjfihjjaaIns
import Derived.Test.YtbnmpagjfihjjaaCnt2
import Derived.Test.YtbnmpagjfihjjaaSep
import Derived.Shelf.SlicesG.SearchI
namespace Go.Proofs.Ytbnmpagjfihjjaa
open Go.RowKit

def actB (n : Nat) (x : Int) : Bool := decide (x < 0) || decide ((n : Int) ≤ x)
def checkM (l : List Int) (D : List (List Bool)) : Int := if 200 < l.length ∨ 12 < D.length then 2 else if hangsM D = false then 3 else if l.any (actB D.length) then 1 else 0

theorem check1_pred (W : World) {B : Nat} {p : Option Addr} {n c : Nat} (hB : W.cell? ⟨B, 0, none⟩ = some (.slice p n c)) (hb : B < W.heap.size) : PredV W 31 #[.pointer (some ⟨B, 0, none⟩)] (Value.int .i64) (fun _ _ => True) (actB n) where
  ent := enters_of Try.func31 rfl rfl
  call := fun w' hw' x _ => by
    have hc := (hw'.cell (p := ⟨B, 0, none⟩) hb).trans hB
    unfold actB
    by_cases h1 : x < 0
    · rw [decide_eq_true h1]
      go_enter Try.func31, Try.ntmps31
      go_wp2
      go_ret
      exact ⟨rfl, Below.refl _ _⟩
    · by_cases h2 : (n : Int) ≤ x
      · rw [decide_eq_false h1, decide_eq_true h2]
        go_enter Try.func31, Try.ntmps31
        go_wp2
        go_ret
        exact ⟨rfl, Below.refl _ _⟩
      · rw [decide_eq_false h1, decide_eq_false h2]
        go_enter Try.func31, Try.ntmps31
        go_wp2
        go_ret
        exact ⟨rfl, Below.refl _ _⟩

set_option maxRecDepth 100000 in
set_option maxHeartbeats 4000000 in
theorem check_any {w : World} {p : Option Addr} {cap : Nat} {l : List Int} {s : Sv (Sv Bool)} (hS : SlI w p cap l) (hR : RdBB w s) :
    Calls Try.prog 21 #[.slice p l.length cap, s.val] w fun e w' => e = .returned (.int .i64 (checkM l (s.l.map (·.l)))) ∧ Below w.heap.size w w' := by
  have l1 := Sl.le hS
  have l2 := Sl.big hS
  have l3 := hR.le
  have hal := (Below.refl w.heap.size w).alloc (Nat.le_refl _) (.cells #[s.val] 32)
  have hH := hangs_any (RdBB.st _ _ _ hR hal)
  have hC := fun W (hW : Below (w.alloc (.cells #[s.val] 32)).heap.size (w.alloc (.cells #[s.val] 32)) W) => containsI_any (check1_pred (W := W) (B := w.heap.size) (p := s.p) (n := s.l.length) (c := s.cap) ((hW.cell (p := ⟨w.heap.size, 0, none⟩) (by simp)).trans (new_cell w #[s.val] 32 (0, 0) 0)) (Nat.lt_of_lt_of_le (by simp) hW.size)) ((hS.below hal).below hW) (fun _ _ _ _ => trivial)
  have hB0 := fun W (hW : Below (w.alloc (.cells #[s.val] 32)).heap.size (w.alloc (.cells #[s.val] 32)) W) => (hW.cell (p := ⟨w.heap.size, 0, none⟩) (by simp)).trans (new_cell w #[s.val] 32 (0, 0) 0)
  unfold checkM
  rw [List.length_map]
  obtain ⟨q, c2, L⟩ := s
  dsimp only [Sv.val] at *
  by_cases h1 : 200 < l.length ∨ 12 < L.length
  · rw [if_pos h1]
    clear hH hC hB0 hS hR
    by_cases h2 : 200 < l.length
    · have hz : (200 : Int) < (l.length : Int) := by omega
      clear h1 h2
      go_enter Try.func21, Try.ntmps21
      go_wp2
      go_ret
      exact ⟨rfl, hal⟩
    · have hz : ¬ (200 : Int) < (l.length : Int) := by omega
      have hz2 : (12 : Int) < (L.length : Int) := by omega
      clear h1 h2
      go_enter Try.func21, Try.ntmps21
      go_wp2
      go_ret
      exact ⟨rfl, hal⟩
  · rw [if_neg h1]
    have hz : ¬ (200 : Int) < (l.length : Int) := by omega
    have hz2 : ¬ (12 : Int) < (L.length : Int) := by omega
    have HH := Lib.hid hH; have HC := Lib.hid hC; have HAL := Lib.hid hal; have HB0 := Lib.hid hB0
    clear h1 hH hC hal hS hR hB0
    cases hh : hangsM (L.map (·.l)) with
    | false =>
      rw [if_pos rfl]
      rw [hh] at HH
      clear HC
      go_enter Try.func21, Try.ntmps21
      go_wp2_with fail
      refine HH.out.mono ?_
      rintro _ w1 ⟨rfl, hb1⟩
      go_wp2_with fail
      go_ret
      exact ⟨rfl, HAL.out.trans (hb1.mono HAL.out.size)⟩
    | true =>
      rw [if_neg (by simp)]
      rw [hh] at HH
      obtain ⟨R, hR⟩ : ∃ R : Int, R = (if (l.any (actB L.length)) then 1 else 0) := ⟨_, rfl⟩
      rw [← hR]
      cases hany : l.any (actB L.length) with
      | false =>
        rw [hany] at HC hR
        obtain rfl : R = 0 := hR
        clear hany hh
        go_enter Try.func21, Try.ntmps21
        go_wp2_with fail
        refine HH.out.mono ?_
        rintro _ w1 ⟨rfl, hb1⟩
        go_wp2_with fail
        refine (HC.out _ hb1).mono ?_
        rintro _ w2 ⟨rfl, hb2⟩
        go_wp2_with fail
        go_ret
        exact ⟨rfl, (HAL.out.trans (hb1.mono HAL.out.size)).trans (hb2.mono (Nat.le_trans HAL.out.size hb1.size))⟩
      | true =>
        rw [hany] at HC hR
        obtain rfl : R = 1 := hR
        clear hany hh
        go_enter Try.func21, Try.ntmps21
        go_wp2_with fail
        refine HH.out.mono ?_
        rintro _ w1 ⟨rfl, hb1⟩
        go_wp2_with fail
        refine (HC.out _ hb1).mono ?_
        rintro _ w2 ⟨rfl, hb2⟩
        go_wp2_with fail
        go_ret
        exact ⟨rfl, (HAL.out.trans (hb1.mono HAL.out.size)).trans (hb2.mono (Nat.le_trans HAL.out.size hb1.size))⟩

/-! ### Normal's reckoning -/
def insL (a : Int) : List Int → List Int
  | [] => [a]
  | x :: r => if x < a then x :: insL a r else a :: x :: r
theorem insL_at {a : Int} : ∀ {l : List Int}, l.Pairwise (· ≤ ·) → insL a l = l.take (l.countP (· < a)) ++ a :: l.drop (l.countP (· < a))
  | [], _ => rfl
  | x :: r, h => by
    have h' := List.pairwise_cons.1 h
    rw [insL, List.countP_cons]
    by_cases hx : x < a
    · rw [if_pos hx, insL_at h'.2]
      simp [hx]
    · rw [if_neg hx]
      have h0 : r.countP (· < a) = 0 := by
        rw [List.countP_eq_zero]
        intro y hy
        have := h'.1 y hy
        simp; omega
      simp [hx, h0]
theorem insL_mem {a x : Int} : ∀ {l : List Int}, x ∈ insL a l ↔ x = a ∨ x ∈ l
  | [] => by simp [insL]
  | y :: r => by
    rw [insL]
    split
    · rw [List.mem_cons, insL_mem, List.mem_cons]
      constructor
      · rintro (h | h | h)
        · exact .inr (.inl h)
        · exact .inl h
        · exact .inr (.inr h)
      · rintro (h | h | h)
        · exact .inr (.inl h)
        · exact .inl h
        · exact .inr (.inr h)
    · simp
theorem insL_len (a : Int) : ∀ l : List Int, (insL a l).length = l.length + 1
  | [] => rfl
  | x :: r => by
    rw [insL]
    split
    · simp [insL_len a r]
    · rfl
theorem insL_srt {a : Int} : ∀ {l : List Int}, l.Pairwise (· ≤ ·) → (insL a l).Pairwise (· ≤ ·)
  | [], _ => List.pairwise_singleton _ _
  | x :: r, h => by
    have h' := List.pairwise_cons.1 h
    rw [insL]
    split
    · next hx =>
      refine List.pairwise_cons.2 ⟨fun y hy => ?_, insL_srt h'.2⟩
      rcases insL_mem.1 hy with e | e
      · omega
      · exact h'.1 y e
    · next hx =>
      refine List.pairwise_cons.2 ⟨fun y hy => ?_, h⟩
      rcases List.mem_cons.1 hy with e | e
      · omega
      · have := h'.1 y e; omega
def bumpL (D : List (List Bool)) (a s : Nat) (nx : List Nat) : List Nat := (List.range nx.length).map fun k => if dg D a k then max (nx.getD k 0) (s + 1) else nx.getD k 0
theorem bumpL_len (D : List (List Bool)) (a s : Nat) (nx : List Nat) : (bumpL D a s nx).length = nx.length := by simp [bumpL]
def nst (D : List (List Bool)) (σ : List Nat × List (List Int)) (a : Nat) : List Nat × List (List Int) :=
  (bumpL D a (σ.1.getD a 0) σ.1, (if σ.1.getD a 0 = σ.2.length then σ.2 ++ [[]] else σ.2).set (σ.1.getD a 0) (insL a ((if σ.1.getD a 0 = σ.2.length then σ.2 ++ [[]] else σ.2).getD (σ.1.getD a 0) [])))
def nrm (D : List (List Bool)) (v : List Nat) : List Nat × List (List Int) := v.foldl (nst D) (List.replicate D.length 0, [])
def normM (l : List Int) (D : List (List Bool)) : List (List Int) × Int := if checkM l D = 0 then ((nrm D (l.map Int.toNat)).2, 0) else ([], checkM l D)
theorem nrm_snoc (D : List (List Bool)) (v : List Nat) (a : Nat) : nrm D (v ++ [a]) = nst D (nrm D v) a := by unfold nrm; rw [List.foldl_append]; rfl
theorem bumpL_get {D : List (List Bool)} {a s k : Nat} {nx : List Nat} (hk : k < nx.length) : (bumpL D a s nx).getD k 0 = if dg D a k then max (nx.getD k 0) (s + 1) else nx.getD k 0 := by
  unfold bumpL
  rw [List.getD_eq_getElem?_getD, List.getElem?_map, List.getElem?_range hk]
  rfl
/-- What always holds of it. -/
structure NOk (D : List (List Bool)) (σ : List Nat × List (List Int)) (k : Nat) : Prop where
  nlen : σ.1.length = D.length
  le : ∀ a, σ.1.getD a 0 ≤ σ.2.length
  few : σ.2.length ≤ k
  srt : ∀ r ∈ σ.2, r.Pairwise (· ≤ ·)
  short : ∀ r ∈ σ.2, r.length ≤ k
theorem nok_zero (D : List (List Bool)) : NOk D (nrm D []) 0 := by
  refine ⟨by simp [nrm], fun a => ?_, by simp [nrm], fun r hr => by simp [nrm] at hr, fun r hr => by simp [nrm] at hr⟩
  simp only [nrm, List.foldl_nil]
  rw [List.getD_eq_getElem?_getD, List.getElem?_replicate]
  split <;> simp
theorem nst_row {D : List (List Bool)} {σ : List Nat × List (List Int)} {k a : Nat} (h : NOk D σ k) : (if σ.1.getD a 0 = σ.2.length then σ.2 ++ [[]] else σ.2).length = max σ.2.length (σ.1.getD a 0 + 1) ∧ ((if σ.1.getD a 0 = σ.2.length then σ.2 ++ [[]] else σ.2).getD (σ.1.getD a 0) []) = σ.2.getD (σ.1.getD a 0) [] := by
  have hle := h.le a
  split
  · next e =>
    refine ⟨by rw [List.length_append, List.length_singleton]; omega, ?_⟩
    rw [e, List.getD_eq_getElem?_getD, List.getD_eq_getElem?_getD, List.getElem?_append_right (Nat.le_refl _), Nat.sub_self, List.getElem?_eq_none (Nat.le_refl _)]
    rfl
  · exact ⟨by omega, rfl⟩
theorem row_srt {D : List (List Bool)} {σ : List Nat × List (List Int)} {k : Nat} (h : NOk D σ k) (s : Nat) : (σ.2.getD s []).Pairwise (· ≤ ·) ∧ (σ.2.getD s []).length ≤ k := by
  rw [List.getD_eq_getElem?_getD]
  cases hs : σ.2[s]? with
  | none => exact ⟨List.Pairwise.nil, Nat.zero_le _⟩
  | some r =>
    have := List.mem_of_getElem? hs
    exact ⟨h.srt r this, h.short r this⟩
theorem nok_step {D : List (List Bool)} {σ : List Nat × List (List Int)} {k a : Nat} (h : NOk D σ k) : NOk D (nst D σ a) (k + 1) := by
  obtain ⟨h1, h2⟩ := nst_row (a := a) h
  have hle := h.le a
  have hrs := row_srt h (σ.1.getD a 0)
  unfold nst
  rw [h2]
  have hfew := h.few
  refine ⟨by rw [bumpL_len]; exact h.nlen, fun b => ?_, ?_, fun r hr => ?_, fun r hr => ?_⟩
  · dsimp only
    rw [List.length_set, h1]
    by_cases hb : b < σ.1.length
    · rw [bumpL_get hb]
      have := h.le b
      split <;> omega
    · rw [List.getD_eq_getElem?_getD, List.getElem?_eq_none (by rw [bumpL_len]; omega)]
      exact Nat.zero_le _
  · dsimp only
    rw [List.length_set, h1]
    omega
  · dsimp only at hr
    rcases List.mem_or_eq_of_mem_set hr with hr | hr
    · split at hr
      · rcases List.mem_append.1 hr with hr | hr
        · exact h.srt r hr
        · obtain rfl := List.mem_singleton.1 hr; exact List.Pairwise.nil
      · exact h.srt r hr
    · subst hr; exact insL_srt hrs.1
  · dsimp only at hr
    rcases List.mem_or_eq_of_mem_set hr with hr | hr
    · split at hr
      · rcases List.mem_append.1 hr with hr | hr
        · have := h.short r hr; omega
        · obtain rfl := List.mem_singleton.1 hr; simp
      · have := h.short r hr; omega
    · subst hr; rw [insL_len]; omega
end Go.Proofs.Ytbnmpagjfihjjaa
