/-
  Stable sorting in plain lists: by a number 'key'. Sorted, stable, the one sorted stable list, and how the kit's insertion sort (Sort.insertionSort over arrays) makes it.
-/
import Derived.Sort.LotA
import Derived.Sort.WalkA
namespace Go.Proofs.Ytpafnadfoedheaa
open Go.Sort

section
variable {α : Type} (key : α → Int)
/-- The elements whose key is k. -/
def fk (k : Int) (l : List α) : List α := l.filter fun x => key x == k
def Stb (l m : List α) : Prop := ∀ k, fk key k l = fk key k m
def Srt (l : List α) : Prop := l.Pairwise fun x y => key x ≤ key y

variable {key}
theorem fk_append (k : Int) (l m : List α) : fk key k (l ++ m) = fk key k l ++ fk key k m := by simp [fk]
theorem fk_nil (k : Int) : fk key k ([] : List α) = [] := rfl
theorem fk_cons (k : Int) (x : α) (l : List α) : fk key k (x :: l) = if key x = k then x :: fk key k l else fk key k l := by
  unfold fk
  rw [List.filter_cons]
  by_cases h : key x = k <;> simp [h]
theorem mem_fk {k : Int} {l : List α} {x : α} : x ∈ fk key k l ↔ x ∈ l ∧ key x = k := by simp [fk]
theorem Stb.refl (l : List α) : Stb key l l := fun _ => rfl
theorem Stb.trans {l m n : List α} (h : Stb key l m) (h' : Stb key m n) : Stb key l n := fun k => (h k).trans (h' k)
theorem Stb.symm {l m : List α} (h : Stb key l m) : Stb key m l := fun k => (h k).symm
theorem Stb.append {l m l' m' : List α} (h : Stb key l l') (h' : Stb key m m') : Stb key (l ++ m) (l' ++ m') := fun k => by rw [fk_append, fk_append, h k, h' k]
theorem Stb.mem {l m : List α} (h : Stb key l m) (x : α) : x ∈ l ↔ x ∈ m := by
  have := h (key x)
  constructor
  · intro hx
    have : x ∈ fk key (key x) m := by rw [← this]; exact mem_fk.2 ⟨hx, rfl⟩
    exact (mem_fk.1 this).1
  · intro hx
    have : x ∈ fk key (key x) l := by rw [this]; exact mem_fk.2 ⟨hx, rfl⟩
    exact (mem_fk.1 this).1
theorem Stb.cancel {A X Z B : List α} (h : Stb key (A ++ X ++ B) (A ++ Z ++ B)) : Stb key X Z := fun k => by
  have := h k
  simp only [fk_append] at this
  exact List.append_cancel_left (List.append_cancel_right this)
theorem swo_key : SWO (fun x y : α => decide (key x < key y)) where
  irrefl := fun x => by simp
  trans := fun x y z h1 h2 => by simp at *; omega
  ntrans := fun x y z h1 h2 => by simp at *; omega
/-- Two neighbours of unlike keys may change places. -/
theorem Stb.swap {A B : List α} {x y : α} (h : key x ≠ key y) : Stb key (A ++ x :: y :: B) (A ++ y :: x :: B) := fun k => by
  simp only [fk_append, fk_cons]
  by_cases h1 : key x = k
  · have h2 : ¬ key y = k := fun e => h (h1.trans e.symm)
    simp [h1, h2]
  · simp [h1]

theorem srt_uniq : ∀ {l m : List α}, Srt key l → Srt key m → Stb key l m → l = m
  | [], [], _, _, _ => rfl
  | [], y :: m, _, _, hs => absurd ((hs.mem y).2 (List.mem_cons_self)) (List.not_mem_nil)
  | x :: l, [], _, _, hs => absurd ((hs.mem x).1 (List.mem_cons_self)) (List.not_mem_nil)
  | x :: l, y :: m, hl, hm, hs => by
    have hl' := List.pairwise_cons.1 hl
    have hm' := List.pairwise_cons.1 hm
    have hxy : key x = key y := by
      have h1 : key y ≤ key x := by
        rcases List.mem_cons.1 ((hs.mem x).1 List.mem_cons_self) with e | e
        · rw [e]; omega
        · exact hm'.1 x e
      have h2 : key x ≤ key y := by
        rcases List.mem_cons.1 ((hs.mem y).2 List.mem_cons_self) with e | e
        · rw [e]; omega
        · exact hl'.1 y e
      omega
    have h0 := hs (key x)
    rw [fk_cons, fk_cons, if_pos rfl, if_pos hxy.symm] at h0
    obtain ⟨rfl, ht⟩ := List.cons.inj h0
    have : l = m := srt_uniq hl'.2 hm'.2 fun k => by
      by_cases hk : key x = k
      · subst hk; exact ht
      · have := hs k
        rw [fk_cons, fk_cons, if_neg hk, if_neg hk] at this
        exact this
    rw [this]

/-- One more into a sorted list: ahead of those that are no less. -/
def sins (key : α → Int) (x : α) : List α → List α
  | [] => [x]
  | y :: l => if key x ≤ key y then x :: y :: l else y :: sins key x l
/-- The sorted stable list. -/
def ssort (key : α → Int) : List α → List α
  | [] => []
  | x :: l => sins key x (ssort key l)
theorem sins_stb (x : α) : ∀ l : List α, Stb key (x :: l) (sins key x l)
  | [] => Stb.refl _
  | y :: l => by
    unfold sins
    split
    · exact Stb.refl _
    · next h =>
      have := sins_stb x l
      refine Stb.trans (Stb.swap (A := []) (B := l) (x := x) (y := y) (by omega)) ?_
      exact Stb.append (l := [y]) (l' := [y]) (Stb.refl _) this
theorem sins_srt (x : α) : ∀ l : List α, Srt key l → Srt key (sins key x l)
  | [], _ => List.pairwise_singleton _ _
  | y :: l, h => by
    have h' := List.pairwise_cons.1 h
    unfold sins
    split
    · next hle =>
      refine List.pairwise_cons.2 ⟨fun z hz => ?_, h⟩
      rcases List.mem_cons.1 hz with e | e
      · rw [e]; exact hle
      · exact Int.le_trans hle (h'.1 z e)
    · next hle =>
      refine List.pairwise_cons.2 ⟨fun z hz => ?_, sins_srt x l h'.2⟩
      rcases List.mem_cons.1 (((sins_stb x l).mem z).2 hz) with e | e
      · rw [e]; omega
      · exact h'.1 z e
theorem ssort_stb : ∀ l : List α, Stb key l (ssort key l)
  | [] => Stb.refl _
  | x :: l => Stb.trans (Stb.append (l := [x]) (l' := [x]) (Stb.refl _) (ssort_stb l)) (sins_stb x _)
theorem ssort_srt : ∀ l : List α, Srt key (ssort key l)
  | [] => List.Pairwise.nil
  | x :: l => sins_srt x _ (ssort_srt l)
theorem ssort_is {l m : List α} (h : Srt key m) (hs : Stb key l m) : ssort key l = m := srt_uniq (ssort_srt l) h ((ssort_stb l).symm.trans hs)
theorem ssort_srtd {l : List α} (h : Srt key l) : ssort key l = l := ssort_is h (Stb.refl _)
theorem ssort_cong {l m : List α} (h : Stb key l m) : ssort key l = ssort key m := ssort_is (ssort_srt m) (h.trans (ssort_stb m))
theorem ssort_left (l m : List α) : ssort key (ssort key l ++ m) = ssort key (l ++ m) := ssort_cong (Stb.append (ssort_stb l).symm (Stb.refl _))
theorem ssort_right (l m : List α) : ssort key (l ++ ssort key m) = ssort key (l ++ m) := ssort_cong (Stb.append (Stb.refl _) (ssort_stb m).symm)
theorem ssort_length (l : List α) : (ssort key l).length = l.length := by
  induction l with
  | nil => rfl
  | cons x l ih =>
    have : ∀ m : List α, (sins key x m).length = m.length + 1 := fun m => by
      induction m with
      | nil => rfl
      | cons y m ihm =>
        unfold sins
        split
        · rfl
        · simp [ihm]
    show (sins key x (ssort key l)).length = _
    rw [this, ih]; rfl
/-- What symMerge makes: the lesser ones of both, sorted, ahead of the others of both, sorted. -/
theorem ssort_halves {X1 X2 Y1 Y2 : List α} (hX : Srt key (X1 ++ X2)) (hY : Srt key (Y1 ++ Y2)) (h1 : ∀ x ∈ X1, ∀ y ∈ Y2, key x ≤ key y) (h2 : ∀ y ∈ Y1, ∀ x ∈ X2, key y < key x) :
    ssort key (X1 ++ Y1) ++ ssort key (X2 ++ Y2) = ssort key (X1 ++ X2 ++ (Y1 ++ Y2)) := by
  refine (ssort_is ?_ fun k => ?_).symm
  · refine List.pairwise_append.2 ⟨ssort_srt _, ssort_srt _, fun x hx y hy => ?_⟩
    have hx' := ((ssort_stb _).mem x).2 hx
    have hy' := ((ssort_stb _).mem y).2 hy
    rcases List.mem_append.1 hx' with a | a <;> rcases List.mem_append.1 hy' with b | b
    · exact (List.pairwise_append.1 hX).2.2 x a y b
    · exact h1 x a y b
    · have := h2 x a y b; omega
    · exact (List.pairwise_append.1 hY).2.2 x a y b
  · rw [fk_append, fk_append, fk_append, fk_append, ← ssort_stb, ← ssort_stb, fk_append, fk_append]
    have : fk key k X2 ++ fk key k Y1 = fk key k Y1 ++ fk key k X2 := by
      by_cases hx : fk key k X2 = []
      · rw [hx]; simp
      · by_cases hy : fk key k Y1 = []
        · rw [hy]; simp
        · obtain ⟨x, hx⟩ := List.exists_mem_of_ne_nil _ hx
          obtain ⟨y, hy⟩ := List.exists_mem_of_ne_nil _ hy
          have a := mem_fk.1 hx
          have b := mem_fk.1 hy
          have := h2 y b.1 x a.1
          omega
    simp only [List.append_assoc]
    rw [← List.append_assoc (fk key k X2), this, List.append_assoc]
end

section
variable {α : Type} [Inhabited α]
theorem swp_at {d : Array α} {A M B : List α} {x y : α} (h : d.toList = A ++ x :: (M ++ y :: B)) {i j : Nat} (hi : i = A.length) (hj : j = A.length + 1 + M.length) : (swp d i j).toList = A ++ y :: (M ++ x :: B) := by
  subst hi hj
  obtain ⟨l⟩ := d
  subst h
  have e1 : (A ++ x :: (M ++ y :: B)).toArray[A.length]! = x := by simp
  have e2 : (A ++ x :: (M ++ y :: B)).toArray[A.length + 1 + M.length]! = y := by
    simp [show A.length + 1 + M.length = A.length + (1 + M.length) from by omega, show 1 + M.length = M.length + 1 from by omega]
  unfold swp
  rw [e1, e2]
  simp [show A.length + 1 + M.length = A.length + (M.length + 1) from by omega]
theorem swp_comm (d : Array α) {i j : Nat} (hi : i < d.size) (hj : j < d.size) : swp d i j = swp d j i := by
  refine Array.ext (by simp [swp]) fun k h1 h2 => ?_
  have a := swp_get d hi hj k
  have b := swp_get d hj hi k
  rw [getElem!_pos _ k h1] at a
  rw [getElem!_pos _ k h2] at b
  rw [a, b]
  split <;> split <;> simp_all
theorem split2 {d : Array α} {j : Nat} (h : j + 1 < d.size) : d.toList = d.toList.take j ++ d[j]! :: ([] ++ d[j + 1]! :: d.toList.drop (j + 2)) := by
  have h1 : j + 1 < d.toList.length := by simpa using h
  conv => lhs; rw [← List.take_append_drop j d.toList]
  rw [List.drop_eq_getElem_cons (by omega), List.drop_eq_getElem_cons (by omega)]
  rw [getElem!_pos d j (by omega), getElem!_pos d (j + 1) h]
  simp
variable {key : α → Int}
theorem insInner_stb (a : Nat) : ∀ (j : Nat) (d : Array α), j < d.size → Stb key d.toList (insInner (fun x y => decide (key x < key y)) a j d).toList
  | 0, d, _ => by unfold insInner; exact Stb.refl _
  | j + 1, d, h => by
    unfold insInner
    split
    · next hc =>
      rw [Bool.and_eq_true, decide_eq_true_eq, decide_eq_true_eq] at hc
      refine Stb.trans ?_ (insInner_stb a j _ (by rw [swp_size]; omega))
      rw [swp_comm d (by omega) (by omega)]
      have hsp := split2 h
      rw [swp_at hsp (by simp; omega) (by simp; omega)]
      conv => lhs; rw [hsp]
      exact Stb.swap (by omega)
    · exact Stb.refl _
theorem insInner_size' (lt : α → α → Bool) (a : Nat) : ∀ (j : Nat) (d : Array α), (insInner lt a j d).size = d.size
  | 0, d => by unfold insInner; rfl
  | j + 1, d => by
    unfold insInner
    split
    · rw [insInner_size' lt a j, swp_size]
    · rfl
theorem insOuter_stb (a b : Nat) : ∀ (n i : Nat) (d : Array α), b - i = n → b ≤ d.size → Stb key d.toList (insOuter (fun x y => decide (key x < key y)) a b i d).toList
  | 0, i, d, hn, hb => by rw [insOuter_stop _ _ _ _ _ (by omega)]; exact Stb.refl _
  | n + 1, i, d, hn, hb => by
    rw [insOuter_go _ _ _ _ _ (by omega)]
    exact Stb.trans (insInner_stb a i d (by omega)) (insOuter_stb a b n (i + 1) _ (by omega) (by rw [insInner_size']; exact hb))
theorem part_of {d d' : Array α} {A X B : List α} {a b : Nat} (h : d.toList = A ++ X ++ B) (ha : a = A.length) (hb : b = A.length + X.length) (hP : PermIn a b d d') : ∃ Z, d'.toList = A ++ Z ++ B ∧ Z.length = X.length := by
  obtain ⟨hs, ho, -⟩ := hP
  subst ha hb
  obtain ⟨l⟩ := d
  obtain ⟨m⟩ := d'
  subst h
  have hl : m.length = A.length + X.length + B.length := by simpa [Nat.add_assoc] using hs
  have get : ∀ i, i < A.length ∨ A.length + X.length ≤ i → m[i]? = (A ++ X ++ B)[i]? := fun i hi => by
    have := ho i hi
    by_cases hlt : i < m.length
    · rw [getElem!_pos _ i (by simpa using hlt), getElem!_pos _ i (by simp; omega)] at this
      rw [List.getElem?_eq_getElem hlt, List.getElem?_eq_getElem (by simp; omega)]
      exact congrArg some (by simpa using this)
    · rw [List.getElem?_eq_none (by omega), List.getElem?_eq_none (by simp; omega)]
  refine ⟨(m.drop A.length).take X.length, ?_, by simp; omega⟩
  have e1 : m.take A.length = A := List.ext_getElem? fun i => by
    by_cases hi : i < A.length
    · rw [List.getElem?_take_of_lt hi, get i (.inl hi), List.append_assoc, List.getElem?_append_left hi]
    · rw [List.getElem?_eq_none (by simp; omega), List.getElem?_eq_none (by omega)]
  have e2 : (m.drop A.length).drop X.length = B := List.ext_getElem? fun i => by
    rw [List.drop_drop, List.getElem?_drop, get _ (.inr (by omega)), List.getElem?_append_right (by simp)]
    congr 1
    simp
  show m = _
  conv => lhs; rw [← List.take_append_drop A.length m, ← List.take_append_drop X.length (m.drop A.length), e1, e2]
  simp
/-- The kit's insertion sort: the part, sorted, stable. -/
theorem insertion_part {d : Array α} {A X B : List α} {a b : Nat} (h : d.toList = A ++ X ++ B) (ha : a = A.length) (hb : b = A.length + X.length) :
    (insertionSort (fun x y => decide (key x < key y)) d a b).toList = A ++ ssort key X ++ B := by
  have hsz : d.size = A.length + X.length + B.length := by rw [← Array.length_toList, h]; simp [Nat.add_assoc]
  obtain ⟨hP, hS⟩ := insertionSort_holds (lt := fun x y : α => decide (key x < key y)) swo_key d a b (by omega) (by omega)
  have hst : Stb key d.toList (insertionSort (fun x y => decide (key x < key y)) d a b).toList := insOuter_stb a b _ (a + 1) d rfl (by omega)
  obtain ⟨Z, hZ, hl⟩ := part_of h ha hb hP
  rw [hZ]
  rw [h, hZ] at hst
  have hc := hst.cancel
  rw [ssort_is ?_ hc]
  refine List.pairwise_iff_getElem.2 fun i j hi hj hij => ?_
  have := hS (a + i) (a + j) (by omega) (by omega) (by omega)
  clear hP hS hst
  generalize insertionSort (fun x y => decide (key x < key y)) d a b = D at *
  obtain ⟨D⟩ := D
  dsimp only at hZ
  subst hZ ha
  rw [getElem!_pos _ _ (by simp; omega), getElem!_pos _ _ (by simp; omega)] at this
  simp only [List.getElem_toArray] at this
  rw [decide_eq_false_iff_not] at this
  rw [List.getElem_append_left (by simp; omega), List.getElem_append_right (by omega), List.getElem_append_left (by simp; omega), List.getElem_append_right (by omega)] at this
  simp only [Nat.add_sub_cancel_left] at this
  omega
end
end Go.Proofs.Ytpafnadfoedheaa
