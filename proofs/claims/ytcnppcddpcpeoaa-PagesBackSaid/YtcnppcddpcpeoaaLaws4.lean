/-
  What Drop does to a store; what the statements ask, in plain words.
-/
import Derived.Test.YtcnppcddpcpeoaaLaws3
namespace Go.Proofs.Ytcnppcddpcpeoaa

theorem drops : ∀ (r : List Int) (P : List Pg) (U : List Int), (∀ p ∈ r, p = -1 ∨ (0 ≤ p ∧ p < U.length)) → P.length = U.length → (∀ i, i < U.length → (r.count (i : Int) : Int) ≤ U.getD i 0) →
    ∀ i, i < U.length → (r.foldl dropStep (P, U)).2.getD i 0 = U.getD i 0 - r.count (i : Int) ∧ (r.foldl dropStep (P, U)).1.getD i default = if 1 ≤ r.count (i : Int) ∧ U.getD i 0 = r.count (i : Int) then Pg.zero else P.getD i default
  | [], P, U, _, _, _, i, _ => by simp
  | p :: r, P, U, hr, hl, hc, i, hi => by
    rw [List.foldl_cons]
    have hp := hr p (by simp)
    by_cases h0 : 0 ≤ p
    · obtain ⟨n, rfl⟩ : ∃ n : Nat, p = n := ⟨p.toNat, by omega⟩
      have hn : n < U.length := by omega
      have e0 : dropStep (P, U) (n : Int) = (if U.getD n 0 - 1 = 0 then P.set n Pg.zero else P, U.set n (U.getD n 0 - 1)) := by
        unfold dropStep; rw [if_pos h0, Int.toNat_natCast]
      rw [e0]
      have hcn := hc n hn
      rw [List.count_cons_self] at hcn
      have hU : (U.set n (U.getD n 0 - 1)).length = U.length := List.length_set
      have hget : ∀ j, j < U.length → (U.set n (U.getD n 0 - 1)).getD j 0 = if n = j then U.getD n 0 - 1 else U.getD j 0 := fun j hj => by
        simp only [List.getD_eq_getElem?_getD, List.getElem?_set]
        split
        · simp [hn]
        · rfl
      have ih := drops r (if U.getD n 0 - 1 = 0 then P.set n Pg.zero else P) (U.set n (U.getD n 0 - 1)) (fun q hq => by rw [hU]; exact hr q (by simp [hq])) (by rw [hU]; split <;> simp [hl]) (fun j hj => by
        rw [hU] at hj
        rw [hget j hj]
        have h1 := hc j hj
        split
        · next e => subst e; rw [List.count_cons_self] at h1; omega
        · next e => rw [List.count_cons_of_ne (by omega)] at h1; exact h1) i (by rw [hU]; exact hi)
      obtain ⟨ih1, ih2⟩ := ih
      rw [hget i hi] at ih1 ih2
      by_cases e : n = i
      · subst e
        rw [if_pos rfl] at ih1 ih2
        rw [List.count_cons_self]
        refine ⟨by rw [ih1]; omega, ?_⟩
        rw [ih2]
        have hPn : (P.set n Pg.zero).getD n default = Pg.zero := by simp [hl, hn]
        by_cases h1 : U.getD n 0 - 1 = r.count (n : Int)
        · rw [if_pos (show 1 ≤ r.count (n : Int) + 1 ∧ U.getD n 0 = ((r.count (n : Int) + 1 : Nat) : Int) from ⟨by omega, by omega⟩)]
          by_cases h2 : 1 ≤ r.count (n : Int)
          · rw [if_pos ⟨h2, h1⟩]
          · rw [if_neg (fun h => h2 h.1), if_pos (by omega), hPn]
        · rw [if_neg (fun h => h1 h.2), if_neg (by omega), if_neg (fun h => by omega)]
      · rw [if_neg e] at ih1 ih2
        rw [List.count_cons_of_ne (by omega)]
        refine ⟨ih1, ?_⟩
        rw [ih2]
        have : (if U.getD n 0 - 1 = 0 then P.set n Pg.zero else P).getD i default = P.getD i default := by
          split
          · simp only [List.getD_eq_getElem?_getD, List.getElem?_set, if_neg e]
          · rfl
        rw [this]
    · have e1 : dropStep (P, U) p = (P, U) := by unfold dropStep; rw [if_neg h0]
      rw [e1]
      have ih := drops r P U (fun q hq => hr q (by simp [hq])) hl (fun j hj => by
        have h1 := hc j hj
        rw [List.count_cons_of_ne (by omega)] at h1; exact h1) i hi
      rw [List.count_cons_of_ne (by omega)]
      exact ih
/-- What is true of the store that Drop answers. -/
structure DropOk (s d : DsC) (q : Nat) : Prop where
  ok : Ok d
  rl : d.roots = s.roots.set q []
  pl : d.pages.length = s.pages.length
  us : ∀ i, i < s.pages.length → d.uses.getD i 0 = (cnt s.roots i : Int) - (s.roots.getD q []).count (i : Int)
  pg : ∀ i, i < s.pages.length → d.pages.getD i default = if 1 ≤ (s.roots.getD q []).count (i : Int) ∧ cnt s.roots i = (s.roots.getD q []).count (i : Int) then Pg.zero else s.pages.getD i default
theorem drop_ok {s : DsC} (ho : Ok s) {q : Nat} (hq : q < s.roots.length) (hro : rootOk s.pages.length (s.roots.getD q [])) : DropOk s (dropC s q) q := by
  have hmem : s.roots.getD q [] ∈ s.roots := by rw [List.getD_eq_getElem?_getD, List.getElem?_eq_getElem hq]; exact List.getElem_mem hq
  have hus : s.uses.length = s.pages.length := by rw [ho.uses]; simp
  have hug : ∀ i, i < s.pages.length → s.uses.getD i 0 = (cnt s.roots i : Int) := fun i hi => by rw [ho.uses, range_map_get _ _ _ hi]
  have hge := fun i => cnt_ge hmem i
  have hd := drops (s.roots.getD q []) s.pages s.uses (by rw [hus]; exact hro.2) hus.symm (fun i hi => by rw [hus] at hi; rw [hug i hi]; exact_mod_cast hge i)
  have hlen := drops_len (s.roots.getD q []) (s.pages, s.uses)
  have hcs := fun i => cnt_set s.roots q [] i hq
  unfold dropC
  dsimp only
  generalize (s.roots.getD q []).foldl dropStep (s.pages, s.uses) = x at *
  obtain ⟨P, U⟩ := x
  dsimp only at hd hlen ⊢
  obtain ⟨hPl, hUl⟩ := hlen
  have hd2 : ∀ i, i < s.pages.length → U.getD i 0 = (cnt s.roots i : Int) - (s.roots.getD q []).count (i : Int) ∧ P.getD i default = if 1 ≤ (s.roots.getD q []).count (i : Int) ∧ cnt s.roots i = (s.roots.getD q []).count (i : Int) then Pg.zero else s.pages.getD i default := fun i hi => by
    obtain ⟨h1, h2⟩ := hd i (by rw [hus]; exact hi)
    rw [hug i hi] at h1 h2
    refine ⟨h1, ?_⟩
    rw [h2]
    congr 1
    refine propext ⟨fun h => ⟨h.1, by exact_mod_cast h.2⟩, fun h => ⟨h.1, by exact_mod_cast h.2⟩⟩
  have hc0 : ∀ i, cnt (s.roots.set q []) i + (s.roots.getD q []).count (i : Int) = cnt s.roots i := fun i => by have := hcs i; simpa using this
  refine ⟨⟨by dsimp only; rw [hPl]; exact ho.np, by dsimp only; rw [List.length_set]; exact ho.nr, fun r hr => ?_, ?_, fun i hi => ?_⟩, rfl, hPl, fun i hi => (hd2 i hi).1, fun i hi => (hd2 i hi).2⟩
  · dsimp only at hr ⊢
    rw [hPl]
    rcases List.mem_or_eq_of_mem_set hr with h | rfl
    · exact ho.form r h
    · exact ⟨.inl rfl, fun p hp => by cases hp⟩
  · dsimp only
    refine list_eq_range (by rw [hUl, hus, hPl]) fun i hi => ?_
    rw [hPl] at hi
    have h1 := hc0 i
    rw [(hd2 i hi).1]
    omega
  · dsimp only at hi ⊢
    rw [hPl] at hi
    have h1 := hc0 i
    have h2 := ho.zero i hi
    rw [(hd2 i hi).2]
    split
    · next h3 => exact ⟨fun _ => by omega, fun _ => rfl⟩
    · next h3 => rw [h2]; omega

theorem get_eq {s : DsC} {r w : Nat} (h : askedC s r w = 0) : getC s r w = valC s r w := by
  unfold getC; rw [if_pos h]; simp
theorem getD_mem {l : List Int} {k : Nat} (h : k < l.length) : l.getD k (-1) ∈ l := by
  rw [List.getD_eq_getElem?_getD, List.getElem?_eq_getElem h]; exact List.getElem_mem h
theorem rootmem {s : DsC} {q : Nat} (hq : q < s.roots.length) : s.roots.getD q [] ∈ s.roots := by
  rw [List.getD_eq_getElem?_getD, List.getElem?_eq_getElem hq]; exact List.getElem_mem hq
/-- What PagesStay asks of Set. -/
theorem stay_set {s : DsC} {root at_ v other where_ : Int} (h : setR s root at_ v = 0) : ∃ t, setC s root.toNat at_.toNat v = t ∧ ∃ n : Int, (freeRoot s.roots : Nat) = n ∧
    checkC t = 0 ∧ askedC t n at_ = 0 ∧ getC t n at_ = v ∧ askedC t n where_ = askedC s root where_ ∧ (where_ ≠ at_ → getC t n where_ = getC s root where_) ∧
    (askedC s other where_ = 0 → askedC t other where_ = 0 ∧ getC t other where_ = getC s other where_) := by
  obtain ⟨q, a, rfl, rfl, ha, hq, h16, ho, hs⟩ := setR_facts h
  refine ⟨_, rfl, _, rfl, ?_⟩
  rw [Int.toNat_natCast, Int.toNat_natCast] at hs ⊢
  generalize setC s q a v = t at *
  have hn := hs.nlt
  have hn16 := hs.n16
  have hkeep := hs.keep
  have hval := hs.val
  generalize freeRoot s.roots = n at *
  have t1 : There s (q : Int) := there_of hq h16
  have t3 : There t (n : Int) := there_of hn hn16
  have hat : askedC t (n : Int) (a : Int) = 0 := by rw [asked_there hs.ok t3, if_neg (by omega)]
  refine ⟨checkC_zero.2 hs.ok, hat, ?_, by rw [asked_there hs.ok t3, asked_there ho t1], fun hw => ?_, fun hf => ?_⟩
  · rw [get_eq hat]
    unfold valC
    rw [hval, Pg.get_set _ _ (Nat.mod_lt _ (by decide)) (Nat.mod_lt _ (by decide)), if_pos rfl]
  · by_cases hwr : where_ < 0 ∨ 64 ≤ where_
    · unfold getC
      rw [asked_there hs.ok t3, asked_there ho t1, if_pos hwr]
      rfl
    · obtain ⟨w, rfl⟩ : ∃ w : Nat, where_ = w := ⟨where_.toNat, by omega⟩
      have hw2 : w ≠ a := fun e => hw (by rw [e])
      rw [get_eq (by rw [asked_there hs.ok t3, if_neg hwr]), get_eq (by rw [asked_there ho t1, if_neg hwr])]
      unfold valC
      by_cases hd : w / 4 = a / 4
      · rw [hd, hval, Pg.get_set _ _ (Nat.mod_lt _ (by decide)) (Nat.mod_lt _ (by decide)), if_neg (by omega)]
      · rw [hkeep _ hd, hs.page _ ⟨_, rootmem hq, getD_mem (by omega)⟩]
  · obtain ⟨q2, w, rfl, rfl, hw, hq2, h162, -⟩ := getC_ hf
    obtain ⟨-, hot, hor⟩ := hs.other q2 hq2 (by intro e; rw [e] at h162; simp at h162)
    have t4 : There t (q2 : Int) := there_of hot (by rw [hor]; exact h162)
    have hf2 : askedC t (q2 : Int) (w : Int) = 0 := by rw [asked_there hs.ok t4, if_neg (by omega)]
    refine ⟨hf2, ?_⟩
    rw [get_eq hf2, get_eq hf]
    unfold valC
    rw [hor, hs.page _ ⟨_, rootmem hq2, getD_mem (by omega)⟩]
/-- What PagesStay asks of Drop. -/
theorem stay_drop {s : DsC} {root other where_ : Int} (h : thereL s [root] = 0) : ∃ d, dropC s root.toNat = d ∧ checkC d = 0 ∧ askedC d root 0 = 5 ∧
    (askedC s other where_ = 0 → other ≠ root → askedC d other where_ = 0 ∧ getC d other where_ = getC s other where_) := by
  obtain ⟨ho, ht⟩ := thereL_zero.1 h
  obtain ⟨q, rfl, hq, h16, hro⟩ := there_row ho (ht root (by simp))
  refine ⟨_, rfl, ?_⟩
  rw [Int.toNat_natCast]
  have hd := drop_ok ho hq hro
  generalize dropC s q = d at *
  refine ⟨checkC_zero.2 hd.ok, ?_, fun hf hne => ?_⟩
  · have hnt : ¬ There d (q : Int) := fun h2 => h2.2.2 (by rw [hd.rl, Int.toNat_natCast]; simp [hq])
    unfold askedC
    have h1 : thereL d [(q : Int)] = 5 := by
      unfold thereL
      rw [if_neg (by simpa using checkC_zero.2 hd.ok)]
      exact thereF_bad (by simp) hnt
    rw [h1, if_pos (by decide)]
  · obtain ⟨q2, w, rfl, rfl, hw, hq2, h162, hro2⟩ := getC_ hf
    have hqq : ¬ q = q2 := fun e => hne (by rw [e])
    have hor : d.roots.getD q2 [] = s.roots.getD q2 [] := by
      rw [hd.rl]; simp only [List.getD_eq_getElem?_getD, List.getElem?_set, if_neg hqq]
    have hql : q2 < d.roots.length := by rw [hd.rl]; simpa using hq2
    have t4 : There d (q2 : Int) := there_of hql (by rw [hor]; exact h162)
    have hf2 : askedC d (q2 : Int) (w : Int) = 0 := by rw [asked_there hd.ok t4, if_neg (by omega)]
    refine ⟨hf2, ?_⟩
    rw [get_eq hf2, get_eq hf]
    unfold valC
    rw [hor]
    have hm := getD_mem (l := s.roots.getD q2 []) (k := w / 4) (by omega)
    generalize (s.roots.getD q2 []).getD (w / 4) (-1) = p at *
    have hp := hro2.2 p hm
    unfold pageOf
    split
    · next h0 =>
      obtain ⟨i, rfl⟩ : ∃ i : Nat, p = i := ⟨p.toNat, by omega⟩
      rw [Int.toNat_natCast]
      have hi : i < s.pages.length := by omega
      rw [hd.pg i hi, if_neg]
      rintro ⟨-, h2⟩
      have h3 : cnt (s.roots.set q []) i + (s.roots.getD q []).count (i : Int) = cnt s.roots i := by have := cnt_set s.roots q [] i hq; simpa using this
      have h4 := cnt_ge (rootmem hql) i
      rw [hor, hd.rl] at h4
      have h5 : 1 ≤ (s.roots.getD q2 []).count (i : Int) := List.one_le_count_iff.2 hm
      omega
    · rfl
open Go.RowKit in
theorem check_is {W : World} {x : Ds} (hx : x.ok W) {r : Int} (hr : checkC x.c = r) :
    Calls Try.prog 10 #[x.val] W fun e W' => e = .returned (.int .i64 r) ∧ Below W.heap.size W W' := by
  subst hr
  exact check_any hx
end Go.Proofs.Ytcnppcddpcpeoaa
