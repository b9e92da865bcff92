/-
  One thing written.
-/
import Derived.Test.YthdleldnjoamlaaMany
import Derived.Laws.IdiomStrings
namespace Go.Proofs.Ythdleldnjoamlaa
open Go.RowKit

theorem Blk.mk2 (W : World) (cs : Array Value) (t : TypeId) : Blk (W.alloc (.cells cs t)) W.heap.size cs t := Blk.mk_ W cs t rfl
theorem put_lit {wp : Nat} {W : World} {L : List Int} (xs : List Int) (cs : Array Value) (hcs : cs.toList = ints .i64 xs) (hw : WrI wp W L) (h3 : xs.length ≤ 1000) (hl : L.length + xs.length ≤ 50000000) (n B : Nat) (hn : n = xs.length) (hB : B = W.heap.size) :
    Calls Try.prog 17 #[.pointer (some ⟨wp, 0, none⟩), .slice (some ⟨B, 0, none⟩) n n] (W.alloc (.cells cs 3)) fun r W' => r = .returned (.tuple #[]) ∧ WrI wp W' (L ++ xs) ∧ Kp wp W W' := by
  subst hn hB
  exact (put_any (hw.alloc (.cells cs 3)) (lit_sl W xs h3 cs hcs _ rfl _ rfl) rfl (by omega)).mono fun r W' ⟨h1, h2, h3⟩ => ⟨h1, h2, ((Kp.refl wp W).alloc (Nat.le_of_lt hw.lt) _).trans h3⟩

set_option maxRecDepth 100000 in
theorem val_any {wp : Nat} {W : World} {L : List Int} (x : Vl) (hw : WrI wp W L) (hl : L.length + 2 ≤ 50000000) :
    Calls Try.prog 25 #[.pointer (some ⟨wp, 0, none⟩), x.val] W fun r W' => r = .returned (.tuple #[]) ∧ WrI wp W' (L ++ Vl.e x) ∧ Kp wp W W' := by
  have hk := (Kp.refl wp W).alloc (Nat.le_of_lt hw.lt) (.cells #[.int .i64 x.k, .int .i64 x.n] 63)
  have hput := put_lit [x.k, x.n] #[.int .i64 x.k, .int .i64 x.n] rfl (hw.alloc (.cells #[.int .i64 x.k, .int .i64 x.n] 63)) (by simp) hl 2 (W.heap.size + 1) rfl (by simp)
  go_enter Try.func25, Try.ntmps25
  go_wp2_with fail
  refine hput.mono ?_
  rintro _ W1 ⟨rfl, hw1, hk1⟩
  go_wp2_with fail
  go_end0
  exact ⟨rfl, hw1, hk.trans hk1⟩
theorem val_one (wp : Nat) (W : World) : OneV wp W 25 (fun v => #[.pointer (some ⟨wp, 0, none⟩), v]) Vl.val okT Vl.e :=
  ⟨enters_own Try.func25 (by kernel_rfl) rfl, fun _ _ x _ hw _ hl => val_any x hw hl⟩
set_option maxRecDepth 100000 in
theorem try_any {wp : Nat} {W : World} {L : List Int} (x : Ty) (hw : WrI wp W L) (hl : L.length + 2 ≤ 50000000) :
    Calls Try.prog 50 #[.pointer (some ⟨wp, 0, none⟩), x.val] W fun r W' => r = .returned (.tuple #[]) ∧ WrI wp W' (L ++ Ty.e x) ∧ Kp wp W W' := by
  have hk := (Kp.refl wp W).alloc (Nat.le_of_lt hw.lt) (.cells #[.int .i64 x.r, .int .i64 x.a] 104)
  have hput := put_lit [x.r, x.a] #[.int .i64 x.r, .int .i64 x.a] rfl (hw.alloc (.cells #[.int .i64 x.r, .int .i64 x.a] 104)) (by simp) hl 2 (W.heap.size + 1) rfl (by simp)
  go_enter Try.func50, Try.ntmps50
  go_wp2_with fail
  refine hput.mono ?_
  rintro _ W1 ⟨rfl, hw1, hk1⟩
  go_wp2_with fail
  go_end0
  exact ⟨rfl, hw1, hk.trans hk1⟩
theorem try_one (wp : Nat) (W : World) : OneV wp W 50 (fun v => #[.pointer (some ⟨wp, 0, none⟩), v]) Ty.val okT Ty.e :=
  ⟨enters_own Try.func50 (by kernel_rfl) rfl, fun _ _ x _ hw _ hl => try_any x hw hl⟩
set_option maxRecDepth 100000 in
theorem shape_one {wp C : Nat} {W : World} (hC : Blk W C #[.pointer (some ⟨wp, 0, none⟩)] 46) : OneV wp W 16 (fun v => #[v, .pointer (some ⟨C, 0, none⟩)]) Sh.val okT Sh.e := by
  refine ⟨enters_own Try.func16 (by kernel_rfl) rfl, fun W' L x hkp hw _ hl => ?_⟩
  have hC' := hkp.blk _ _ _ hC (by decide) (by decide)
  have cC := hC'.cell 0
  change W'.cell? ⟨C, 0, none⟩ = some (.pointer (some ⟨wp, 0, none⟩)) at cC
  have cC2 := fun o => cell_more (W := W') o cC
  have hk := (Kp.refl wp W').alloc (Nat.le_of_lt hw.lt) (.cells #[.int .i64 x.u, .int .i64 x.n] 56)
  have hput := put_lit [x.u, x.n] #[.int .i64 x.u, .int .i64 x.n] rfl (hw.alloc (.cells #[.int .i64 x.u, .int .i64 x.n] 56)) (by simp) hl 2 (W'.heap.size + 1) rfl (by simp)
  go_enter Try.func16, Try.ntmps16
  go_wp2_with fail
  refine hput.mono ?_
  rintro _ W1 ⟨rfl, hw1, hk1⟩
  go_wp2_with fail
  go_end0
  exact ⟨rfl, hw1, hk.trans hk1⟩
set_option maxRecDepth 100000 in
theorem byte_one {wp C : Nat} {W : World} (hC : Blk W C #[.pointer (some ⟨wp, 0, none⟩)] 46) : OneV wp W 44 (fun v => #[v, .pointer (some ⟨C, 0, none⟩)]) (fun x : UInt8 => Value.int .u8 (x.toNat : Int)) okT byE := by
  refine ⟨enters_own Try.func44 (by kernel_rfl) rfl, fun W' L x hkp hw _ hl => ?_⟩
  have hC' := hkp.blk _ _ _ hC (by decide) (by decide)
  have cC := hC'.cell 0
  change W'.cell? ⟨C, 0, none⟩ = some (.pointer (some ⟨wp, 0, none⟩)) at cC
  have hx := x.toNat_lt
  have hput := put_lit [(x.toNat : Int)] #[.int .i64 (x.toNat : Int)] rfl hw (by simp) hl 1 W'.heap.size rfl rfl
  have hxe : byE x = [(x.toNat : Int)] := rfl
  have HX := Lib.hid hxe; clear hxe
  generalize x.toNat = xn at *
  go_enter Try.func44, Try.ntmps44
  go_wp2_with fail
  refine hput.mono ?_
  rintro _ W1 ⟨rfl, hw1, hk1⟩
  go_wp2_with fail
  go_end0
  exact ⟨rfl, by rw [HX.out]; exact hw1, hk1⟩
/-- What '[]byte(s)' lays reads as the bytes. -/
theorem bytes_rd {W : World} {B cap n : Nat} {s : ByteArray} {fr : Nat × Nat} (h : W.heap[B]? = some (Obj.cells (bytesRow s cap) 5 fr)) (hn : n = s.size) (h1 : n ≤ cap) (h2 : cap ≤ 9223372036854775807) : Sl W 1 (some ⟨B, 0, none⟩) n cap ((txC s).flatMap byCells) := by
  subst hn
  have hl : (txC s).length = s.size := by simp [txC]
  have hfm : (txC s).flatMap byCells = (txC s).map fun b => Value.int .u8 (b.toNat : Int) := by
    generalize txC s = l
    induction l with
    | nil => rfl
    | cons a l ih => rw [List.flatMap_cons, ih]; rfl
  rw [hfm]
  refine ⟨⟨B, 0, fun _ => ⟨rfl, (Array.getElem?_eq_some_iff.1 h).1⟩, fun i hi => ?_⟩, by simp [hl], h1, h2, fun h => by cases h⟩
  have hi' : i < s.data.size := by simpa [txC] using hi
  rw [Nat.zero_add]
  unfold World.cell?
  dsimp only
  rw [h]
  show (bytesRow s cap)[i]? = _
  unfold bytesRow
  rw [Array.getElem?_append_left (by simpa using hi')]
  simp [txC]
set_option maxRecDepth 100000 in
set_option maxHeartbeats 1000000 in
theorem text_one (wp : Nat) (W : World) : OneV wp W 19 (fun v => #[.pointer (some ⟨wp, 0, none⟩), v]) Value.string okT (fun x => txE (txC x)) := by
  refine ⟨enters_own Try.func19 (by kernel_rfl) rfl, fun W' L s hkp hw _ hl => ?_⟩
  have hcv := fun w s => run_bytes_of_string (P := Try.prog) w 9 97 5 s Try.underlying9 Try.underlying97 Try.underlying5
  have hlen : (txC s).length = s.size := by simp [txC]
  have hC0 := Blk.mk2 W' #[.pointer (some ⟨wp, 0, none⟩)] 46
  have hk1 := (Kp.refl wp W').alloc (Nat.le_of_lt hw.lt) (.cells #[.pointer (some ⟨wp, 0, none⟩)] 46)
  have hw1 := hw.alloc (.cells #[.pointer (some ⟨wp, 0, none⟩)] 46)
  have hs1 : (W'.alloc (.cells #[.pointer (some ⟨wp, 0, none⟩)] 46)).heap.size = W'.heap.size + 1 := by simp
  have g1 := grownCap_ge (W'.alloc (.cells #[.pointer (some ⟨wp, 0, none⟩)] 46)) s.size 0 5
  have hl2 : L.length + (encL byE (txC s)).length ≤ 50000000 := hl
  have hl3 : s.size ≤ 50000000 := by
    unfold encL at hl2
    have : (txC s).length ≤ ((txC s).flatMap byE).length := by
      generalize txC s = l
      induction l with
      | nil => simp
      | cons a l ih =>
        have h1 : (byE a).length = 1 := rfl
        rw [List.flatMap_cons, List.length_append, List.length_cons]; omega
    rw [List.length_cons] at hl2; omega
  have g2 := grownCap_le_maxLen (W'.alloc (.cells #[.pointer (some ⟨wp, 0, none⟩)] 46)) s.size 0 5 (by unfold maxLen; omega)
  have HL2 := Lib.hid hl2; clear hl2 hl
  go_enter Try.func19, Try.ntmps19
  go_wp2_with fail
  clear hcv
  generalize W'.alloc (.cells #[.pointer (some ⟨wp, 0, none⟩)] 46) = W1 at *
  generalize grownCap W1 s.size 0 5 = cap at *
  have hnew := heap_alloc_new W1 (.cells (bytesRow s cap) 5 ((bytesRow s cap).size, (bytesRow s cap).size + 1))
  have hbl := (((Below.refl W1.heap.size W1).alloc (Nat.le_refl _) (.cells (bytesRow s cap) 5 ((bytesRow s cap).size, (bytesRow s cap).size + 1)))).drew
  have hnew2 : ((W1.alloc (.cells (bytesRow s cap) 5 ((bytesRow s cap).size, (bytesRow s cap).size + 1))).drew).heap[W'.heap.size + 1]? = some (.cells (bytesRow s cap) 5 ((bytesRow s cap).size, (bytesRow s cap).size + 1)) := by rw [← hs1]; exact hnew
  have hw2 := hw1.below hbl
  have hk2 := Kp.of_below hbl (Nat.le_of_lt hw1.lt)
  have hC2 := hC0.next hbl
  generalize (W1.alloc (.cells (bytesRow s cap) 5 ((bytesRow s cap).size, (bytesRow s cap).size + 1))).drew = W2 at *
  have hv := many_By (s := ⟨some ⟨W'.heap.size + 1, 0, none⟩, cap, txC s⟩) hw2 (fun W3 h => ⟨bytes_rd (h.blkF _ _ _ _ hnew2 (by decide) (by decide)) hlen (by rw [hlen]; exact g1) (by unfold maxLen at g2; exact g2), fun _ _ => trivial⟩) (byte_one hC2) HL2.out
  dsimp only [Sv.val] at hv
  rw [hlen] at hv
  refine hv.mono ?_
  rintro _ W3 ⟨rfl, hw3, hk3⟩
  go_wp2_with fail
  go_end0
  exact ⟨rfl, hw3, hk1.trans (hk2.trans hk3)⟩
set_option maxRecDepth 100000 in
theorem end_one (wp : Nat) (W : World) : OneV wp W 23 (fun v => #[.pointer (some ⟨wp, 0, none⟩), v]) En.val okT En.e := by
  refine ⟨enters_own Try.func23 (by kernel_rfl) rfl, fun W' L x hkp hw _ hl => ?_⟩
  replace hl : L.length + 3 ≤ 50000000 := hl
  obtain ⟨c, k, n⟩ := x
  have hk := (Kp.refl wp W').alloc (Nat.le_of_lt hw.lt) (.cells #[.int .i64 c, .int .i64 k, .int .i64 n] 69)
  have hB := Blk.mk_ W' #[.int .i64 c, .int .i64 k, .int .i64 n] 69 rfl
  have hput := put_lit [c] #[.int .i64 c] rfl (hw.alloc (.cells #[.int .i64 c, .int .i64 k, .int .i64 n] 69)) (by simp) (by simp; omega) 1 (W'.heap.size + 1) rfl (by simp)
  go_enter Try.func23, Try.ntmps23
  go_wp2_with fail
  refine hput.mono ?_
  rintro _ W1 ⟨rfl, hw1, hk1⟩
  have hB1 := hk1.blk _ _ _ hB (by decide) (by decide)
  have c1 : W1.cell? ⟨W'.heap.size, 1, none⟩ = some (.int .i64 k) := hB1.cell 1
  have c2 : W1.cell? ⟨W'.heap.size, 2, none⟩ = some (.int .i64 n) := hB1.cell 2
  have hv := val_any ⟨k, n⟩ hw1 (by simp; omega)
  clear hput hB hB1
  go_wp2_with fail
  refine hv.mono ?_
  rintro _ W2 ⟨rfl, hw2, hk2⟩
  go_wp2_with fail
  go_end0
  exact ⟨rfl, by simpa [Vl.e, En.e] using hw2, hk.trans (hk1.trans hk2)⟩
set_option maxRecDepth 100000 in
set_option maxHeartbeats 1000000 in
theorem frame_one (wp : Nat) (W : World) : OneV wp W 42 (fun v => #[.pointer (some ⟨wp, 0, none⟩), v]) Fr.val Fr.ok (fun x => FrC.e x.c) := by
  refine ⟨enters_own Try.func42 (by kernel_rfl) rfl, fun W' L x hkp hw hok hl => ?_⟩
  obtain ⟨f1, f2, f3, f4, sk, sn, ⟨rp, rc, rl⟩, ⟨tp, tc, tl⟩⟩ := x
  have hl2 : L.length + (6 + (encL Vl.e rl).length + (encL Ty.e tl).length) ≤ 50000000 := by
    simp only [FrC.e, Fr.c, List.length_append, List.length_cons, List.length_nil] at hl; omega
  have hk := (Kp.refl wp W').alloc (Nat.le_of_lt hw.lt) (.cells #[.int .i64 f1, .int .i64 f2, .int .i64 f3, .int .i64 f4, .int .i64 sk, .int .i64 sn, .slice rp rl.length rc, .slice tp tl.length tc] 94)
  have hB := Blk.mk2 W' #[.int .i64 f1, .int .i64 f2, .int .i64 f3, .int .i64 f4, .int .i64 sk, .int .i64 sn, .slice rp rl.length rc, .slice tp tl.length tc] 94
  have hput := put_lit [f1, f2, f3, f4] #[.int .i64 f1, .int .i64 f2, .int .i64 f3, .int .i64 f4] rfl (hw.alloc (.cells #[.int .i64 f1, .int .i64 f2, .int .i64 f3, .int .i64 f4, .int .i64 sk, .int .i64 sn, .slice rp rl.length rc, .slice tp tl.length tc] 94)) (by simp) (by simp; omega) 4 (W'.heap.size + 1) rfl (by simp)
  have HO := Lib.hid hok; clear hok hl
  generalize hbn : W'.heap.size = B at *
  go_enter Try.func42, Try.ntmps42
  go_wp2_with fail
  refine hput.mono ?_
  rintro _ W1 ⟨rfl, hw1, hk1⟩
  have hB1 := hk1.blk _ _ _ hB (by decide) (by decide)
  replace hk1 := hk.trans hk1
  have c4 : W1.cell? ⟨B, 4, none⟩ = some (.int .i64 sk) := hB1.cell 4
  have c5 : W1.cell? ⟨B, 5, none⟩ = some (.int .i64 sn) := hB1.cell 5
  have hv := val_any ⟨sk, sn⟩ hw1 (by simp; omega)
  clear hput hB hk hbn
  go_wp2_with fail
  refine hv.mono ?_
  rintro _ W2 ⟨rfl, hw2, hk2⟩
  have hB2 := hk2.blk _ _ _ hB1 (by decide) (by decide)
  replace hk2 := hk1.trans hk2
  have c6 : W2.cell? ⟨B, 6, none⟩ = some (.slice rp rl.length rc) := hB2.cell 6
  clear c4 c5 hB1 hk1 hv
  have hv := many_Vl (s := ⟨rp, rc, rl⟩) hw2 (fun W3 h => (HO.out W3 (hk2.trans h)).1) (val_one wp W2) (by simp only [List.length_append, List.length_cons, List.length_nil, Vl.e]; omega)
  dsimp only [Sv.val] at hv
  go_wp2_with fail
  refine hv.mono ?_
  rintro _ W3 ⟨rfl, hw3, hk3⟩
  have hB3 := hk3.blk _ _ _ hB2 (by decide) (by decide)
  replace hk3 := hk2.trans hk3
  have c7 : W3.cell? ⟨B, 7, none⟩ = some (.slice tp tl.length tc) := hB3.cell 7
  clear c6 hB2 hk2 hv
  have hv := many_Ty (s := ⟨tp, tc, tl⟩) hw3 (fun W4 h => (HO.out W4 (hk3.trans h)).2) (try_one wp W3) (by simp only [List.length_append, List.length_cons, List.length_nil, Vl.e]; omega)
  dsimp only [Sv.val] at hv
  go_wp2_with fail
  refine hv.mono ?_
  rintro _ W4 ⟨rfl, hw4, hk4⟩
  go_wp2_with fail
  go_end0
  exact ⟨rfl, by simpa [FrC.e, Fr.c, Vl.e] using hw4, hk3.trans hk4⟩
set_option maxRecDepth 100000 in
set_option maxHeartbeats 1000000 in
theorem cell_one (wp : Nat) (W : World) : OneV wp W 14 (fun v => #[.pointer (some ⟨wp, 0, none⟩), v]) Ce.val Ce.ok (fun x => CeC.e x.c) := by
  refine ⟨enters_own Try.func14 (by kernel_rfl) rfl, fun W' L x hkp hw hok hl => ?_⟩
  obtain ⟨kd, nm, ⟨rp, rc, rl⟩, ⟨tp, tc, tl⟩⟩ := x
  have hl2 : L.length + (2 + (encL Vl.e rl).length + (encL FrC.e (tl.map Fr.c)).length) ≤ 50000000 := by
    simp only [CeC.e, Ce.c, List.length_append, List.length_cons, List.length_nil] at hl; omega
  rw [encL_map] at hl2
  have hk := (Kp.refl wp W').alloc (Nat.le_of_lt hw.lt) (.cells #[.int .i64 kd, .int .i64 nm, .slice rp rl.length rc, .slice tp tl.length tc] 52)
  have hB := Blk.mk2 W' #[.int .i64 kd, .int .i64 nm, .slice rp rl.length rc, .slice tp tl.length tc] 52
  have hput := put_lit [kd, nm] #[.int .i64 kd, .int .i64 nm] rfl (hw.alloc (.cells #[.int .i64 kd, .int .i64 nm, .slice rp rl.length rc, .slice tp tl.length tc] 52)) (by simp) (by simp; omega) 2 (W'.heap.size + 1) rfl (by simp)
  have HO := Lib.hid hok; clear hok hl
  generalize hbn : W'.heap.size = B at *
  go_enter Try.func14, Try.ntmps14
  go_wp2_with fail
  refine hput.mono ?_
  rintro _ W1 ⟨rfl, hw1, hk1⟩
  have hB2 := hk1.blk _ _ _ hB (by decide) (by decide)
  have hk2 := hk.trans hk1
  have c6 : W1.cell? ⟨B, 2, none⟩ = some (.slice rp rl.length rc) := hB2.cell 2
  clear hk1 hput hB hk hbn
  have hv := many_Vl (s := ⟨rp, rc, rl⟩) hw1 (fun W3 h => (HO.out W3 (hk2.trans h)).1) (val_one wp W1) (by simp only [List.length_append, List.length_cons, List.length_nil]; omega)
  dsimp only [Sv.val] at hv
  go_wp2_with fail
  refine hv.mono ?_
  rintro _ W3 ⟨rfl, hw3, hk3⟩
  have hB3 := hk3.blk _ _ _ hB2 (by decide) (by decide)
  replace hk3 := hk2.trans hk3
  have c7 : W3.cell? ⟨B, 3, none⟩ = some (.slice tp tl.length tc) := hB3.cell 3
  clear c6 hB2 hk2 hv
  have hv := many_Fr (s := ⟨tp, tc, tl⟩) hw3 (fun W4 h => (HO.out W4 (hk3.trans h)).2) (frame_one wp W3) (by unfold encL at *; simp only [List.length_append, List.length_cons, List.length_nil] at *; omega)
  dsimp only [Sv.val] at hv
  go_wp2_with fail
  refine hv.mono ?_
  rintro _ W4 ⟨rfl, hw4, hk4⟩
  go_wp2_with fail
  go_end0
  refine ⟨rfl, ?_, hk3.trans hk4⟩
  have e : L ++ CeC.e (Ce.c ⟨kd, nm, ⟨rp, rc, rl⟩, ⟨tp, tc, tl⟩⟩) = L ++ [kd, nm] ++ encL Vl.e rl ++ encL (fun x : Fr => FrC.e x.c) tl := by
    show L ++ ([kd, nm] ++ (encL Vl.e rl ++ encL FrC.e (tl.map Fr.c))) = _
    rw [encL_map]
    simp [encL]
  rw [e]
  exact hw4
set_option maxRecDepth 100000 in
set_option maxHeartbeats 1000000 in
theorem thread_one (wp : Nat) (W : World) : OneV wp W 21 (fun v => #[.pointer (some ⟨wp, 0, none⟩), v]) Th.val Th.ok (fun x => ThC.e x.c) := by
  refine ⟨enters_own Try.func21 (by kernel_rfl) rfl, fun W' L x hkp hw hok hl => ?_⟩
  obtain ⟨⟨tp, tc, tl⟩, st, on, vk, vn⟩ := x
  have hl2 : L.length + ((encL FrC.e (tl.map Fr.c)).length + 4) ≤ 50000000 := by
    simp only [ThC.e, Th.c, List.length_append, List.length_cons, List.length_nil] at hl; omega
  rw [encL_map] at hl2
  have hk := (Kp.refl wp W').alloc (Nat.le_of_lt hw.lt) (.cells #[.slice tp tl.length tc, .int .i64 st, .int .i64 on, .int .i64 vk, .int .i64 vn] 65)
  have hB := Blk.mk2 W' #[.slice tp tl.length tc, .int .i64 st, .int .i64 on, .int .i64 vk, .int .i64 vn] 65
  have hw0 := hw.alloc (.cells #[.slice tp tl.length tc, .int .i64 st, .int .i64 on, .int .i64 vk, .int .i64 vn] 65)
  have hv := many_Fr (s := ⟨tp, tc, tl⟩) hw0 (fun W4 h => hok W4 (hk.trans h)) (frame_one wp _) (by unfold encL at *; simp only [List.length_cons] at *; omega)
  dsimp only [Sv.val] at hv
  clear hok hl
  generalize hbn : W'.heap.size = B at *
  go_enter Try.func21, Try.ntmps21
  go_wp2_with fail
  refine hv.mono ?_
  rintro _ W1 ⟨rfl, hw1, hk1⟩
  have hB1 := hk1.blk _ _ _ hB (by decide) (by decide)
  replace hk1 := hk.trans hk1
  have c1 : W1.cell? ⟨B, 1, none⟩ = some (.int .i64 st) := hB1.cell 1
  have c2 : W1.cell? ⟨B, 2, none⟩ = some (.int .i64 on) := hB1.cell 2
  have hput := put_lit [st, on] #[.int .i64 st, .int .i64 on] rfl hw1 (by simp) (by unfold encL at *; simp only [List.length_append, List.length_cons, List.length_nil] at *; omega) 2 W1.heap.size rfl rfl
  clear hv hB hk hbn
  go_wp2_with fail
  refine hput.mono ?_
  rintro _ W2 ⟨rfl, hw2, hk2⟩
  have hB2 := hk2.blk _ _ _ hB1 (by decide) (by decide)
  replace hk2 := hk1.trans hk2
  have c3 : W2.cell? ⟨B, 3, none⟩ = some (.int .i64 vk) := hB2.cell 3
  have c4 : W2.cell? ⟨B, 4, none⟩ = some (.int .i64 vn) := hB2.cell 4
  have hv := val_any ⟨vk, vn⟩ hw2 (by unfold encL at *; simp only [List.length_append, List.length_cons, List.length_nil] at *; omega)
  clear c1 c2 hB1 hk1 hput
  go_wp2_with fail
  refine hv.mono ?_
  rintro _ W4 ⟨rfl, hw4, hk4⟩
  go_wp2_with fail
  go_end0
  refine ⟨rfl, ?_, hk2.trans hk4⟩
  have e : L ++ ThC.e (Th.c ⟨⟨tp, tc, tl⟩, st, on, vk, vn⟩) = L ++ encL (fun x : Fr => FrC.e x.c) tl ++ [st, on] ++ Vl.e ⟨vk, vn⟩ := by
    show L ++ (encL FrC.e (tl.map Fr.c) ++ [st, on, vk, vn]) = _
    rw [encL_map]
    simp [encL, Vl.e]
  rw [e]
  exact hw4
end Go.Proofs.Ythdleldnjoamlaa
