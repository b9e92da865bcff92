/-
  slices.Contains of numbers; a hunter in memory; the closures of suspects, and suspects.
-/
import Derived.Test.YtoillodfabdeeaaTopB
import Derived.Test.YtoillodfabdeeaaDrop
import Derived.Test.YtoillodfabdeeaaClone
import Derived.Test.YtoillodfabdeeaaFast
import Derived.Deep.QuietTactic
import Derived.BigQuiet
namespace Go.Proofs.Ytoillodfabdeeaa
open Go.RowKit Go.Sort

set_option maxHeartbeats 400000 in
theorem indexV_any {w : World} {p : Option Addr} {cap : Nat} {l : List Int} (n : Int) (hR : SlI w p cap l) :
    Calls Try.prog 33 #[.slice p l.length cap, .int .i64 n] w fun e w' => ∃ r : Int, e = .returned (.int .i64 r) ∧ decide (0 ≤ r) = decide (n ∈ l) ∧ w = w' := by
  have hm : l.length ≤ 9223372036854775807 := Nat.le_trans hR.le hR.big
  go_enter Try.func33, Try.ntmps33
  go_wp2_with fail
  go_loop [8] (fun s => ∃ k : Nat, k ≤ l.length ∧ s = .int .i64 k ∧ Hid (n ∉ l.take k)) (fun s => l.length - (intOf s).toNat)
  case atStart => exact ⟨0, Nat.zero_le _, rfl, by simp [Hid]⟩
  case round =>
    obtain ⟨k, hk, rfl, hno⟩ := hrel
    by_cases hlt : k < l.length
    · obtain ⟨b, off, rfl, hb, hcell⟩ := hR.row.cons (by simp; omega)
      have hc : w.cell? ⟨b, off + k, none⟩ = some (.int .i64 (l.getD k 0)) := (hcell k (by simpa using hlt)).trans (ints_getD hlt)
      have hx : l[k]? = some (l.getD k 0) := by simp [hlt]
      clear hcell hR
      generalize l.getD k 0 = x at *
      have HX := Lib.hid hx; clear hx
      go_wp2_with fail
      · have ht : (n == x) = true := by assumption
        go_ret
        obtain rfl : n = x := by simpa using ht
        exact ⟨_, rfl, ⟨fun _ => List.mem_of_getElem? HX.out, fun _ => by omega⟩, rfl⟩
      · have ht : (n == x) = false := by assumption
        go_round
        case rel =>
          refine ⟨k + 1, by omega, by go_num, ?_⟩
          unfold Hid
          rw [List.take_add_one, HX.out]
          have := hno.out
          have hne : ¬ n = x := by simpa using ht
          simp [this, hne]
        case measure => simp [intOf]; omega
    · obtain rfl : k = l.length := by omega
      go_wp2_with fail
      go_ret
      refine ⟨_, rfl, ?_, rfl⟩
      have := hno.out
      rw [List.take_length] at this
      simp [this]

set_option maxHeartbeats 400000 in
theorem containsV_any {w : World} {p : Option Addr} {cap : Nat} {l : List Int} (n : Int) (hR : SlI w p cap l) :
    Calls Try.prog 25 #[.slice p l.length cap, .int .i64 n] w fun e w' => e = .returned (.bool (decide (n ∈ l))) ∧ w = w' := by
  go_enter Try.func25, Try.ntmps25
  go_wp2_with fail
  refine (indexV_any n hR).mono ?_
  rintro _ w1 ⟨r, rfl, hr, rfl⟩
  have Hr := Lib.hid hr; clear hr
  go_wp2_with fail
  go_ret
  exact ⟨ret_bool (by rw [← Hr.out]), rfl⟩
theorem contains_is {w : World} {p : Option Addr} {n cap : Nat} {l : List Int} {x : Int} (hR : Sl w 1 p n cap (ints .i64 l)) {b : Bool} (h : decide (x ∈ l) = b) :
    Calls Try.prog 25 #[.slice p n cap, .int .i64 x] w fun e w' => e = .returned (.bool b) ∧ Below w.heap.size w w' := by
  have hn := hR.len
  rw [ints_length, Nat.mul_one] at hn
  subst hn h
  exact (containsV_any x hR).mono fun e w' ⟨he, hw⟩ => ⟨he, hw ▸ Below.refl _ _⟩

/-- A hunter: what each hangs on. -/
structure Hold (w : World) (hp : Nat) (ps : List Pt) : Prop where
  at_ : ∃ bp cap, Blk w hp #[.slice bp ps.length cap] 60 ∧ Deps w bp cap ps
  few : ∀ i, i < ps.length → (ps.getD i .none).l.length ≤ 200
theorem Hold.below {w w' : World} {hp : Nat} {ps : List Pt} (h : Hold w hp ps) (hb : Below w.heap.size w w') : Hold w' hp ps := by
  obtain ⟨⟨bp, cap, h1, h2⟩, h3⟩ := h
  exact ⟨⟨bp, cap, h1.next hb, h2.below hb⟩, h3⟩
theorem Hold.lt {w : World} {hp : Nat} {ps : List Pt} (h : Hold w hp ps) : hp < w.heap.size := by
  obtain ⟨⟨bp, cap, h1, h2⟩, h3⟩ := h
  exact h1.lt
def goodAt (ps : List Pt) (g n : Int) : Bool := decide (n ∈ (ps.getD g.toNat .none).l)

set_option maxRecDepth 100000 in
set_option maxHeartbeats 1000000 in
/-- 'slices.Contains(h.backs[g], n)' -/
theorem susp2_pred {W : World} {hp HB NB : Nat} {ps : List Pt} {n : Int} (hH : Hold W hp ps) (bH : Blk W HB #[.pointer (some ⟨hp, 0, none⟩)] 40) (bN : Blk W NB #[.int .i64 n] 3) :
    PredV W 32 #[.pointer (some ⟨HB, 0, none⟩), .pointer (some ⟨NB, 0, none⟩)] (Value.int .i64) (fun _ g => 0 ≤ g ∧ g < ps.length) (fun g => goodAt ps g n) := by
  refine ⟨enters_own Try.func32 (by kernel_rfl) rfl, fun w hb g hg => ?_⟩
  obtain ⟨k, rfl⟩ := Int.eq_ofNat_of_zero_le hg.1
  have hk : k < ps.length := by omega
  have hkl : (k : Int) < (ps.length : Int) := by omega
  unfold goodAt
  rw [Int.toNat_natCast]
  obtain ⟨⟨bp, cap, h1, h2⟩, h3⟩ := hH.below hb
  have c1 := h1.cell 0
  have c2 := (bH.next hb).cell 0
  have c3 := (bN.next hb).cell 0
  change w.cell? ⟨hp, 0, none⟩ = some (.slice bp ps.length cap) at c1
  change w.cell? ⟨HB, 0, none⟩ = some (.pointer (some ⟨hp, 0, none⟩)) at c2
  change w.cell? ⟨NB, 0, none⟩ = some (.int .i64 n) at c3
  obtain ⟨b, off, rfl, hbl, hcc, hpt⟩ := h2.at_ hk
  have hpt' : Sl w 1 _ _ _ _ := hpt
  clear h1 h2 h3 hpt hg
  generalize ps.getD k .none = x at *
  obtain ⟨xp, xc, xl⟩ := x
  dsimp only [Pt.val] at *
  have hhas := fun d os => Calls.regrown_of (d := d) (os := os) (contains_is (b := decide (n ∈ xl)) (x := n) (hpt'.below (below_regrown w d os)) rfl)
  have HH := Lib.hid hhas; clear hhas hpt'
  generalize decide (n ∈ xl) = bv at *
  have r1 := cell_regrown c1
  have r2 := cell_regrown c2
  have r3 := cell_regrown c3
  have r4 := cell_regrown hcc
  clear c1 c2 c3 hcc
  go_enter Try.func32, Try.ntmps32
  go_wp2_with fail
  refine quiet_below rfl (by kernel_rfl) (by kernel_rfl) ?_
  repeat (go_big_quiet_step (with_reducible exact HH.out _ _))
  refine wpQuiet_nil ?_
  intro wz hwz
  clear r1 r2 r3 r4 HH
  go_wp2_with fail
  go_ret
  exact ⟨rfl, hwz⟩

def GoodOk (ps : List Pt) (good : List Int) : Prop := ∀ g ∈ good, 0 ≤ g ∧ g < ps.length
def outB (ps : List Pt) (good : List Int) (n : Int) : Bool := good.any fun g => goodAt ps g n
def suspM (ps : List Pt) (bad : Nat) (good : List Int) : List Int := keptL (outB ps good) (ps.getD bad .none).l

set_option maxRecDepth 100000 in
set_option maxHeartbeats 1000000 in
/-- Does one of the good ones hang on it? -/
theorem susp1_pred {W : World} {hp HB GB : Nat} {ps : List Pt} {q : Option Addr} {cap : Nat} {good : List Int} (hH : Hold W hp ps) (hG : SlI W q cap good) (hok : GoodOk ps good) (bH : Blk W HB #[.pointer (some ⟨hp, 0, none⟩)] 40) (bG : Blk W GB #[.slice q good.length cap] 23) :
    PredV W 31 #[.pointer (some ⟨GB, 0, none⟩), .pointer (some ⟨HB, 0, none⟩)] (Value.int .i64) (fun _ _ => True) (fun n => outB ps good n) := by
  refine ⟨enters_own Try.func31 (by kernel_rfl) rfl, fun w hb n _ => ?_⟩
  have hal := (Below.refl w.heap.size w).alloc (Nat.le_refl _) (.cells #[.int .i64 n] 3)
  have bN := Blk.mk_ w #[.int .i64 n] 3 rfl
  have bH2 := ((bH.next hb).next hal)
  have c2 := ((bG.next hb).next hal).cell 0
  change (w.alloc (.cells #[.int .i64 n] 3)).cell? ⟨GB, 0, none⟩ = some (.slice q good.length cap) at c2
  have hP := susp2_pred ((hH.below hb).below hal) bH2 bN
  have hany := containsI_any hP ((hG.below hb).below hal) (fun w' _ x hx => hok x hx)
  change Calls Try.prog _ _ _ fun e w' => e = .returned (.bool (outB ps good n)) ∧ _ at hany
  have HA := Lib.hid hany; clear hany hP bH2 bN
  generalize outB ps good n = bv at *
  go_enter Try.func31, Try.ntmps31
  go_wp2_with fail
  refine HA.out.mono ?_
  rintro _ w1 ⟨rfl, hb1⟩
  go_wp2_with fail
  go_ret
  exact ⟨rfl, hal.trans (hb1.mono hal.size)⟩

set_option maxRecDepth 100000 in
set_option maxHeartbeats 2000000 in
theorem susp_any {w : World} {hp : Nat} {ps : List Pt} {q : Option Addr} {cap : Nat} {good : List Int} (hH : Hold w hp ps) (hG : SlI w q cap good) (hok : GoodOk ps good) (bad : Nat) (hbad : bad < ps.length) :
    Calls Try.prog 23 #[.pointer (some ⟨hp, 0, none⟩), .int .i64 bad, .slice q good.length cap] w fun e w' => ∃ q' c', e = .returned (.slice q' (suspM ps bad good).length c') ∧ OwnI w' w.heap.size q' c' (suspM ps bad good) ∧ Below w.heap.size w w' := by
  have hbl : (bad : Int) < (ps.length : Int) := by omega
  have hal1 := (Below.refl w.heap.size w).alloc (Nat.le_refl _) (.cells #[.pointer (some ⟨hp, 0, none⟩)] 40)
  have bH := Blk.mk_ w #[.pointer (some ⟨hp, 0, none⟩)] 40 rfl
  have hH1 := hH.below hal1
  have hG1 := hG.below hal1
  generalize hw1 : w.alloc (.cells #[.pointer (some ⟨hp, 0, none⟩)] 40) = w1 at *
  have hal2 := (Below.refl w1.heap.size w1).alloc (Nat.le_refl _) (.cells #[.slice q good.length cap] 23)
  have bG := Blk.mk_ w1 #[.slice q good.length cap] 23 rfl
  have bH2 := bH.next hal2
  have hH2 := hH1.below hal2
  have hG2 := hG1.below hal2
  have hb := hal1.trans (hal2.mono hal1.size)
  have hz1 : w1.heap.size = w.heap.size + 1 := by rw [← hw1]; simp
  rw [hz1] at bG
  generalize hw2 : w1.alloc (.cells #[.slice q good.length cap] 23) = w2 at *
  have hsusp := susp1_pred hH2 hG2 hok bH2 bG
  have hsm : keptL (outB ps good) (ps.getD bad .none).l = suspM ps bad good := rfl
  obtain ⟨⟨bp, bc, h1, h2⟩, h3⟩ := hH2
  have c1 := h1.cell 0
  have c2 := bH2.cell 0
  change w2.cell? ⟨hp, 0, none⟩ = some (.slice bp ps.length bc) at c1
  change w2.cell? ⟨w.heap.size, 0, none⟩ = some (.pointer (some ⟨hp, 0, none⟩)) at c2
  obtain ⟨b, off, rfl, hbb, hcc, hpt⟩ := h2.at_ hbad
  have hpt' : Sl w2 1 _ _ _ _ := hpt
  have hfew := h3 bad hbad
  have hz2 : w.heap.size ≤ w2.heap.size := hb.size
  clear h1 h2 h3 hpt bH bG bH2 hH1 hG1 hG2 hal1 hal2 hG hH
  generalize ps.getD bad .none = x at *
  obtain ⟨xp, xc, xl⟩ := x
  dsimp only [Pt.val] at *
  have hclone := clone_any hpt' (by omega)
  have HC := Lib.hid hclone; have HS := Lib.hid hsusp; have Hsm := Lib.hid hsm; clear hclone hsusp hsm
  go_enter Try.func23, Try.ntmps23
  go_wp2_with fail
  refine HC.out.mono ?_
  rintro _ w3 ⟨p3, c3, rfl, hown, hb3⟩
  have hdel := delete_any HS.out hb3 hown (fun _ _ _ _ => trivial)
  rw [show keptL (fun n => outB ps good n) xl = suspM ps bad good from Hsm.out] at hdel
  have HD := Lib.hid hdel; clear hdel
  go_wp2_with fail
  refine HD.out.mono ?_
  rintro _ w4 ⟨p4, c4, rfl, hown4, hb4⟩
  go_wp2_with fail
  go_ret
  exact ⟨_, _, rfl, own_mono hown4 hz2, hb.trans (hb4.mono hz2)⟩
end Go.Proofs.Ytoillodfabdeeaa
