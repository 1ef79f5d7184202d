/- Part 10 of a proof in parts: what the code of these packages does, and plain facts about it (StableA). No condition of its own. -/
import Derived.Test.YtmigbgfgnhkmnaaGreatDoorZx9
import Derived.RegionTactic
import Derived.BigRegion
/- slices.swapRangeCmpFunc, rotateCmpFunc, insertionSortCmpFunc, symMergeCmpFunc, stableCmpFunc at strings: they permute. -/
namespace Go.Proofs.YtmigbgfgnhkmnaaGreatDoor
open Go.RowKit Go.Av

variable {w w' : World}

/-- Any number, nothing old turned. -/
def IntR (w : World) (e : Ending) (w' : World) : Prop := ∃ n : Int, e = .returned (.int .i64 n) ∧ Pu w w'

/-- A row of strings that may be written. -/
def RowS (w : World) (g off : Nat) (l : List Str) : Prop := ∃ c : Array Value, w.heap[g]? = some (.cells c 9 (0, 0)) ∧ ∀ j (hj : j < l.length), c[off + j]? = some (.string (mkB l[j]))
theorem RowS.at {g off : Nat} {l : List Str} (h : RowS w g off l) (j : Nat) (hj : j < l.length) : w.cell? ⟨g, off + j, none⟩ = some (.string (mkB l[j])) ∧ w.frozen? ⟨g, off + j, none⟩ = false := by
  obtain ⟨c, h1, h2⟩ := h
  exact ⟨by rw [cell_of_blk h1]; exact h2 j hj, frozen_of_blk h1⟩
def swapL (l : List Str) (i j : Nat) (hi : i < l.length) (hj : j < l.length) : List Str := (l.set i l[j]).set j l[i]
theorem swapL_perm (l : List Str) (i j : Nat) (hi : i < l.length) (hj : j < l.length) : (swapL l i j hi hj).Perm l := List.set_set_perm hi hj
/-- What a function that sorts a part does to the row: it permutes. -/
def PermS (w : World) (g off : Nat) (l : List Str) (w' : World) : Prop := ∃ l' : List Str, l'.Perm l ∧ RowS w' g off l' ∧ Fr (fun b => b = g) w w'


theorem RowS.set {g off : Nat} {l : List Str} (h : RowS w g off l) (i : Nat) (hi : i < l.length) (s : Str) : RowS (w.setCell ⟨g, off + i, none⟩ (.string (mkB s))) g off (l.set i s) := by
  obtain ⟨c, h1, h2⟩ := h
  refine ⟨_, setCell_blk h1 _ _, fun j hj => ?_⟩
  rw [List.length_set] at hj
  have hlt : off + i < c.size := by
    have := h2 i hi
    by_cases q : off + i < c.size
    · exact q
    · rw [Array.getElem?_eq_none (by omega)] at this; cases this
  by_cases e : i = j
  · subst e; simp [Array.getElem?_setIfInBounds, hlt]
  · rw [Array.getElem?_setIfInBounds_ne (by omega), h2 j hj]; simp [e]
theorem RowS.lt {g off : Nat} {l : List Str} (h : RowS w g off l) : g < w.heap.size := by
  obtain ⟨c, h1, _⟩ := h; exact lt_of_blk h1
theorem RowS.keep {g off : Nat} {l : List Str} (h : RowS w g off l) (hk : w'.heap[g]? = w.heap[g]?) : RowS w' g off l := by
  obtain ⟨c, h1, h2⟩ := h; exact ⟨c, hk.trans h1, h2⟩
theorem RowS.pu {g off : Nat} {l : List Str} (h : RowS w g off l) (hp : Pu w w') : RowS w' g off l := h.keep (hp.block g h.lt)

/-- An exchange. -/
theorem RowS.swap {g off : Nat} {l : List Str} (h : RowS w g off l) (i j : Nat) (hi : i < l.length) (hj : j < l.length) : RowS ((w.setCell ⟨g, off + i, none⟩ (.string (mkB l[j]))).setCell ⟨g, off + j, none⟩ (.string (mkB l[i]))) g off (swapL l i j hi hj) :=
  RowS.set (RowS.set h i hi l[j]) j (by simpa using hj) l[i]

theorem RowS.drew {g off : Nat} {l : List Str} (h : RowS w g off l) : RowS w.drew g off l := h
theorem PermS.refl {g off : Nat} {l : List Str} (h : RowS w g off l) : PermS w g off l w := ⟨l, List.Perm.refl _, h, Fr.refl _ _⟩
theorem PermS.then {g off : Nat} {l : List Str} {w1 w2 : World} (h : PermS w g off l w1) (k : ∀ l', l'.Perm l → RowS w1 g off l' → PermS w1 g off l' w2) : PermS w g off l w2 := by
  obtain ⟨l1, p1, r1, f1⟩ := h
  obtain ⟨l2, p2, r2, f2⟩ := k l1 p1 r1
  exact ⟨l2, p2.trans p1, r2, f1.trans f2 fun _ _ h => h⟩
theorem PermS.drew {g off : Nat} {l : List Str} {w1 : World} (h : PermS w g off l w1) : PermS w g off l w1.drew := by
  obtain ⟨l1, p1, r1, f1⟩ := h
  exact ⟨l1, p1, r1, f1.drew⟩
theorem PermS.drewN {g off : Nat} {l : List Str} {w1 : World} (h : PermS w g off l w1) (n : Nat) : PermS w g off l (w1.drewN n) := by
  obtain ⟨l1, p1, r1, f1⟩ := h
  exact ⟨l1, p1, r1, f1.drewN n⟩
theorem PermS.pu {g off : Nat} {l : List Str} {w1 w2 : World} (h : PermS w g off l w1) (hp : Pu w1 w2) : PermS w g off l w2 := by
  obtain ⟨l1, p1, r1, f1⟩ := h
  exact ⟨l1, p1, r1.pu hp, f1.trans (Fr.of_below (M := fun b => b = g) hp) fun _ _ h => h⟩
theorem PermS.fr {g off : Nat} {l : List Str} {w1 : World} (h : PermS w g off l w1) : Fr (fun b => b = g) w w1 := by
  obtain ⟨l1, p1, r1, f1⟩ := h
  exact f1
/-- One exchange more. -/
theorem PermS.swap {g off : Nat} {l l' : List Str} {w1 : World} (hp : l'.Perm l) (hr : RowS w1 g off l') (hf : Fr (fun b => b = g) w w1) (i j : Nat) (hi : i < l'.length) (hj : j < l'.length) (xa xb : Str) (ha : xa = l'[i]) (hb : xb = l'[j]) :
    PermS w g off l ((w1.setCell ⟨g, off + i, none⟩ (.string (mkB xb))).setCell ⟨g, off + j, none⟩ (.string (mkB xa))).drew := by
  subst ha hb
  exact ⟨swapL l' i j hi hj, (swapL_perm l' i j hi hj).trans hp, (hr.swap i j hi hj).drew, (((fr_set (Fr.refl _ _) _ _).trans (fr_set (Fr.refl _ _) _ _) fun _ _ h => h) |> fun k => (hf.trans k fun _ _ h => h).drew)⟩

set_option maxHeartbeats 1000000 in
set_option maxRecDepth 100000 in
theorem swapRange_any (g off cap N : Nat) (l : List Str) (hN : l.length = N) (a b n : Nat) (f : Value) (w : World) (h : RowS w g off l) (ha : a + n ≤ N) (hb : b + n ≤ N) (hl : N ≤ 1000000) :
    Calls Tryz.prog 220 #[.slice (some ⟨g, off, none⟩) N cap, .int .i64 a, .int .i64 b, .int .i64 n, f] w fun e w' => e = .returned (.tuple #[]) ∧ PermS w g off l w' := by
  have H := Lib.hid (PermS.refl h); clear h
  have HN := Lib.hid hN; clear hN
  go_enter Tryz.func220, Tryz.ntmps220
  go_wp2
  go_loopw [10] (fun i wr => ∃ k : Nat, k ≤ n ∧ i = .int .i64 k ∧ Hid (PermS w g off l wr)) (fun i _ => n - (intOf i).toNat)
  case atStart => exact ⟨0, Nat.zero_le _, rfl, H⟩
  case round =>
    obtain ⟨k, hk, rfl, HP⟩ := hrel
    by_cases hlt : k < n
    · obtain ⟨l', hp, hr, hf⟩ := HP.out
      have hlen : l'.length = N := hp.length_eq.trans HN.out
      have ia : a + k < l'.length := by omega
      have ib : b + k < l'.length := by omega
      have ja0 : (0 : Int) ≤ (a : Int) + (k : Int) := by omega
      have ja1 : (a : Int) + (k : Int) < (N : Int) := by omega
      have jb0 : (0 : Int) ≤ (b : Int) + (k : Int) := by omega
      have jb1 : (b : Int) + (k : Int) < (N : Int) := by omega
      have ea : ((a : Int) + (k : Int)).toNat = a + k := by omega
      have eb : ((b : Int) + (k : Int)).toNat = b + k := by omega
      have ra := hr.at (a + k) ia
      have rb := hr.at (b + k) ib
      obtain ⟨xa, hxa⟩ : ∃ x, x = l'[a + k]'ia := ⟨_, rfl⟩
      obtain ⟨xb, hxb⟩ : ∃ x, x = l'[b + k]'ib := ⟨_, rfl⟩
      have Hsw := Lib.hid (PermS.swap hp hr hf (a + k) (b + k) ia ib xa xb hxa hxb)
      rw [← hxa] at ra
      rw [← hxb] at rb
      obtain ⟨ca, fa⟩ := ra
      obtain ⟨cb, fb⟩ := rb
      obtain ⟨cc, fc⟩ := (hr.set (a + k) ia xb).at (b + k) (by simpa using ib)
      clear hxa hxb hlen hp hr hf HP
      go_wp2
      go_region
      all_goals go_wp2
      all_goals
        go_roundw
        case rel => exact ⟨k + 1, by omega, by go_num, Hsw⟩
        case measure => simp [intOf]; omega
    · go_wp2
      go_end0
      exact ⟨rfl, HP.out⟩

theorem swapRange_i (g off cap N : Nat) (l : List Str) (hN : l.length = N) (a b n : Int) (f : Value) (w : World) (h : RowS w g off l) (ha0 : 0 ≤ a) (hb0 : 0 ≤ b) (hn0 : 0 ≤ n) (ha : a + n ≤ N) (hb : b + n ≤ N) (hl : N ≤ 1000000) :
    Calls Tryz.prog 220 #[.slice (some ⟨g, off, none⟩) N cap, .int .i64 a, .int .i64 b, .int .i64 n, f] w fun e w' => e = .returned (.tuple #[]) ∧ PermS w g off l w' := by
  obtain ⟨a, rfl⟩ := Int.eq_ofNat_of_zero_le ha0
  obtain ⟨b, rfl⟩ := Int.eq_ofNat_of_zero_le hb0
  obtain ⟨n, rfl⟩ := Int.eq_ofNat_of_zero_le hn0
  exact swapRange_any g off cap N l hN a b n f w h (by omega) (by omega) hl
theorem swapRange_p (g off cap N : Nat) (l : List Str) (hN : l.length = N) (a b n : Int) (f : Value) (w0 w : World) (h : PermS w0 g off l w) (ha0 : 0 ≤ a) (hb0 : 0 ≤ b) (hn0 : 0 ≤ n) (ha : a + n ≤ N) (hb : b + n ≤ N) (hl : N ≤ 1000000) :
    Calls Tryz.prog 220 #[.slice (some ⟨g, off, none⟩) N cap, .int .i64 a, .int .i64 b, .int .i64 n, f] w fun e w' => e = .returned (.tuple #[]) ∧ PermS w0 g off l w' := by
  obtain ⟨l', p, r, f0⟩ := h
  refine (swapRange_i g off cap N l' (p.length_eq.trans hN) a b n f w r ha0 hb0 hn0 ha hb hl).mono ?_
  rintro e w' ⟨rfl, l2, p2, r2, f2⟩
  exact ⟨rfl, l2, p2.trans p, r2, f0.trans f2 fun _ _ h => h⟩

set_option maxHeartbeats 1000000 in
set_option maxRecDepth 100000 in
theorem rotate_p (g off cap N : Nat) (l : List Str) (hN : l.length = N) (a m b : Int) (f : Value) (w0 w : World) (h : PermS w0 g off l w) (ha0 : 0 ≤ a) (ham : a < m) (hmb : m < b) (hb : b ≤ N) (hl : N ≤ 1000000) :
    Calls Tryz.prog 192 #[.slice (some ⟨g, off, none⟩) N cap, .int .i64 a, .int .i64 m, .int .i64 b, f] w fun e w' => e = .returned (.tuple #[]) ∧ PermS w0 g off l w' := by
  have H := Lib.hid h; clear h
  have HN := Lib.hid hN; clear hN
  go_enter Tryz.func192, Tryz.ntmps192
  go_wp2
  go_loopw [10, 11] (fun vi vj wr => ∃ i j : Int, vi = .int .i64 i ∧ vj = .int .i64 j ∧ 1 ≤ i ∧ i ≤ m - a ∧ 1 ≤ j ∧ j ≤ b - m ∧ Hid (PermS w0 g off l wr)) (fun vi vj _ => (intOf vi + intOf vj).toNat)
  case atStart => exact ⟨m - a, b - m, rfl, rfl, by omega, by omega, by omega, by omega, H⟩
  case round =>
    obtain ⟨i, j, rfl, rfl, i0, i1, j0, j1, HP⟩ := hrel
    by_cases hij : i = j
    · subst hij
      go_wp2_with (go_at_call 220; refine (swapRange_p g off cap N l HN.out _ _ _ _ w0 _ HP.out (by omega) (by omega) (by omega) (by omega) (by omega) hl).mono ?_; rintro e w1 ⟨rfl, hP1⟩; have HP1 := Lib.hid hP1; clear hP1)
      go_end0
      exact ⟨rfl, HP1.out⟩
    · have e1 : (i == j) = false := by simpa using hij
      have e2 : (i != j) = true := by simpa using hij
      have e3 : decide (i = j) = false := by simpa using hij
      by_cases hgt : j < i
      · go_wp2_with (go_at_call 220; refine (swapRange_p g off cap N l HN.out _ _ _ _ w0 _ HP.out (by omega) (by omega) (by omega) (by omega) (by omega) hl).mono ?_; rintro e w1 ⟨rfl, hP1⟩; have HP1 := Lib.hid hP1; clear hP1)
        go_roundw
        case rel => exact ⟨i - j, j, rfl, rfl, by omega, by omega, by omega, by omega, HP1⟩
        case measure => simp [intOf]; omega
      · go_wp2_with (go_at_call 220; refine (swapRange_p g off cap N l HN.out _ _ _ _ w0 _ HP.out (by omega) (by omega) (by omega) (by omega) (by omega) hl).mono ?_; rintro e w1 ⟨rfl, hP1⟩; have HP1 := Lib.hid hP1; clear hP1)
        go_roundw
        case rel => exact ⟨i, j - i, rfl, rfl, by omega, by omega, by omega, by omega, HP1⟩
        case measure => simp [intOf]; omega

end Go.Proofs.YtmigbgfgnhkmnaaGreatDoor
