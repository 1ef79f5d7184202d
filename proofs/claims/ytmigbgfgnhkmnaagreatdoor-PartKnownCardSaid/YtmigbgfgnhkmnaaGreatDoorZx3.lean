/- Part 3 of a proof in parts: what the code of these packages does, and plain facts about it (Lib0). No condition of its own. -/
import Derived.Test.YtmigbgfgnhkmnaaGreatDoorZx2
import Derived.Test.YtmigbgfgnhkmnaaGreatDoorProg
import Derived.Test.YtmigbgfgnhkmnaaGreatDoorShelf
/- The library's functions that the program calls, each by its contract, in the words of Base and PathM. -/
namespace Go.Proofs.YtmigbgfgnhkmnaaGreatDoor
open Go.RowKit Go.Av

/-- What the library's own variables hold, as far as the program reads them. -/
def Gl (w : World) : Prop := (∃ m, w.cell? ⟨0, 0, none⟩ = some (.int .i64 m)) ∧ 0 < w.heap.size ∧ 3 < w.heap.size ∧ Lib.TabIs Tryz.prog w "internal/strconv.uint64pow10" .u64 Lib.pow10Tab

theorem Gl.pu {w w' : World} (h : Gl w) (hp : Pu w w') : Gl w' := by
  obtain ⟨⟨m, h1⟩, h2, h3, h4⟩ := h
  refine ⟨⟨m, by rw [hp.cell h2]; exact h1⟩, Nat.lt_of_lt_of_le h2 hp.size, Nat.lt_of_lt_of_le h3 hp.size, var?_below hp (by kernel_rfl) h3 h4⟩

theorem split_any (s : Str) (w : World) (hs : s.length ≤ 4294967280) (hg : Gl w) :
    Calls Tryz.prog 130 #[.string (mkB s), .string ⟨#[47]⟩] w fun e w' =>
      e = .returned (.slice (some ⟨w.heap.size, 0, none⟩) (pieces s).length (pieces s).length) ∧ w.alloc (.cells ((pieces s).map fun x => Value.string (mkB x)).toArray 9) = w' := by
  obtain ⟨⟨m, hm⟩, _⟩ := hg
  refine (Tryz.strings_Split (mkB s) ⟨#[47]⟩ m w (by simp; omega) hm (by decide)).mono ?_
  rintro e w' ⟨rfl, rfl⟩
  rw [countB_pieces, splitB_pieces, List.map_map]
  exact ⟨rfl, rfl⟩

theorem cut_yes (r : Str) (w : World) : Calls Tryz.prog 155 #[.string (mkB (47 :: r)), .string ⟨#[47]⟩] w fun e w' => e = .returned (.tuple #[.string (mkB r), .bool true]) ∧ w = w' := by
  refine (Tryz.strings_CutPrefix (mkB (47 :: r)) ⟨#[47]⟩ w).mono ?_
  rintro e w' ⟨rfl, rfl⟩
  exact ⟨rfl, rfl⟩
theorem cut_no (s : Str) (w : World) (h : restOf s = none) : Calls Tryz.prog 155 #[.string (mkB s), .string ⟨#[47]⟩] w fun e w' => e = .returned (.tuple #[.string (mkB s), .bool false]) ∧ w = w' := by
  refine (Tryz.strings_CutPrefix (mkB s) ⟨#[47]⟩ w).mono ?_
  rintro e w' ⟨rfl, rfl⟩
  match s, h with
  | [], _ => exact ⟨rfl, rfl⟩
  | c :: r, h =>
    have hc : ¬ (47 : UInt8) = c := by
      rintro rfl; simp [restOf] at h
    have hp : [47].isPrefixOf (c :: r) = false := by simp [List.isPrefixOf, hc]
    have e1 : Lib.hasPrefix (mkB (c :: r)).data.toList (ByteArray.mk #[47]).data.toList = false := hp
    have e2 : Lib.trimPrefix (mkB (c :: r)).data.toList (ByteArray.mk #[47]).data.toList = c :: r := by
      show (if [47].isPrefixOf (c :: r) = true then _ else _) = _
      rw [if_neg (by rw [hp]; simp)]; simp
    rw [e1, e2]
    exact ⟨rfl, rfl⟩


theorem join_any (l : List Str) (v : Value) (w : World) (h : SlS 9 w v l) (hN : l.length ≤ 1000000) (hlen : (joinS l).length ≤ 1000000) :
    Calls Tryz.prog 127 #[v, .string ⟨#[47]⟩] w fun e w' => e = .returned (.string (mkB (joinS l))) ∧ Pu w w' := by
  by_cases h0 : 0 < l.length
  · obtain ⟨b, off, cap, rfl, h2, h3, h4⟩ := h.pos h0
    have e1 : (l.map mkB).map (·.data.toList) = l := by
      rw [List.map_map]; conv => rhs; rw [← List.map_id l]
      apply List.map_congr_left; intro x _; simp
    have := Tryz.strings_Join b off cap (l.map mkB) ⟨#[47]⟩ w (fun j x hx => by
        rw [List.getElem?_map] at hx
        obtain ⟨y, hy, rfl⟩ := Option.map_eq_some_iff.1 hx
        obtain ⟨hj, rfl⟩ := List.getElem?_eq_some_iff.1 hy
        exact h4 j hj) h3 (by simp; omega) (by simpa using h2) (by rw [e1]; unfold joinS at hlen; simp; omega)
    rw [e1, List.length_map] at this
    exact this
  · obtain rfl : l = [] := List.length_eq_zero_iff.1 (by omega)
    obtain ⟨a, cap, rfl, _⟩ := h.zero
    exact (Tryz.strings_Join_none a cap ⟨#[47]⟩ w).mono fun e w' ⟨he, hw⟩ => ⟨he, hw ▸ Below.refl _ _⟩


theorem pu_drewN (w : World) (n : Nat) : Pu w (w.drewN n) := ⟨rfl, rfl, rfl, Nat.le_refl _, fun _ _ => rfl⟩
theorem pu_grow (w : World) (os : Array Obj) : Pu w (Sort.grow w os) := ⟨rfl, rfl, rfl, by simp [Sort.grow], fun k hk => by simp [Sort.grow, Array.getElem?_append, hk]⟩

theorem itoa_any (n : Int) (w : World) (h0 : 0 ≤ n) (h1 : n ≤ 2147483647) (hg : Gl w) :
    Calls Tryz.prog 177 #[.int .i64 n] w fun e w' => e = .returned (.string (mkB (Lib.itoa n))) ∧ Pu w w' := by
  refine (Tryz.strconv_Itoa n (by omega) (by omega) w hg.2.2.2).mono ?_
  rintro e w' ⟨rfl, k, os, rfl⟩
  exact ⟨rfl, (pu_drewN w k).tr (pu_grow _ os)⟩

theorem zeros_any (c : Int) (w : World) (h0 : 0 ≤ c) (h1 : c ≤ 100) :
    Calls Tryz.prog 178 #[.string ⟨#[48]⟩, .int .i64 c] w fun e w' => e = .returned (.string (mkB (List.replicate c.toNat 48))) ∧ Pu w w' := by
  obtain ⟨n, rfl⟩ := Int.eq_ofNat_of_zero_le h0
  refine (Tryz.strings_Repeat ⟨#[48]⟩ n w (by omega) (by have : (ByteArray.mk #[48]).size = 1 := rfl; rw [this]; omega)).mono ?_
  rintro e w' ⟨rfl, hb⟩
  have : (ByteArray.mk #[48]).data.toList = [48] := rfl
  rw [this, repeat_one]
  exact ⟨rfl, hb⟩

end Go.Proofs.YtmigbgfgnhkmnaaGreatDoor
