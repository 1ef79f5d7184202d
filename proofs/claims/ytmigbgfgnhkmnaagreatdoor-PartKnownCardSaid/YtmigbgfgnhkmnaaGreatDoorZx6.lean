/- Part 6 of a proof in parts: what the code of these packages does, and plain facts about it (Shelf3, Path). No condition of its own. -/
import Derived.Test.YtmigbgfgnhkmnaaGreatDoorZx5
import Derived.Shelf.SlIter.Nil
import Derived.Shelf.SlIterI.Nil
import Derived.Shelf.SortM.Plain
import Derived.Shelf.SortM.SortNone
import Derived.Ground.GgzProg
import Derived.Ground.SlgmProg
/- slices.Sorted(maps.Keys(m)), keys strings or int64: the shelf's contracts laid at this translation (the texts are the kit's lay-iter.mjs's and SlSortedIntKeysAtARealDump's, turned). -/
namespace Go.Proofs
open Go.RowKit Go.Maps Go.Sort Go.Shelf


theorem Tryz.sortsStr (m : Nat) : AnyZ.SortsIn Tryz.prog Tryz.sortedStr_ren Fence.wide m :=
  ⟨fun blk off cap ss W hH hblk hsz => callsIn_wide.2 (AnyM.slices_Sort_string Tryz.sortStr blk off cap ss W hH hblk hsz),
   fun p cap W => callsIn_wide.2 (AnyM.slices_Sort_string_none Tryz.sortStr p cap W)⟩

/-- maps.Keys: a function value over one new block, which holds the map. -/
theorem Tryz.maps_Keys_Str (mb : Option Nat) (W : World) : CallsIn Fence.wide 5 Tryz.prog 113 #[.map mb] W fun e w' => e = .returned (.func (.func 145) #[] #[.pointer (some ⟨W.heap.size, 0, none⟩)]) ∧ w' = W.alloc (.cells #[.map mb] 115) :=
  AnyZ.keys_in Tryz.keysStr Fence.wide 5 trivial rfl mb W

set_option maxHeartbeats 1000000 in
set_option maxRecDepth 100000 in
/-- slices.Sorted of those: a new slice that holds the keys, sorted. -/
theorem Tryz.slices_Sorted_Str {H : Type} (b nn : Nat) (D0 : DataW H) (R : Value → Option (DataW H × List MemPlace)) (w : World) (hown : w.ownsMap Tryz.prog 9 R b nn D0) (hmax : Maps.size D0 ≤ maxLen) (hbytes : Maps.size D0 * 16 ≤ 140737488355328) :
    CallsIn Fence.wide 5 Tryz.prog 112 #[.func (.func 145) #[] #[.pointer (some ⟨w.heap.size, 0, none⟩)]] (w.alloc (.cells #[.map (some b)] 115)) fun e w' => ∃ (v : Value) (ss : List (List UInt8)), e = .returned v ∧ ss.Perm (strKeys D0) ∧
      w'.ownsRow (w.alloc (.cells #[.map (some b)] 115)).heap.size 9 1 v ss.length ((ss.mergeSort (fun x y => decide (x ≤ y))).map encStr) ∧ (v = .slice none 0 0 ↔ ss = []) ∧ Below (w.alloc (.cells #[.map (some b)] 115)).heap.size (w.alloc (.cells #[.map (some b)] 115)) w' := by
  have hbl := hown.lt
  have hseq : SeqGives Fence.wide 2 Tryz.prog 145 #[.pointer (some ⟨w.heap.size, 0, none⟩)] encStr (fun ss => ss.Perm (strKeys D0)) (Maps.size D0) (w.alloc (.cells #[.map (some b)] 115)) :=
    AnyZ.keys_gives (ρ := Tryz.keysStr_ren) { Tryz.keysStr with } Fence.wide _ trivial rfl (by omega) w.heap.size b nn D0 _ (by simp) (by simp) (by
      obtain ⟨es, clock, hb, Ft, hs, hD⟩ := hown
      exact ⟨es, clock, (Below.heap_alloc _ _ b hbl).trans hb, Ft, hs, hD⟩)
  exact AnyZ.sorted_in Tryz.sortedStr Fence.wide 5 trivial trivial trivial trivial rfl (by omega) (Tryz.sortsStr _) (enters_of Tryz.func144 (by kernel_rfl) rfl) 145 #[.pointer (some ⟨w.heap.size, 0, none⟩)] trivial (enters_of Tryz.func145 (by kernel_rfl) rfl) _ _ hmax hbytes _ hseq


theorem Tryz.sortsInt (m : Nat) : AnyZI.SortsIn Tryz.prog Tryz.sortedInt_ren Fence.wide m :=
  ⟨fun blk off cap ss W hH hblk hsz => callsIn_wide.2 (AnyM.slices_Sort_int Tryz.sortInt blk off cap ss W hH hblk hsz),
   fun p cap W => callsIn_wide.2 (AnyM.slices_Sort_int_none Tryz.sortInt p cap W)⟩

/-- maps.Keys: a function value over one new block, which holds the map. -/
theorem Tryz.maps_Keys_Int (mb : Option Nat) (W : World) : CallsIn Fence.wide 5 Tryz.prog 58 #[.map mb] W fun e w' => e = .returned (.func (.func 103) #[] #[.pointer (some ⟨W.heap.size, 0, none⟩)]) ∧ w' = W.alloc (.cells #[.map mb] 86) :=
  AnyZI.keys_in Tryz.keysInt Fence.wide 5 trivial rfl mb W

set_option maxHeartbeats 1000000 in
set_option maxRecDepth 100000 in
/-- slices.Sorted of those: a new slice that holds the keys, sorted. -/
theorem Tryz.slices_Sorted_Int {H : Type} (b nn : Nat) (D0 : DataW H) (R : Value → Option (DataW H × List MemPlace)) (w : World) (hown : w.ownsMap Tryz.prog 2 R b nn D0) (hmax : Maps.size D0 ≤ maxLen) (hbytes : Maps.size D0 * 8 ≤ 140737488355328) :
    CallsIn Fence.wide 5 Tryz.prog 57 #[.func (.func 103) #[] #[.pointer (some ⟨w.heap.size, 0, none⟩)]] (w.alloc (.cells #[.map (some b)] 86)) fun e w' => ∃ (v : Value) (ss : List Int), e = .returned v ∧ ss.Perm (intKeys D0) ∧
      w'.ownsRow (w.alloc (.cells #[.map (some b)] 86)).heap.size 2 1 v ss.length ((ss.mergeSort (fun x y => decide (x ≤ y))).map encZ) ∧ (v = .slice none 0 0 ↔ ss = []) ∧ Below (w.alloc (.cells #[.map (some b)] 86)).heap.size (w.alloc (.cells #[.map (some b)] 86)) w' := by
  have hbl := hown.lt
  have hseq : SeqGives Fence.wide 2 Tryz.prog 103 #[.pointer (some ⟨w.heap.size, 0, none⟩)] encZ (fun ss => ss.Perm (intKeys D0)) (Maps.size D0) (w.alloc (.cells #[.map (some b)] 86)) :=
    AnyZI.keys_gives (ρ := Tryz.keysInt_ren) { Tryz.keysInt with } Fence.wide _ trivial rfl (by omega) w.heap.size b nn D0 _ (by simp) (by simp) (by
      obtain ⟨es, clock, hb, Ft, hs, hD⟩ := hown
      exact ⟨es, clock, (Below.heap_alloc _ _ b hbl).trans hb, Ft, hs, hD⟩)
  exact AnyZI.sorted_in Tryz.sortedInt Fence.wide 5 trivial trivial trivial trivial rfl (by omega) (Tryz.sortsInt _) (enters_of Tryz.func102 (by kernel_rfl) rfl) 103 #[.pointer (some ⟨w.heap.size, 0, none⟩)] trivial (enters_of Tryz.func103 (by kernel_rfl) rfl) _ _ hmax hbytes _ hseq

end Go.Proofs

/- Package path: what each function answers. -/
namespace Go.Proofs.YtmigbgfgnhkmnaaGreatDoor
open Go.RowKit Go.Av

set_option maxHeartbeats 400000 in
theorem name_any (s : Str) (w : World) (hs : s.length ≤ 4294967280) :
    Calls Tryz.prog 156 #[.string (mkB s)] w fun e w' => e = .returned (.bool (nameOk s)) ∧ w = w' := by
  go_enter Tryz.func156, Tryz.ntmps156
  go_wp2
  go_loop [6] (fun i => ∃ k : Nat, k ≤ s.length ∧ i = .int .i64 k ∧ (s.take k).all okByte = true) (fun i => s.length - (intOf i).toNat)
  case atStart => exact ⟨0, Nat.zero_le _, rfl, by simp⟩
  case round =>
    obtain ⟨k, hk, rfl, hall⟩ := hrel
    have hall' := Lib.hid hall; clear hall
    go_wp2
    all_goals first
      | (go_round
         case rel => exact ⟨k + 1, by omega, by go_num, all_take hall'.out (by assumption) (by simp [okByte]; omega)⟩
         case measure => simp [intOf]; omega)
      | (go_ret; exact ⟨ret_bool (by decide), rfl⟩)
      | (have hlt : k < s.length := by assumption
         go_ret
         exact ⟨ret_bool (by rw [name_bad (k := k) hlt (by simp [okByte]; omega)]), rfl⟩)
      | (have hk' : k = s.length := by omega
         go_ret
         exact ⟨ret_bool (name_good (by have := hall'.out; rw [hk', List.take_length] at this; exact this) _ (by go_light; clear hall'; grind)), rfl⟩)


set_option maxHeartbeats 1000000 in
set_option maxRecDepth 100000 in
theorem good_any (p : Str) (w : World) (hp : p.length ≤ 4294967280) (hg : Gl w) :
    Calls Tryz.prog 125 #[.string (mkB p)] w fun e w' => e = .returned (.bool (good p)) ∧ Pu w w' := by
  cases hr : restOf p with
  | none =>
    have hgd : good p = false := by simp [good, hr]
    have H := Lib.hid hr; clear hr
    have Hg := Lib.hid hgd; clear hgd
    have Hl := Lib.hid hg; clear hg
    go_enter Tryz.func125, Tryz.ntmps125
    go_wp2_with (go_at_call 155; refine (cut_no _ _ H.out).mono ?_; rintro e w' ⟨rfl, rfl⟩)
    go_ret
    exact ⟨ret_bool (by rw [Hg.out]), Below.refl _ _⟩
  | some r =>
    obtain rfl : p = 47 :: r := restOf_some hr
    clear hr
    by_cases hlen : (r.length : Int) + 1 ≤ 200
    · have hpl := pieces_len r
      have hp0 := pieces_pos r
      have Hg := Lib.hid hg; clear hg
      go_enter Tryz.func125, Tryz.ntmps125
      go_wp2_with (first
        | (go_at_call 155; refine (cut_yes _ _).mono ?_; rintro e w' ⟨rfl, rfl⟩)
        | (go_at_call 130; refine (split_any r w (by omega) Hg.out).mono ?_; rintro e w' ⟨rfl, rfl⟩))
      go_loop [24] (fun i => ∃ k : Nat, k ≤ (pieces r).length ∧ i = .int .i64 k ∧ ((pieces r).take k).all nameOk = true) (fun i => (pieces r).length - (intOf i).toNat)
      case atStart => exact ⟨0, Nat.zero_le _, rfl, by simp⟩
      case round =>
        obtain ⟨k, hk, rfl, hall⟩ := hrel
        have Ha := Lib.hid hall; clear hall
        by_cases hlt : k < (pieces r).length
        · obtain ⟨x, hx⟩ : ∃ x, x = (pieces r)[k] := ⟨_, rfl⟩
          have hc : (w.alloc (.cells ((pieces r).map fun x => Value.string (mkB x)).toArray 9)).cell? ⟨w.heap.size, k, none⟩ = some (.string (mkB x)) := by
            rw [hx]; simp [hlt]
          have hxl : x.length ≤ 4294967280 := by have := pieces_elem r x (by rw [hx]; exact List.getElem_mem _); omega
          have Hx := Lib.hid hx; clear hx
          cases hn : nameOk x
          all_goals
            go_wp2_with (first | (go_at_call 156; refine (name_any _ _ hxl).mono ?_; rintro e w' ⟨rfl, rfl⟩))
          · go_ret
            exact ⟨ret_bool (good_bad hlt (by rw [← Hx.out]; assumption)).symm, (Below.refl _ _).alloc (Nat.le_refl _) _⟩
          · go_round
            case rel => exact ⟨k + 1, by omega, by go_num, names_take Ha.out hlt (by rw [← Hx.out]; assumption)⟩
            case measure => simp [intOf]; omega
        · go_wp2
          go_ret
          refine ⟨ret_bool ?_, (Below.refl _ _).alloc (Nat.le_refl _) _⟩
          have hk' : k = (pieces r).length := by omega
          have := Ha.out
          rw [hk', List.take_length] at this
          rw [good_end this (by omega)]
          exact decide_eq_decide.2 (by omega)
    · have hgd : good (47 :: r) = false := by simp [good, restOf]; omega
      have Hg := Lib.hid hgd; clear hgd
      have Hl := Lib.hid hg; clear hg
      go_enter Tryz.func125, Tryz.ntmps125
      go_wp2_with (go_at_call 155; refine (cut_yes _ _).mono ?_; rintro e w' ⟨rfl, rfl⟩)
      go_ret
      exact ⟨ret_bool (by rw [Hg.out]), Below.refl _ _⟩

theorem good_head {p : Str} (h : good p = true) : ∃ r, p = 47 :: r ∧ r.length ≤ 199 := by
  unfold good at h
  split at h
  · cases h
  · rename_i r hr
    have := restOf_some hr
    subst this
    simp at h
    exact ⟨r, rfl, by omega⟩

set_option maxHeartbeats 1000000 in
set_option maxRecDepth 100000 in
theorem parts_any (p : Str) (w : World) (hp : p.length ≤ 4294967280) (hg : Gl w) :
    Calls Tryz.prog 99 #[.string (mkB p)] w (RetS 9 w (parts p)) := by
  have Hp := Lib.hid hp; clear hp
  have Hg := Lib.hid hg; clear hg
  cases hgd : good p with
  | false =>
    have hps : parts p = [] := by simp [parts, hgd]
    have Hps := Lib.hid hps; clear hps
    have H := Lib.hid hgd; clear hgd
    go_enter Tryz.func99, Tryz.ntmps99
    go_wp2_with (go_at_call 125; refine (good_any _ _ Hp.out Hg.out).mono ?_; rw [H.out]; rintro e w1 ⟨rfl, hb1⟩)
    go_ret
    exact ⟨_, rfl, by rw [Hps.out]; exact SlS.nil _ _, hb1⟩
  | true =>
    obtain ⟨r, rfl, hr⟩ := good_head hgd
    have hps : parts (47 :: r) = pieces r := by simp [parts, hgd]
    have Hps := Lib.hid hps; clear hps
    have H := Lib.hid hgd; clear hgd
    go_enter Tryz.func99, Tryz.ntmps99
    go_wp2_with (first
      | (go_at_call 125; refine (good_any _ _ Hp.out Hg.out).mono ?_; rw [H.out]; rintro e w1 ⟨rfl, hb1⟩)
      | (go_at_call 130; refine (split_any r _ (by omega) (Hg.out.pu hb1)).mono ?_; rintro e w2 ⟨rfl, rfl⟩))
    go_ret
    exact ⟨_, rfl, by rw [Hps.out]; exact SlS.alloc _ _ _, hb1.tr (pu_alloc _ _)⟩


/-- What Parent answers. -/
def parentV : Option Str → Value
  | none => .tuple #[.string (mkB []), .bool false]
  | some u => .tuple #[.string (mkB u), .bool true]

set_option maxHeartbeats 1000000 in
set_option maxRecDepth 100000 in
theorem parent_any (p : Str) (w : World) (hp : p.length ≤ 4294967280) (hg : Gl w) :
    Calls Tryz.prog 95 #[.string (mkB p)] w fun e w' => e = .returned (parentV (parent p)) ∧ Pu w w' := by
  have Hp := Lib.hid hp; clear hp
  have Hg := Lib.hid hg; clear hg
  by_cases h2 : (parts p).length < 2
  · have hps : parent p = none := by simp [parent, h2]
    rw [hps]
    go_enter Tryz.func95, Tryz.ntmps95
    go_wp2_with (go_at_call 99; refine (parts_any _ _ Hp.out Hg.out).mono ?_; rintro e w1 ⟨v, rfl, hv, hb1⟩; obtain ⟨a, cap, rfl⟩ := hv.len)
    go_ret2
    exact ⟨rfl, hb1⟩
  · have hj := joinS_dropLast p
    obtain ⟨n, hn⟩ : ∃ n, n = (parts p).length := ⟨_, rfl⟩
    have hps : parent p = some (47 :: joinS ((parts p).take (n - 1))) := by rw [parent, if_neg h2, List.dropLast_eq_take, hn]
    have h8 := parts_len p
    rw [hps]
    have Hn := Lib.hid hn
    rw [← hn] at h2 h8
    rw [List.dropLast_eq_take, ← hn] at hj
    clear hn hps
    go_enter Tryz.func95, Tryz.ntmps95
    go_wp2_with (first
      | (go_at_call 99; refine (parts_any _ _ Hp.out Hg.out).mono ?_; rintro e w1 ⟨v, rfl, hv, hb1⟩; obtain ⟨b, off, cap, rfl, hcap, hblt, _⟩ := hv.pos (by rw [← Hn.out]; omega); rw [← Hn.out] at hcap ⊢; rw [← Hn.out] at hv)
      | (go_at_call 127; refine (join_any ((parts p).take (n - 1)) _ _ (hv.take Hn.out (n - 1) (by omega)) (by simp; omega) (by omega)).mono ?_; rintro e w2 ⟨rfl, hb2⟩))
    go_ret2
    refine ⟨?_, hb1.tr hb2⟩
    show Ending.returned (.tuple #[.string (mkB [47] ++ mkB _), .bool true]) = _
    rw [mkB_append]
    rfl


set_option maxHeartbeats 1000000 in
set_option maxRecDepth 100000 in
theorem nameOf_any (p : Str) (w : World) (hp : p.length ≤ 4294967280) (hg : Gl w) :
    Calls Tryz.prog 132 #[.string (mkB p)] w fun e w' => e = .returned (.string (mkB (nameOf p))) ∧ Pu w w' := by
  have Hp := Lib.hid hp; clear hp
  have Hg := Lib.hid hg; clear hg
  by_cases h2 : (parts p).length = 0
  · have hps : nameOf p = [] := by simp [nameOf, List.length_eq_zero_iff.1 h2]
    rw [hps]
    have h3 : parts p = [] := List.length_eq_zero_iff.1 h2
    have H3 := Lib.hid h3; clear h3 h2 hps
    go_enter Tryz.func132, Tryz.ntmps132
    go_wp2_with (go_at_call 99; refine (parts_any _ _ Hp.out Hg.out).mono ?_; rintro e w1 ⟨v, rfl, hv, hb1⟩; rw [H3.out] at hv; obtain ⟨a, cap, rfl, _⟩ := hv.zero)
    go_ret
    exact ⟨rfl, hb1⟩
  · obtain ⟨n, hn⟩ : ∃ n, n = (parts p).length := ⟨_, rfl⟩
    have h8 := parts_len p
    rw [← hn] at h2 h8
    have hps : nameOf p = (parts p)[n - 1]'(by omega) := by
      simp [nameOf, List.getLastD_eq_getLast?, List.getLast?_eq_getElem?, ← hn, List.getElem?_eq_getElem (show n - 1 < (parts p).length by omega)]
    have hx : ∀ h : n - 1 < (parts p).length, (parts p)[n - 1] = nameOf p := fun _ => hps.symm
    have Hx := Lib.hid hx
    have Hn := Lib.hid hn
    clear hps hx hn
    have h2' : ((n : Int) == 0) = false := by simp; omega
    go_enter Tryz.func132, Tryz.ntmps132
    go_wp2_with (go_at_call 99; refine (parts_any _ _ Hp.out Hg.out).mono ?_; rintro e w1 ⟨v, rfl, hv, hb1⟩; obtain ⟨b, off, cap, rfl, hcap, hblt, hc⟩ := hv.pos (by rw [← Hn.out]; omega); have hc1 := hc (n - 1) (by rw [← Hn.out]; omega); rw [Hx.out] at hc1; clear hc; rw [← Hn.out] at hcap ⊢; rw [← Hn.out] at hv)
    go_ret
    exact ⟨rfl, hb1⟩


/-- What Number answers. -/
def numberV : Option Str → Value
  | none => .tuple #[.string (mkB []), .int .i64 1]
  | some u => .tuple #[.string (mkB u), .int .i64 0]

set_option maxHeartbeats 1000000 in
set_option maxRecDepth 100000 in
theorem number_any (p : Str) (n : Int) (w : World) (hp : p.length ≤ 1000000) (hg : Gl w) :
    Calls Tryz.prog 137 #[.string (mkB p), .int .i64 n] w fun e w' => e = .returned (numberV (number p n)) ∧ Pu w w' := by
  have Hg := Lib.hid hg; clear hg
  have hp2 : p.length ≤ 4294967280 := by omega
  have Hp2 := Lib.hid hp2; clear hp2
  cases hgd : good p with
  | false =>
    have hn : number p n = none := by simp [number, hgd]
    rw [hn]
    have H := Lib.hid hgd; clear hgd hn
    go_enter Tryz.func137, Tryz.ntmps137
    go_wp2_with (go_at_call 125; refine (good_any _ _ Hp2.out Hg.out).mono ?_; rw [H.out]; rintro e w1 ⟨rfl, hb1⟩)
    go_ret2
    exact ⟨rfl, hb1⟩
  | true =>
    by_cases h0 : 0 ≤ n
    · by_cases h1 : n ≤ 2147483647
      · have hil := itoa_len h0 h1
        obtain ⟨t, ht⟩ : ∃ t, t = Lib.itoa n := ⟨_, rfl⟩
        have hpad : pad n = List.replicate (10 - t.length) 48 ++ t := by rw [pad, ← ht]
        rw [← ht] at hil
        have e10 : ((10 : Int) - (t.length : Int)).toNat = 10 - t.length := by omega
        have hn : number p n = if good (p ++ (List.replicate (10 - t.length) 48 ++ t)) = true then some (p ++ (List.replicate (10 - t.length) 48 ++ t)) else none := by simp [number, hgd, h0, h1, hpad]
        rw [hn]
        have H := Lib.hid hgd; have Ht := Lib.hid ht; have E10 := Lib.hid e10
        clear hgd hn hpad ht e10
        obtain ⟨q, hq⟩ : ∃ q, q = p ++ (List.replicate (10 - t.length) 48 ++ t) := ⟨_, rfl⟩
        have Hq := Lib.hid hq
        have hql : q.length ≤ 4294967280 := by rw [hq]; simp; omega
        have Hql := Lib.hid hql
        rw [← hq]
        clear hq hql
        cases hgq : good q
        all_goals
          have Hgq := Lib.hid hgq
          clear hgq
          go_enter Tryz.func137, Tryz.ntmps137
          go_wp2_with fail
          refine (good_any _ _ Hp2.out Hg.out).mono ?_
          rw [H.out]
          rintro e w1 ⟨rfl, hb1⟩
          go_wp2_with fail
          refine (itoa_any _ _ h0 h1 (Hg.out.pu hb1)).mono ?_
          rw [← Ht.out]
          rintro e w2 ⟨rfl, hb2⟩
          go_wp2_with fail
          refine (zeros_any _ _ (by omega) (by omega)).mono ?_
          rw [E10.out]
          rintro e w3 ⟨rfl, hb3⟩
          go_wp2_with fail
          rw [← Hq.out]
          refine (good_any _ _ Hql.out (((Hg.out.pu hb1).pu hb2).pu hb3)).mono ?_
          rw [Hgq.out]
          rintro e w4 ⟨rfl, hb4⟩
          go_wp2_with fail
          go_ret2
          exact ⟨rfl, ((hb1.tr hb2).tr hb3).tr hb4⟩
      · have hn : number p n = none := by simp [number, h1]
        rw [hn]
        have H := Lib.hid hgd; clear hgd hn
        go_enter Tryz.func137, Tryz.ntmps137
        go_wp2_with (go_at_call 125; refine (good_any _ _ Hp2.out Hg.out).mono ?_; rw [H.out]; rintro e w1 ⟨rfl, hb1⟩)
        go_ret2
        exact ⟨rfl, hb1⟩
    · have hn : number p n = none := by simp [number, h0]
      rw [hn]
      have H := Lib.hid hgd; clear hgd hn
      go_enter Tryz.func137, Tryz.ntmps137
      go_wp2_with (go_at_call 125; refine (good_any _ _ Hp2.out Hg.out).mono ?_; rw [H.out]; rintro e w1 ⟨rfl, hb1⟩)
      go_ret2
      exact ⟨rfl, hb1⟩

end Go.Proofs.YtmigbgfgnhkmnaaGreatDoor
