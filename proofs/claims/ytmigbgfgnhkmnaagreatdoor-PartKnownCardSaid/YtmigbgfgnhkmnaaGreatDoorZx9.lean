/- Part 9 of a proof in parts: what the code of these packages does, and plain facts about it (Sorted, Paths, OfT). No condition of its own. -/
import Derived.Test.YtmigbgfgnhkmnaaGreatDoorZx8
import Derived.Sort.Walk0
/- slices.Sorted(maps.Keys(m)): the keys in their order. -/
namespace Go.Av
open Go.RowKit Go.Maps Go.Sort

theorem perm_sorted_eq {α : Type} {r : α → α → Prop} (ha : ∀ a b, r a b → r b a → a = b) : ∀ {l m : List α}, l.Perm m → l.Pairwise r → m.Pairwise r → l = m := by
  intro l m h h1 h2
  exact h.eq_of_pairwise (fun a b _ _ => ha a b) h1 h2

theorem key_lt (x y : Str) : (Key.lt x y = true) ↔ x < y := by
  show bytesBefore x y = true ↔ _
  rw [← bytesLess_before, Go.Proofs.bytesLess_eq]; simp
/-- A sorted map's keys are what sorting any order of them gives. -/
theorem sorted_keys {V : Type} {l : List (Str × V)} (h : asorted l) {ss : List Str} (hp : ss.Perm (l.map (·.1))) : ss.mergeSort (fun x y => decide (x ≤ y)) = l.map (·.1) := by
  have hs := List.pairwise_mergeSort (le := fun (x y : Str) => decide (x ≤ y)) (fun a b c h1 h2 => by simp at h1 h2 ⊢; exact List.le_trans h1 h2) (fun a b => by simp; exact List.le_total a b) ss
  refine perm_sorted_eq (r := fun x y => x ≤ y) (fun a b h1 h2 => List.le_antisymm h1 h2) ((List.mergeSort_perm _ _).trans hp) (hs.imp fun h => by simpa using h) ?_
  unfold asorted at h
  rw [List.pairwise_map]
  exact h.imp fun hab => List.le_of_lt ((key_lt _ _).1 hab)
theorem sorted_keysI {V : Type} {l : List (Int × V)} (h : asorted l) {ss : List Int} (hp : ss.Perm (l.map (·.1))) : ss.mergeSort (fun x y => decide (x ≤ y)) = l.map (·.1) := by
  have hs := List.pairwise_mergeSort (le := fun (x y : Int) => decide (x ≤ y)) (fun a b c h1 h2 => by simp at h1 h2 ⊢; omega) (fun a b => by simp; omega) ss
  refine perm_sorted_eq (r := fun x y => x ≤ y) (fun a b h1 h2 => by omega) ((List.mergeSort_perm _ _).trans hp) (hs.imp fun h => by simpa using h) ?_
  unfold asorted at h
  rw [List.pairwise_map]
  exact h.imp fun hab => by have : _ < _ := of_decide_eq_true hab; omega

end Go.Av

/- tree.Tree: Paths. -/
namespace Go.Proofs.YtmigbgfgnhkmnaaGreatDoor
open Go.RowKit Go.Av Go.Maps Go.Sort

attribute [local go_sem ↓] Go.wp_at_zero Go.wp_at_succ

variable {w w' : World} {tp mp : Nat} {nb : Str → Nat} {T : TreeD}

theorem keysS_any (mb : Nat) (w : World) : Calls Tryz.prog 113 #[.map (some mb)] w fun e w' => e = .returned (.func (.func 145) #[] #[.pointer (some ⟨w.heap.size, 0, none⟩)]) ∧ w' = w.alloc (.cells #[.map (some mb)] 115) :=
  (callsIn_wide (n := 5)).1 (Tryz.maps_Keys_Str (some mb) w)

theorem sortedS_any {V : Type} {f : Str → V → Value} {l : List (Str × V)} (mb : Nat) (w : World) (h : MapV Tryz.prog 9 w f mb l) (hs : asorted l) (hl : l.length ≤ 1000000) :
    Calls Tryz.prog 112 #[.func (.func 145) #[] #[.pointer (some ⟨w.heap.size, 0, none⟩)]] (w.alloc (.cells #[.map (some mb)] 115)) (OwnS (w.heap.size) (w.alloc (.cells #[.map (some mb)] 115)) (l.map (·.1))) := by
  have hsz : Maps.size (DataW.map (enc f l)) = l.length := enc_len f l
  refine ((callsIn_wide (n := 5)).1 (Tryz.slices_Sorted_Str mb l.length (.map (enc f l)) tok w h (by rw [hsz]; unfold maxLen; omega) (by rw [hsz]; omega))).mono ?_
  rintro e w1 ⟨v, ss, rfl, hS, hrow, hnil, hb⟩
  have hk : strKeys (DataW.map (enc f l)) = l.map (·.1) := by simp [strKeys, enc, List.map_map, Function.comp_def, Key.lit, strOf]
  rw [hk] at hS
  have hm := sorted_keys hs hS
  have hln : ss.length = (l.map (·.1)).length := hS.length_eq
  rw [hm, hln] at hrow
  have e1 : (l.map (·.1)).map encStr = strV (l.map (·.1)) := rfl
  rw [e1] at hrow
  exact ⟨v, rfl, ownsRow_base_a hrow (by simp), hb⟩


set_option maxHeartbeats 1000000 in
set_option maxRecDepth 100000 in
theorem paths_any (w : World) (h : TreeIn w tp mp nb T) (ho : TreeOk T) :
    Calls Tryz.prog 66 #[.pointer (some ⟨tp, 0, none⟩)] w (RetS 9 w (pathsT T)) := by
  have c1 := h.cell1
  have hl : T.nodes.length ≤ 1000000 := by have := ho.many; have := ho.room1; omega
  have H := Lib.hid h
  have Ho := Lib.hid ho
  clear h ho
  go_enter Tryz.func66, Tryz.ntmps66
  go_wp2_with (first
    | (go_at_call 113; refine (keysS_any mp _).mono ?_; rintro e w1 ⟨rfl, rfl⟩)
    | (go_at_call 112; refine (sortedS_any mp w H.out.map Ho.out.rise hl).mono ?_; rintro e w2 ⟨v, rfl, hrow, hb2⟩))
  go_ret
  exact ⟨v, rfl, SlS.of_own hrow, (pu_alloc _ _).tr hb2⟩

end Go.Proofs.YtmigbgfgnhkmnaaGreatDoor

/- tree.Tree: Of. -/
namespace Go.Proofs.YtmigbgfgnhkmnaaGreatDoor
open Go.RowKit Go.Av Go.Maps Go.Sort

attribute [local go_sem ↓] Go.wp_at_zero Go.wp_at_succ

variable {w w' : World} {tp mp : Nat} {nb : Str → Nat} {T : TreeD}

theorem infoStr : (Tryz.prog.info? 9).map (fun i => (i.zero, i.size, i.bytes)) = some (some (.string ⟨#[]⟩), 1, 16) := by kernel_rfl
/-- The first k of a tree's paths that are a session's. -/
def ofK (T : TreeD) (sess : Int) (k : Nat) : List Str := if 0 < sess then ((T.nodes.take k).filter fun x => x.2.stat.owner == sess).map (·.1) else []
theorem ofK_all (T : TreeD) (sess : Int) : ofK T sess T.nodes.length = ofT T sess := by simp [ofK, ofT]
theorem ofK_succ (T : TreeD) (sess : Int) (k : Nat) (hk : k < T.nodes.length) : ofK T sess (k + 1) = ofK T sess k ++ (if 0 < sess ∧ T.nodes[k].2.stat.owner = sess then [T.nodes[k].1] else []) := by
  unfold ofK
  by_cases h0 : 0 < sess
  · simp only [if_pos h0, List.take_succ_eq_append_getElem hk, List.filter_append, List.map_append]
    by_cases h1 : T.nodes[k].2.stat.owner = sess
    · simp [h0, h1]
    · simp [h1]
  · simp [h0]
theorem ofK_len (T : TreeD) (sess : Int) (k : Nat) : (ofK T sess k).length ≤ T.nodes.length := by
  unfold ofK
  split
  · rw [List.length_map]
    exact Nat.le_trans (List.length_filter_le _ _) (by rw [List.length_take]; omega)
  · simp


set_option maxHeartbeats 4000000 in
set_option maxRecDepth 100000 in
theorem of_any (sess : Int) (w : World) (h : TreeIn w tp mp nb T) (ho : TreeOk T) (h0 : 0 < T.nodes.length) :
    Calls Tryz.prog 54 #[.pointer (some ⟨tp, 0, none⟩), .int .i64 sess] w (OwnS w.heap.size w (ofT T sess)) := by
  obtain ⟨i0, hi, hz0, hz1, hz2⟩ := info_parts infoStr
  have Hi := Lib.hid hi
  have hnl : T.nodes.length ≤ 500 := by have := ho.many; have := ho.room1; omega
  have H := Lib.hid h
  have Ho := Lib.hid ho
  have hpl : (pathsT T).length = T.nodes.length := by simp [pathsT]
  clear hi h ho
  go_enter Tryz.func54, Tryz.ntmps54
  go_wp2_with (go_at_call 66; refine (paths_any _ H.out Ho.out).mono ?_; rintro e w1 ⟨v, rfl, hv, hb1⟩; obtain ⟨pb, poff, pcap, rfl, hpc, hpb, hcell⟩ := hv.pos (by omega); rw [hpl] at hpc ⊢; have HC := Lib.hid hcell; have HB1 := Lib.hid hb1; clear hcell hb1 hv)
  have Hpl := Lib.hid hpl; clear hpl
  go_loopw [5, 11] (fun v i wr => ∃ k : Nat, k ≤ T.nodes.length ∧ i = .int .i64 k ∧ Hid (wr.ownsRow w1.heap.size 9 1 v (ofK T sess k).length (strV (ofK T sess k))) ∧ Hid (Pu w1 wr)) (fun _ i _ => T.nodes.length - (intOf i).toNat)
  case atStart => exact ⟨0, Nat.zero_le _, rfl, Lib.hid (by have : ofK T sess 0 = [] := by simp [ofK]
                                                            rw [this]; exact ⟨rfl, .inl ⟨rfl, rfl⟩⟩), Lib.hid (Below.refl _ _)⟩
  case round =>
    obtain ⟨k, hk, rfl, Hown, Hpu⟩ := hrel
    by_cases hlt : k < T.nodes.length
    · obtain ⟨x, hx⟩ : ∃ x, x = T.nodes[k] := ⟨_, rfl⟩
      have hxm : x ∈ T.nodes := by rw [hx]; exact List.getElem_mem hlt
      have hxl := good_len (Ho.out.good _ hxm)
      have hg := aget_of_mem Ho.out.rise (k := x.1) (v := x.2) hxm
      have Tr := H.out.pu (HB1.out.tr Hpu.out)
      have c1 := Tr.cell1
      have l1 := Tr.look_some x.1 (by omega) hg
      obtain ⟨nv, hbn, _⟩ := Tr.node _ hxm
      have cn : wr.cell? ⟨nb x.1, 4, none⟩ = some (.int .i64 x.2.stat.owner) := cell_of_blk hbn
      have hc : wr.cell? ⟨pb, poff + k, none⟩ = some (.string (mkB x.1)) := by
        rw [(bcell Hpu.out).1 pb (poff + k) hpb, HC.out k (by rw [Hpl.out]; exact hlt)]
        simp [pathsT, hx]
      have hsz := Hpu.out.size
      have hsucc := ofK_succ T sess k hlt
      have hlen := ofK_len T sess k
      rw [← hx] at hsucc
      have Hsucc := Lib.hid hsucc
      have Hown' := Hown.out
      obtain ⟨va, vc, rfl, _⟩ := (Sl.of_own Hown').form
      clear hx hxm hg Tr hbn hsucc
      by_cases hs : 0 < sess
      · by_cases he : x.2.stat.owner = sess
        · have e : ofK T sess (k + 1) = ofK T sess k ++ [x.1] := by rw [Hsucc.out, if_pos ⟨hs, he⟩]
          have E := Lib.hid e
          clear e
          go_wp2_with (at_builtin; refine wpList_append_own _ rfl (.tmp 31) (.tmp 33) 55 rfl w1.heap.size 9 i0 _ 1 16 Tryz.underlying55 Hi.out hz0 hz1 hz2 rfl (by decide) (.slice va (ofK T sess k).length vc) _ _ rfl (own_pu Hown' (pu_alloc _ _)) ⟨wr.heap.size, 0, none⟩ 1 1 [.string (mkB x.1)] rfl rfl (news_at (al1 wr _)) (by intro u hu; simp at hu; subst hu; rfl) (by unfold maxLen; omega) (by omega) (by simp; omega) ?_; intro v' w7 hown' hgrow _)
          go_roundw
          case rel =>
            refine ⟨k + 1, by omega, by go_num, Lib.hid ?_, Lib.hid ((Hpu.out.tr (pu_alloc _ _)).grown hgrow (by simp; omega) (fun b hb => own_ge Hown' b hb))⟩
            rw [E.out]
            simpa [strV] using hown'
          case measure => simp [intOf]; omega
        · have e : ofK T sess (k + 1) = ofK T sess k := by rw [Hsucc.out, if_neg (fun h => he h.2), List.append_nil]
          have E := Lib.hid e
          clear e
          go_wp2
          go_roundw
          case rel => exact ⟨k + 1, by omega, by go_num, by rw [E.out]; exact Hown, Hpu⟩
          case measure => simp [intOf]; omega
      · have e : ofK T sess (k + 1) = ofK T sess k := by rw [Hsucc.out, if_neg (fun h => hs h.1), List.append_nil]
        have E := Lib.hid e
        clear e
        go_wp2
        go_roundw
        case rel => exact ⟨k + 1, by omega, by go_num, by rw [E.out]; exact Hown, Hpu⟩
        case measure => simp [intOf]; omega
    · go_wp2
      go_ret
      have hk' : k = T.nodes.length := by omega
      have ho := Hown.out
      rw [hk', ofK_all] at ho
      exact ⟨_, rfl, ownsRow_base_a ho HB1.out.size, HB1.out.tr Hpu.out⟩


set_option maxHeartbeats 4000000 in
set_option maxRecDepth 100000 in
theorem of_none (sess : Int) (w : World) (h : TreeIn w tp mp nb T) (ho : TreeOk T) (h0 : T.nodes = []) :
    Calls Tryz.prog 54 #[.pointer (some ⟨tp, 0, none⟩), .int .i64 sess] w (OwnS w.heap.size w (ofT T sess)) := by
  have H := Lib.hid h
  have Ho := Lib.hid ho
  have e1 : pathsT T = [] := by simp [pathsT, h0]
  have e2 : ofT T sess = [] := by simp [ofT, h0]
  rw [e2]
  have E1 := Lib.hid e1
  clear h ho h0 e1 e2
  go_enter Tryz.func54, Tryz.ntmps54
  go_wp2_with (go_at_call 66; refine (paths_any _ H.out Ho.out).mono ?_; rw [E1.out]; rintro e w1 ⟨v, rfl, hv, hb1⟩; obtain ⟨pa, pcap, rfl, _⟩ := hv.zero; have HB1 := Lib.hid hb1; clear hb1 hv)
  refine wp_loop_rounds 1 ?_; rw [rounds_succ]
  go_wp2
  go_ret
  exact ⟨_, rfl, ⟨rfl, .inl ⟨rfl, rfl⟩⟩, HB1.out⟩

end Go.Proofs.YtmigbgfgnhkmnaaGreatDoor
