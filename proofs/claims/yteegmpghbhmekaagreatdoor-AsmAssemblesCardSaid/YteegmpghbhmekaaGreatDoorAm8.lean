import Derived.Test.YteegmpghbhmekaaGreatDoorAm7
import Derived.Shelf.SlSortCmp.WholeK
import Derived.Shelf.SlSortCmp.NoneTotal
import Derived.Laws.IdiomRangeMap
import Derived.Laws.StructEq
import Derived.Shelf.Strings.OnBuilder
import Derived.Shelf.Strconv.Itoa3
import Derived.Lib.AppendIntMem
import Derived.Laws.MakeOwn
import Derived.Lib.BufferMore
import Derived.Lib.UnsafeStr
namespace Go.As
theorem lt_tri : ∀ a b : Bytes, a < b ∨ a = b ∨ b < a
 | [], [] => .inr (.inl rfl)
 | [], _ :: _ => .inl (by simp)
 | _ :: _, [] => .inr (.inr (by simp))
 | x :: a, y :: b => by
   rw [List.cons_lt_cons_iff, List.cons_lt_cons_iff]
   by_cases h1 : x < y
   · exact .inl (.inl h1)
   by_cases h2 : y < x
   · exact .inr (.inr (.inl h2))
   have h3 : x = y := by
    apply UInt8.toNat_inj.1
    rw [UInt8.lt_iff_toNat_lt] at h1 h2; omega
   subst h3
   rcases lt_tri a b with h | h | h
   · exact .inl (.inr ⟨rfl, h⟩)
   · exact .inr (.inl (by rw [h]))
   · exact .inr (.inr (.inr ⟨rfl, h⟩))
theorem follows_self (x : Lb) : follows x x = false := by
 unfold follows
 simp [List.lt_irrefl]
theorem follows_asymm {x y : Lb} (h1 : follows x y = true) (h2 : follows y x = true) : False := by
 have := follows_trans h1 h2
 rw [follows_self] at this; cases this
theorem follows_total (x y : Lb) : follows x y = true ∨ x = y ∨ follows y x = true := by
 rw [follows_iff, follows_iff]
 obtain ⟨n1, d1, o1⟩ := x
 obtain ⟨n2, d2, o2⟩ := y
 simp only
 by_cases hd : d1 = d2
 · subst hd
   by_cases h1 : o1 < o2
   · exact .inl (.inr ⟨rfl, .inl h1⟩)
   by_cases h2 : o2 < o1
   · exact .inr (.inr (.inr ⟨rfl, .inl h2⟩))
   have ho : o1 = o2 := by omega
   subst ho
   rcases lt_tri n1 n2 with h | h | h
   · exact .inl (.inr ⟨rfl, .inr ⟨rfl, h⟩⟩)
   · subst h; exact .inr (.inl rfl)
   · exact .inr (.inr (.inr ⟨rfl, .inr ⟨rfl, h⟩⟩))
 · cases d1 <;> cases d2
   · exact absurd rfl hd
   · exact .inl (.inl ⟨rfl, rfl⟩)
   · exact .inr (.inr (.inl ⟨rfl, rfl⟩))
   · exact absurd rfl hd
theorem sorted_unique {l1 : List Lb} : ∀ {l2 : List Lb}, l1.Perm l2 → l1.Pairwise (fun a b => follows a b = true) → l2.Pairwise (fun a b => follows a b = true) → l1 = l2 := by
 induction l1 with
 | nil => intro l2 hp _ _; exact (hp.nil_eq)
 | cons x l1 ih =>
   intro l2 hp h1 h2
   cases l2 with
   | nil => exact absurd hp.symm.nil_eq (by simp)
   | cons y l2 =>
     have hx := List.pairwise_cons.1 h1
     have hy := List.pairwise_cons.1 h2
     by_cases hxy : x = y
     · subst hxy
       rw [ih (hp.cons_inv) hx.2 hy.2]
     · have m1 : x ∈ y :: l2 := hp.subset (List.mem_cons_self ..)
       have m2 : y ∈ x :: l1 := hp.symm.subset (List.mem_cons_self ..)
       have m1 : x ∈ l2 := (List.mem_cons.1 m1).resolve_left hxy
       have m2 : y ∈ l1 := (List.mem_cons.1 m2).resolve_left (Ne.symm hxy)
       exact (follows_asymm (hx.1 y m2) (hy.1 x m1)).elim
theorem ins_sorted {x : Lb} : ∀ {s : List Lb}, x ∉ s → s.Pairwise (fun a b => follows a b = true) → (insL x s).Pairwise (fun a b => follows a b = true)
 | [], _, _ => by rw [insL]; exact List.pairwise_cons.2 ⟨fun _ h => (List.not_mem_nil h).elim, List.Pairwise.nil⟩
 | y :: s, hn, h => by
   have hy := List.pairwise_cons.1 h
   rw [insL]
   split
   · rename_i hf
     refine List.pairwise_cons.2 ⟨fun z hz => ?_, ins_sorted (fun hm => hn (List.mem_cons_of_mem _ hm)) hy.2⟩
     rcases List.mem_cons.1 ((ins_perm x s).subset hz) with rfl | hz
     · exact hf
     · exact hy.1 z hz
   · rename_i hf
     have hxy : follows x y = true := by
      rcases follows_total x y with h | h | h
      · exact h
      · exact absurd (h ▸ List.mem_cons_self ..) hn
      · exact absurd h hf
     refine List.pairwise_cons.2 ⟨fun z hz => ?_, h⟩
     rcases List.mem_cons.1 hz with rfl | hz
     · exact hxy
     · exact follows_trans hxy (hy.1 z hz)
theorem sortL_sorted {l : List Lb} (hn : l.Nodup) : (sortL l).Pairwise (fun a b => follows a b = true) := by
 have gen : ∀ (l s : List Lb), (s ++ l).Nodup → s.Pairwise (fun a b => follows a b = true) → (l.foldl (fun s x => insL x s) s).Pairwise (fun a b => follows a b = true) := by
  intro l
  induction l with
  | nil => intro s _ h; exact h
  | cons x l ih =>
    intro s hn h
    rw [List.foldl_cons]
    have hnx : x ∉ s := fun hm => by
     rw [List.nodup_append] at hn
     exact hn.2.2 x hm x (List.mem_cons_self ..) rfl
    refine ih _ ?_ (ins_sorted hnx h)
    have hp : (insL x s ++ l).Perm (s ++ x :: l) := ((ins_perm x s).append_right l).trans (by rw [List.cons_append]; exact List.perm_middle.symm)
    exact hp.nodup_iff.2 hn
 exact gen l [] (by simpa using hn) List.Pairwise.nil
theorem sort_eq {l l' : List Lb} (hn : l.Nodup) (hp : l'.Perm l) (hs : ∀ (i j : Nat) (x y : Lb), i < j → l'[i]? = some x → l'[j]? = some y → follows y x = false) : l' = sortL l := by
 refine sorted_unique (hp.trans (sort_perm l).symm) ?_ (sortL_sorted hn)
 have hn' := hp.nodup_iff.2 hn
 rw [List.pairwise_iff_getElem]
 intro i j hi hj hij
 rcases follows_total l'[i] l'[j] with h | h | h
 · exact h
 · exact absurd ((List.getElem_inj hn').1 h) (by omega)
 · have := hs i j l'[i] l'[j] hij (by simp [hi]) (by simp [hj])
   rw [h] at this; cases this
end Go.As
namespace Go.Proofs.D
open Go Go.Den Go.As Go.Shelf Go.Sort Go.RowKit
set_option maxRecDepth 100000
instance : Inhabited Lb := ⟨⟨[], false, 0⟩⟩
def layF_ren : Go.Shelf.Ren := ⟨fun | 6 => 40 | 15 => 92 | 14 => 91 | 28 => 129 | 29 => 130 | 20 => 121 | 21 => 122 | 22 => 123 | 23 => 124 | 24 => 125 | 25 => 126 | 26 => 127 | 27 => 128 | 46 => 148 | 47 => 149 | 48 => 150 | 49 => 151 | 50 => 152 | 57 => 172 | n => n, fun | 22 => 23 | 24 => 80 | 25 => 82 | 3 => 3 | 39 => 98 | 0 => 0 | 53 => 161 | 55 => 178 | 4 => 4 | 46 => 171 | 45 => 170 | 50 => 45 | 5 => 5 | 9 => 9 | 66 => 192 | 70 => 196 | 76 => 213 | 77 => 102 | n => n, fun | n => n⟩
theorem layF : Go.Proofs.SlLaysF0.n6 Tryz.prog layF_ren where
 mixed := by kernel_rfl
 f6 := ⟨"slices.SortFunc[[]replevin/asm.Label,replevin/asm.Label]", by decide, Tryz.func40.trans (congrArg some (by kernel_rfl))⟩
 f14 := ⟨"slices.pdqsortCmpFunc[replevin/asm.Label]", by decide, Tryz.func91.trans (congrArg some (by kernel_rfl))⟩
 f15 := Tryz.func92.trans (congrArg some (by kernel_rfl))
 f20 := ⟨"slices.insertionSortCmpFunc[replevin/asm.Label]", by decide, Tryz.func121.trans (congrArg some (by kernel_rfl))⟩
 f21 := ⟨"slices.heapSortCmpFunc[replevin/asm.Label]", by decide, Tryz.func122.trans (congrArg some (by kernel_rfl))⟩
 f22 := ⟨"slices.breakPatternsCmpFunc[replevin/asm.Label]", by decide, Tryz.func123.trans (congrArg some (by kernel_rfl))⟩
 f23 := ⟨"slices.choosePivotCmpFunc[replevin/asm.Label]", by decide, Tryz.func124.trans (congrArg some (by kernel_rfl))⟩
 f24 := ⟨"slices.reverseRangeCmpFunc[replevin/asm.Label]", by decide, Tryz.func125.trans (congrArg some (by kernel_rfl))⟩
 f25 := ⟨"slices.partialInsertionSortCmpFunc[replevin/asm.Label]", by decide, Tryz.func126.trans (congrArg some (by kernel_rfl))⟩
 f26 := ⟨"slices.partitionEqualCmpFunc[replevin/asm.Label]", by decide, Tryz.func127.trans (congrArg some (by kernel_rfl))⟩
 f27 := ⟨"slices.partitionCmpFunc[replevin/asm.Label]", by decide, Tryz.func128.trans (congrArg some (by kernel_rfl))⟩
 f28 := Tryz.func129.trans (congrArg some (by kernel_rfl))
 f29 := Tryz.func130.trans (congrArg some (by kernel_rfl))
 f46 := ⟨"slices.siftDownCmpFunc[replevin/asm.Label]", by decide, Tryz.func148.trans (congrArg some (by kernel_rfl))⟩
 f47 := Tryz.func149.trans (congrArg some (by kernel_rfl))
 f48 := Tryz.func150.trans (congrArg some (by kernel_rfl))
 f49 := ⟨"slices.medianAdjacentCmpFunc[replevin/asm.Label]", by decide, Tryz.func151.trans (congrArg some (by kernel_rfl))⟩
 f50 := ⟨"slices.medianCmpFunc[replevin/asm.Label]", by decide, Tryz.func152.trans (congrArg some (by kernel_rfl))⟩
 f57 := ⟨"slices.order2CmpFunc[replevin/asm.Label]", by decide, Tryz.func172.trans (congrArg some (by kernel_rfl))⟩
 t0 := Tryz.underlying0
 a0 := Tryz.isAgg0
 z0 := Tryz.sizeOf0
 v0 := Tryz.zeroValue0
 t3 := Tryz.underlying3
 a3 := Tryz.isAgg3
 z3 := Tryz.sizeOf3
 v3 := Tryz.zeroValue3
 t4 := Tryz.underlying4
 a4 := Tryz.isAgg4
 z4 := Tryz.sizeOf4
 v4 := Tryz.zeroValue4
 t5 := Tryz.underlying5
 a5 := Tryz.isAgg5
 z5 := Tryz.sizeOf5
 v5 := Tryz.zeroValue5
 t9 := Tryz.underlying9
 a9 := Tryz.isAgg9
 z9 := Tryz.sizeOf9
 v9 := Tryz.zeroValue9
 t22 := Tryz.underlying23
 a22 := Tryz.isAgg23
 z22 := Tryz.sizeOf23
 v22 := Tryz.zeroValue23
 t25 := Tryz.underlying82
 a25 := Tryz.isAgg82
 z25 := Tryz.sizeOf82
 v25 := Tryz.zeroValue82
 t39 := Tryz.underlying98
 a39 := Tryz.isAgg98
 z39 := Tryz.sizeOf98
 v39 := Tryz.zeroValue98
 t45 := Tryz.underlying170
 a45 := Tryz.isAgg170
 z45 := Tryz.sizeOf170
 v45 := Tryz.zeroValue170
 t46 := Tryz.underlying171
 a46 := Tryz.isAgg171
 z46 := Tryz.sizeOf171
 v46 := Tryz.zeroValue171
 t50 := Tryz.underlying45
 a50 := Tryz.isAgg45
 z50 := Tryz.sizeOf45
 v50 := Tryz.zeroValue45
 t53 := Tryz.underlying161
 a53 := Tryz.isAgg161
 z53 := Tryz.sizeOf161
 v53 := Tryz.zeroValue161
 t55 := Tryz.underlying178
 a55 := Tryz.isAgg178
 z55 := Tryz.sizeOf178
 v55 := Tryz.zeroValue178
 t66 := Tryz.underlying192
 a66 := Tryz.isAgg192
 z66 := Tryz.sizeOf192
 v66 := Tryz.zeroValue192
 t70 := Tryz.underlying196
 a70 := Tryz.isAgg196
 z70 := Tryz.sizeOf196
 v70 := Tryz.zeroValue196
 t76 := Tryz.underlying213
 a76 := Tryz.isAgg213
 z76 := Tryz.sizeOf213
 v76 := Tryz.zeroValue213
 t77 := Tryz.underlying102
 a77 := Tryz.isAgg102
 z77 := Tryz.sizeOf102
 v77 := Tryz.zeroValue102
theorem swoL : SWO (ltOf cmpV) where
 irrefl x := by unfold ltOf; rw [cmp_follows]; exact follows_self x
 trans x y z h1 h2 := by unfold ltOf at *; rw [cmp_follows] at *; exact follows_trans h1 h2
 ntrans x y z h1 h2 := by
  unfold ltOf at *
  rw [cmp_follows] at *
  rcases follows_total x y with h | rfl | h
  · rw [h] at h1; cases h1
  · exact h2
  rcases follows_total y z with g | rfl | g
  · rw [g] at h2; cases h2
  · exact h1
  · cases hf : follows x z with
    | false => rfl
    | true => exact (follows_asymm hf (follows_trans g h)).elim
theorem lbC_len (x : Lb) : (lbC x).length = 3 := rfl
theorem flat_len (d : List Lb) : ((d.map lbC).flatten).length = d.length * 3 := by
 induction d with
 | nil => rfl
 | cons x d ih => rw [List.map_cons, List.flatten_cons, List.length_append, ih, lbC_len, List.length_cons]; omega
theorem flat_lb (d : List Lb) : flatK lbC 3 ⟨d⟩ = ⟨(d.map lbC).flatten⟩ := by
 have hl := flat_len d
 refine ext_get! (by rw [size_flatK]; show d.length * 3 = ((d.map lbC).flatten).length; omega) fun t ht => ?_
 have ht' : t < (⟨d⟩ : Array Lb).size * 3 := by rw [size_flatK] at ht; exact ht
 have ht2 : t < d.length * 3 := ht'
 have hj : t / 3 < d.length := by omega
 have hi : t % 3 < 3 := Nat.mod_lt _ (by decide)
 rw [get_flatK _ _ _ t ht']
 have hx : (⟨d⟩ : Array Lb)[t / 3]! = d[t / 3] := by rw [getElem!_pos _ _ (by show t / 3 < d.length; exact hj)]; rfl
 rw [hx]
 have h1 : (d.map lbC)[t / 3]? = some (lbC d[t / 3]) := by simp [hj]
 have h2 : (lbC d[t / 3])[t % 3]? = some ((lbC d[t / 3])[t % 3]!) := by
  rw [getElem!_pos _ _ (by rw [lbC_len]; exact hi), List.getElem?_eq_getElem]
 have := flatten_row (k := 3) (css := d.map lbC) (j := t / 3) (cs := lbC d[t / 3]) (fun i c hc => by
  rw [List.getElem?_map] at hc
  simp only [Option.map_eq_some_iff] at hc
  obtain ⟨x, _, rfl⟩ := hc; rfl) h1 (t % 3) _ h2
 rw [show t / 3 * 3 + t % 3 = t by omega] at this
 have hlt : t < ((d.map lbC).flatten).length := by rw [hl]; exact ht2
 rw [getElem!_pos (⟨(d.map lbC).flatten⟩ : Array Value) t hlt]
 show _ = ((d.map lbC).flatten)[t]
 rw [List.getElem?_eq_getElem hlt] at this
 injection this with this
 exact this.symm
theorem sort_t {h : PHeap} {b cap : Nat} {ls : List Lb} {rest : List Value} (hb : h b = some (.cells ⟨(ls.map lbC).flatten ++ rest⟩ 80 (0, 0))) (hn : ls.length ≤ 1000000) (hnd : ls.Nodup) :
 Tri Tryz.prog 40 [vL (ad b 0) ls.length cap, vF 41 [] []] h fun v h' => v = vT [] ∧ h' = h.put b (.cells ⟨((sortL ls).map lbC).flatten ++ rest⟩ 80 (0, 0)) := by
 refine tri_calls Tryz.func40 (by kernel_rfl) rfl fun w hs => ?_
 have hwb := hs _ _ hb
 have hblk : b < w.heap.size := (Array.getElem?_eq_some_iff.1 hwb).1
 have hfl := flat_len ls
 have hH : HoldsK lbC 3 w b 0 (⟨ls⟩ : Array Lb) := by
  unfold HoldsK
  rw [flat_lb]
  intro j hj
  have hj : j < ((ls.map lbC).flatten).length := hj
  rw [Nat.zero_add]
  refine ⟨?_, ?_⟩
  · have e : w.cell? ⟨b, j, none⟩ = ((ls.map lbC).flatten ++ rest)[j]? := by
     simp only [World.cell?, hwb]
     rw [if_neg (by decide), ← Array.getElem?_toList]
    rw [e, List.getElem?_append_left hj, List.getElem?_eq_getElem hj, getElem!_pos (⟨(ls.map lbC).flatten⟩ : Array Value) j hj]
    rfl
  · simp [World.frozen?, hwb]
 have eg : ∀ args w, (callFunc 41 args).run Tryz.prog w = .ok (.enter 41 args) w := enters_of Tryz.func41 (by kernel_rfl) rfl
 have hcmp : CmpLays Tryz.prog 41 #[] lbC 3 cmpV b 0 (⟨ls⟩ : Array Lb).size w := fun _ _ _ _ x y => cmp41_calls x.name y.name x.data y.data x.off y.off _
 have hcon := AnyQ.slices_SortFunc layF 3 Tryz.isAgg80 Tryz.sizeOf80 lbC lbC_len (fun x v hv => by simp [lbC] at hv; rcases hv with rfl | rfl | rfl <;> rfl) cmpV swoL 41 #[] b 0 cap (⟨ls⟩ : Array Lb) w eg hcmp hH hblk (by show ls.length < _; omega)
 refine Calls.mono hcon ?_
 rintro e w' ⟨rfl, d', n, os, hp, hso, rfl⟩
 obtain ⟨l'⟩ := d'
 have hsz : l'.length = ls.length := hp.1
 have hperm : l'.Perm ls := by
  have := hp.2.2
  have e1 : (Array.extract (⟨l'⟩ : Array Lb) 0 (⟨ls⟩ : Array Lb).size).toList = l' := by
   rw [Array.toList_extract]
   show (l'.drop 0).take (ls.length - 0) = l'
   rw [List.drop_zero, Nat.sub_zero, ← hsz, List.take_length]
  have e2 : (Array.extract (⟨ls⟩ : Array Lb) 0 (⟨ls⟩ : Array Lb).size).toList = ls := by
   rw [Array.toList_extract]
   show (ls.drop 0).take (ls.length - 0) = ls
   rw [List.drop_zero, Nat.sub_zero, List.take_length]
  rw [e1, e2] at this
  exact this
 have hl' : l' = sortL ls := sort_eq hnd hperm fun i j x y hij hx hy => by
  obtain ⟨hi, rfl⟩ := (List.getElem?_eq_some_iff.1 hx)
  obtain ⟨hj, rfl⟩ := (List.getElem?_eq_some_iff.1 hy)
  have := hso i j (Nat.zero_le _) hij (by show j < ls.length; omega)
  unfold ltOf at this
  rw [cmp_follows] at this
  rw [getElem!_pos (⟨l'⟩ : Array Lb) j hj, getElem!_pos (⟨l'⟩ : Array Lb) i hi] at this
  exact this
 subst hl'
 have heap : (sortWorldK lbC 3 w b 0 n (⟨sortL ls⟩ : Array Lb) os).heap = (w.heap.modify b (onCells (putCells id 0 (flatK lbC 3 (⟨sortL ls⟩ : Array Lb))))) ++ os := rfl
 have hfl' := flat_len (sortL ls)
 rw [hsz] at hfl'
 have hput : putCells id 0 (flatK lbC 3 (⟨sortL ls⟩ : Array Lb)) (⟨(ls.map lbC).flatten ++ rest⟩ : Array Value) = ⟨((sortL ls).map lbC).flatten ++ rest⟩ := by
  rw [flat_lb]
  unfold putCells
  apply Array.ext_getElem?
  intro t
  rw [Array.getElem?_mapIdx, ← Array.getElem?_toList, ← Array.getElem?_toList]
  simp only
  by_cases ht : t < ls.length * 3
  · rw [List.getElem?_append_left (by omega), List.getElem?_append_left (by omega), List.getElem?_eq_getElem (by omega), List.getElem?_eq_getElem (by omega)]
    simp only [Option.map_some, id]
    rw [if_pos ⟨Nat.zero_le _, by show t < 0 + (((sortL ls).map lbC).flatten).length; omega⟩, Nat.sub_zero, getElem!_pos (⟨((sortL ls).map lbC).flatten⟩ : Array Value) t (by show t < (((sortL ls).map lbC).flatten).length; omega)]
    rfl
  · rw [List.getElem?_append_right (by omega), List.getElem?_append_right (by omega), hfl, hfl']
    cases rest[t - ls.length * 3]? with
    | none => rfl
    | some v =>
      simp only [Option.map_some]
      rw [if_neg (by
       rintro ⟨_, h2⟩
       have : t < 0 + (((sortL ls).map lbC).flatten).length := h2
       omega)]
 have hsz2 : (w.heap.modify b (onCells (putCells id 0 (flatK lbC 3 (⟨sortL ls⟩ : Array Lb))))).size = w.heap.size := by rw [Array.size_modify]
 have other : ∀ k, k < w.heap.size → k ≠ b → (sortWorldK lbC 3 w b 0 n (⟨sortL ls⟩ : Array Lb) os).heap[k]? = w.heap[k]? := fun k hk hkb => by
  rw [heap, Array.getElem?_append_left (by omega), Array.getElem?_modify, if_neg (Ne.symm hkb)]
 refine ⟨_, h.put b (.cells ⟨((sortL ls).map lbC).flatten ++ rest⟩ 80 (0, 0)), rfl, ⟨rfl, rfl⟩, fun k o hk => ?_, rfl, rfl, rfl, ?_, fun k hk hno => ?_⟩
 · by_cases hkb : k = b
   · subst hkb
     rw [put_same] at hk
     injection hk with hk
     subst hk
     rw [heap, Array.getElem?_append_left (by omega), Array.getElem?_modify, if_pos rfl, hwb]
     simp only [Option.map_some, onCells, hput]
   · rw [put_ne hkb] at hk
     have := hs k o hk
     rw [other k (Array.getElem?_eq_some_iff.1 this).1 hkb]; exact this
 · rw [heap, Array.size_append, hsz2]; omega
 · have hkb : k ≠ b := fun e => by subst e; rw [hb] at hno; cases hno
   exact ⟨by rw [put_ne hkb]; exact hno, other k hk hkb⟩
theorem sort_none {h : PHeap} {a : OA} {cap : Nat} : Tri Tryz.prog 40 [vL a 0 cap, vF 41 [] []] h fun v h' => v = vT [] ∧ h' = h := by
 refine tri_calls Tryz.func40 (by kernel_rfl) rfl fun w hs => ?_
 refine Calls.mono (AnyF.slices_SortFunc_none layF a cap (vF 41 [] []) w) ?_
 rintro e w' ⟨rfl, rfl⟩
 exact ⟨_, h, rfl, ⟨rfl, rfl⟩, hs, Keep.refl _ _⟩
end Go.Proofs.D
namespace Go.Proofs.D
open Go Go.Den Go.As
set_option maxRecDepth 100000
section
variable {P : Program} {f : Operand → Value} {h : PHeap}
theorem raw_range {t ty : TypeId} {key elem : TypeId} {m : Nat} {es : Array MapEntry} {c : Nat} {x : Operand} (hu : P.underlying t = some (.map key elem)) (hx : f x = vM m) (hm : h m = some (.map es c)) :
 Raw P (execOp f (mkO (.range t x) ty)) h fun v h' => ∃ r, h r = none ∧ v = vP r 0 ∧ h' = h.put r (.mapIter (some m) c #[] c) := by
 intro w hs
 refine ⟨.value (vP w.heap.size 0), vP w.heap.size 0, w.alloc (.mapIter (some m) c #[] c), h.put w.heap.size (.mapIter (some m) c #[] c), ?_, .inl rfl, ⟨_, hs.fresh, rfl, rfl⟩, hs.allocReal _, Keep.allocReal w h _⟩
 have := run_range_map w t key elem m es c hu (hs _ _ hm)
 simp only [execOp, mkO, hx]
 simp [this]
theorem raw_entry {ty : TypeId} {r m since stamp last : Nat} {S : Array Nat} {es : Array MapEntry} {e : MapEntry} {x : Operand} (hx : f x = vP r 0) (hr : h r = some (.mapIter (some m) since (S.push stamp) last)) (hm : h m = some (.map es last)) (he : es.find? (·.born == stamp) = some e) :
 Raw P (execOp f (mkO (.entry x) ty)) h fun v h' => v = vT [e.key, e.val] ∧ h' = h := by
 intro w hs
 refine ⟨.value (vT [e.key, e.val]), _, w, h, ?_, .inl rfl, ⟨rfl, rfl⟩, hs, Keep.refl _ _⟩
 have h1 := hs _ _ hr
 have h2 := hs _ _ hm
 simp only [execOp, mkO, hx]
 simp [Instr.entry, getObj, Sem.run, h1, h2, he]
theorem raw_next {ty : TypeId} {r m since last : Nat} {S : Array Nat} {es : Array MapEntry} {clock : Nat} {x : Operand} (hx : f x = vP r 0) (hr : h r = some (.mapIter (some m) since S last)) (hm : h m = some (.map es clock)) (hold : ∀ x ∈ es.toList, x.born < since) (hsc : since ≤ last) :
 Raw P (execOp f (mkO (.next x false) ty)) h fun v h' => ((leftOf es S).size = 0 ∧ v = vT [vB false] ∧ h' = h) ∨ ∃ e ∈ (leftOf es S).toList, v = vT [vB true, e.key, e.val] ∧ h' = h.put r (.mapIter (some m) since (S.push e.born) clock) := by
 intro w hs
 have h1 := hs _ _ hr
 have h2 := hs _ _ hm
 have ht := next_test_false S es since last hold hsc
 have hmem : ∀ x ∈ (leftOf es S).toList, x.born < since := fun x hx => hold x (mem_left hx).1
 have e1 : (leftOf es S).filter (fun x => decide (x.born < since)) = leftOf es S := Array.filter_eq_self.2 (fun x hx => by simpa using hmem x (by simpa using hx))
 have e2 : (leftOf es S).filter (fun x => decide (x.born ≥ since)) = #[] := by
  rw [Array.filter_eq_empty_iff]
  intro x hx
  have := hmem x (by simpa using hx)
  simp
  omega
 have hlt : r < w.heap.size := (Array.getElem?_eq_some_iff.1 h1).1
 have hrun : (execOp f (mkO (.next x false) ty)).run P w = (execOp (fun _ => vP r 0) (mkO (.next x false) ty)).run P w := by simp only [execOp, mkO, hx]
 have hL : Array.filter (fun e => !S.contains e.born) es = leftOf es S := rfl
 by_cases h0 : (leftOf es S).size = 0
 · refine ⟨.value (vT [vB false]), _, w, h, ?_, .inl rfl, .inl ⟨h0, rfl, rfl⟩, hs, Keep.refl _ _⟩
   have hnil : leftOf es S = #[] := Array.eq_empty_of_size_eq_zero h0
   simp only [execOp, mkO, hx, Instr.next, getObj, Sem.run_bind, Sem.run, h1, h2, Result.andThen, ht, Bool.false_eq_true, if_false, hL, hnil]
   simp [choose, Sem.run, Question.forced]
 · have hne : (leftOf es S).isEmpty = false := by simp [Array.isEmpty, h0]
   have hch : ∃ (j : Nat) (w1 : World), j < (leftOf es S).size ∧ (w1.heap = w.heap ∧ w1.os = w.os ∧ w1.tape = w.tape ∧ w1.output = w.output) ∧ (choose (Question.mapNext (leftOf es S).size)).run P w = .ok j w1 := by
    by_cases hf : (leftOf es S).size ≤ 1
    · exact ⟨0, w, by omega, ⟨rfl, rfl, rfl, rfl⟩, by simp [choose, Sem.run, Question.forced, hf]⟩
    · exact ⟨_, w.drew, Nat.mod_lt _ (by omega), ⟨rfl, rfl, rfl, rfl⟩, by
       simp only [choose, Sem.run, Question.forced, decide_eq_true_eq, hf, if_false, Question.cut]
       rfl⟩
   obtain ⟨j, w1, hj, ⟨g1, g2, g3, g4⟩, hrunc⟩ := hch
   have hs1 : Sub w1 h := fun k o hk => by rw [g1]; exact hs k o hk
   obtain ⟨k1, k2⟩ := setObj_keepS (o2 := .mapIter (some m) since (S.push (leftOf es S)[j].born) clock) hs1 hr
   refine ⟨.value (vT [vB true, (leftOf es S)[j].key, (leftOf es S)[j].val]), _, { w1 with heap := w1.heap.setIfInBounds r (.mapIter (some m) since (S.push (leftOf es S)[j].born) clock) }, h.put r (.mapIter (some m) since (S.push (leftOf es S)[j].born) clock), ?_, .inl rfl, .inr ⟨(leftOf es S)[j], by simp, rfl, rfl⟩, k1, ?_⟩
   · simp only [execOp, mkO, hx, Instr.next, getObj, Sem.run_bind, Sem.run, h1, h2, Result.andThen, ht, Bool.false_eq_true, if_false, hL, e1, e2, Array.append_empty, hne, Array.empty_append, Array.size_map]
     simp only [hrunc, Array.getElem?_map, Array.getElem?_eq_getElem hj, Option.map_some, Sem.run_bind, Result.andThen, setObj, Sem.run]
     rw [show w1.heap[r]? = some (.mapIter (some m) since S last) by rw [g1]; exact h1]
     rfl
   · refine ⟨k2.os.trans g2, k2.tape.trans g3, k2.output.trans g4, by rw [← g1]; exact k2.size, fun k hk hn => ?_⟩
     have := k2.out k (by rw [g1]; exact hk) hn
     exact ⟨this.1, this.2.trans (by rw [g1])⟩
end
end Go.Proofs.D
namespace Go.As
structure UseOk (p : Pg) (u : Us) : Prop where
 code : u.kind = 0 → u.idx < p.code.length
 data : u.kind = 1 → u.idx + 4 ≤ p.data.length
 ent : u.kind = 2 → u.low = -9999999999 ∧ u.high = 9999999999
structure Inv (a : St) : Prop where
 uses : ∀ u ∈ a.uses, UseOk a.p u
 labs : ∀ l ∈ a.p.labels, 0 ≤ l.off ∧ l.off ≤ 4096
 nd : (a.p.labels.map (·.name)).Nodup
 ent : -10000000000 ≤ a.p.entry ∧ a.p.entry ≤ 10000000000
theorem UseOk.mono {p q : Pg} {u : Us} (h1 : p.code.length ≤ q.code.length) (h2 : p.data.length ≤ q.data.length) (h : UseOk p u) : UseOk q u :=
 ⟨fun e => by have := h.code e; omega, fun e => by have := h.data e; omega, h.ent⟩
theorem Inv.step {a a' : St} {us : List Us} (ha : Inv a) (h1 : a.p.code.length ≤ a'.p.code.length) (h2 : a.p.data.length ≤ a'.p.data.length) (hl : a'.p.labels = a.p.labels) (hu : a'.uses = a.uses ++ us) (he : -10000000000 ≤ a'.p.entry ∧ a'.p.entry ≤ 10000000000) (hus : ∀ u ∈ us, UseOk a'.p u) : Inv a' := by
 refine ⟨fun u hu' => ?_, by rw [hl]; exact ha.labs, by rw [hl]; exact ha.nd, he⟩
 rw [hu] at hu'
 rcases List.mem_append.1 hu' with h | h
 · exact (ha.uses u h).mono h1 h2
 · exact hus u h
theorem val_use {line kind idx : Nat} {t : Bytes} {low high : Int} {x : Int × List Us} (h : valueS line t kind idx low high = .ok x) : ∀ u ∈ x.2, u.kind = kind ∧ u.idx = idx ∧ u.low = low ∧ u.high = high := by
 unfold valueS at h
 split at h
 · split at h
   · cases h
   · injection h with h; subst h; intro u hu; cases hu
 · split at h
   · injection h with h; subst h; intro u hu; rw [List.mem_singleton.1 hu]; exact ⟨rfl, rfl, rfl, rfl⟩
   · cases h
theorem val_range {line kind idx : Nat} {t : Bytes} {low high : Int} {x : Int × List Us} (h : valueS line t kind idx low high = .ok x) : (low ≤ x.1 ∧ x.1 ≤ high) ∨ x.1 = 0 := by
 unfold valueS at h
 split at h
 · split at h
   · cases h
   · injection h with h; subst h; left; simp only; omega
 · split at h
   · injection h with h; subst h; exact .inr rfl
   · cases h
theorem words_inv : ∀ (l : List Tk) (a a' : St), wordsS a l = .ok a' → Inv a → Inv a'
 | [], a, a', h, ha => by simp [wordsS] at h; subst h; exact ha
 | t :: l, a, a', h, ha => by
   rw [wordsS] at h
   obtain ⟨⟨n, u⟩, hv, h⟩ := bind_ok h
   have hv := val_use hv
   refine words_inv l _ a' h (ha.step (us := u) (Nat.le_refl _) (by simp) rfl rfl ha.ent fun w hw => ?_)
   obtain ⟨h1, h2, h3, h4⟩ := hv w hw
   refine ⟨fun e => by omega, fun _ => ?_, fun e => by omega⟩
   rw [h2]
   simp [wordOf]
theorem bytes_inv : ∀ (l : List Tk) (a a' : St), bytesS a l = .ok a' → Inv a → Inv a'
 | [], a, a', h, ha => by simp [bytesS] at h; subst h; exact ha
 | t :: l, a, a', h, ha => by
   rw [bytesS] at h
   obtain ⟨n, hv, h⟩ := bind_ok h
   exact bytes_inv l _ a' h (ha.step (us := []) (Nat.le_refl _) (by simp) rfl (by simp) ha.ent fun w hw => by cases hw)
theorem StIs.inv {a a' : St} {n : Bytes} {l : List Tk} {c d t : Bool} {lo hi : Nat} {X : R St} (hS : StIs a l n c d lo hi t X) (ha : Inv a) (hX : X = .ok a') : Inv a' := by
 cases hS with
 | op op hf =>
   unfold instrX at hX
   split at hX
   · obtain ⟨r, _, hX⟩ := bind_ok hX
     injection hX with hX; subst hX
     exact ha.step (us := []) (by simp) (Nat.le_refl _) rfl (by simp) ha.ent fun w hw => by cases hw
   · obtain ⟨r, _, hX⟩ := bind_ok hX
     obtain ⟨x, hv, hX⟩ := bind_ok hX
     have hv := val_use hv
     injection hX with hX; subst hX
     refine ha.step (us := x.2) (by simp) (Nat.le_refl _) rfl rfl ha.ent fun w hw => ?_
     obtain ⟨h1, h2, h3, h4⟩ := hv w hw
     refine ⟨fun _ => ?_, fun e => by omega, fun e => by omega⟩
     rw [h2]; simp
 | code => injection hX with hX; subst hX; exact ⟨ha.uses, ha.labs, ha.nd, ha.ent⟩
 | data => injection hX with hX; subst hX; exact ⟨ha.uses, ha.labs, ha.nd, ha.ent⟩
 | entry =>
   unfold Go.Proofs.D.entryX at hX
   obtain ⟨x, hv, hX⟩ := bind_ok hX
   have hr := val_range hv
   have hv := val_use hv
   injection hX with hX; subst hX
   refine ha.step (us := x.2) (Nat.le_refl _) (Nat.le_refl _) rfl rfl ⟨by show _ ≤ x.1; omega, by show x.1 ≤ _; omega⟩ fun w hw => ?_
   obtain ⟨h1, h2, h3, h4⟩ := hv w hw
   exact ⟨fun e => by omega, fun e => by omega, fun _ => ⟨h3, h4⟩⟩
 | zero =>
   unfold Go.Proofs.D.zeroX at hX
   obtain ⟨x, hv, hX⟩ := bind_ok hX
   injection hX with hX; subst hX
   exact ha.step (us := []) (Nat.le_refl _) (Nat.le_refl _) rfl (by simp) ha.ent fun w hw => by cases hw
 | word => exact words_inv _ _ _ hX ha
 | byte => exact bytes_inv _ _ _ hX ha
 | text =>
   injection hX with hX; subst hX
   exact ha.step (us := []) (Nat.le_refl _) (by simp) rfl (by simp) ha.ent fun w hw => by cases hw
 | space =>
   unfold Go.Proofs.D.spaceX at hX
   obtain ⟨x, hv, hX⟩ := bind_ok hX
   injection hX with hX; subst hX
   exact ha.step (us := []) (Nat.le_refl _) (by simp) rfl (by simp) ha.ent fun w hw => by cases hw
theorem define_inv : ∀ (ls : List Bytes) (a a' : St), Lim a → Inv a → defineS a ls = .ok a' → Inv a'
 | [], a, a', hl, ha, h => by simp [defineS] at h; subst h; exact ha
 | n :: ls, a, a', hl, ha, h => by
   rw [defineS] at h
   split at h
   · cases h
   split at h
   · cases h
   rename_i hany
   split at h
   · cases h
   have h1 := hl.code
   have h2 := hl.data
   have hd := fun hL hI => define_inv ls _ a' hL hI h
   refine hd ⟨hl.code, hl.data, ?_, hl.uses⟩ ⟨fun u hu => UseOk.mono (p := a.p) (Nat.le_refl _) (Nat.le_refl _) (ha.uses u hu), fun l hm => ?_, ?_, ha.ent⟩
   · simp only [List.length_append, List.length_cons, List.length_nil]; omega
   · rcases List.mem_append.1 hm with hm | hm
     · exact ha.labs l hm
     · rw [List.mem_singleton.1 hm]
       show 0 ≤ (if a.inData then (a.p.data.length : Int) else (4 * a.p.code.length : Nat)) ∧ (if a.inData then (a.p.data.length : Int) else (4 * a.p.code.length : Nat)) ≤ 4096
       split <;> omega
   · simp only [List.map_append, List.map_cons, List.map_nil]
     refine List.nodup_append.2 ⟨ha.nd, by simp, fun x hx y hy hxy => ?_⟩
     rw [List.mem_singleton.1 hy] at hxy
     subst hxy
     obtain ⟨l, h1, h2⟩ := List.mem_map.1 hx
     refine hany ?_
     rw [List.any_eq_true]
     exact ⟨l, h1, by simpa using h2⟩
theorem tok_count {s : Bytes} {ts : List Tk} (h : tokensL s = some ts) : ts.length ≤ s.length := by
 have hc : ∀ (f : Nat) (s : Bytes) (ts : List Tk), tokensS f s = some ts → ts.length ≤ s.length := by
  intro f
  induction f with
  | zero => intro s ts h; simp [tokensS] at h
  | succ f ih =>
    intro s ts h
    match s, h with
    | [], h => simp [tokensS] at h; subst h; simp
    | c :: r, h =>
      have r1 : ∀ {s' : Bytes} {k : Tk} {x : Option (List Tk)}, s'.length ≤ r.length → x = tokensS f s' → (x.map fun l => k :: l) = some ts → ts.length ≤ (c :: r).length := fun {s' k x} hl hx he => by
       subst hx
       simp only [Option.map_eq_some_iff] at he
       obtain ⟨l, h1, rfl⟩ := he
       have := ih _ _ h1
       simp; omega
      rw [tokensS] at h
      split at h
      · simp at h; subst h; simp
      split at h
      · have := ih _ _ h; simp; omega
      split at h
      · exact r1 (Nat.le_refl _) rfl h
      split at h
      · exact r1 (Nat.le_refl _) rfl h
      split at h
      · split at h
        · cases h
        · rename_i x r' hu
          have := unq_len hu
          exact r1 (by omega) rfl h
      split at h
      · rename_i hw
        have hd : (c :: r).dropWhile wordB = r.dropWhile wordB := by simp [List.dropWhile, hw]
        rw [hd] at h
        exact r1 (drop_len r) rfl h
      · cases h
 exact hc _ _ _ h
theorem line_inv {a a' : St} {s : Bytes} (hl : Lim a) (ha : Inv a) (hs : s.length ≤ 65536) (h : lineS a s = .ok a') : Inv a' := by
 unfold lineS at h
 split at h
 · cases h
 rename_i ts ht
 split at h
 · cases h
 · rename_i ls hsp
   exact define_inv ls a a' hl ha h
 · rename_i ls n os hsp
   obtain ⟨b, hb, h⟩ := bind_ok h
   have h0 := define_inv ls a b hl ha hb
   obtain ⟨h1, h2⟩ := define_lim ls a b hl hb
   have h3 := (split_sub ts ls _ hsp).2 n os rfl
   have h4 := tok_count ht
   rcases stmt_is (n := n) (l := os) h1 (by omega) with ⟨c, d, lo, hi, t, X, hS, he⟩ | ⟨_, _, he⟩
   · rw [he] at h
     obtain ⟨g1, g2, g3, g4⟩ := do_ok h
     exact hS.inv h0 g1
   · rw [he] at h; cases h
end Go.As
namespace Go.Proofs.D
open Go Go.Den Go.As
set_option maxRecDepth 100000
attribute [local irreducible] IntKind.wrap Tri
section
variable {h : PHeap}
theorem find_take {l : List Ins} : ∀ {j : Nat}, (∀ k x, k < j → l[k]? = some x → checkI x = 0) → ((l.map checkI).find? (· ≠ 0)) = (((l.drop j).map checkI).find? (· ≠ 0)) := by
 intro j
 induction j generalizing l with
 | zero => intro _; rfl
 | succ j ih =>
   intro hk
   cases l with
   | nil => rfl
   | cons x l =>
     have h0 := hk 0 x (by omega) rfl
     rw [List.drop_succ_cons, List.map_cons, List.find?_cons, h0]
     simp only [ne_eq, not_true, decide_false]
     exact ih fun k y h1 h2 => hk (k + 1) y (by omega) (by simpa using h2)
theorem check_t (hO : OpTab h) {a1 : OA} {k1 : Nat} {a2 : OA} {k2 : Nat} {p : Pg} (hI : InAt h a1 p.code) (hL : LbAt h a2 p.labels) (hn : p.code.length ≤ 1000000) (hd : p.data.length ≤ 1000000) (hls : p.labels.length ≤ 1000000) (ho : ∀ l ∈ p.labels, -9223372036854775808 ≤ l.off ∧ l.off ≤ 9223372036854775807) (he : -9223372036854775808 ≤ p.entry ∧ p.entry ≤ 9223372036854775807) :
 Tri Tryz.prog 24 [vA [vL a1 p.code.length k1, vS p.data, vI p.zero, vI p.entry, vL a2 p.labels.length k2]] h fun v h' => v = vI (checkP p : Int) ∧ Ext h h' := by
 refine T24 ?_
 unfold R24
 refine ⟨fun m i h' => ∃ j : Nat, i = (j : Int) ∧ j + m = p.code.length ∧ h' = h ∧ ∀ k x, k < j → p.code[k]? = some x → checkI x = 0, ⟨p.code.length, 0, rfl, by omega, rfl, fun k x hk => absurd hk (Nat.not_lt_zero k)⟩, ?_⟩
 rintro m _ h1 ⟨j, rfl, hjm, rfl, hu⟩
 refine br_split (fun e => ?_) fun e => ?_
 · have hlt : j < p.code.length := by have := of_decide_eq_true e; omega
   have hg : p.code[j]? = some p.code[j] := by simp [hlt]
   have hdr := List.drop_eq_getElem_cons hlt
   generalize p.code[j] = x at *
   obtain ⟨b, o, ha, hr⟩ := hI.get hg
   refine ⟨b, o, ha, ⟨by omega, by omega⟩, _, _, _, _, (by rw [Int.toNat_natCast]; exact hr), ?_⟩
   refine Tri.mono (icheck_t h1 hO x) ?_
   rintro _ h1 ⟨rfl, rfl⟩
   refine ⟨_, rfl, br_split (fun e1 => ?_) fun e1 => ?_⟩
   · have e1 : checkI x ≠ 0 := by simpa using e1
     have : checkP p = checkI x := by
      unfold checkP
      rw [find_take hu, hdr, List.map_cons, List.find?_cons, decide_eq_true e1]
     rw [this]
     exact ⟨rfl, Ext.refl _⟩
   · have e1 : checkI x = 0 := by simpa using e1
     refine ⟨m - 1, by omega, ⟨j + 1, ?_, by omega, rfl, fun k y h1 h2 => ?_⟩, rfl, trivial⟩
     · rw [wrap64 (by omega) (by omega)]; omega
     · by_cases hk : k = j
       · subst hk; rw [hg] at h2; injection h2 with h2; rw [← h2]; exact e1
       · exact hu k y (by omega) h2
 · have hj : j = p.code.length := by have := of_decide_eq_false e; omega
   subst hj
   have hc : checkP p = if p.zero < 0 ∨ 4096 < p.zero ∨ 4096 < dataAt p + p.data.length + p.zero ∨ 1024 < p.labels.length then 9
    else if p.entry < 0 ∨ p.entry % 4 ≠ 0 ∨ 4 * (p.code.length : Int) ≤ p.entry then 2
    else if labelsErr p none p.labels ≠ 0 then labelsErr p none p.labels else if twice (p.labels.map (·.name)) then 7 else 0 := by
    unfold checkP
    rw [find_take hu, List.drop_length]; rfl
   have nine : (p.zero < 0 ∨ 4096 < p.zero ∨ 4096 < dataAt p + p.data.length + p.zero ∨ 1024 < p.labels.length) → (9 : Nat) = checkP p := fun hh => by rw [hc, if_pos hh]
   refine br_split (fun e1 => ?_) fun e1 => br_split (fun e2 => ?_) fun e2 => ?_
   · rw [← nine (.inl (of_decide_eq_true e1))]; exact ⟨rfl, rfl, Ext.refl _⟩
   · rw [← nine (.inr (.inl (of_decide_eq_true e2)))]; exact ⟨rfl, rfl, rfl, Ext.refl _⟩
   have e1 := of_decide_eq_false e1
   have e2 := of_decide_eq_false e2
   refine Tri.mono (dataAt_t hn) ?_
   rintro _ h1 ⟨rfl, rfl⟩
   have hda : 0 ≤ dataAt p ∧ dataAt p ≤ 4000100 := by unfold dataAt; omega
   refine ⟨_, rfl, rfl, rfl, rfl, rfl, ?_⟩
   rw [wrap64 (n := dataAt p + _) (by omega) (by omega), wrap64 (by omega) (by omega)]
   refine br_split (fun e3 => ?_) fun e3 => br_split (fun e4 => ?_) fun e4 => ?_
   · rw [← nine (.inr (.inr (.inl (of_decide_eq_true e3))))]; exact ⟨rfl, Ext.refl _⟩
   · rw [← nine (.inr (.inr (.inr (by have := of_decide_eq_true e4; omega))))]; exact ⟨rfl, Ext.refl _⟩
   have e3 := of_decide_eq_false e3
   have e4 := of_decide_eq_false e4
   rw [if_neg (by omega)] at hc
   rw [wrap64 (n := ((p.code.length : Nat) : Int) * 4) (by omega) (by omega), wrap64 (by omega) (by omega)]
   refine Tri.mono (place_t _ _ he) ?_
   rintro _ h1 ⟨rfl, rfl⟩
   refine ⟨_, rfl, br_split (fun e5 => ?_) fun e5 => ?_⟩
   · have e5 := of_decide_eq_false (not_f e5)
     rw [hc, if_pos (by omega)]
     exact ⟨rfl, Ext.refl _⟩
   · have e5 := of_decide_eq_true (not_t e5)
     rw [if_neg (by omega)] at hc
     refine Tri.mono (checkLabels_t hL hn hd hls (by omega) ho) ?_
     rintro _ h2 ⟨rfl, x2⟩
     rw [← hc]
     exact ⟨_, rfl, rfl, x2⟩
theorem address_t {a1 : OA} {k1 : Nat} {d : Bytes} {z e : Int} {a2 : OA} {n2 k2 : Nat} {p : Pg} {l : Lb} (hn : p.code.length ≤ 1000000) (ho : -1000000000 ≤ l.off ∧ l.off ≤ 1000000000) :
 Tri Tryz.prog 44 [vA [vL a1 p.code.length k1, vS d, vI z, vI e, vL a2 n2 k2], lbV l] h fun v h' => v = vI (placeOf p l) ∧ h' = h := by
 refine T44 ?_
 unfold R44
 have hda : 0 ≤ dataAt p ∧ dataAt p ≤ 4000100 := by unfold dataAt; omega
 refine br_split (fun e1 => ?_) fun e1 => ?_
 · refine Tri.mono (dataAt_t hn) ?_
   rintro _ h1 ⟨rfl, rfl⟩
   refine ⟨_, rfl, rfl, ?_⟩
   rw [wrap64 (by omega) (by omega)]
   unfold placeOf; rw [if_pos e1]
   exact ⟨rfl, rfl⟩
 · unfold placeOf; rw [if_neg (by rw [e1]; decide)]
   exact ⟨rfl, rfl⟩
end
end Go.Proofs.D
namespace Go.Proofs.D
open Go Go.Den Go.As
set_option maxRecDepth 100000
attribute [local irreducible] IntKind.wrap Tri
section
variable {hb h : PHeap} {p mS : Nat} {a : As.St} {K : AK}
def putU (p : Pg) (u : Us) (n : Int) : Pg := if u.kind = 0 then { p with code := setC p.code u.idx n } else if u.kind = 1 then { p with data := putW p.data u.idx n } else { p with entry := n }
theorem resolve_cons (p : Pg) (u : Us) (l : List Us) : resolveS p (u :: l) = match address p u.name with
 | none => .error (u.line, 37)
 | some n => if n < u.low ∨ u.high < n then .error (u.line, 2) else resolveS (putU p u n) l := rfl
theorem place_range {q : Pg} {l : Lb} (hn : q.code.length ≤ 1000000) (ho : 0 ≤ l.off ∧ l.off ≤ 4096) : 0 ≤ placeOf q l ∧ placeOf q l ≤ 5000000 := by
 unfold placeOf dataAt
 split <;> omega
def ValR (hb : PHeap) (p mS : Nat) (a : As.St) (K : AK) (u : Us) (v : Value) (h' : PHeap) : Prop :=
 match address a.p u.name with
 | none => v = vI 37 ∧ ASK hb h' p mS a K
 | some n => if n < u.low ∨ u.high < n then v = vI 2 ∧ ASK hb h' p mS a K else v = vI 0 ∧ ASK hb h' p mS { a with p := putU a.p u n } K
def core142 (p1 p3 p4 p5 : Nat) (l2 : Bs) (c1 : Bool) (i1 : Int) (c2 : Bool) (h_1 : PHeap) (Q : Value → PHeap → Prop) : Prop :=
 br (!c2)
 (Q (vI 37) h_1)
 (∃ (p7 o7 : Nat), h_1.cell p1 0 = some (vP p7 o7) ∧
 ∃ (a1 : OA) (n1 k1 : Nat) (l3 : Bs) (i2 i3 : Int) (a2 : OA) (n2 k2 : Nat), h_1.row p7 (o7 + 1) [vL a1 n1 k1, vS l3, vI i2, vI i3, vL a2 n2 k2] ∧
 Tri Tryz.prog 44 [vA [vL a1 n1 k1, vS l3, vI i2, vI i3, vL a2 n2 k2], vA [vS l2, vB c1, vI i1]] h_1 fun v_2 h_2 =>
 ∃ (i4 : Int), v_2 = vI i4 ∧
 (h_2.cell p1 0 = some (vP p7 o7)) ∧
 ∃ (i5 : Int), h_2.cell p3 0 = some (vI i5) ∧
 br (decide (i4 < i5))
 (Q (vI 2) h_2)
 (∃ (i6 : Int), h_2.cell p4 0 = some (vI i6) ∧
 br (decide (i4 > i6))
 (Q (vI 2) h_2)
 (∃ (f1 : Nat) (x1 y1 : List Value), h_2.cell p5 0 = some (vF f1 x1 y1) ∧
 Tri Tryz.prog f1 (x1 ++ [vI i4] ++ y1) h_2 fun v_3 h_3 =>
 v_3 = vT [] ∧
 Q (vI 0) h_3)))
theorem core_142 {u : Us} {b1 b3 b4 b5 f : Nat} {y : List Value} (hA : ASK hb h p mS a K) (h1 : hb.cell b1 0 = some (vP p 0)) (h3 : hb.cell b3 0 = some (vI (lowM u))) (h4 : hb.cell b4 0 = some (vI (highM u))) (h5 : hb.cell b5 0 = some (vF f [] y)) (hP : PutAt hb p u.kind u.idx f y)
 (hu : UseOk a.p u) (hl : ∀ l ∈ a.p.labels, 0 ≤ l.off ∧ l.off ≤ 4096) (hn : a.p.code.length ≤ 1000000) (r : Option Lb) (hr : r = a.p.labels.find? fun l => l.name == u.name) {s1 : Bs} {c1 : Bool} {i1 : Int} (hv : getD2 (vA [vS [], vB false, vI 0]) (r.map lbV) = vA [vS s1, vB c1, vI i1]) :
 core142 b1 b3 b4 b5 s1 c1 i1 (r.map lbV).isSome h fun v h' => ValR hb p mS a K u v h' := by
 unfold core142
 cases r with
 | none =>
   refine br_pos rfl ?_
   unfold ValR address
   rw [← hr]
   exact ⟨rfl, hA⟩
 | some l =>
   have hm : l ∈ a.p.labels := List.mem_of_find?_eq_some hr.symm
   have hl := hl l hm
   have hpr := place_range hn hl
   have hadr : address a.p u.name = some (placeOf a.p l) := by unfold address; rw [← hr]; rfl
   have hv : lbV l = vA [vS s1, vB c1, vI i1] := hv
   have hx := hA.ext
   have hrow : h.row p (0 + 1) [vL K.ca a.p.code.length K.cc, vS [], vI a.p.zero, vI a.p.entry, vL none 0 0] := by
    refine ⟨?_, ?_, ?_, ?_, ?_⟩
    all_goals first | (rw [PA_cell hA.obj]; rfl) | (show h.cell _ _ = _; rw [PA_cell hA.obj]; rfl)
   refine br_neg rfl ⟨p, 0, cell_ext (fun ob => hx b1 ob) h1, K.ca, _, K.cc, [], a.p.zero, a.p.entry, none, 0, 0, hrow, ?_⟩
   rw [← hv]
   refine Tri.mono (address_t (p := a.p) hn (by omega)) ?_
   rintro _ h2 ⟨rfl, rfl⟩
   have lowE : placeOf a.p l < lowM u ↔ placeOf a.p l < u.low := by
    unfold lowM
    split
    · rename_i hk; have := (hu.ent hk).1; omega
    · exact Iff.rfl
   have highE : highM u < placeOf a.p l ↔ u.high < placeOf a.p l := by
    unfold highM
    split
    · rename_i hk; have := (hu.ent hk).2; omega
    · exact Iff.rfl
   have two : placeOf a.p l < u.low ∨ u.high < placeOf a.p l → ValR hb p mS a K u (vI 2) h2 := fun hh => by
    unfold ValR; rw [hadr]; simp only; rw [if_pos hh]; exact ⟨trivial, hA⟩
   refine ⟨_, rfl, cell_ext (fun ob => hx b1 ob) h1, _, cell_ext (fun ob => hx b3 ob) h3, br_split (fun e => two (.inl (lowE.1 (of_decide_eq_true e)))) fun e => ⟨_, cell_ext (fun ob => hx b4 ob) h4, br_split (fun e' => two (.inr (highE.1 (of_decide_eq_true e')))) fun e' => ⟨f, [], y, cell_ext (fun ob => hx b5 ob) h5, ?_⟩⟩⟩
   have e := of_decide_eq_false e
   have e' := of_decide_eq_false e'
   have hno : ¬ (placeOf a.p l < u.low ∨ u.high < placeOf a.p l) := fun hh => hh.elim (fun hh => e (lowE.2 hh)) fun hh => e' (highE.2 hh)
   have fin : ∀ h', ASK hb h' p mS { a with p := putU a.p u (placeOf a.p l) } K → ValR hb p mS a K u (vI 0) h' := fun h' hh => by
    unfold ValR; rw [hadr]; simp only; rw [if_neg hno]; exact ⟨trivial, hh⟩
   rcases hP with ⟨hk, rfl, c, rfl, hc⟩ | ⟨hk, rfl, c, d, rfl, hc, hd⟩ | ⟨hk, rfl, c, d, rfl, hc, hd⟩
   · refine Tri.mono (put109_k hA hc) ?_
     rintro _ h3 ⟨rfl, hA3⟩
     refine ⟨rfl, fin _ ?_⟩
     unfold putU; rw [if_neg (by omega), if_neg (by omega)]; exact hA3
   · refine Tri.mono (put112_k hA hc hd (hu.data hk)) ?_
     rintro _ h3 ⟨rfl, hA3⟩
     refine ⟨rfl, fin _ ?_⟩
     unfold putU; rw [if_neg (by omega), if_pos hk]; exact hA3
   · refine Tri.mono (put115_k hA hc hd (hu.code hk)) ?_
     rintro _ h3 ⟨rfl, hA3⟩
     refine ⟨rfl, fin _ ?_⟩
     unfold putU; rw [if_pos hk]; exact hA3
theorem value1_t {u : Us} {b1 b2 b3 b4 b5 f : Nat} {y : List Value} (hA : ASK hb h p mS a K) (h1 : hb.cell b1 0 = some (vP p 0)) (h2 : hb.cell b2 0 = some (vS u.name)) (h3 : hb.cell b3 0 = some (vI (lowM u))) (h4 : hb.cell b4 0 = some (vI (highM u))) (h5 : hb.cell b5 0 = some (vF f [] y)) (hP : PutAt hb p u.kind u.idx f y)
 (hu : UseOk a.p u) (hl : ∀ l ∈ a.p.labels, 0 ≤ l.off ∧ l.off ≤ 4096) (hn : a.p.code.length ≤ 1000000) :
 Tri Tryz.prog 142 [vP b1 0, vP b2 0, vP b3 0, vP b4 0, vP b5 0] h fun v h' => ValR hb p mS a K u v h' := by
 refine T142 ?_
 unfold R142
 have hx := hA.ext
 have hmb : h.cell p 10 = some (vM K.mb) := by rw [PA_cell hA.obj]; rfl
 obtain ⟨s1, c1, i1, hv⟩ := lbV_is (a.p.labels.find? fun l => l.name == u.name)
 have hcore := core_142 hA h1 h3 h4 h5 hP hu hl hn _ rfl hv
 refine ⟨p, 0, cell_ext (fun ob => hx b1 ob) h1, K.mb, hmb, u.name, cell_ext (fun ob => hx b2 ob) h2, ?_, cell_ext (fun ob => hx b2 ob) h2, hmb, cell_ext (fun ob => hx b1 ob) h1, ?_⟩
 · refine Raw.mono (raw_lookupS und71 rfl (z := vA [vS [], vB false, vI 0]) rfl rfl rfl hA.labs) ?_
   rintro _ h1' ⟨rfl, rfl⟩
   rw [get_labE]
   simp only [if_true, hv]
   exact ⟨_, _, _, _, rfl, cell_ext (fun ob => hx b1 ob) h1, cell_ext (fun ob => hx b1 ob) h1, hcore⟩
 · refine Raw.mono (raw_lookupS und71 rfl (z := vA [vS [], vB false, vI 0]) rfl rfl rfl hA.labs) ?_
   rintro _ h1' ⟨rfl, rfl⟩
   rw [get_labE]
   simp only [if_true, hv]
   exact ⟨_, _, _, _, rfl, cell_ext (fun ob => hx b1 ob) h1, hcore⟩
end
end Go.Proofs.D
namespace Go.Proofs.D
open Go Go.Den Go.As
set_option maxRecDepth 100000
attribute [local irreducible] IntKind.wrap Tri
theorem und23 : Tryz.prog.underlying 23 = some (.slice 80) := rfl
theorem elem80 : ElemT 80 3 := ⟨_, _, rfl, rfl, rfl, rfl, by decide⟩
theorem mem_ents : ∀ (ls : List Lb) (i : Nat) (e : MapEntry), e ∈ ents (labE i ls) → ∃ j l, ls[j]? = some l ∧ e = ⟨vS l.name, lbV l, i + j⟩
 | [], i, e, h => by cases h
 | l :: ls, i, e, h => by
   rcases List.mem_cons.1 h with rfl | h
   · exact ⟨0, l, rfl, rfl⟩
   · obtain ⟨j, l', h1, h2⟩ := mem_ents ls (i + 1) e h
     exact ⟨j + 1, l', by simpa using h1, by rw [h2, show i + (j + 1) = i + 1 + j by omega]⟩
theorem ents_mem : ∀ (ls : List Lb) (i j : Nat) (l : Lb), ls[j]? = some l → (⟨vS l.name, lbV l, i + j⟩ : MapEntry) ∈ ents (labE i ls)
 | [], _, _, _, h => by simp at h
 | l :: ls, i, 0, l', h => by
   have : l = l' := by simpa using h
   subst this; exact List.mem_cons_self ..
 | l :: ls, i, j + 1, l', h => by
   refine List.mem_cons_of_mem _ ?_
   have := ents_mem ls (i + 1) j l' (by simpa using h)
   rwa [show i + 1 + j = i + (j + 1) by omega] at this
theorem ents_born : ∀ (ls : List Lb) (i : Nat), (ents (labE i ls)).map (·.born) = List.range' i ls.length
 | [], _ => rfl
 | l :: ls, i => by
   show i :: (ents (labE (i + 1) ls)).map (·.born) = _
   rw [ents_born ls (i + 1), List.length_cons, List.range'_succ]
def pick (ls : List Lb) (S : List Nat) : List Lb := S.map fun i => ls.getD i ⟨[], false, 0⟩
theorem pick_perm {ls : List Lb} {S : List Nat} (hn : S.Nodup) (hlt : ∀ i ∈ S, i < ls.length) (hall : ∀ i, i < ls.length → i ∈ S) : (pick ls S).Perm ls := by
 have h1 : S.Perm (List.range ls.length) := by
  rw [List.perm_ext_iff_of_nodup hn List.nodup_range]
  intro i
  rw [List.mem_range]
  exact ⟨hlt i, hall i⟩
 have h2 : pick ls (List.range ls.length) = ls := by
  unfold pick
  apply List.ext_getElem?
  intro j
  by_cases hj : j < ls.length
  · simp [hj]
  · simp [hj]
 have := h1.map fun i => ls.getD i ⟨[], false, 0⟩
 unfold pick at *
 rw [h2] at this
 exact this
theorem nodup_names {ls : List Lb} (h : (ls.map (·.name)).Nodup) : ls.Nodup := by
 induction ls with
 | nil => exact List.nodup_nil
 | cons l ls ih =>
   rw [List.map_cons, List.nodup_cons] at h
   exact List.nodup_cons.2 ⟨fun hm => h.1 (List.mem_map_of_mem hm), ih h.2⟩
theorem sort_perm_eq {L ls : List Lb} (hp : L.Perm ls) (hn : ls.Nodup) : sortL L = sortL ls := by
 have hnL := hp.nodup_iff.2 hn
 exact sorted_unique ((sort_perm L).trans (hp.trans (sort_perm ls).symm)) (sortL_sorted hnL) (sortL_sorted hn)
theorem LM.rowAt {e k : Nat} {h0 h : PHeap} {a : OA} {n c : Nat} {css : List (List Value)} (hM : LM e k h0 h a n c css) {j : Nat} {cs : List Value} (hj : css[j]? = some cs) : ∃ b, a = ad b 0 ∧ h.row b (0 + j * k) cs := by
 have hjl := (List.getElem?_eq_some_iff.1 hj).1
 obtain ⟨b, rest, h1, h2, h3, h4, h5⟩ := hM.open (by have := hM.len; omega)
 refine ⟨b, h1, row_lit h2 fun i v hv => ?_⟩
 have := flatten_row (k := k) (css := css) (j := j) (cs := cs) (fun i c hc => hM.each i c hc) hj i v hv
 rw [Nat.zero_add, List.getElem?_append_left (List.getElem?_eq_some_iff.1 this).1]
 exact this
theorem LM.lbs {h0 h : PHeap} {a : OA} {n c : Nat} {L : List Lb} (hM : LM 80 3 h0 h a n c (L.map lbC)) : LbAt h a L := by
 by_cases hL : L = []
 · exact .inl hL
 have hn : 0 < n := by
  have := hM.len
  cases L with
  | nil => exact absurd rfl hL
  | cons x L => simp at this; omega
 obtain ⟨b, rest, h1, h2, _⟩ := hM.open hn
 refine .inr ⟨b, 0, h1, fun j l hj => ?_⟩
 obtain ⟨b', h3, h4⟩ := hM.rowAt (j := j) (cs := lbC l) (by simp [hj])
 rw [h1] at h3; injection h3 with h3; injection h3 with h3
 subst h3; exact h4
theorem LM.ins {h0 h : PHeap} {a : OA} {n c : Nat} {L : List Ins} (hM : LM 58 4 h0 h a n c (inL L)) : InAt h a L := by
 by_cases hL : L = []
 · exact .inl hL
 have hn : 0 < n := by
  have := hM.len
  cases L with
  | nil => exact absurd rfl hL
  | cons x L => simp [inL] at this; omega
 obtain ⟨b, rest, h1, h2, _⟩ := hM.open hn
 refine .inr ⟨b, 0, h1, fun j l hj => ?_⟩
 obtain ⟨b', h3, h4⟩ := hM.rowAt (j := j) (cs := insC l) (by simp [inL, hj])
 rw [h1] at h3; injection h3 with h3; injection h3 with h3
 subst h3; exact h4
def FA (mS : Nat) (ca : OA) (cc : Nat) (q : Pg) (la : OA) (ln lc : Nat) (tl : List Value) : Obj :=
 .cells ⟨[vM mS, vL ca q.code.length cc, vS q.data, vI q.zero, vI q.entry, vL la ln lc] ++ tl⟩ 74 (0, 0)
def emptyV : Value := vA [vL none 0 0, vS [], vI 0, vI 0, vL none 0 0]
def AsmR (h0 : PHeap) (r : Except (Nat × Nat) Pg) (v : Value) (h' : PHeap) : Prop := Ext h0 h' ∧ match r with
 | .error (l, e) => e ≠ 0 ∧ v = vT [emptyV, vI (l : Int), vI (e : Int)]
 | .ok q => ∃ a1 k1 a2 k2, v = vT [vA [vL a1 q.code.length k1, vS q.data, vI q.zero, vI q.entry, vL a2 q.labels.length k2], vI 0, vI 0] ∧ InAt h' a1 q.code ∧ LbAt h' a2 q.labels ∧ okN a1 q.code.length k1 ∧ okN a2 q.labels.length k2
def finS (q : Pg) : Except (Nat × Nat) Pg :=
 let q := { q with labels := sortL q.labels }
 let e := checkP q
 if e ≠ 0 then .error (0, e) else .ok q
def endT (b1 : Nat) (h_13 : PHeap) (Q : Value → PHeap → Prop) : Prop :=
 ∃ (a8 : OA) (n8 k9 : Nat), h_13.cell b1 5 = some (vL a8 n8 k9) ∧
 Tri Tryz.prog 40 [vL a8 n8 k9, vF 41 [] []] h_13 fun v_8 h_14 =>
 v_8 = vT [] ∧
 ∃ (a9 : OA) (n9 k10 : Nat) (l8 : Bs) (i11 i12 : Int) (a10 : OA) (n10 k11 : Nat), h_14.row b1 1 [vL a9 n9 k10, vS l8, vI i11, vI i12, vL a10 n10 k11] ∧
 Tri Tryz.prog 24 [vA [vL a9 n9 k10, vS l8, vI i11, vI i12, vL a10 n10 k11]] h_14 fun v_9 h_15 =>
 ∃ (i13 : Int), v_9 = vI i13 ∧
 br (i13 != 0)
 (Q (vT [vA [vL none 0 0, vS [], vI 0, vI 0, vL none 0 0], vI 0, vI i13]) h_15)
 (∃ (a11 : OA) (n11 k12 : Nat) (l9 : Bs) (i14 i15 : Int) (a12 : OA) (n12 k13 : Nat), h_15.row b1 1 [vL a11 n11 k12, vS l9, vI i14, vI i15, vL a12 n12 k13] ∧
 Q (vT [vA [vL a11 n11 k12, vS l9, vI i14, vI i15, vL a12 n12 k13], vI 0, vI 0]) h_15)
section
variable {h0 hb h : PHeap} {p mS : Nat}
theorem FA_row {ca : OA} {cc : Nat} {q : Pg} {la : OA} {ln lc : Nat} {tl : List Value} (hp : h p = some (FA mS ca cc q la ln lc tl)) : h.row p 1 [vL ca q.code.length cc, vS q.data, vI q.zero, vI q.entry, vL la ln lc] :=
 ⟨(cell_of hp 1).trans rfl, (cell_of hp 2).trans rfl, (cell_of hp 3).trans rfl, (cell_of hp 4).trans rfl, (cell_of hp 5).trans rfl⟩
theorem end_13 {ca : OA} {cc : Nat} {q : Pg} {la : OA} {lc : Nat} {tl : List Value} {L : List Lb} (x0 : Ext h0 hb) (hO : OpTab hb) (hx : Ext hb h) (hpn : hb p = none) (hp : h p = some (FA mS ca cc q la L.length lc tl)) (hM : LM 80 3 hb h la L.length lc (L.map lbC)) (hI : InAt hb ca q.code) (hc : okN ca q.code.length cc)
 (hL : L.Perm q.labels) (hnd : (q.labels.map (·.name)).Nodup) (hn : q.code.length ≤ 1000000) (hd : q.data.length ≤ 1000000) (hl : q.labels.length ≤ 1000000) (ho : ∀ l ∈ q.labels, 0 ≤ l.off ∧ l.off ≤ 4096) (he : -10000000000 ≤ q.entry ∧ q.entry ≤ 10000000000) :
 endT p h fun v h' => AsmR h0 (finS q) v h' := by
 unfold endT
 have hnd' := nodup_names hnd
 have hndL := hL.nodup_iff.2 hnd'
 have hsl : sortL L = sortL q.labels := sort_perm_eq hL hnd'
 have hlen : L.length = q.labels.length := hL.length_eq
 have hslen : (sortL L).length = L.length := (sort_perm L).length_eq
 refine ⟨la, L.length, lc, (FA_row hp).2.2.2.2, ?_⟩
 have rest : ∀ h14, Ext hb h14 → h14 p = some (FA mS ca cc q la L.length lc tl) → LM 80 3 hb h14 la L.length lc ((sortL L).map lbC) →
  ∃ (a9 : OA) (n9 k10 : Nat) (l8 : Bs) (i11 i12 : Int) (a10 : OA) (n10 k11 : Nat), h14.row p 1 [vL a9 n9 k10, vS l8, vI i11, vI i12, vL a10 n10 k11] ∧
  Tri Tryz.prog 24 [vA [vL a9 n9 k10, vS l8, vI i11, vI i12, vL a10 n10 k11]] h14 fun v_9 h_15 =>
  ∃ (i13 : Int), v_9 = vI i13 ∧
  br (i13 != 0)
  (AsmR h0 (finS q) (vT [vA [vL none 0 0, vS [], vI 0, vI 0, vL none 0 0], vI 0, vI i13]) h_15)
  (∃ (a11 : OA) (n11 k12 : Nat) (l9 : Bs) (i14 i15 : Int) (a12 : OA) (n12 k13 : Nat), h_15.row p 1 [vL a11 n11 k12, vS l9, vI i14, vI i15, vL a12 n12 k13] ∧
  AsmR h0 (finS q) (vT [vA [vL a11 n11 k12, vS l9, vI i14, vI i15, vL a12 n12 k13], vI 0, vI 0]) h_15) := fun h14 x14 hp14 hM14 => by
  refine ⟨_, _, _, _, _, _, _, _, _, FA_row hp14, ?_⟩
  have hl2 : (sortL q.labels).length = L.length := by rw [← hsl]; exact hslen
  rw [← hl2]
  have hlb := hM14.lbs
  rw [hsl] at hlb
  refine Tri.mono (check_t (p := { q with labels := sortL q.labels }) (hO.ext x14) (hI.ext x14) hlb hn hd (by show (sortL q.labels).length ≤ _; omega) (fun l hm => ?_) (by show _ ≤ q.entry ∧ q.entry ≤ _; omega)) ?_
  · have := ho l ((sort_perm q.labels).subset hm); omega
  rintro _ h15 ⟨rfl, x15⟩
  refine ⟨_, rfl, br_split (fun e => ?_) fun e => ?_⟩
  · have e : checkP { q with labels := sortL q.labels } ≠ 0 := by simpa using e
    refine ⟨x0.trans (x14.trans x15), ?_⟩
    unfold finS
    simp only
    rw [if_pos e]
    exact ⟨e, rfl⟩
  · have e : checkP { q with labels := sortL q.labels } = 0 := by simpa using e
    have hok := hM14.okN
    refine ⟨_, _, _, _, _, _, _, _, _, FA_row (x15 _ _ hp14), ?_⟩
    refine ⟨x0.trans (x14.trans x15), ?_⟩
    unfold finS
    simp only
    rw [if_neg (by simp [e])]
    refine ⟨_, _, _, _, ?_, (hI.ext x14).ext x15, hlb.ext x15, hc, by rw [hl2]; exact hok⟩
    rw [hl2]
 by_cases hL0 : L = []
 · subst hL0
   refine Tri.mono sort_none ?_
   rintro _ h14 ⟨rfl, rfl⟩
   exact ⟨rfl, rest _ hx hp hM⟩
 · have hn0 : 0 < L.length := List.length_pos_iff.2 hL0
   obtain ⟨b, rst, hla, hbk, hr, hcc, _⟩ := hM.open hn0
   have hbp : b ≠ p := hM.ne hp (notE_cells (by decide) _ _) b hla
   subst hla
   refine Tri.mono (sort_t hbk (by omega) hndL) ?_
   rintro _ h14 ⟨rfl, rfl⟩
   refine ⟨rfl, rest _ (fun q' o hq => ?_) ?_ ?_⟩
   · rw [put_ne fun e => by subst e; rw [(hM.own q' rfl).1] at hq; cases hq]; exact hx _ _ hq
   · rw [put_ne (Ne.symm hbp)]; exact hp
   · exact hM.write hbk hr hcc hn0 (by rw [List.length_map, hslen]) fun cs hcs => by obtain ⟨x, _, rfl⟩ := List.mem_map.1 hcs; rfl
end
end Go.Proofs.D
namespace Go.Proofs.D
open Go Go.Den Go.As
set_option maxRecDepth 100000
attribute [local irreducible] IntKind.wrap Tri
theorem nodup_le : ∀ (n : Nat) (S : List Nat), S.Nodup → (∀ i ∈ S, i < n) → S.length ≤ n
 | 0, S, _, h => by
   cases S with
   | nil => simp
   | cons x S => exact absurd (h x (List.mem_cons_self ..)) (Nat.not_lt_zero _)
 | n + 1, S, hn, h => by
   have := nodup_le n (S.erase n) (hn.erase n) fun i hi => by
    have h1 := (hn.mem_erase_iff).1 hi
    have := h i h1.2
    have := h1.1
    omega
   rw [List.length_erase] at this
   split at this <;> omega
section
variable {h0 hb h : PHeap} {p mS : Nat}
def loopT (b1 p1 : Nat) (X : List Value) (h_11 : PHeap) (Q : Value → PHeap → Prop) : Prop :=
 ∃ (I_3 : Nat → PHeap → Prop), (∃ (m11 : Nat), I_3 m11 h_11) ∧
 ∀ (m10 : Nat) (h_12 : PHeap), I_3 m10 h_12 →
 Raw Tryz.prog (execOp (rho [(80, vP p1 0)]) (mkO o13_10 0)) h_12 fun v_7 h_13 =>
 ((v_7 = vT [vB false] ∧ endT b1 h_13 Q) ∨
 (∃ (k8 u1 : Value), v_7 = vT [vB true, k8, u1] ∧
 Raw Tryz.prog (execOp (rho [(80, vP p1 0)]) (mkO o13_12 0)) h_13 fun v_10 h_16 =>
 ∃ (l10 l11 : Bs) (c1 : Bool) (i16 : Int), v_10 = vT [vS l10, vA [vS l11, vB c1, vI i16]] ∧
 ∃ (a13 : OA) (n13 k14 : Nat), h_16.cell b1 5 = some (vL a13 n13 k14) ∧
 ∀ (b4 : Nat), h_16 b4 = none → ∀ (h_17 : PHeap), h_17 = h_16.put b4 (.cells ⟨[vS l11, vB c1, vI i16]⟩ 80) →
 (h_17.cell b1 5 = some (vL a13 n13 k14)) ∧
 Raw Tryz.prog (execOp (rho [(90, vL a13 n13 k14), (92, vL (ad b4 0) 1 1)]) (mkO o13_14 23)) h_17 fun v_11 h_18 =>
 ∃ (a14 : OA) (n14 k15 : Nat), v_11 = vL a14 n14 k15 ∧
 ∃ (l12 : List Value) (t3 : TypeId) (z3 : Nat × Nat), h_18 b1 = some (.cells ⟨l12⟩ t3 z3) ∧ (5 + 1 ≤ l12.length ∧ z3.2 ≤ 5) ∧
 ∀ (h_19 : PHeap), h_19 = h_18.put b1 (.cells ⟨splice l12 5 [vL a14 n14 k15]⟩ t3 z3) →
 ∃ (m12 : Nat), m12 < m10 ∧ I_3 m12 h_19 ∧
 tv X ∧ True))
theorem loop_13 {X : List Value} {ca : OA} {cc r mb : Nat} {q : Pg} {tl : List Value} (x0 : Ext h0 hb) (hO : OpTab hb) (hx : Ext hb h) (hpn : hb p = none) (hp : h p = some (FA mS ca cc q none 0 0 tl)) (hI : InAt hb ca q.code) (hc : okN ca q.code.length cc)
 (hrn : hb r = none) (hrp : r ≠ p) (hr : h r = some (.mapIter (some mb) q.labels.length #[] q.labels.length)) (hm : hb mb = some (.map ⟨ents (labE 0 q.labels)⟩ q.labels.length))
 (hnd : (q.labels.map (·.name)).Nodup) (hn : q.code.length ≤ 1000000) (hd : q.data.length ≤ 1000000) (hl : q.labels.length ≤ 1000000) (ho : ∀ l ∈ q.labels, 0 ≤ l.off ∧ l.off ≤ 4096) (he : -10000000000 ≤ q.entry ∧ q.entry ≤ 10000000000) :
 loopT p r X h fun v h' => AsmR h0 (finS q) v h' := by
 unfold loopT
 refine ⟨fun m h' => ∃ (S : List Nat) (la : OA) (lc : Nat), S.length + m = q.labels.length ∧ S.Nodup ∧ (∀ i ∈ S, i < q.labels.length) ∧ Ext hb h' ∧ h' r = some (.mapIter (some mb) q.labels.length ⟨S⟩ q.labels.length) ∧ h' p = some (FA mS ca cc q la S.length lc tl) ∧ LM 80 3 hb h' la S.length lc ((pick q.labels S).map lbC),
  ⟨q.labels.length, [], none, 0, by simp, List.nodup_nil, fun i hi => (List.not_mem_nil hi).elim, hx, hr, hp, LM.nil⟩, ?_⟩
 rintro m h1 ⟨S, la, lc, hm1, hSn, hSlt, hx1, hr1, hp1, hM⟩
 have hes : ∀ e ∈ (⟨ents (labE 0 q.labels)⟩ : Array MapEntry).toList, e.born < q.labels.length := fun e hem => by
  obtain ⟨j, l, h1, rfl⟩ := mem_ents _ _ _ hem
  have := (List.getElem?_eq_some_iff.1 h1).1
  simp; omega
 refine Raw.mono (raw_next rfl hr1 (hx1 _ _ hm) hes (Nat.le_refl _)) ?_
 rintro v h2 (⟨h0', rfl, rfl⟩ | ⟨e, hem, rfl, rfl⟩)
 · left
   refine ⟨rfl, ?_⟩
   have hall : ∀ i, i < q.labels.length → i ∈ S := fun i hi => by
    by_cases hiS : i ∈ S
    · exact hiS
    have hmem := ents_mem q.labels 0 i q.labels[i] (by simp [hi])
    rw [Nat.zero_add] at hmem
    have : (⟨vS q.labels[i].name, lbV q.labels[i], i⟩ : MapEntry) ∈ leftOf ⟨ents (labE 0 q.labels)⟩ ⟨S⟩ := by
     unfold leftOf
     rw [Array.mem_filter]
     refine ⟨Array.mem_def.2 hmem, ?_⟩
     simp [hiS]
    have hnil : leftOf ⟨ents (labE 0 q.labels)⟩ ⟨S⟩ = #[] := Array.eq_empty_of_size_eq_zero h0'
    rw [hnil] at this
    exact absurd this (Array.not_mem_empty _)
   have hpl : (pick q.labels S).length = S.length := by simp [pick]
   rw [← hpl] at hp1 hM
   exact end_13 x0 hO hx1 hpn hp1 hM hI hc (pick_perm hSn hSlt hall) hnd hn hd hl ho he
 · right
   obtain ⟨hem1, hem2⟩ := mem_left hem
   obtain ⟨j, l, hj, rfl⟩ := mem_ents _ _ _ hem1
   rw [Nat.zero_add] at *
   have hjS : j ∉ S := fun h => by
    have : (⟨S⟩ : Array Nat).contains j = true := by simp [h]
    rw [this] at hem2; cases hem2
   have hjl := (List.getElem?_eq_some_iff.1 hj).1
   have hpush : (⟨S⟩ : Array Nat).push j = ⟨S ++ [j]⟩ := by apply Array.toList_inj.1; simp
   have hlt : S.length < q.labels.length := by
    have h1 : (S ++ [j]).Nodup := List.nodup_append.2 ⟨hSn, by simp, fun x hx y hy hxy => by rw [List.mem_singleton.1 hy] at hxy; subst hxy; exact hjS hx⟩
    have h2 := nodup_le _ _ h1 fun i hi => by
     rcases List.mem_append.1 hi with hi | hi
     · exact hSlt i hi
     · rw [List.mem_singleton.1 hi]; exact hjl
    rw [List.length_append] at h2
    simp only [List.length_cons, List.length_nil] at h2; omega
   refine ⟨_, _, rfl, ?_⟩
   have hrn2 : NotE 80 (.mapIter (some mb) q.labels.length ((⟨S⟩ : Array Nat)) q.labels.length) := fun l z he => by cases he
   have hM2 := hM.put (o' := .mapIter (some mb) q.labels.length ((⟨S⟩ : Array Nat).push j) q.labels.length) hr1 hrn2
   have hx2 : Ext hb (h1.put r (.mapIter (some mb) q.labels.length ((⟨S⟩ : Array Nat).push j) q.labels.length)) := fun b o hb' => by
    rw [put_ne fun e => by subst e; rw [hrn] at hb'; cases hb']; exact hx1 _ _ hb'
   have hp2 : (h1.put r (.mapIter (some mb) q.labels.length ((⟨S⟩ : Array Nat).push j) q.labels.length)) p = some (FA mS ca cc q la S.length lc tl) := by
    rw [put_ne (Ne.symm hrp)]; exact hp1
   have hr2 : (h1.put r (.mapIter (some mb) q.labels.length ((⟨S⟩ : Array Nat).push j) q.labels.length)) r = some (.mapIter (some mb) q.labels.length ((⟨S⟩ : Array Nat).push j) q.labels.length) := put_same _ _ _
   generalize (h1.put r (.mapIter (some mb) q.labels.length ((⟨S⟩ : Array Nat).push j) q.labels.length)) = h2 at *
   have hfind : (⟨ents (labE 0 q.labels)⟩ : Array MapEntry).find? (·.born == j) = some ⟨vS l.name, lbV l, j⟩ := by
    rw [← Array.find?_toList]
    exact find_born ⟨vS l.name, lbV l, j⟩ _ (by rw [ents_born]; exact List.nodup_range') hem1
   refine Raw.mono (raw_entry rfl hr2 (hx2 _ _ hm) hfind) ?_
   rintro _ h3 ⟨rfl, rfl⟩
   refine ⟨l.name, l.name, l.data, l.off, rfl, la, S.length, lc, (FA_row hp2).2.2.2.2, ?_⟩
   intro b4 hb4 h4 hh4
   have x4 := Put.ext hh4 hb4
   have hp4 := x4 _ _ hp2
   have hr4 := x4 _ _ hr2
   refine ⟨(FA_row hp4).2.2.2.2, ?_⟩
   have hSlen : S.length ≤ q.labels.length := by omega
   refine Raw.mono (LM.push und23 elem80 rfl rfl rfl rfl rfl hx2 hM2 hb4 hh4 rfl rfl (by omega)) ?_
   rintro _ h5 ⟨b5, cap, rfl, hx5, hM5, hg⟩
   have hM4 := hM2.ext x4
   have hp5 : h5 p = h4 p := hg.ne hM4 hp4 (notE_cells (by decide) _ _)
   have hr5 : h5 r = h4 r := hg.ne hM4 hr4 (fun l z he => by cases he)
   refine ⟨_, _, _, rfl, _, _, _, (by rw [hp5]; exact hp4), ⟨by simp, Nat.zero_le _⟩, ?_⟩
   rintro h6 rfl
   refine ⟨m - 1, ?_, ⟨S ++ [j], ad b5 0, cap, ?_, ?_, ?_, ?_, ?_, ?_, ?_⟩, rfl, trivial⟩
   · omega
   · rw [List.length_append]; simp only [List.length_cons, List.length_nil]; omega
   · exact List.nodup_append.2 ⟨hSn, by simp, fun x hx y hy hxy => by rw [List.mem_singleton.1 hy] at hxy; subst hxy; exact hjS hx⟩
   · intro i hi
     rcases List.mem_append.1 hi with hi | hi
     · exact hSlt i hi
     · rw [List.mem_singleton.1 hi]; exact hjl
   · intro b o hb'
     rw [put_ne fun e => by subst e; rw [hpn] at hb'; cases hb']; exact hx5 _ _ hb'
   · rw [put_ne hrp, hr5, hr4, hpush]
   · rw [put_same]; simp [FA, splice]
   · have hl2 : (S ++ [j]).length = S.length + 1 := by simp
     have hpk : (pick q.labels (S ++ [j])).map lbC = (pick q.labels S).map lbC ++ [lbC l] := by
      simp [pick, List.getD_eq_getElem?_getD, hj]
     rw [hl2, hpk]
     exact hM5.put (by rw [hp5]; exact hp4) (notE_cells (by decide) _ _)
end
end Go.Proofs.D
namespace Go.Proofs.D
open Go Go.Den Go.As
set_option maxRecDepth 100000
attribute [local irreducible] IntKind.wrap Tri
section
variable {h0 hb h : PHeap} {p mS : Nat} {a : As.St} {K : AK}
def usesT (b1 : Nat) (a2 : OA) (n2 : Nat) (k2 : Nat) (l2 : Bs) (i2 : Int) (i3 : Int) (a3 : OA) (n3 : Nat) (k3 : Nat) (h_5 : PHeap) (Q : Value → PHeap → Prop) : Prop :=
 (∃ (a4 : OA) (n4 k4 : Nat), h_5.cell b1 12 = some (vL a4 n4 k4) ∧
 ∃ (I_2 : Nat → Int → OA → Nat → Nat → Bs → Int → Int → OA → Nat → Nat → PHeap → Prop), (∃ (m7 : Nat), I_2 m7 (0 : Int) a2 n2 k2 l2 i2 i3 a3 n3 k3 h_5) ∧
 ∀ (m6 : Nat) (i6 : Int) (a5 : OA) (n5 : Nat) (k5 : Nat) (l5 : Bs) (i7 : Int) (i8 : Int) (a6 : OA) (n6 : Nat) (k6 : Nat) (h_8 : PHeap), I_2 m6 i6 a5 n5 k5 l5 i7 i8 a6 n6 k6 h_8 →
 br (decide (i6 < ((n4 : Nat) : Int)))
 (∃ (b3 o2 : Nat), a4 = some ⟨b3, o2, none⟩ ∧ (0 ≤ i6 ∧ i6 < n4) ∧
 ∃ (i9 : Int) (f1 : Nat) (x1 y1 : List Value), h_8.row b3 (o2 + (i6).toNat * 2) [vI i9, vF f1 x1 y1] ∧
 Tri Tryz.prog f1 (x1 ++ [] ++ y1) h_8 fun v_5 h_9 =>
 ∃ (i10 : Int), v_5 = vI i10 ∧
 br (i10 != 0)
 ((tv [vI i9]) ∧
 Q (vT [vA [vL none 0 0, vS [], vI 0, vI 0, vL none 0 0], vI i9, vI i10]) h_9)
 (∃ (m8 : Nat), m8 < m6 ∧ I_2 m8 (IntKind.i64.wrap (i6 + 1)) a5 n5 k5 l5 i7 i8 a6 n6 k6 h_9 ∧
 True))
 (∃ (a7 : OA) (n7 k7 : Nat), h_8.cell b1 6 = some (vL a7 n7 k7) ∧
 ∃ (l6 : Bs), BytesAt h_8 a7 n7 l6 ∧
 ∃ (l7 : List Value) (t2 : TypeId) (z2 : Nat × Nat), h_8 b1 = some (.cells ⟨l7⟩ t2 z2) ∧ (2 + 1 ≤ l7.length ∧ z2.2 ≤ 2) ∧
 ∀ (h_10 : PHeap), h_10 = h_8.put b1 (.cells ⟨splice l7 2 [vS l6]⟩ t2 z2) →
 ∃ (m9 : Nat), h_10.cell b1 10 = some (vM m9) ∧
 Raw Tryz.prog (execOp (rho [(79, vM m9)]) (mkO o13_9 0)) h_10 fun v_6 h_11 =>
 ∃ (p1 o3 : Nat), v_6 = vP p1 o3 ∧
 ∃ (I_3 : Nat → PHeap → Prop), (∃ (m11 : Nat), I_3 m11 h_11) ∧
 ∀ (m10 : Nat) (h_12 : PHeap), I_3 m10 h_12 →
 Raw Tryz.prog (execOp (rho [(80, vP p1 o3)]) (mkO o13_10 0)) h_12 fun v_7 h_13 =>
 ((v_7 = vT [vB false] ∧ endT b1 h_13 Q) ∨
 (∃ (k8 u1 : Value), v_7 = vT [vB true, k8, u1] ∧
 Raw Tryz.prog (execOp (rho [(80, vP p1 o3)]) (mkO o13_12 0)) h_13 fun v_10 h_16 =>
 ∃ (l10 l11 : Bs) (c1 : Bool) (i16 : Int), v_10 = vT [vS l10, vA [vS l11, vB c1, vI i16]] ∧
 ∃ (a13 : OA) (n13 k14 : Nat), h_16.cell b1 5 = some (vL a13 n13 k14) ∧
 ∀ (b4 : Nat), h_16 b4 = none → ∀ (h_17 : PHeap), h_17 = h_16.put b4 (.cells ⟨[vS l11, vB c1, vI i16]⟩ 80) →
 (h_17.cell b1 5 = some (vL a13 n13 k14)) ∧
 Raw Tryz.prog (execOp (rho [(90, vL a13 n13 k14), (92, vL (ad b4 0) 1 1)]) (mkO o13_14 23)) h_17 fun v_11 h_18 =>
 ∃ (a14 : OA) (n14 k15 : Nat), v_11 = vL a14 n14 k15 ∧
 ∃ (l12 : List Value) (t3 : TypeId) (z3 : Nat × Nat), h_18 b1 = some (.cells ⟨l12⟩ t3 z3) ∧ (5 + 1 ≤ l12.length ∧ z3.2 ≤ 5) ∧
 ∀ (h_19 : PHeap), h_19 = h_18.put b1 (.cells ⟨splice l12 5 [vL a14 n14 k15]⟩ t3 z3) →
 ∃ (m12 : Nat), m12 < m10 ∧ I_3 m12 h_19 ∧
 tv [vL a5 n5 k5, vS l5, vI i7, vI i8, vL a6 n6 k6] ∧ True))))
def passS (a : As.St) : Except (Nat × Nat) Pg := match resolveS a.p a.uses with
 | .error e => .error e
 | .ok q => finS q
structure SameSz (p q : Pg) : Prop where
 code : q.code.length = p.code.length
 data : q.data.length = p.data.length
 labels : q.labels = p.labels
 ent : -10000000000 ≤ q.entry ∧ q.entry ≤ 10000000000
theorem SameSz.put {p q : Pg} {u : Us} {n : Int} (hs : SameSz p q) (hu : UseOk q u) (hn : 0 ≤ n ∧ n ≤ 5000000) : SameSz p (putU q u n) := by
 unfold putU
 split
 · exact ⟨by simp only [setC, List.length_modify]; exact hs.code, hs.data, hs.labels, hs.ent⟩
 · split
   · rename_i hk
     have := hu.data hk
     refine ⟨hs.code, ?_, hs.labels, hs.ent⟩
     have : (putW q.data u.idx n).length = q.data.length := by simp [putW, wordOf_len]; omega
     rw [this]; exact hs.data
   · exact ⟨hs.code, hs.data, hs.labels, by show _ ≤ n ∧ n ≤ _; omega⟩
theorem uses_13 {a2 : OA} {n2 k2 : Nat} {l2 : Bs} {i2 i3 : Int} {a3 : OA} {n3 k3 : Nat} (x0 : Ext h0 hb) (hO : OpTab hb) (hA : ASK hb h p mS a K) (hL : Lim a) (hV : Inv a) :
 usesT p a2 n2 k2 l2 i2 i3 a3 n3 k3 h fun v h' => AsmR h0 (passS a) v h' := by
 unfold usesT
 have hul : a.uses.length ≤ 10000 := by
  have := hL.uses; have := hL.code; have := hL.data
  have : a.hasEntry.toNat ≤ 1 := by cases a.hasEntry <;> decide
  omega
 refine ⟨K.ua, a.uses.length, K.uc, (by rw [PA_cell hA.obj]; rfl), fun m i _ _ _ _ _ _ _ _ _ h' => ∃ (j : Nat) (a' : As.St), i = (j : Int) ∧ j + m = a.uses.length ∧ ASK hb h' p mS a' K ∧ a'.uses = a.uses ∧ SameSz a.p a'.p ∧ resolveS a.p a.uses = resolveS a'.p (a.uses.drop j),
  ⟨a.uses.length, 0, a, rfl, by omega, hA, rfl, ⟨rfl, rfl, rfl, hV.ent⟩, rfl⟩, ?_⟩
 rintro m _ a5 n5 k5 l5 i7 i8 a6 n6 k6 h1 ⟨j, a', rfl, hjm, hA1, hu1, hsz, hres⟩
 refine br_split (fun e => ?_) fun e => ?_
 · have hlt : j < a.uses.length := by have := of_decide_eq_true e; omega
   have hg : a.uses[j]? = some a.uses[j] := by simp [hlt]
   have hdr := List.drop_eq_getElem_cons hlt
   have hmem := List.getElem_mem hlt
   rw [hdr, resolve_cons] at hres
   generalize a.uses[j] = u at *
   have hU := hA1.useAt
   rw [hu1] at hU
   have hlt2 : j < K.ul.length := by rw [← hU.1]; exact hlt
   have hg2 : K.ul[j]? = some K.ul[j] := by simp [hlt2]
   have hAt := hU.2 j u _ hg hg2
   obtain ⟨b, hba, hrow⟩ := hA1.uses.rowAt hg2
   generalize K.ul[j] = cs at *
   obtain ⟨b1, b2, b3, b4, b5, f, y, rfl, d1, d2, d3, d4, d5, hP⟩ := hAt
   have huo : UseOk a'.p u := (hV.uses u hmem).mono (by rw [hsz.code]; exact Nat.le_refl _) (by rw [hsz.data]; exact Nat.le_refl _)
   have hlb : ∀ l ∈ a'.p.labels, 0 ≤ l.off ∧ l.off ≤ 4096 := by rw [hsz.labels]; exact hV.labs
   have hcl : a'.p.code.length ≤ 1000000 := by rw [hsz.code]; have := hL.code; omega
   refine ⟨b, 0, hba, ⟨by omega, by omega⟩, _, _, _, _, (by rw [Int.toNat_natCast]; exact hrow), ?_⟩
   refine Tri.mono (value1_t hA1 d1 d2 d3 d4 d5 hP huo hlb hcl) ?_
   intro v h2 hR
   unfold ValR at hR
   cases had : address a'.p u.name with
   | none =>
     rw [had] at hR hres
     obtain ⟨rfl, hA2⟩ := hR
     refine ⟨_, rfl, br_pos rfl ⟨rfl, x0.trans hA2.ext, ?_⟩⟩
     unfold passS
     rw [hres]
     exact ⟨by decide, rfl⟩
   | some n =>
     rw [had] at hR hres
     simp only at hR hres
     by_cases hr : n < u.low ∨ u.high < n
     · rw [if_pos hr] at hR hres
       obtain ⟨rfl, hA2⟩ := hR
       refine ⟨_, rfl, br_pos rfl ⟨rfl, x0.trans hA2.ext, ?_⟩⟩
       unfold passS
       rw [hres]
       exact ⟨by decide, rfl⟩
     · rw [if_neg hr] at hR hres
       obtain ⟨rfl, hA2⟩ := hR
       have hn : 0 ≤ n ∧ n ≤ 5000000 := by
        unfold address at had
        simp only [Option.map_eq_some_iff] at had
        obtain ⟨l, h1, rfl⟩ := had
        exact place_range hcl (hlb l (List.mem_of_find?_eq_some h1))
       refine ⟨_, rfl, br_neg rfl ⟨m - 1, by omega, ⟨j + 1, _, ?_, by omega, hA2, hu1, hsz.put huo hn, hres⟩, trivial⟩⟩
       rw [wrap64 (by omega) (by omega)]; omega
 · have hj : j = a.uses.length := by have := of_decide_eq_false e; omega
   subst hj
   rw [List.drop_length] at hres
   have hres : resolveS a.p a.uses = .ok a'.p := hres
   have hp2 : passS a = finS a'.p := by unfold passS; rw [hres]
   rw [hp2]
   refine ⟨K.da, a'.p.data.length, K.dc, (by rw [PA_cell hA1.obj]; rfl), a'.p.data, hA1.data.bytes, _, _, _, hA1.obj, ⟨by simp, Nat.zero_le _⟩, ?_⟩
   rintro h2 rfl
   have hcA : (Obj.cells ⟨splice [vM mS, vL K.ca a'.p.code.length K.cc, vS [], vI a'.p.zero, vI a'.p.entry, vL none 0 0, vL K.da a'.p.data.length K.dc, vB a'.inData, vB a'.hasEntry, vB a'.hasZero, vM K.mb, vI a'.line, vL K.ua a'.uses.length K.uc] 2 [vS a'.p.data]⟩ 74 (0, 0)) =
    FA mS K.ca K.cc a'.p none 0 0 [vL K.da a'.p.data.length K.dc, vB a'.inData, vB a'.hasEntry, vB a'.hasZero, vM K.mb, vI a'.line, vL K.ua a'.uses.length K.uc] := rfl
   rw [hcA]
   generalize htl : [vL K.da a'.p.data.length K.dc, vB a'.inData, vB a'.hasEntry, vB a'.hasZero, vM K.mb, vI (a'.line : Int), vL K.ua a'.uses.length K.uc] = tl
   have hmbp := hA1.mbp
   have c10 : (h1.put p (FA mS K.ca K.cc a'.p none 0 0 tl)).cell p 10 = some (vM K.mb) := by
    rw [← htl]; exact (cell_of (put_same _ _ _) 10).trans rfl
   refine ⟨K.mb, c10, ?_⟩
   have hlen : a'.p.labels.length ≤ 1024 := by rw [hsz.labels]; exact hL.labels
   refine Raw.mono (raw_range und71 rfl (by rw [put_ne hmbp]; exact hA1.labs)) ?_
   rintro _ h3 ⟨r, hrn, rfl, rfl⟩
   refine ⟨r, 0, rfl, ?_⟩
   have hrp : r ≠ p := fun e => by subst e; rw [put_same] at hrn; cases hrn
   have hrn1 : h1 r = none := by rw [put_ne hrp] at hrn; exact hrn
   let hb1 : PHeap := fun q => if q = p then none else h1 q
   have g1 : ∀ q, q ≠ p → hb1 q = h1 q := fun q hq => if_neg hq
   have gp : hb1 p = none := if_pos rfl
   have xb : Ext hb hb1 := fun q o hq => by
    rw [g1 q fun e => by subst e; rw [hA1.new] at hq; cases hq]; exact hA1.ext _ _ hq
   have hIn : InAt hb1 K.ca a'.p.code := by
    have := LM.keep (h' := hb1) (fun b hb => g1 b (hA1.code.ne hA1.obj (notP 58 (by decide)) b hb)) hA1.code
    exact this.ins
   refine loop_13 (X := _) (mS := mS) (tl := tl) (mb := K.mb) (x0.trans xb) (hO.ext xb) (fun q o hq => ?_) gp ?_ hIn hA1.code.okN (by rw [g1 r hrp]; exact hrn1) hrp (put_same _ _ _) (by rw [g1 _ hmbp]; exact hA1.labs) (by rw [hsz.labels]; exact hV.nd) (by rw [hsz.code]; have := hL.code; omega) (by rw [hsz.data]; have := hL.data; omega) (by omega) (by rw [hsz.labels]; exact hV.labs) hsz.ent
   · have hqp : q ≠ p := fun e => by subst e; rw [gp] at hq; cases hq
     have hqr : q ≠ r := fun e => by subst e; rw [g1 q hqp, hrn1] at hq; cases hq
     rw [g1 q hqp] at hq
     rw [put_ne hqr, put_ne hqp]; exact hq
   · rw [put_ne (Ne.symm hrp), put_same]
end
end Go.Proofs.D
namespace Go.As
theorem split_each : ∀ (s : Bytes), ∀ x ∈ splitAt10 s, x.length ≤ s.length := by
 intro s x hx
 have := split_sum s
 have h2 : ∀ (l : List Nat), ∀ n ∈ l, n ≤ l.sum := by
  intro l
  induction l with
  | nil => intro n hn; cases hn
  | cons m l ih =>
    intro n hn
    rw [List.sum_cons]
    rcases List.mem_cons.1 hn with rfl | hn
    · omega
    · have := ih n hn; omega
 have := h2 _ x.length (List.mem_map_of_mem hx)
 omega
theorem split_count : ∀ (s : Bytes), (splitAt10 s).length ≤ s.length + 1
 | [] => by simp [splitAt10]
 | c :: r => by
   have ih := split_count r
   rw [splitAt10]
   split
   · simp only [List.length_cons]; omega
   · cases hs : splitAt10 r with
     | nil => simp
     | cons x l => rw [hs] at ih; simp only [List.length_cons] at *; omega
theorem lim0 : Lim st0 := ⟨by decide, by decide, by decide, by decide⟩
theorem inv0 : Inv st0 := ⟨fun _ h => (List.not_mem_nil h).elim, fun _ h => (List.not_mem_nil h).elim, List.nodup_nil, by decide⟩
end Go.As
namespace Go.Proofs.D
open Go Go.Den Go.As
set_option maxRecDepth 100000
attribute [local irreducible] IntKind.wrap Tri
theorem assemble_pass (s : Bytes) : assembleS s = if 65536 < s.length then .error (0, 5) else match linesS As.st0 (splitAt10 s) with
 | .error e => .error e
 | .ok a => passS a := rfl
theorem asm_t {h : PHeap} (s : Bytes) (hO : OpTab h) (hM : MaxLen h) : Tri Tryz.prog 13 [vS s] h fun v h' => AsmR h (assembleS s) v h' := by
 refine T13 ?_
 unfold R13
 refine br_split (fun e => ?_) fun e => ?_
 · have e := of_decide_eq_true e
   rw [assemble_pass, if_pos (by omega)]
   exact ⟨Ext.refl _, by decide, rfl⟩
 have hs : s.length ≤ 65536 := by have := of_decide_eq_false e; omega
 have hpass : assembleS s = match linesS As.st0 (splitAt10 s) with
  | .error e => .error e
  | .ok a => passS a := by rw [assemble_pass, if_neg (by omega)]
 refine Tri.mono (statements_t hO) ?_
 rintro _ h1 ⟨m1, rfl, x1, hS⟩
 refine ⟨m1, rfl, ?_⟩
 refine Raw.mono (raw_makeMap (Q := fun v h' => ∃ m, v = vM m ∧ h1 m = none ∧ h' = h1.put m (.map ⟨ents []⟩ 0)) fun b hb => ⟨b, rfl, hb, rfl⟩) ?_
 rintro _ h2 ⟨m2, rfl, hm2, hh2⟩
 refine ⟨m2, rfl, ?_⟩
 intro b1 hb1 h3 hh3
 have x2 := Put.ext hh2 hm2
 have x3 := Put.ext hh3 hb1
 have hK3 : ASK h1 h3 b1 m1 { As.st0 with line := 0 } ⟨none, 0, none, 0, none, 0, m2, []⟩ :=
  ⟨x2.trans x3, x2.dom _ hb1, Put.at hh3, LM.nil, LM.nil, LM.nil, ⟨rfl, fun j u cs h1 _ => by simp [As.st0] at h1⟩, hm2, x3 _ _ (Put.at hh2)⟩
 refine Tri.mono (split_t s (by omega) (hM.ext (x1.trans (x2.trans x3)))) ?_
 rintro _ h4 ⟨b2, hb2, rfl, hh4⟩
 have x4 := Put.ext hh4 hb2
 obtain ⟨hb4, y4, hA4, hin⟩ := AS.rebase x4 ⟨_, hK3⟩
 have hlines := hin b2 _ hb2 (Put.at hh4)
 have hcnt := split_count s
 have hlen := split_each s
 generalize splitAt10 s = lines at *
 refine ⟨_, _, _, rfl, ?_⟩
 refine ⟨fun m i _ _ _ _ _ _ _ _ _ h' => ∃ (j : Nat) (a : As.St) (l0 : Nat) (hb' : PHeap), i = (j : Int) ∧ j + m = lines.length ∧ Ext hb4 hb' ∧ AS hb' h' b1 m1 { a with line := l0 } ∧ a.line = j + 1 ∧ Lim a ∧ As.Inv a ∧ linesS As.st0 lines = linesS a (lines.drop j),
  ⟨lines.length, 0, As.st0, 0, hb4, rfl, by omega, Ext.refl _, hA4, rfl, lim0, inv0, rfl⟩, ?_⟩
 rintro m _ a2 n2 k2 l2 i2 i3 a3 n3 k3 h5 ⟨j, a, l0, hb', rfl, hjm, y5, hA5, hline, hLim, hInv, hres⟩
 have yb : Ext h hb' := x1.trans (y4.trans y5)
 refine br_split (fun e => ?_) fun e => ?_
 · have hlt : j < lines.length := by have := of_decide_eq_true e; omega
   have hg : lines[j]? = some lines[j] := by simp [hlt]
   have hdr := List.drop_eq_getElem_cons hlt
   have hll := hlen _ (List.getElem_mem hlt)
   rw [hdr, linesS] at hres
   generalize lines[j] = l at *
   refine ⟨b2, 0, rfl, ⟨by omega, by omega⟩, l, ?_, ?_⟩
   · rw [Int.toNat_natCast, Nat.zero_add, Nat.mul_one]
     refine cell_ext (fun ob => hA5.ext b2 ob) (cell_ext (fun ob => y5 b2 ob) ?_)
     rw [cell_of hlines]
     simp [hg]
   obtain ⟨K, hK⟩ := hA5
   refine ⟨_, _, _, hK.obj, ⟨by simp, Nat.zero_le _⟩, ?_⟩
   rintro h6 rfl
   have hw : IntKind.i64.wrap ((j : Int) + 1) = (a.line : Int) := by rw [wrap64 (by omega) (by omega), hline]; omega
   rw [hw]
   have hA6 : AS hb' (h5.put b1 (.cells ⟨splice [vM m1, vL K.ca a.p.code.length K.cc, vS [], vI a.p.zero, vI a.p.entry, vL none 0 0, vL K.da a.p.data.length K.dc, vB a.inData, vB a.hasEntry, vB a.hasZero, vM K.mb, vI l0, vL K.ua a.uses.length K.uc] 11 [vI (a.line : Int)]⟩ 74 (0, 0))) b1 m1 a :=
    ⟨K, hK.set (a' := a) rfl rfl rfl rfl rfl⟩
   refine Tri.mono (read_t (s := l) hA6 (hO.ext yb) (hS.ext (y4.trans y5)) (by omega) hLim) ?_
   intro v h7 hR
   cases hl : lineS a l with
   | error e =>
     rw [hl] at hR hres
     obtain ⟨rfl, g1, g2, g3⟩ := hR
     refine ⟨_, rfl, br_pos (by simp; omega) ⟨_, g3, g3, yb.trans g2, ?_⟩⟩
     rw [hpass, hres]
     exact ⟨g1, rfl⟩
   | ok a' =>
     rw [hl] at hR hres
     obtain ⟨rfl, hb7, g1, g2⟩ := hR
     obtain ⟨q1, q2⟩ := line_lim hLim (by omega) hl
     have q3 := line_inv hLim hInv (by omega) hl
     refine ⟨_, rfl, br_neg rfl ⟨m - 1, by omega, ⟨j + 1, { a' with line := a.line + 1 }, a'.line, hb7, ?_, by omega, y5.trans g1, g2, by simp only; omega, ⟨q1.code, q1.data, q1.labels, q1.uses⟩, ⟨q3.uses, q3.labs, q3.nd, q3.ent⟩, hres⟩, trivial⟩⟩
     omega
 · have hj : j = lines.length := by have := of_decide_eq_false e; omega
   subst hj
   rw [List.drop_length] at hres
   have hr : assembleS s = passS { a with line := l0 } := by rw [hpass, hres]; rfl
   rw [hr]
   obtain ⟨K, hK⟩ := hA5
   exact uses_13 yb (hO.ext yb) hK ⟨hLim.code, hLim.data, hLim.labels, hLim.uses⟩ ⟨hInv.uses, hInv.labs, hInv.nd, hInv.ent⟩
end Go.Proofs.D
namespace Go.As
def tx1 : Bytes := [115, 101, 116, 32, 114, 49, 44, 32, 120, 10, 46, 100, 97, 116, 97, 10, 120, 58, 32, 46, 98, 121, 116, 101, 32, 53]
def tx2 : Bytes := [97, 58, 32, 106, 117, 109, 112, 32, 97, 44, 32, 49]
def tx3 : Bytes := [106, 117, 109, 112, 32, 98]
def tx4 : Bytes := [115, 101, 116, 32, 114, 49, 44, 32, 51, 50, 55, 54, 56]
theorem as1 : assembleS tx1 = .ok ⟨[⟨2, 1, 0, 64⟩], [5], 0, 0, [⟨[120], true, 0⟩]⟩ := by kernel_rfl
theorem as2 : assembleS tx2 = .error (1, 30) := by kernel_rfl
theorem as3 : assembleS tx3 = .error (1, 37) := by kernel_rfl
theorem as4 : assembleS tx4 = .error (1, 2) := by kernel_rfl
end Go.As
namespace Go.Proofs.D
open Go Go.Den Go.As
set_option maxRecDepth 100000
attribute [local irreducible] IntKind.wrap Tri
theorem known_t {h : PHeap} (hO : OpTab h) (hM : MaxLen h) : Tri Tryz.prog 15 [] h fun v h' => v = vB true ∧ Ext h h' := by
 refine T15 ?_
 unfold R15
 refine Tri.mono (asm_t tx1 hO hM) ?_
 rintro v h1 ⟨x1, hr⟩
 rw [as1] at hr
 obtain ⟨a1, k1, a2, k2, rfl, hI, hL, _, _⟩ := hr
 refine ⟨_, _, _, _, _, _, _, _, _, _, _, rfl, ?_⟩
 refine Tri.mono (asm_t tx2 (hO.ext x1) (hM.ext x1)) ?_
 rintro v h2 ⟨x2, hr⟩
 rw [as2] at hr
 obtain ⟨_, rfl⟩ := hr
 refine ⟨_, _, _, _, _, _, _, _, _, _, _, rfl, ?_⟩
 have x12 := x1.trans x2
 refine Tri.mono (asm_t tx3 (hO.ext x12) (hM.ext x12)) ?_
 rintro v h3 ⟨x3, hr⟩
 rw [as3] at hr
 obtain ⟨_, rfl⟩ := hr
 refine ⟨_, _, _, _, _, _, _, _, _, _, _, rfl, ?_⟩
 have x13 := x12.trans x3
 refine Tri.mono (asm_t tx4 (hO.ext x13) (hM.ext x13)) ?_
 rintro v h4 ⟨x4, hr⟩
 rw [as4] at hr
 obtain ⟨_, rfl⟩ := hr
 refine ⟨_, _, _, _, _, _, _, _, _, _, _, rfl, br_pos rfl (br_pos rfl ?_)⟩
 have x24 := (x2.trans x3).trans x4
 obtain ⟨b, o, ha, hrow⟩ := (hI.ext x24).get (j := 0) rfl
 obtain ⟨b', o', ha', hrow'⟩ := (hL.ext x24).get (j := 0) rfl
 rw [Nat.zero_mul, Nat.add_zero] at hrow hrow'
 refine ⟨b, o, ha, by decide, _, hrow.2.2.2, br_pos rfl (br_pos rfl (br_pos rfl ⟨b', o', ha', by decide, _, _, _, hrow', true, pureVal_run _ (by kernel_rfl), br_pos rfl (br_pos rfl (br_pos rfl (br_pos rfl ⟨rfl, x13.trans x4⟩)))⟩))⟩
end Go.Proofs.D
namespace Go.Proofs.D
open Go Go.Den
set_option maxRecDepth 100000
set_option maxHeartbeats 4000000
end Go.Proofs.D
namespace Go.Proofs.D
open Go Go.Den Go.As
set_option maxRecDepth 100000
theorem run_part1 {t : TypeId} {l : List Value} {k : Nat} {v : Value} (w : World) (h2 : (isAgg t).run Tryz.prog w = .ok false w) (h3 : l[k]? = some v) : (part t ⟨l⟩ k).run Tryz.prog w = .ok v w := by
 simp [part, h2, h3]
theorem run_int3 (w : World) (a b : Int) : (Op.equalIn 9999 3 (vI a) (vI b)).run Tryz.prog w = .ok (a == b) w := run_equalIn_int w 9998 3 .i64 .i64 a b Tryz.underlying3
theorem run_str9 (w : World) (a b : Bytes) : (Op.equalIn 9999 9 (vS a) (vS b)).run Tryz.prog w = .ok (a == b) w := by
 have := run_equalIn_string w (P := Tryz.prog) 9998 9 ⟨⟨a⟩⟩ ⟨⟨b⟩⟩ Tryz.underlying9
 rw [show (Op.equalIn 9999 9 (vS a) (vS b)) = Op.equalIn (9998 + 1) 9 (.string ⟨⟨a⟩⟩) (.string ⟨⟨b⟩⟩) from rfl, this, ByteArray.toList_eq, ByteArray.toList_eq]
theorem run_bool4 (w : World) (a b : Bool) : (Op.equalIn 9999 4 (vB a) (vB b)).run Tryz.prog w = .ok (a == b) w := run_equalIn_bool' w 9998 4 a b Tryz.underlying4
theorem pure_neq {ρ : Operand → Value} {x y : Operand} {t t' ty : TypeId} {xs ys : List Value} {b : Bool} (hx : ρ x = vA xs) (hy : ρ y = vA ys) (hg : Tryz.prog.eqGuardType Tryz.prog.depth t = false) (h : ∀ w, (Op.equalIn 10000 t (vA xs) (vA ys)).run Tryz.prog w = .ok b w) :
 PureRun Tryz.prog (execOp ρ (mkO (.binOp .neq t x y t') ty)) (vB (!b)) := by
 intro w
 have h1 := h w
 have h2 : (binOp .neq t (vA xs) (vA ys)).run Tryz.prog w = .ok (vB (!b)) w := by
  rw [run_neq_struct, h1]; rfl
 have h3 : (eqGuard .neq t x y (vA xs) (vA ys)).run Tryz.prog w = .ok () w := run_eqGuard_agg (P := Tryz.prog) w .neq t x y ⟨xs⟩ ⟨ys⟩ hg
 simp only [execOp, mkO, hx, hy, Sem.run_bind, h3, h2, Result.andThen_ok, Sem.run_pure]
attribute [local irreducible] IntKind.wrap Tri
section
variable {h : PHeap}
theorem take_eq_iff {α : Type} {l m : List α} {j : Nat} {x y : α} (hl : l[j]? = some x) (hm : m[j]? = some y) : l.take (j + 1) = m.take (j + 1) ↔ l.take j = m.take j ∧ x = y := by
 obtain ⟨h1, rfl⟩ := List.getElem?_eq_some_iff.1 hl
 obtain ⟨h2, rfl⟩ := List.getElem?_eq_some_iff.1 hm
 rw [← List.take_append_getElem h1, ← List.take_append_getElem h2]
 constructor
 · intro h
   have := List.append_inj h (by simp; omega)
   exact ⟨this.1, by simpa using this.2⟩
 · rintro ⟨h, e⟩; rw [h, e]
def PV (a1 : OA) (k1 : Nat) (a2 : OA) (k2 : Nat) (q : Pg) : Value := vA [vL a1 q.code.length k1, vS q.data, vI q.zero, vI q.entry, vL a2 q.labels.length k2]
structure PgAt (h : PHeap) (a1 : OA) (k1 : Nat) (a2 : OA) (k2 : Nat) (q : Pg) : Prop where
 ins : InAt h a1 q.code
 lbs : LbAt h a2 q.labels
 ok1 : okN a1 q.code.length k1
 ok2 : okN a2 q.labels.length k2
theorem PgAt.ext {h h' : PHeap} {a1 : OA} {k1 : Nat} {a2 : OA} {k2 : Nat} {q : Pg} (x : Ext h h') (hp : PgAt h a1 k1 a2 k2 q) : PgAt h' a1 k1 a2 k2 q := ⟨hp.ins.ext x, hp.lbs.ext x, hp.ok1, hp.ok2⟩
end
end Go.Proofs.D
namespace Go.Proofs.D
open Go Go.Den
set_option maxRecDepth 100000
set_option maxHeartbeats 4000000
noncomputable def d33 : DCode := up ⟨[(9, .l [qi]), (10, .c (.tup [(false, [qi]), (false, [qi])])), (17, .c (.one false [.bool])), (21, .l [qi]), (26, .c (.one false [.bool])), (30, .l [qi]), (36, .c (.one false [.bool])), (40, .l [qi]), (48, .l [qi]), (49, .c (.tup [(false, [qi]), (false, [qi]), (false, [qi])])), (54, .l [qi]), (58, .l [qi]), (63, .l [qi]), (68, .l [qi]), (73, .c (.one false [.bool])), (76, .l [qi]), (81, .l [qi])], [], []⟩ (low Tryz.prog (fun _ => false) (Tryz.f33.body.getD .skip))
theorem low33 : low Tryz.prog (fun _ => false) (Tryz.f33.body.getD .skip) = some (eC d33) := by kernel_rfl
def R33 (i1 : Int) (i2 : Int) (i3 : Int) (i4 : Int) (h : PHeap) (Q : Value → PHeap → Prop) : Prop :=
 Tri Tryz.prog 63 [vI i1] h fun v_1 h_1 =>
 ∃ (i5 i6 : Int), v_1 = vT [vI i5, vI i6] ∧
 br (i6 != 0)
 (Q (vI i6) h_1)
 (Tri Tryz.prog 64 [vI i5] h_1 fun v_2 h_2 =>
 ∃ (c1 : Bool), v_2 = vB c1 ∧
 br (!c1)
 (br (i2 != 0)
 (Q (vI 1) h_2)
 (Tri Tryz.prog 65 [vI i5] h_2 fun v_3 h_3 =>
 ∃ (c2 : Bool), v_3 = vB c2 ∧
 br (!c2)
 (br (i3 != 0)
 (Q (vI 1) h_3)
 (Tri Tryz.prog 66 [vI i5] h_3 fun v_4 h_4 =>
 ∃ (c3 : Bool), v_4 = vB c3 ∧
 br (!c3)
 (br (i4 != 0)
 (Q (vI 1) h_4)
 (br (decide (i5 ≥ 4))
 (Tri Tryz.prog 67 [vI i1] h_4 fun v_5 h_5 =>
 ∃ (i7 i8 i9 : Int), v_5 = vT [vI i7, vI i8, vI i9] ∧
 br (decide (i2 < 0))
 (Q (vI 2) h_5)
 (br (decide (i2 > 7))
 (Q (vI 2) h_5)
 (br (decide (i3 < 0))
 (Q (vI 2) h_5)
 (br (decide (i3 > 7))
 (Q (vI 2) h_5)
 (Tri Tryz.prog 66 [vI i5] h_5 fun v_6 h_6 =>
 ∃ (c4 : Bool), v_6 = vB c4 ∧
 br c4
 (br (decide (i4 < i7))
 (Q (vI 2) h_6)
 (br (decide (i4 > i8))
 (Q (vI 2) h_6)
 (Q (vI 0) h_6)))
 (Q (vI 0) h_6))))))
 (br (decide (i2 < 0))
 (Q (vI 2) h_4)
 (br (decide (i2 > 7))
 (Q (vI 2) h_4)
 (br (decide (i3 < 0))
 (Q (vI 2) h_4)
 (br (decide (i3 > 7))
 (Q (vI 2) h_4)
 (Tri Tryz.prog 66 [vI i5] h_4 fun v_7 h_7 =>
 ∃ (c5 : Bool), v_7 = vB c5 ∧
 br c5
 (br (decide (i4 < 0))
 (Q (vI 2) h_7)
 (br (decide (i4 > 7))
 (Q (vI 2) h_7)
 (Q (vI 0) h_7)))
 (Q (vI 0) h_7))))))))
 (br (decide (i5 ≥ 4))
 (Tri Tryz.prog 67 [vI i1] h_4 fun v_8 h_8 =>
 ∃ (i10 i11 i12 : Int), v_8 = vT [vI i10, vI i11, vI i12] ∧
 br (decide (i2 < 0))
 (Q (vI 2) h_8)
 (br (decide (i2 > 7))
 (Q (vI 2) h_8)
 (br (decide (i3 < 0))
 (Q (vI 2) h_8)
 (br (decide (i3 > 7))
 (Q (vI 2) h_8)
 (Tri Tryz.prog 66 [vI i5] h_8 fun v_9 h_9 =>
 ∃ (c6 : Bool), v_9 = vB c6 ∧
 br c6
 (br (decide (i4 < i10))
 (Q (vI 2) h_9)
 (br (decide (i4 > i11))
 (Q (vI 2) h_9)
 (Q (vI 0) h_9)))
 (Q (vI 0) h_9))))))
 (br (decide (i2 < 0))
 (Q (vI 2) h_4)
 (br (decide (i2 > 7))
 (Q (vI 2) h_4)
 (br (decide (i3 < 0))
 (Q (vI 2) h_4)
 (br (decide (i3 > 7))
 (Q (vI 2) h_4)
 (Tri Tryz.prog 66 [vI i5] h_4 fun v_10 h_10 =>
 ∃ (c7 : Bool), v_10 = vB c7 ∧
 br c7
 (br (decide (i4 < 0))
 (Q (vI 2) h_10)
 (br (decide (i4 > 7))
 (Q (vI 2) h_10)
 (Q (vI 0) h_10)))
 (Q (vI 0) h_10)))))))))
 (Tri Tryz.prog 66 [vI i5] h_3 fun v_11 h_11 =>
 ∃ (c8 : Bool), v_11 = vB c8 ∧
 br (!c8)
 (br (i4 != 0)
 (Q (vI 1) h_11)
 (br (decide (i5 ≥ 4))
 (Tri Tryz.prog 67 [vI i1] h_11 fun v_12 h_12 =>
 ∃ (i13 i14 i15 : Int), v_12 = vT [vI i13, vI i14, vI i15] ∧
 br (decide (i2 < 0))
 (Q (vI 2) h_12)
 (br (decide (i2 > 7))
 (Q (vI 2) h_12)
 (br (decide (i3 < 0))
 (Q (vI 2) h_12)
 (br (decide (i3 > 7))
 (Q (vI 2) h_12)
 (Tri Tryz.prog 66 [vI i5] h_12 fun v_13 h_13 =>
 ∃ (c9 : Bool), v_13 = vB c9 ∧
 br c9
 (br (decide (i4 < i13))
 (Q (vI 2) h_13)
 (br (decide (i4 > i14))
 (Q (vI 2) h_13)
 (Q (vI 0) h_13)))
 (Q (vI 0) h_13))))))
 (br (decide (i2 < 0))
 (Q (vI 2) h_11)
 (br (decide (i2 > 7))
 (Q (vI 2) h_11)
 (br (decide (i3 < 0))
 (Q (vI 2) h_11)
 (br (decide (i3 > 7))
 (Q (vI 2) h_11)
 (Tri Tryz.prog 66 [vI i5] h_11 fun v_14 h_14 =>
 ∃ (c10 : Bool), v_14 = vB c10 ∧
 br c10
 (br (decide (i4 < 0))
 (Q (vI 2) h_14)
 (br (decide (i4 > 7))
 (Q (vI 2) h_14)
 (Q (vI 0) h_14)))
 (Q (vI 0) h_14))))))))
 (br (decide (i5 ≥ 4))
 (Tri Tryz.prog 67 [vI i1] h_11 fun v_15 h_15 =>
 ∃ (i16 i17 i18 : Int), v_15 = vT [vI i16, vI i17, vI i18] ∧
 br (decide (i2 < 0))
 (Q (vI 2) h_15)
 (br (decide (i2 > 7))
 (Q (vI 2) h_15)
 (br (decide (i3 < 0))
 (Q (vI 2) h_15)
 (br (decide (i3 > 7))
 (Q (vI 2) h_15)
 (Tri Tryz.prog 66 [vI i5] h_15 fun v_16 h_16 =>
 ∃ (c11 : Bool), v_16 = vB c11 ∧
 br c11
 (br (decide (i4 < i16))
 (Q (vI 2) h_16)
 (br (decide (i4 > i17))
 (Q (vI 2) h_16)
 (Q (vI 0) h_16)))
 (Q (vI 0) h_16))))))
 (br (decide (i2 < 0))
 (Q (vI 2) h_11)
 (br (decide (i2 > 7))
 (Q (vI 2) h_11)
 (br (decide (i3 < 0))
 (Q (vI 2) h_11)
 (br (decide (i3 > 7))
 (Q (vI 2) h_11)
 (Tri Tryz.prog 66 [vI i5] h_11 fun v_17 h_17 =>
 ∃ (c12 : Bool), v_17 = vB c12 ∧
 br c12
 (br (decide (i4 < 0))
 (Q (vI 2) h_17)
 (br (decide (i4 > 7))
 (Q (vI 2) h_17)
 (Q (vI 0) h_17)))
 (Q (vI 0) h_17))))))))))
 (Tri Tryz.prog 65 [vI i5] h_2 fun v_18 h_18 =>
 ∃ (c13 : Bool), v_18 = vB c13 ∧
 br (!c13)
 (br (i3 != 0)
 (Q (vI 1) h_18)
 (Tri Tryz.prog 66 [vI i5] h_18 fun v_19 h_19 =>
 ∃ (c14 : Bool), v_19 = vB c14 ∧
 br (!c14)
 (br (i4 != 0)
 (Q (vI 1) h_19)
 (br (decide (i5 ≥ 4))
 (Tri Tryz.prog 67 [vI i1] h_19 fun v_20 h_20 =>
 ∃ (i19 i20 i21 : Int), v_20 = vT [vI i19, vI i20, vI i21] ∧
 br (decide (i2 < 0))
 (Q (vI 2) h_20)
 (br (decide (i2 > 7))
 (Q (vI 2) h_20)
 (br (decide (i3 < 0))
 (Q (vI 2) h_20)
 (br (decide (i3 > 7))
 (Q (vI 2) h_20)
 (Tri Tryz.prog 66 [vI i5] h_20 fun v_21 h_21 =>
 ∃ (c15 : Bool), v_21 = vB c15 ∧
 br c15
 (br (decide (i4 < i19))
 (Q (vI 2) h_21)
 (br (decide (i4 > i20))
 (Q (vI 2) h_21)
 (Q (vI 0) h_21)))
 (Q (vI 0) h_21))))))
 (br (decide (i2 < 0))
 (Q (vI 2) h_19)
 (br (decide (i2 > 7))
 (Q (vI 2) h_19)
 (br (decide (i3 < 0))
 (Q (vI 2) h_19)
 (br (decide (i3 > 7))
 (Q (vI 2) h_19)
 (Tri Tryz.prog 66 [vI i5] h_19 fun v_22 h_22 =>
 ∃ (c16 : Bool), v_22 = vB c16 ∧
 br c16
 (br (decide (i4 < 0))
 (Q (vI 2) h_22)
 (br (decide (i4 > 7))
 (Q (vI 2) h_22)
 (Q (vI 0) h_22)))
 (Q (vI 0) h_22))))))))
 (br (decide (i5 ≥ 4))
 (Tri Tryz.prog 67 [vI i1] h_19 fun v_23 h_23 =>
 ∃ (i22 i23 i24 : Int), v_23 = vT [vI i22, vI i23, vI i24] ∧
 br (decide (i2 < 0))
 (Q (vI 2) h_23)
 (br (decide (i2 > 7))
 (Q (vI 2) h_23)
 (br (decide (i3 < 0))
 (Q (vI 2) h_23)
 (br (decide (i3 > 7))
 (Q (vI 2) h_23)
 (Tri Tryz.prog 66 [vI i5] h_23 fun v_24 h_24 =>
 ∃ (c17 : Bool), v_24 = vB c17 ∧
 br c17
 (br (decide (i4 < i22))
 (Q (vI 2) h_24)
 (br (decide (i4 > i23))
 (Q (vI 2) h_24)
 (Q (vI 0) h_24)))
 (Q (vI 0) h_24))))))
 (br (decide (i2 < 0))
 (Q (vI 2) h_19)
 (br (decide (i2 > 7))
 (Q (vI 2) h_19)
 (br (decide (i3 < 0))
 (Q (vI 2) h_19)
 (br (decide (i3 > 7))
 (Q (vI 2) h_19)
 (Tri Tryz.prog 66 [vI i5] h_19 fun v_25 h_25 =>
 ∃ (c18 : Bool), v_25 = vB c18 ∧
 br c18
 (br (decide (i4 < 0))
 (Q (vI 2) h_25)
 (br (decide (i4 > 7))
 (Q (vI 2) h_25)
 (Q (vI 0) h_25)))
 (Q (vI 0) h_25)))))))))
 (Tri Tryz.prog 66 [vI i5] h_18 fun v_26 h_26 =>
 ∃ (c19 : Bool), v_26 = vB c19 ∧
 br (!c19)
 (br (i4 != 0)
 (Q (vI 1) h_26)
 (br (decide (i5 ≥ 4))
 (Tri Tryz.prog 67 [vI i1] h_26 fun v_27 h_27 =>
 ∃ (i25 i26 i27 : Int), v_27 = vT [vI i25, vI i26, vI i27] ∧
 br (decide (i2 < 0))
 (Q (vI 2) h_27)
 (br (decide (i2 > 7))
 (Q (vI 2) h_27)
 (br (decide (i3 < 0))
 (Q (vI 2) h_27)
 (br (decide (i3 > 7))
 (Q (vI 2) h_27)
 (Tri Tryz.prog 66 [vI i5] h_27 fun v_28 h_28 =>
 ∃ (c20 : Bool), v_28 = vB c20 ∧
 br c20
 (br (decide (i4 < i25))
 (Q (vI 2) h_28)
 (br (decide (i4 > i26))
 (Q (vI 2) h_28)
 (Q (vI 0) h_28)))
 (Q (vI 0) h_28))))))
 (br (decide (i2 < 0))
 (Q (vI 2) h_26)
 (br (decide (i2 > 7))
 (Q (vI 2) h_26)
 (br (decide (i3 < 0))
 (Q (vI 2) h_26)
 (br (decide (i3 > 7))
 (Q (vI 2) h_26)
 (Tri Tryz.prog 66 [vI i5] h_26 fun v_29 h_29 =>
 ∃ (c21 : Bool), v_29 = vB c21 ∧
 br c21
 (br (decide (i4 < 0))
 (Q (vI 2) h_29)
 (br (decide (i4 > 7))
 (Q (vI 2) h_29)
 (Q (vI 0) h_29)))
 (Q (vI 0) h_29))))))))
 (br (decide (i5 ≥ 4))
 (Tri Tryz.prog 67 [vI i1] h_26 fun v_30 h_30 =>
 ∃ (i28 i29 i30 : Int), v_30 = vT [vI i28, vI i29, vI i30] ∧
 br (decide (i2 < 0))
 (Q (vI 2) h_30)
 (br (decide (i2 > 7))
 (Q (vI 2) h_30)
 (br (decide (i3 < 0))
 (Q (vI 2) h_30)
 (br (decide (i3 > 7))
 (Q (vI 2) h_30)
 (Tri Tryz.prog 66 [vI i5] h_30 fun v_31 h_31 =>
 ∃ (c22 : Bool), v_31 = vB c22 ∧
 br c22
 (br (decide (i4 < i28))
 (Q (vI 2) h_31)
 (br (decide (i4 > i29))
 (Q (vI 2) h_31)
 (Q (vI 0) h_31)))
 (Q (vI 0) h_31))))))
 (br (decide (i2 < 0))
 (Q (vI 2) h_26)
 (br (decide (i2 > 7))
 (Q (vI 2) h_26)
 (br (decide (i3 < 0))
 (Q (vI 2) h_26)
 (br (decide (i3 > 7))
 (Q (vI 2) h_26)
 (Tri Tryz.prog 66 [vI i5] h_26 fun v_32 h_32 =>
 ∃ (c23 : Bool), v_32 = vB c23 ∧
 br c23
 (br (decide (i4 < 0))
 (Q (vI 2) h_32)
 (br (decide (i4 > 7))
 (Q (vI 2) h_32)
 (Q (vI 0) h_32)))
 (Q (vI 0) h_32))))))))))
theorem T33 {i1 : Int} {i2 : Int} {i3 : Int} {i4 : Int} {h : PHeap} {Q : Value → PHeap → Prop} (hR : R33 i1 i2 i3 i4 h Q) : Tri Tryz.prog 33 [vA [vI i1, vI i2, vI i3, vI i4]] h Q :=
 tri_of_dn mixed Tryz.func33 rfl (by kernel_rfl) low33 (rs := [.tmp 2]) (by kernel_rfl) rfl (Eq.mpr (by kernel_rfl : dnF Tryz.prog Tryz.f33.ntmps d33 [.tmp 2] [vA [vI i1, vI i2, vI i3, vI i4]] h Q = R33 i1 i2 i3 i4 h Q) hR)
end Go.Proofs.D
namespace Go.As
end Go.As
namespace Go.Proofs.D
open Go Go.Den Go.As Go.Shelf
set_option maxRecDepth 100000
def PowTab (h : PHeap) : Prop := ∃ t z, h 2 = some (.cells ⟨Lib.pow10Tab.map fun z => Value.int .u64 z⟩ t z)
theorem PowTab.ext {h h' : PHeap} (x : Ext h h') (hp : PowTab h) : PowTab h' := by
 obtain ⟨t, z, hp⟩ := hp
 exact ⟨t, z, x _ _ hp⟩
attribute [local irreducible] IntKind.wrap Tri
section
variable {h : PHeap}
end
end Go.Proofs.D
namespace Go.Proofs.D
open Go Go.Den
set_option maxRecDepth 100000
set_option maxHeartbeats 4000000
abbrev elk1 : List CK := [.slice, .str, qi, qi, .slice]
noncomputable def d4 : DCode := up ⟨[(14, .c (.one false [.bool])), (21, .c (.one false [.slice])), (35, .c (.tup [(true, elk1), (false, [qi]), (false, [qi])])), (62, .c (.one false [.str])), (64, .c (.tup [(true, elk1), (false, [qi]), (false, [qi])])), (90, .l [qi]), (96, .l [.str])], [30], [(22, 10, [(7, qi)], [])]⟩ (low Tryz.prog (fun _ => false) (Tryz.f4.body.getD .skip))
end Go.Proofs.D
namespace Go.Proofs.D
open Go Go.Den Go.As
set_option maxRecDepth 100000
attribute [local irreducible] IntKind.wrap Tri
end Go.Proofs.D
namespace Go.Proofs.D
open Go Go.Den Go.As
set_option maxRecDepth 100000
attribute [local irreducible] IntKind.wrap Tri
section
variable {h : PHeap}
def lo33 (i2 i3 i4 i5 lo hi : Int) (h_5 : PHeap) (Q : Value → PHeap → Prop) : Prop :=
 br (decide (i2 < 0))
 (Q (vI 2) h_5)
 (br (decide (i2 > 7))
 (Q (vI 2) h_5)
 (br (decide (i3 < 0))
 (Q (vI 2) h_5)
 (br (decide (i3 > 7))
 (Q (vI 2) h_5)
 (Tri Tryz.prog 66 [vI i5] h_5 fun v_6 h_6 =>
 ∃ (c4 : Bool), v_6 = vB c4 ∧
 br c4
 (br (decide (i4 < lo))
 (Q (vI 2) h_6)
 (br (decide (i4 > hi))
 (Q (vI 2) h_6)
 (Q (vI 0) h_6)))
 (Q (vI 0) h_6)))))
def lim33 (i1 i2 i3 i4 i5 : Int) (h_4 : PHeap) (Q : Value → PHeap → Prop) : Prop :=
 br (decide (i5 ≥ 4))
 (Tri Tryz.prog 67 [vI i1] h_4 fun v_5 h_5 =>
 ∃ (i7 i8 i9 : Int), v_5 = vT [vI i7, vI i8, vI i9] ∧ lo33 i2 i3 i4 i5 i7 i8 h_5 Q)
 (lo33 i2 i3 i4 i5 0 7 h_4 Q)
def c33 (i1 i2 i3 i4 i5 : Int) (h_3 : PHeap) (Q : Value → PHeap → Prop) : Prop :=
 Tri Tryz.prog 66 [vI i5] h_3 fun v_4 h_4 =>
 ∃ (c3 : Bool), v_4 = vB c3 ∧
 br (!c3)
 (br (i4 != 0)
 (Q (vI 1) h_4)
 (lim33 i1 i2 i3 i4 i5 h_4 Q))
 (lim33 i1 i2 i3 i4 i5 h_4 Q)
def b33 (i1 i2 i3 i4 i5 : Int) (h_2 : PHeap) (Q : Value → PHeap → Prop) : Prop :=
 Tri Tryz.prog 65 [vI i5] h_2 fun v_3 h_3 =>
 ∃ (c2 : Bool), v_3 = vB c2 ∧
 br (!c2)
 (br (i3 != 0)
 (Q (vI 1) h_3)
 (c33 i1 i2 i3 i4 i5 h_3 Q))
 (c33 i1 i2 i3 i4 i5 h_3 Q)
theorem rcheck_t (x : Ins) : Tri Tryz.prog 33 [vA (insC x)] h fun v h' => v = vI (checkI x : Int) ∧ h' = h := by
 refine T33 ?_
 unfold R33
 refine Tri.mono (rform_t x.op) ?_
 rintro _ h1 ⟨rfl, rfl⟩
 by_cases hop : 0 ≤ x.op ∧ x.op ≤ 26
 rotate_left
 · rw [if_neg hop]
   refine ⟨_, _, rfl, br_pos rfl ?_⟩
   have : checkI x = 11 := by unfold checkI; rw [if_pos (by omega)]
   rw [this]; exact ⟨rfl, rfl⟩
 rw [if_pos hop]
 refine ⟨_, _, rfl, br_neg rfl ?_⟩
 obtain ⟨op, xa, xb, xc⟩ := x
 obtain ⟨k, hk⟩ : ∃ k : Nat, op = (k : Int) := ⟨op.toNat, by simp only at hop; omega⟩
 subst hk
 simp only at hop
 have hk27 : k < 27 := by omega
 show Tri Tryz.prog 64 [vI (form ((k : Int)).toNat : Nat)] h1 _
 have hck : checkI ⟨(k : Int), xa, xb, xc⟩ = if (!hasA (form k) && xa != 0) || (!hasB (form k) && xb != 0) || (!hasC (form k) && xc != 0) then 1
  else if xa < 0 ∨ 7 < xa ∨ xb < 0 ∨ 7 < xb ∨ (hasC (form k) = true ∧ (xc < (if 4 ≤ form k then limits k else (0, 7)).1 ∨ (if 4 ≤ form k then limits k else (0, 7)).2 < xc)) then 2 else 0 := by
  unfold checkI
  rw [if_neg (by simp only; omega)]
  simp only [Int.toNat_natCast]
 rw [Int.toNat_natCast]
 have lo : ∀ (lo hi : Int), (if 4 ≤ form k then limits k else (0, 7)) = (lo, hi) → ((!hasA (form k) && xa != 0) || (!hasB (form k) && xb != 0) || (!hasC (form k) && xc != 0)) = false →
  lo33 xa xb xc (form k : Nat) lo hi h1 fun v h' => v = vI (checkI ⟨(k : Int), xa, xb, xc⟩ : Int) ∧ h' = h1 := fun lo hi hlh hno => by
  rw [hno, hlh] at hck
  simp only [Bool.false_eq_true, if_false] at hck
  unfold lo33
  have two : xa < 0 ∨ 7 < xa ∨ xb < 0 ∨ 7 < xb ∨ (hasC (form k) = true ∧ (xc < lo ∨ hi < xc)) → vI 2 = vI (checkI ⟨(k : Int), xa, xb, xc⟩ : Int) := fun hh => by rw [hck, if_pos hh]; rfl
  refine br_split (fun e1 => ⟨two (.inl (of_decide_eq_true e1)), rfl⟩) fun e1 => br_split (fun e2 => ⟨two (.inr (.inl (of_decide_eq_true e2))), rfl⟩) fun e2 => br_split (fun e3 => ⟨two (.inr (.inr (.inl (of_decide_eq_true e3)))), rfl⟩) fun e3 => br_split (fun e4 => ⟨two (.inr (.inr (.inr (.inl (of_decide_eq_true e4))))), rfl⟩) fun e4 => ?_
  have e1 := of_decide_eq_false e1
  have e2 := of_decide_eq_false e2
  have e3 := of_decide_eq_false e3
  have e4 := of_decide_eq_false e4
  refine Tri.mono (rhasC_t (form k)) ?_
  rintro _ h2 ⟨rfl, rfl⟩
  refine ⟨_, rfl, br_split (fun e5 => br_split (fun e6 => ⟨two (.inr (.inr (.inr (.inr ⟨e5, .inl (of_decide_eq_true e6)⟩)))), rfl⟩) fun e6 => br_split (fun e7 => ⟨two (.inr (.inr (.inr (.inr ⟨e5, .inr (of_decide_eq_true e7)⟩)))), rfl⟩) fun e7 => ?_) fun e5 => ?_⟩
  · have e6 := of_decide_eq_false e6
    have e7 := of_decide_eq_false e7
    rw [hck, if_neg (by rintro (hh | hh | hh | hh | ⟨_, hh⟩) <;> omega)]; exact ⟨rfl, rfl⟩
  · rw [hck, if_neg (by rintro (hh | hh | hh | hh | ⟨hh, _⟩); omega; omega; omega; omega; rw [e5] at hh; cases hh)]; exact ⟨rfl, rfl⟩
 have lim : ((!hasA (form k) && xa != 0) || (!hasB (form k) && xb != 0) || (!hasC (form k) && xc != 0)) = false →
  lim33 (k : Int) xa xb xc (form k : Nat) h1 fun v h' => v = vI (checkI ⟨(k : Int), xa, xb, xc⟩ : Int) ∧ h' = h1 := fun hno => by
  unfold lim33
  refine br_split (fun e => ?_) fun e => ?_
  · have e := of_decide_eq_true e
    refine Tri.mono (rlimits_t hk27 (by omega)) ?_
    rintro _ h2 ⟨rfl, rfl⟩
    exact ⟨_, _, _, rfl, lo _ _ (by rw [if_pos (by omega)]) hno⟩
  · have e := of_decide_eq_false e
    exact lo 0 7 (by rw [if_neg (by omega)]) hno
 have one : ((!hasA (form k) && xa != 0) || (!hasB (form k) && xb != 0) || (!hasC (form k) && xc != 0)) = true → vI 1 = vI (checkI ⟨(k : Int), xa, xb, xc⟩ : Int) ∧ h1 = h1 := fun hh => ⟨by rw [hck, if_pos hh]; rfl, rfl⟩
 have cc : ((!hasA (form k) && xa != 0) || (!hasB (form k) && xb != 0)) = false → c33 (k : Int) xa xb xc (form k : Nat) h1 fun v h' => v = vI (checkI ⟨(k : Int), xa, xb, xc⟩ : Int) ∧ h' = h1 := fun hno => by
  unfold c33
  refine Tri.mono (rhasC_t (form k)) ?_
  rintro _ h2 ⟨rfl, rfl⟩
  refine ⟨_, rfl, br_split (fun e => br_split (fun e' => one (by rw [e, e']; simp)) fun e' => lim (by rw [hno, e']; simp)) fun e => lim (by rw [hno, e]; rfl)⟩
 have bb : (!hasA (form k) && xa != 0) = false → b33 (k : Int) xa xb xc (form k : Nat) h1 fun v h' => v = vI (checkI ⟨(k : Int), xa, xb, xc⟩ : Int) ∧ h' = h1 := fun hno => by
  unfold b33
  refine Tri.mono (rhasB_t (form k)) ?_
  rintro _ h2 ⟨rfl, rfl⟩
  refine ⟨_, rfl, br_split (fun e => br_split (fun e' => one (by rw [e, e']; simp)) fun e' => cc (by rw [hno, e']; simp)) fun e => cc (by rw [hno, e]; rfl)⟩
 refine Tri.mono (rhasA_t (form k)) ?_
 rintro _ h2 ⟨rfl, rfl⟩
 refine ⟨_, rfl, br_split (fun e => br_split (fun e' => one (by rw [e, e']; simp)) fun e' => bb (by rw [e']; simp)) fun e => bb (by rw [e]; rfl)⟩
end
end Go.Proofs.D
namespace Go.Proofs.D
open Go Go.Den Go.As
set_option maxRecDepth 100000
attribute [local irreducible] IntKind.wrap Tri
section
variable {h : PHeap}
end
end Go.Proofs.D
namespace Go.Proofs.D
open Go Go.Den
set_option maxRecDepth 100000
set_option maxHeartbeats 4000000
abbrev erk1 : List CK := [qi, qi, qi, qi]
abbrev erk2 : List CK := [.slice, .str, qi, qi, .slice]
noncomputable def d22 : DCode := up ⟨[(11, .l [.slice]), (17, .l [.slice]), (20, .l erk1), (21, .c (.one false [qi])), (26, .l [qi]), (30, .l [qi]), (34, .l erk2), (35, .c (.one false [qi])), (37, .l [.str]), (41, .l [qi]), (47, .l [.slice]), (52, .l [qi]), (56, .l [qi]), (62, .l [qi]), (64, .l [.slice]), (71, .l [.slice]), (77, .l [.slice]), (80, .l [.str, .bool, qi]), (83, .l [.str]), (84, .c (.one false [.bool])), (88, .l [qi]), (92, .l [.bool]), (96, .l [qi]), (101, .l [qi]), (103, .l [.slice]), (112, .l [.bool]), (115, .l [qi]), (117, .l [.str]), (120, .l [qi]), (130, .l [.slice]), (134, .l [.str, .bool, qi]), (135, .l [.str, .bool, qi]), (136, .c (.one false [.bool])), (141, .l [.slice]), (152, .l [.slice]), (156, .l [.str]), (158, .l [.slice]), (162, .l [.str])], [], [(9, 19, [(3, qi)], []), (69, 73, [(5, qi)], []), (139, 28, [(7, qi)], []), (146, 20, [(8, qi)], [])]⟩ (low Tryz.prog (fun _ => false) (Tryz.f22.body.getD .skip))
theorem low22 : low Tryz.prog (fun _ => false) (Tryz.f22.body.getD .skip) = some (eC d22) := by kernel_rfl
def R22 (a1 : OA) (n1 : Nat) (erk1 : Nat) (l1 : Bs) (i1 : Int) (i2 : Int) (a2 : OA) (n2 : Nat) (erk2 : Nat) (h : PHeap) (Q : Value → PHeap → Prop) : Prop :=
 ∃ (I_1 : Nat → Int → PHeap → Prop), (∃ (m2 : Nat), I_1 m2 (0 : Int) h) ∧
 ∀ (m1 : Nat) (i3 : Int) (h_1 : PHeap), I_1 m1 i3 h_1 →
 br (decide (i3 < ((n1 : Nat) : Int)))
 (∃ (b1 o1 : Nat), a1 = some ⟨b1, o1, none⟩ ∧ (0 ≤ i3 ∧ i3 < n1) ∧
 ∃ (i4 i5 i6 i7 : Int), h_1.row b1 (o1 + (i3).toNat * 4) [vI i4, vI i5, vI i6, vI i7] ∧
 Tri Tryz.prog 33 [vA [vI i4, vI i5, vI i6, vI i7]] h_1 fun v_1 h_2 =>
 ∃ (i8 : Int), v_1 = vI i8 ∧
 br (i8 != 0)
 (Q (vI i8) h_2)
 (∃ (m3 : Nat), m3 < m1 ∧ I_1 m3 (IntKind.i64.wrap (i3 + 1)) h_2 ∧
 tv [vL a1 n1 erk1, vS l1, vI i1, vI i2, vL a2 n2 erk2] ∧ True))
 (br (decide (i1 < 0))
 ((tv [vI i1]) ∧
 Q (vI 9) h_1)
 (br (decide (i1 > 4096))
 ((tv [vI i1]) ∧
 (tv [vI i1]) ∧
 Q (vI 9) h_1)
 (Tri Tryz.prog 26 [vA [vL a1 n1 erk1, vS l1, vI i1, vI i2, vL a2 n2 erk2]] h_1 fun v_2 h_3 =>
 ∃ (i9 : Int), v_2 = vI i9 ∧
 (tv [vI i1]) ∧
 (tv [vS l1]) ∧
 (tv [vI i1]) ∧
 (tv [vI i1]) ∧
 br (decide ((IntKind.i64.wrap ((IntKind.i64.wrap (i9 + (l1.length : Int))) + i1)) > 4096))
 (Q (vI 9) h_3)
 (br (decide (((n2 : Nat) : Int) > 1024))
 (Q (vI 9) h_3)
 (br (decide (i2 < 0))
 (Q (vI 2) h_3)
 (br ((Int.tmod i2 4) != 0)
 (Q (vI 2) h_3)
 (br (decide (i2 ≥ (IntKind.i64.wrap (4 * ((n1 : Nat) : Int)))))
 (Q (vI 2) h_3)
 (∃ (I_2 : Nat → Int → PHeap → Prop), (∃ (m5 : Nat), I_2 m5 (0 : Int) h_3) ∧
 ∀ (m4 : Nat) (i10 : Int) (h_4 : PHeap), I_2 m4 i10 h_4 →
 br (decide (i10 < ((n2 : Nat) : Int)))
 (∃ (b2 o2 : Nat), a2 = some ⟨b2, o2, none⟩ ∧ (0 ≤ i10 ∧ i10 < n2) ∧
 ∃ (l2 : Bs) (c1 : Bool) (i11 : Int), h_4.row b2 (o2 + (i10).toNat * 3) [vS l2, vB c1, vI i11] ∧
 Tri Tryz.prog 28 [vS l2] h_4 fun v_3 h_5 =>
 ∃ (c2 : Bool), v_3 = vB c2 ∧
 br (!c2)
 (Q (vI 12) h_5)
 (br (decide (i11 < 0))
 (Q (vI 2) h_5)
 (br (!c1)
 (br ((Int.tmod i11 4) != 0)
 (Q (vI 2) h_5)
 (br (decide (i11 > (IntKind.i64.wrap (4 * ((n1 : Nat) : Int)))))
 (Q (vI 2) h_5)
 (br c1
 (br (decide (i11 > (IntKind.i64.wrap ((l1.length : Int) + i1))))
 (Q (vI 2) h_5)
 (br (decide (i10 > 0))
 (∃ (b3 o3 : Nat), a2 = some ⟨b3, o3, none⟩ ∧ (0 ≤ (IntKind.i64.wrap (i10 - 1)) ∧ (IntKind.i64.wrap (i10 - 1)) < n2) ∧
 ∃ (l3 : Bs) (c3 : Bool) (i12 : Int), h_5.row b3 (o3 + (IntKind.i64.wrap (i10 - 1)).toNat * 3) [vS l3, vB c3, vI i12] ∧
 Tri Tryz.prog 45 [vA [vS l3, vB c3, vI i12], vA [vS l2, vB c1, vI i11]] h_5 fun v_4 h_6 =>
 ∃ (c4 : Bool), v_4 = vB c4 ∧
 (tv [vL a2 n2 erk2]) ∧
 br (!c4)
 (Q (vI 32) h_6)
 (∃ (m6 : Nat), m6 < m4 ∧ I_2 m6 (IntKind.i64.wrap (i10 + 1)) h_6 ∧
 tv [vL a1 n1 erk1, vS l1, vI i1, vI i2, vL a2 n2 erk2] ∧ True))
 (∃ (m7 : Nat), m7 < m4 ∧ I_2 m7 (IntKind.i64.wrap (i10 + 1)) h_5 ∧
 tv [vL a1 n1 erk1, vS l1, vI i1, vI i2, vL a2 n2 erk2] ∧ True)))
 (br (decide (i10 > 0))
 (∃ (b4 o4 : Nat), a2 = some ⟨b4, o4, none⟩ ∧ (0 ≤ (IntKind.i64.wrap (i10 - 1)) ∧ (IntKind.i64.wrap (i10 - 1)) < n2) ∧
 ∃ (l4 : Bs) (c5 : Bool) (i13 : Int), h_5.row b4 (o4 + (IntKind.i64.wrap (i10 - 1)).toNat * 3) [vS l4, vB c5, vI i13] ∧
 Tri Tryz.prog 45 [vA [vS l4, vB c5, vI i13], vA [vS l2, vB c1, vI i11]] h_5 fun v_5 h_7 =>
 ∃ (c6 : Bool), v_5 = vB c6 ∧
 (tv [vL a2 n2 erk2]) ∧
 br (!c6)
 (Q (vI 32) h_7)
 (∃ (m8 : Nat), m8 < m4 ∧ I_2 m8 (IntKind.i64.wrap (i10 + 1)) h_7 ∧
 tv [vL a1 n1 erk1, vS l1, vI i1, vI i2, vL a2 n2 erk2] ∧ True))
 (∃ (m9 : Nat), m9 < m4 ∧ I_2 m9 (IntKind.i64.wrap (i10 + 1)) h_5 ∧
 tv [vL a1 n1 erk1, vS l1, vI i1, vI i2, vL a2 n2 erk2] ∧ True)))))
 (br c1
 (br (decide (i11 > (IntKind.i64.wrap ((l1.length : Int) + i1))))
 (Q (vI 2) h_5)
 (br (decide (i10 > 0))
 (∃ (b5 o5 : Nat), a2 = some ⟨b5, o5, none⟩ ∧ (0 ≤ (IntKind.i64.wrap (i10 - 1)) ∧ (IntKind.i64.wrap (i10 - 1)) < n2) ∧
 ∃ (l5 : Bs) (c7 : Bool) (i14 : Int), h_5.row b5 (o5 + (IntKind.i64.wrap (i10 - 1)).toNat * 3) [vS l5, vB c7, vI i14] ∧
 Tri Tryz.prog 45 [vA [vS l5, vB c7, vI i14], vA [vS l2, vB c1, vI i11]] h_5 fun v_6 h_8 =>
 ∃ (c8 : Bool), v_6 = vB c8 ∧
 (tv [vL a2 n2 erk2]) ∧
 br (!c8)
 (Q (vI 32) h_8)
 (∃ (m10 : Nat), m10 < m4 ∧ I_2 m10 (IntKind.i64.wrap (i10 + 1)) h_8 ∧
 tv [vL a1 n1 erk1, vS l1, vI i1, vI i2, vL a2 n2 erk2] ∧ True))
 (∃ (m11 : Nat), m11 < m4 ∧ I_2 m11 (IntKind.i64.wrap (i10 + 1)) h_5 ∧
 tv [vL a1 n1 erk1, vS l1, vI i1, vI i2, vL a2 n2 erk2] ∧ True)))
 (br (decide (i10 > 0))
 (∃ (b6 o6 : Nat), a2 = some ⟨b6, o6, none⟩ ∧ (0 ≤ (IntKind.i64.wrap (i10 - 1)) ∧ (IntKind.i64.wrap (i10 - 1)) < n2) ∧
 ∃ (l6 : Bs) (c9 : Bool) (i15 : Int), h_5.row b6 (o6 + (IntKind.i64.wrap (i10 - 1)).toNat * 3) [vS l6, vB c9, vI i15] ∧
 Tri Tryz.prog 45 [vA [vS l6, vB c9, vI i15], vA [vS l2, vB c1, vI i11]] h_5 fun v_7 h_9 =>
 ∃ (c10 : Bool), v_7 = vB c10 ∧
 (tv [vL a2 n2 erk2]) ∧
 br (!c10)
 (Q (vI 32) h_9)
 (∃ (m12 : Nat), m12 < m4 ∧ I_2 m12 (IntKind.i64.wrap (i10 + 1)) h_9 ∧
 tv [vL a1 n1 erk1, vS l1, vI i1, vI i2, vL a2 n2 erk2] ∧ True))
 (∃ (m13 : Nat), m13 < m4 ∧ I_2 m13 (IntKind.i64.wrap (i10 + 1)) h_5 ∧
 tv [vL a1 n1 erk1, vS l1, vI i1, vI i2, vL a2 n2 erk2] ∧ True))))))
 (∃ (I_3 : Nat → Int → PHeap → Prop), (∃ (m15 : Nat), I_3 m15 (0 : Int) h_4) ∧
 ∀ (m14 : Nat) (i16 : Int) (h_10 : PHeap), I_3 m14 i16 h_10 →
 br (decide (i16 < ((n2 : Nat) : Int)))
 (∃ (I_4 : Nat → Int → PHeap → Prop), (∃ (m17 : Nat), I_4 m17 (0 : Int) h_10) ∧
 ∀ (m16 : Nat) (i17 : Int) (h_11 : PHeap), I_4 m16 i17 h_11 →
 br (decide (i17 < i16))
 (∃ (b7 o7 : Nat), a2 = some ⟨b7, o7, none⟩ ∧ (0 ≤ i17 ∧ i17 < n2) ∧
 ∃ (l7 : Bs), h_11.cell b7 (o7 + (i17).toNat * 3) = some (vS l7) ∧
 ∃ (b8 o8 : Nat), a2 = some ⟨b8, o8, none⟩ ∧ (0 ≤ i16 ∧ i16 < n2) ∧
 ∃ (l8 : Bs), h_11.cell b8 (o8 + (i16).toNat * 3) = some (vS l8) ∧
 br (l7 == l8)
 (Q (vI 7) h_11)
 (∃ (m18 : Nat), m18 < m16 ∧ I_4 m18 (IntKind.i64.wrap (i17 + 1)) h_11 ∧
 tv [vL a1 n1 erk1, vS l1, vI i1, vI i2, vL a2 n2 erk2] ∧ True))
 (∃ (m19 : Nat), m19 < m14 ∧ I_3 m19 (IntKind.i64.wrap (i16 + 1)) h_11 ∧
 tv [vL a1 n1 erk1, vS l1, vI i1, vI i2, vL a2 n2 erk2] ∧ True))
 (Q (vI 0) h_10))))))))))
theorem T22 {a1 : OA} {n1 : Nat} {erk1 : Nat} {l1 : Bs} {i1 : Int} {i2 : Int} {a2 : OA} {n2 : Nat} {erk2 : Nat} {h : PHeap} {Q : Value → PHeap → Prop} (hR : R22 a1 n1 erk1 l1 i1 i2 a2 n2 erk2 h Q) : Tri Tryz.prog 22 [vA [vL a1 n1 erk1, vS l1, vI i1, vI i2, vL a2 n2 erk2]] h Q :=
 tri_of_dn mixed Tryz.func22 rfl (by kernel_rfl) low22 (rs := [.tmp 2]) (by kernel_rfl) rfl (Eq.mpr (by kernel_rfl : dnF Tryz.prog Tryz.f22.ntmps d22 [.tmp 2] [vA [vL a1 n1 erk1, vS l1, vI i1, vI i2, vL a2 n2 erk2]] h Q = R22 a1 n1 erk1 l1 i1 i2 a2 n2 erk2 h Q) hR)
noncomputable def d23 : DCode := up ⟨[(8, .l [.slice]), (14, .l [.slice]), (18, .l [.str]), (23, .l [.slice]), (27, .l [.bool]), (29, .l erk2), (30, .c (.one false [qi])), (32, .l [.slice]), (36, .l [qi]), (39, .l [.slice]), (43, .l [.str]), (47, .l [.slice]), (51, .l [qi])], [], [(6, 48, [(5, qi)], [])]⟩ (low Tryz.prog (fun _ => false) (Tryz.f23.body.getD .skip))
theorem low23 : low Tryz.prog (fun _ => false) (Tryz.f23.body.getD .skip) = some (eC d23) := by kernel_rfl
def R23 (a1 : OA) (n1 : Nat) (erk1 : Nat) (l1 : Bs) (i1 : Int) (i2 : Int) (a2 : OA) (n2 : Nat) (erk2 : Nat) (l2 : Bs) (h : PHeap) (Q : Value → PHeap → Prop) : Prop :=
 ∃ (I_1 : Nat → Int → PHeap → Prop), (∃ (m2 : Nat), I_1 m2 (0 : Int) h) ∧
 ∀ (m1 : Nat) (i3 : Int) (h_1 : PHeap), I_1 m1 i3 h_1 →
 br (decide (i3 < ((n2 : Nat) : Int)))
 (∃ (b1 o1 : Nat), a2 = some ⟨b1, o1, none⟩ ∧ (0 ≤ i3 ∧ i3 < n2) ∧
 ∃ (l3 : Bs), h_1.cell b1 (o1 + (i3).toNat * 3) = some (vS l3) ∧
 br (l3 == l2)
 (∃ (b2 o2 : Nat), a2 = some ⟨b2, o2, none⟩ ∧ (0 ≤ i3 ∧ i3 < n2) ∧
 ∃ (c1 : Bool), h_1.cell b2 ((o2 + (i3).toNat * 3) + 1) = some (vB c1) ∧
 br c1
 (∃ (b3 o3 : Nat), a2 = some ⟨b3, o3, none⟩ ∧ (0 ≤ i3 ∧ i3 < n2) ∧
 ∃ (i4 : Int), h_1.cell b3 ((o3 + (i3).toNat * 3) + 2) = some (vI i4) ∧
 Tri Tryz.prog 26 [vA [vL a1 n1 erk1, vS l1, vI i1, vI i2, vL a2 n2 erk2]] h_1 fun v_1 h_2 =>
 ∃ (i5 : Int), v_1 = vI i5 ∧
 (h_2.cell b3 ((o3 + (i3).toNat * 3) + 2) = some (vI i4)) ∧
 (tv [vL a2 n2 erk2]) ∧
 Q (vI (IntKind.i64.wrap (i5 + i4))) h_2)
 (∃ (b4 o4 : Nat), a2 = some ⟨b4, o4, none⟩ ∧ (0 ≤ i3 ∧ i3 < n2) ∧
 ∃ (l4 : Bs), h_1.cell b4 (o4 + (i3).toNat * 3) = some (vS l4) ∧
 br (l4 == l2)
 (∃ (b5 o5 : Nat), a2 = some ⟨b5, o5, none⟩ ∧ (0 ≤ i3 ∧ i3 < n2) ∧
 ∃ (i6 : Int), h_1.cell b5 ((o5 + (i3).toNat * 3) + 2) = some (vI i6) ∧
 Q (vI i6) h_1)
 (∃ (m3 : Nat), m3 < m1 ∧ I_1 m3 (IntKind.i64.wrap (i3 + 1)) h_1 ∧
 tv [vL a1 n1 erk1, vS l1, vI i1, vI i2, vL a2 n2 erk2] ∧ True)))
 (∃ (b6 o6 : Nat), a2 = some ⟨b6, o6, none⟩ ∧ (0 ≤ i3 ∧ i3 < n2) ∧
 ∃ (l5 : Bs), h_1.cell b6 (o6 + (i3).toNat * 3) = some (vS l5) ∧
 br (l5 == l2)
 (∃ (b7 o7 : Nat), a2 = some ⟨b7, o7, none⟩ ∧ (0 ≤ i3 ∧ i3 < n2) ∧
 ∃ (i7 : Int), h_1.cell b7 ((o7 + (i3).toNat * 3) + 2) = some (vI i7) ∧
 Q (vI i7) h_1)
 (∃ (m4 : Nat), m4 < m1 ∧ I_1 m4 (IntKind.i64.wrap (i3 + 1)) h_1 ∧
 tv [vL a1 n1 erk1, vS l1, vI i1, vI i2, vL a2 n2 erk2] ∧ True)))
 (Q (vI (-1)) h_1)
theorem T23 {a1 : OA} {n1 : Nat} {erk1 : Nat} {l1 : Bs} {i1 : Int} {i2 : Int} {a2 : OA} {n2 : Nat} {erk2 : Nat} {l2 : Bs} {h : PHeap} {Q : Value → PHeap → Prop} (hR : R23 a1 n1 erk1 l1 i1 i2 a2 n2 erk2 l2 h Q) : Tri Tryz.prog 23 [vA [vL a1 n1 erk1, vS l1, vI i1, vI i2, vL a2 n2 erk2], vS l2] h Q :=
 tri_of_dn mixed Tryz.func23 rfl (by kernel_rfl) low23 (rs := [.tmp 4]) (by kernel_rfl) rfl (Eq.mpr (by kernel_rfl : dnF Tryz.prog Tryz.f23.ntmps d23 [.tmp 4] [vA [vL a1 n1 erk1, vS l1, vI i1, vI i2, vL a2 n2 erk2], vS l2] h Q = R23 a1 n1 erk1 l1 i1 i2 a2 n2 erk2 l2 h Q) hR)
noncomputable def d26 : DCode := up ⟨[(4, .l [.slice])], [], []⟩ (low Tryz.prog (fun _ => false) (Tryz.f26.body.getD .skip))
theorem low26 : low Tryz.prog (fun _ => false) (Tryz.f26.body.getD .skip) = some (eC d26) := by kernel_rfl
def R26 (a1 : OA) (n1 : Nat) (erk1 : Nat) (l1 : Bs) (i1 : Int) (i2 : Int) (a2 : OA) (n2 : Nat) (erk2 : Nat) (h : PHeap) (Q : Value → PHeap → Prop) : Prop :=
 Q (vI (IntKind.i64.wrap ((IntKind.i64.wrap (Int.tdiv (IntKind.i64.wrap ((IntKind.i64.wrap (4 * ((n1 : Nat) : Int))) + 63)) 64)) * 64))) h
theorem T26 {a1 : OA} {n1 : Nat} {erk1 : Nat} {l1 : Bs} {i1 : Int} {i2 : Int} {a2 : OA} {n2 : Nat} {erk2 : Nat} {h : PHeap} {Q : Value → PHeap → Prop} (hR : R26 a1 n1 erk1 l1 i1 i2 a2 n2 erk2 h Q) : Tri Tryz.prog 26 [vA [vL a1 n1 erk1, vS l1, vI i1, vI i2, vL a2 n2 erk2]] h Q :=
 tri_of_dn mixed Tryz.func26 rfl (by kernel_rfl) low26 (rs := [.tmp 2]) (by kernel_rfl) rfl (Eq.mpr (by kernel_rfl : dnF Tryz.prog Tryz.f26.ntmps d26 [.tmp 2] [vA [vL a1 n1 erk1, vS l1, vI i1, vI i2, vL a2 n2 erk2]] h Q = R26 a1 n1 erk1 l1 i1 i2 a2 n2 erk2 h Q) hR)
abbrev o45_3 : Op := .binOp .lss 9 (.tmp 25) (.tmp 27) 9
noncomputable def d45 : DCode := up ⟨[(7, .l [.bool]), (9, .l [.bool]), (12, .l [.bool]), (15, .l [qi]), (17, .l [qi]), (20, .l [qi]), (22, .l [qi]), (25, .l [.str]), (27, .l [.str]), (28, .c (.one false [.bool]))], [], []⟩ (low Tryz.prog (fun _ => false) (Tryz.f45.body.getD .skip))
theorem low45 : low Tryz.prog (fun _ => false) (Tryz.f45.body.getD .skip) = some (eC d45) := by kernel_rfl
def R45 (l1 : Bs) (c1 : Bool) (i1 : Int) (l2 : Bs) (c2 : Bool) (i2 : Int) (h : PHeap) (Q : Value → PHeap → Prop) : Prop :=
 br (!(c1 == c2))
 (Q (vB c2) h)
 (br (i1 != i2)
 (Q (vB (decide (i1 < i2))) h)
 (∃ (c3 : Bool), PureRun Tryz.prog (execOp (rho [(25, vS l1), (27, vS l2)]) (mkO o45_3 4)) (vB c3) ∧
 Q (vB c3) h))
theorem T45 {l1 : Bs} {c1 : Bool} {i1 : Int} {l2 : Bs} {c2 : Bool} {i2 : Int} {h : PHeap} {Q : Value → PHeap → Prop} (hR : R45 l1 c1 i1 l2 c2 i2 h Q) : Tri Tryz.prog 45 [vA [vS l1, vB c1, vI i1], vA [vS l2, vB c2, vI i2]] h Q :=
 tri_of_dn mixed Tryz.func45 rfl (by kernel_rfl) low45 (rs := [.tmp 4]) (by kernel_rfl) rfl (Eq.mpr (by kernel_rfl : dnF Tryz.prog Tryz.f45.ntmps d45 [.tmp 4] [vA [vS l1, vB c1, vI i1], vA [vS l2, vB c2, vI i2]] h Q = R45 l1 c1 i1 l2 c2 i2 h Q) hR)
noncomputable def d5 : DCode := up ⟨[(9, .l erk2), (10, .c (.one true erk2)), (14, .c (.one false [qi])), (16, .l erk2), (17, .c (.one true erk2)), (19, .l erk2), (21, .c (.tup [(false, [qi]), (false, [.bool])])), (24, .l erk2), (25, .c (.one false [qi])), (27, .l erk2), (29, .c (.one false [qi])), (30, .c (.one false [.bool])), (32, .l erk2), (33, .c (.one false [qi])), (34, .l erk2), (35, .c (.one false [qi])), (39, .l erk2), (40, .c (.one false [qi])), (41, .l erk2), (42, .c (.one false [qi])), (54, .c (.one false [qi]))], [], []⟩ (low Tryz.prog (fun _ => false) (Tryz.f5.body.getD .skip))
end Go.Proofs.D
namespace Go.As
theorem bytes_less : ∀ a b : Bytes, Op.bytesLess a b = decide (a < b)
 | [], [] => rfl
 | _ :: _, [] => by simp [Op.bytesLess]
 | [], _ :: _ => by simp [Op.bytesLess]
 | x :: a, y :: b => by
   rw [Op.bytesLess, bytes_less a b, Bool.eq_iff_iff]
   simp only [Bool.or_eq_true, Bool.and_eq_true, decide_eq_true_iff, beq_iff_eq, List.cons_lt_cons_iff]
end Go.As
namespace Go.Proofs.D
open Go Go.Den Go.As
set_option maxRecDepth 100000
theorem pure_lss {ρ : Operand → Value} {x y : Operand} {ty t' : TypeId} {a b : Bytes} (hx : ρ x = vS a) (hy : ρ y = vS b) : PureRun Tryz.prog (execOp ρ (mkO (.binOp .lss 9 x y t') ty)) (vB (decide (a < b))) := by
 intro w
 have h2 : (binOp .lss 9 (vS a) (vS b)).run Tryz.prog w = .ok (vB (decide (a < b))) w := by
  rw [show (vS a) = .string ⟨⟨a⟩⟩ from rfl, show (vS b) = .string ⟨⟨b⟩⟩ from rfl, binOp_string_lss, ByteArray.toList_eq, ByteArray.toList_eq, bytes_less]; rfl
 have h3 : (eqGuard .lss 9 x y (vS a) (vS b)).run Tryz.prog w = .ok () w := by simp [eqGuard]
 simp only [execOp, mkO, hx, hy, Sem.run_bind, h3, h2, Result.andThen_ok, Sem.run_pure]
attribute [local irreducible] IntKind.wrap Tri
section
variable {h : PHeap}
theorem rfollows_t (a b : Lb) : Tri Tryz.prog 45 [vA (lbC a), vA (lbC b)] h fun v h' => v = vB (follows a b) ∧ h' = h := by
 refine T45 ?_
 unfold R45
 unfold follows
 refine br_split (fun e => ⟨?_, rfl⟩) fun e => br_split (fun e1 => ⟨?_, rfl⟩) fun e1 => ⟨_, pure_lss rfl rfl, ?_, rfl⟩
 · rw [if_pos (by simpa using e)]
 · have e1 : a.off ≠ b.off := by simpa using e1
   rw [if_neg (by simpa using e), if_pos e1]
 · have e1 : a.off = b.off := by simpa using e1
   rw [if_neg (by simpa using e), if_neg (fun hh => hh e1)]
theorem rdataAt_t {a1 : OA} {k1 : Nat} {d : Bytes} {z e : Int} {a2 : OA} {n2 k2 : Nat} {p : Pg} (hn : p.code.length ≤ 1000000) : Tri Tryz.prog 26 [vA [vL a1 p.code.length k1, vS d, vI z, vI e, vL a2 n2 k2]] h fun v h' => v = vI (dataAt p) ∧ h' = h := by
 refine T26 ?_
 unfold R26
 refine ⟨?_, rfl⟩
 rw [wrap64 (n := 4 * ((p.code.length : Nat) : Int)) (by omega) (by omega), wrap64 (n := 4 * ((p.code.length : Nat) : Int) + 63) (by omega) (by omega)]
 rw [Int.tdiv_eq_ediv_of_nonneg (by omega)]
 rw [wrap64 (n := (4 * ((p.code.length : Nat) : Int) + 63) / 64) (by omega) (by omega), wrap64 (by omega) (by omega)]
 unfold dataAt
 congr 1
theorem raddr_t {a1 : OA} {k1 : Nat} {a2 : OA} {k2 : Nat} {p : Pg} {n : Bytes} (hL : LbAt h a2 p.labels) (hn : p.code.length ≤ 1000000) (hls : p.labels.length ≤ 1000000) (ho : ∀ l ∈ p.labels, 0 ≤ l.off ∧ l.off ≤ 1000000000) :
 Tri Tryz.prog 23 [vA [vL a1 p.code.length k1, vS p.data, vI p.zero, vI p.entry, vL a2 p.labels.length k2], vS n] h fun v h' => v = vI ((address p n).getD (-1)) ∧ h' = h := by
 refine T23 ?_
 unfold R23
 refine ⟨fun m i h' => ∃ j : Nat, i = (j : Int) ∧ j + m = p.labels.length ∧ h' = h ∧ (p.labels.find? fun l => l.name == n) = ((p.labels.drop j).find? fun l => l.name == n), ⟨p.labels.length, 0, rfl, by omega, rfl, rfl⟩, ?_⟩
 rintro m _ h1 ⟨j, rfl, hjm, rfl, hf⟩
 refine br_split (fun e => ?_) fun e => ?_
 · have hlt : j < p.labels.length := by have := of_decide_eq_true e; omega
   have hg : p.labels[j]? = some p.labels[j] := by simp [hlt]
   have hdr := List.drop_eq_getElem_cons hlt
   have hmem := List.getElem_mem hlt
   rw [hdr, List.find?_cons] at hf
   generalize p.labels[j] = l at *
   have hlo := ho l hmem
   obtain ⟨b, o, ha, hr⟩ := hL.get hg
   have hz : (0 : Int) ≤ (j : Int) ∧ (j : Int) < p.labels.length := ⟨by omega, by omega⟩
   have r0 : h1.cell b (o + ((j : Nat) : Int).toNat * 3) = some (vS l.name) := by rw [Int.toNat_natCast]; exact hr.1
   have r1 : h1.cell b ((o + ((j : Nat) : Int).toNat * 3) + 1) = some (vB l.data) := by rw [Int.toNat_natCast]; exact hr.2.1
   have r2 : h1.cell b ((o + ((j : Nat) : Int).toNat * 3) + 2) = some (vI l.off) := by rw [Int.toNat_natCast]; exact hr.2.2
   have next : (l.name == n) = false → ∃ (m3 : Nat), m3 < m ∧ (∃ j' : Nat, IntKind.i64.wrap ((j : Int) + 1) = (j' : Int) ∧ j' + m3 = p.labels.length ∧ h1 = h1 ∧ (p.labels.find? fun l => l.name == n) = ((p.labels.drop j').find? fun l => l.name == n)) ∧ tv [vL a1 p.code.length k1, vS p.data, vI p.zero, vI p.entry, vL a2 p.labels.length k2] ∧ True := fun e2 => by
    rw [e2] at hf
    exact ⟨m - 1, by omega, ⟨j + 1, by rw [wrap64 (by omega) (by omega)]; omega, by omega, rfl, hf⟩, rfl, trivial⟩
   have res : (l.name == n) = true → (address p n).getD (-1) = placeOf p l := fun e2 => by
    rw [e2] at hf
    unfold address; rw [hf]; rfl
   refine ⟨b, o, ha, hz, _, r0, br_split (fun e2 => ⟨b, o, ha, hz, _, r1, br_split (fun e3 => ⟨b, o, ha, hz, _, r2, ?_⟩) fun e3 => ⟨b, o, ha, hz, _, r0, br_split (fun _ => ⟨b, o, ha, hz, _, r2, ?_, rfl⟩) fun e4 => by rw [e2] at e4; cases e4⟩⟩) fun e2 => ⟨b, o, ha, hz, _, r0, br_split (fun e4 => by rw [e2] at e4; cases e4) fun e4 => next e2⟩⟩
   · refine Tri.mono (rdataAt_t (p := p) hn) ?_
     rintro _ h2 ⟨rfl, rfl⟩
     have hda : 0 ≤ dataAt p ∧ dataAt p ≤ 4000100 := by unfold dataAt; omega
     refine ⟨_, rfl, r2, rfl, ?_, rfl⟩
     rw [res e2, wrap64 (by omega) (by omega)]
     unfold placeOf; rw [if_pos e3]
   · rw [res e2]
     unfold placeOf; rw [if_neg (by rw [e3]; decide)]
 · have hj : j = p.labels.length := by have := of_decide_eq_false e; omega
   subst hj
   rw [List.drop_length] at hf
   refine ⟨?_, rfl⟩
   unfold address; rw [hf]; rfl
end
end Go.Proofs.D
namespace Go.As
theorem sort_snoc (l : List Lb) (x : Lb) : sortL (l ++ [x]) = insL x (sortL l) := by simp [sortL, List.foldl_append]
theorem sort_len (l : List Lb) : (sortL l).length = l.length := (sort_perm l).length_eq
theorem ins_at (x : Lb) : ∀ (s : List Lb) , ∃ k, k ≤ s.length ∧ insL x s = s.take k ++ x :: s.drop k ∧ (∀ j y, j < k → s[j]? = some y → follows y x = true) ∧ ∀ y, s[k]? = some y → follows y x = false
 | [] => ⟨0, by simp, rfl, fun j y h => by omega, fun y h => by simp at h⟩
 | y :: s => by
   by_cases h : follows y x = true
   · obtain ⟨k, h1, h2, h3, h4⟩ := ins_at x s
     refine ⟨k + 1, by simp; omega, by rw [insL, if_pos h, h2]; rfl, fun j z hj hz => ?_, fun z hz => h4 z (by simpa using hz)⟩
     cases j with
     | zero => simp at hz; subst hz; exact h
     | succ j => exact h3 j z (by omega) (by simpa using hz)
   · refine ⟨0, by simp, by rw [insL, if_neg h]; rfl, fun j z hj => by omega, fun z hz => ?_⟩
     simp at hz; subst hz; simpa using h
theorem find_perm {l m : List Lb} (hp : l.Perm m) (hn : (m.map (·.name)).Nodup) (n : Bytes) : l.find? (fun x => x.name == n) = m.find? (fun x => x.name == n) := by
 have key : ∀ {a b : List Lb}, a.Perm b → (b.map (·.name)).Nodup → ∀ x, a.find? (fun x => x.name == n) = some x → b.find? (fun x => x.name == n) = some x := fun {a b} hab hb x hx => by
  have h1 : x.name = n := by simpa using List.find?_some hx
  have h2 : x ∈ b := hab.mem_iff.1 (List.mem_of_find?_eq_some hx)
  cases hf : b.find? (fun x => x.name == n) with
  | none =>
    have := List.find?_eq_none.1 hf x h2
    simp [h1] at this
  | some y =>
    have h3 : y.name = n := by simpa using List.find?_some hf
    have h4 : y ∈ b := List.mem_of_find?_eq_some hf
    congr 1
    clear hf hx hab
    induction b with
    | nil => cases h2
    | cons z b ih =>
      rw [List.map_cons, List.nodup_cons] at hb
      rcases List.mem_cons.1 h2 with rfl | g2 <;> rcases List.mem_cons.1 h4 with rfl | g4
      · rfl
      · exact absurd (List.mem_map.2 ⟨y, g4, h3.trans h1.symm⟩ : x.name ∈ b.map (·.name)) hb.1
      · exact absurd (List.mem_map.2 ⟨x, g2, h1.trans h3.symm⟩ : y.name ∈ b.map (·.name)) hb.1
      · exact ih hb.2 g2 g4
 cases hl : l.find? (fun x => x.name == n) with
 | some x => exact (key hp hn x hl).symm
 | none =>
   cases hm : m.find? (fun x => x.name == n) with
   | none => rfl
   | some y =>
     have hn' : (l.map (·.name)).Nodup := (hp.map _).nodup_iff.2 hn
     have := key hp.symm hn' y hm
     rw [hl] at this; cases this
def srt (p : Pg) : Pg := { p with labels := sortL p.labels }
theorem addr_srt {p : Pg} (hn : (p.labels.map (·.name)).Nodup) (n : Bytes) : address (srt p) n = address p n := by
 unfold address
 rw [show (srt p).labels = sortL p.labels from rfl, find_perm (sort_perm p.labels) hn]
 cases p.labels.find? (fun x => x.name == n) <;> rfl
theorem any_srt (l : List Lb) (n : Bytes) : ((sortL l).any fun x => x.name == n) = (l.any fun x => x.name == n) := by
 rw [Bool.eq_iff_iff, List.any_eq_true, List.any_eq_true]
 exact ⟨fun ⟨x, h1, h2⟩ => ⟨x, (sort_perm l).mem_iff.1 h1, h2⟩, fun ⟨x, h1, h2⟩ => ⟨x, (sort_perm l).mem_iff.2 h1, h2⟩⟩
def putUS (p : Pg) (u : Us) (n : Int) : Pg := if u.kind = 0 then { p with code := setC p.code u.idx n } else if u.kind = 1 then { p with data := putW p.data u.idx n } else { p with entry := n }
theorem resolve_cons (p : Pg) (u : Us) (l : List Us) : resolveS p (u :: l) = match address p u.name with
 | none => .error (u.line, 37)
 | some n => if n < u.low ∨ u.high < n then .error (u.line, 2) else resolveS (putUS p u n) l := rfl
theorem put_labels (p : Pg) (u : Us) (n : Int) : (putUS p u n).labels = p.labels := by
 unfold putUS; split
 · rfl
 split <;> rfl
theorem put_srt (p : Pg) (u : Us) (n : Int) : srt (putUS p u n) = putUS (srt p) u n := by
 unfold putUS srt; split
 · rfl
 split <;> rfl
theorem resolve_srt : ∀ (us : List Us) (p : Pg), (p.labels.map (·.name)).Nodup → resolveS (srt p) us = (resolveS p us).map srt
 | [], p, _ => rfl
 | u :: us, p, hn => by
   rw [resolve_cons, resolve_cons, addr_srt hn]
   cases address p u.name with
   | none => rfl
   | some n =>
     simp only
     split
     · rfl
     · rw [← put_srt]
       exact resolve_srt us (putUS p u n) (by rw [put_labels]; exact hn)
end Go.As
namespace Go.Proofs.D
open Go Go.Den
set_option maxRecDepth 100000
set_option maxHeartbeats 4000000
abbrev eyk1 : List CK := [.slice, .str, qi, qi, .slice, .bool, .bool, .bool, .slice, qi]
abbrev eyk2 : List CK := [.slice, .str, qi, qi, .slice]
abbrev eyk3 : List CK := [qi, qi, qi, qi, qi, .str]
abbrev o42_14 : Op := .call { callee := (.builtin .append), args := #[(.tmp 97), (.tmp 102)], argTypes := #[30, 30] }
abbrev o42_15 : Op := .call { callee := (.builtin .append), args := #[(.tmp 103), (.tmp 105)], argTypes := #[30, 30] }
abbrev o42_16 : Op := .call { callee := (.builtin .append), args := #[(.tmp 107), (.tmp 112)], argTypes := #[30, 30] }
noncomputable def d42 : DCode := up ⟨[(17, .c (.tup [(false, [.slice]), (false, [.bool])])), (22, .l eyk1), (25, .c (.tup [(false, [.slice]), (false, [.slice]), (false, [.bool])])), (31, .l eyk1), (41, .l [.str]), (42, .c (.one false [.bool])), (44, .l eyk1), (46, .l eyk2), (50, .l [.str]), (51, .c (.one false [qi])), (53, .l eyk1), (56, .l [.slice]), (59, .l eyk1), (63, .l [.str]), (65, .l [.bool]), (68, .l [.slice]), (73, .l [.bool]), (76, .l [.str]), (82, .l [.slice]), (88, .l [.slice]), (91, .l [.str, .bool, qi]), (92, .l [.str, .bool, qi]), (93, .c (.one false [.bool])), (100, .l [.slice]), (103, .c (.one false [.slice])), (104, .l [.str, .bool, qi]), (106, .c (.one false [.slice])), (110, .l [.slice]), (113, .c (.one false [.slice])), (119, .l eyk1), (120, .l eyk1), (122, .c (.tup [(true, eyk1), (false, [qi])]))], [], [(32, 89, [(11, qi)], [(4, eyk1), (2, eyk1)]), (79, 19, [(13, qi)], [])]⟩ (low Tryz.prog (fun _ => false) (Tryz.f42.body.getD .skip))
theorem low42 : low Tryz.prog (fun _ => false) (Tryz.f42.body.getD .skip) = some (eC d42) := by kernel_rfl
def R42 (a1 : OA) (n1 : Nat) (eyk1 : Nat) (l1 : Bs) (i1 : Int) (i2 : Int) (a2 : OA) (n2 : Nat) (eyk2 : Nat) (c1 : Bool) (c2 : Bool) (c3 : Bool) (a3 : OA) (n3 : Nat) (eyk3 : Nat) (i3 : Int) (l2 : Bs) (h : PHeap) (Q : Value → PHeap → Prop) : Prop :=
 Tri Tryz.prog 94 [vS l2] h fun v_1 h_1 =>
 ∃ (a4 : OA) (n4 k4 : Nat) (c4 : Bool), v_1 = vT [vL a4 n4 k4, vB c4] ∧
 br (!c4)
 (Q (vT [vA [vL a1 n1 eyk1, vS l1, vI i1, vI i2, vL a2 n2 eyk2, vB c1, vB c2, vB c3, vL a3 n3 eyk3, vI i3], vI 6]) h_1)
 (Tri Tryz.prog 95 [vL a4 n4 k4] h_1 fun v_2 h_2 =>
 ∃ (a5 : OA) (n5 k5 : Nat) (a6 : OA) (n6 k6 : Nat) (c5 : Bool), v_2 = vT [vL a5 n5 k5, vL a6 n6 k6, vB c5] ∧
 br (!c5)
 (Q (vT [vA [vL a1 n1 eyk1, vS l1, vI i1, vI i2, vL a2 n2 eyk2, vB c1, vB c2, vB c3, vL a3 n3 eyk3, vI i3], vI 30]) h_2)
 (∃ (I_1 : Nat → Int → OA → Nat → Nat → Bs → Int → Int → OA → Nat → Nat → Bool → Bool → Bool → OA → Nat → Nat → Int → OA → Nat → Nat → Bs → Int → Int → OA → Nat → Nat → Bool → Bool → Bool → OA → Nat → Nat → Int → PHeap → Prop), (∃ (m2 : Nat), I_1 m2 (0 : Int) none 0 0 [] (0 : Int) (0 : Int) none 0 0 false false false none 0 0 (0 : Int) a1 n1 eyk1 l1 i1 i2 a2 n2 eyk2 c1 c2 c3 a3 n3 eyk3 i3 h_2) ∧
 ∀ (m1 : Nat) (i4 : Int) (a7 : OA) (n7 : Nat) (k7 : Nat) (l3 : Bs) (i5 : Int) (i6 : Int) (a8 : OA) (n8 : Nat) (k8 : Nat) (c6 : Bool) (c7 : Bool) (c8 : Bool) (a9 : OA) (n9 : Nat) (k9 : Nat) (i7 : Int) (a10 : OA) (n10 : Nat) (k10 : Nat) (l4 : Bs) (i8 : Int) (i9 : Int) (a11 : OA) (n11 : Nat) (k11 : Nat) (c9 : Bool) (c10 : Bool) (c11 : Bool) (a12 : OA) (n12 : Nat) (k12 : Nat) (i10 : Int) (h_3 : PHeap), I_1 m1 i4 a7 n7 k7 l3 i5 i6 a8 n8 k8 c6 c7 c8 a9 n9 k9 i7 a10 n10 k10 l4 i8 i9 a11 n11 k11 c9 c10 c11 a12 n12 k12 i10 h_3 →
 br (decide (i4 < ((n5 : Nat) : Int)))
 (∃ (b1 o1 : Nat), a5 = some ⟨b1, o1, none⟩ ∧ (0 ≤ i4 ∧ i4 < n5) ∧
 ∃ (l5 : Bs), h_3.cell b1 (o1 + (i4).toNat * 1) = some (vS l5) ∧
 Tri Tryz.prog 28 [vS l5] h_3 fun v_3 h_4 =>
 ∃ (c12 : Bool), v_3 = vB c12 ∧
 br (!c12)
 (Q (vT [vA [vL a10 n10 k10, vS l4, vI i8, vI i9, vL a11 n11 k11, vB c9, vB c10, vB c11, vL a12 n12 k12, vI i10], vI 12]) h_4)
 (∃ (b2 o2 : Nat), a5 = some ⟨b2, o2, none⟩ ∧ (0 ≤ i4 ∧ i4 < n5) ∧
 ∃ (l6 : Bs), h_4.cell b2 (o2 + (i4).toNat * 1) = some (vS l6) ∧
 Tri Tryz.prog 23 [vA [vL a10 n10 k10, vS l4, vI i8, vI i9, vL a11 n11 k11], vS l6] h_4 fun v_4 h_5 =>
 ∃ (i11 : Int), v_4 = vI i11 ∧
 br (decide (i11 ≥ 0))
 (Q (vT [vA [vL a10 n10 k10, vS l4, vI i8, vI i9, vL a11 n11 k11, vB c9, vB c10, vB c11, vL a12 n12 k12, vI i10], vI 7]) h_5)
 (br (decide (((n11 : Nat) : Int) ≥ 1024))
 (Q (vT [vA [vL a10 n10 k10, vS l4, vI i8, vI i9, vL a11 n11 k11, vB c9, vB c10, vB c11, vL a12 n12 k12, vI i10], vI 9]) h_5)
 (∃ (b3 o3 : Nat), a5 = some ⟨b3, o3, none⟩ ∧ (0 ≤ i4 ∧ i4 < n5) ∧
 ∃ (l7 : Bs), h_5.cell b3 (o3 + (i4).toNat * 1) = some (vS l7) ∧
 (tv [vL a10 n10 k10]) ∧
 (tv [vB c9]) ∧
 (h_5.cell b3 (o3 + (i4).toNat * 1) = some (vS l7)) ∧
 br c9
 (∃ (I_2 : Nat → Int → PHeap → Prop), (∃ (m4 : Nat), I_2 m4 (0 : Int) h_5) ∧
 ∀ (m3 : Nat) (i12 : Int) (h_6 : PHeap), I_2 m3 i12 h_6 →
 br (decide (i12 < ((n11 : Nat) : Int)))
 (∃ (b4 o4 : Nat), a11 = some ⟨b4, o4, none⟩ ∧ (0 ≤ i12 ∧ i12 < n11) ∧
 ∃ (l8 : Bs) (c13 : Bool) (i13 : Int), h_6.row b4 (o4 + (i12).toNat * 3) [vS l8, vB c13, vI i13] ∧
 Tri Tryz.prog 45 [vA [vS l8, vB c13, vI i13], vA [vS l7, vB c9, vI (l4.length : Int)]] h_6 fun v_5 h_7 =>
 ∃ (c14 : Bool), v_5 = vB c14 ∧
 (tv [vL a11 n11 k11]) ∧
 (tv [vL a11 n11 k11]) ∧
 br c14
 (∃ (m5 : Nat), m5 < m3 ∧ I_2 m5 (IntKind.i64.wrap (i12 + 1)) h_7 ∧
 tv [vS l7, vB c9, vI (l4.length : Int)] ∧ tv [vL a7 n7 k7, vS l3, vI i5, vI i6, vL a8 n8 k8, vB c6, vB c7, vB c8, vL a9 n9 k9, vI i7] ∧ tv [vL a10 n10 k10, vS l4, vI i8, vI i9, vL a11 n11 k11, vB c9, vB c10, vB c11, vL a12 n12 k12, vI i10] ∧ True)
 ((okA a11 n11 k11 ∧ 0 ≤ (0 : Int) ∧ (0 : Int) ≤ i12 ∧ i12 ≤ k11) ∧ ∀ (a13 : OA), SlA a11 a13 0 k11 3 →
 (∀ (b5 : Nat), h_7 b5 = none → ∀ (h_8 : PHeap), h_8 = h_7.put b5 (.cells ⟨[]⟩ 89) →
 (tv [vS l7, vB c9, vI (l4.length : Int)]) ∧
 (tv [vL a11 n11 k11]) ∧
 (Raw Tryz.prog (execOp (rho [(97, vL (ad b5 0) 0 0), (102, vL a13 ((i12).toNat - 0) (k11 - 0))]) (mkO o42_14 30)) h_8 fun v_6 h_9 =>
 ∃ (a14 : OA) (n13 k13 : Nat), v_6 = vL a14 n13 k13 ∧
 (tv [vS l7, vB c9, vI (l4.length : Int)]) ∧
 (tv [vL a11 n11 k11]) ∧
 ∀ (b6 : Nat), h_9 b6 = none → ∀ (h_10 : PHeap), h_10 = h_9.put b6 (.cells ⟨[vS l7, vB c9, vI (l4.length : Int)]⟩ 89) →
 (tv [vL a11 n11 k11]) ∧
 Raw Tryz.prog (execOp (rho [(103, vL a14 n13 k13), (105, vL (ad b6 0) 1 1)]) (mkO o42_15 30)) h_10 fun v_7 h_11 =>
 ∃ (a15 : OA) (n14 k14 : Nat), v_7 = vL a15 n14 k14 ∧
 (tv [vL a11 n11 k11]) ∧
 (okA a11 n11 k11 ∧ 0 ≤ i12 ∧ i12 ≤ ((n11 : Nat) : Int) ∧ ((n11 : Nat) : Int) ≤ k11) ∧ ∀ (a16 : OA), SlA a11 a16 (i12).toNat k11 3 →
 Raw Tryz.prog (execOp (rho [(107, vL a15 n14 k14), (112, vL a16 (((n11 : Nat) : Int).toNat - (i12).toNat) (k11 - (i12).toNat))]) (mkO o42_16 30)) h_11 fun v_8 h_12 =>
 ∃ (a17 : OA) (n15 k15 : Nat), v_8 = vL a17 n15 k15 ∧
 ∃ (m6 : Nat), m6 < m1 ∧ I_1 m6 (IntKind.i64.wrap (i4 + 1)) a7 n7 k7 l3 i5 i6 a8 n8 k8 c6 c7 c8 a9 n9 k9 i7 a10 n10 k10 l4 i8 i9 a17 n15 k15 c9 c10 c11 a12 n12 k12 i10 h_12 ∧
 True) ∧
 (∀ (b7 : Nat), h_8 b7 = none → ∀ (h_13 : PHeap), h_13 = h_8.put b7 (.cells ⟨[vS l7, vB c9, vI (l4.length : Int)]⟩ 89) →
 (tv [vL a11 n11 k11]) ∧
 Raw Tryz.prog (execOp (rho [(97, vL (ad b5 0) 0 0), (102, vL a13 ((i12).toNat - 0) (k11 - 0))]) (mkO o42_14 30)) h_13 fun v_9 h_14 =>
 ∃ (a18 : OA) (n16 k16 : Nat), v_9 = vL a18 n16 k16 ∧
 (tv [vL a11 n11 k11]) ∧
 Raw Tryz.prog (execOp (rho [(103, vL a18 n16 k16), (105, vL (ad b7 0) 1 1)]) (mkO o42_15 30)) h_14 fun v_10 h_15 =>
 ∃ (a19 : OA) (n17 k17 : Nat), v_10 = vL a19 n17 k17 ∧
 (tv [vL a11 n11 k11]) ∧
 (okA a11 n11 k11 ∧ 0 ≤ i12 ∧ i12 ≤ ((n11 : Nat) : Int) ∧ ((n11 : Nat) : Int) ≤ k11) ∧ ∀ (a20 : OA), SlA a11 a20 (i12).toNat k11 3 →
 Raw Tryz.prog (execOp (rho [(107, vL a19 n17 k17), (112, vL a20 (((n11 : Nat) : Int).toNat - (i12).toNat) (k11 - (i12).toNat))]) (mkO o42_16 30)) h_15 fun v_11 h_16 =>
 ∃ (a21 : OA) (n18 k18 : Nat), v_11 = vL a21 n18 k18 ∧
 ∃ (m7 : Nat), m7 < m1 ∧ I_1 m7 (IntKind.i64.wrap (i4 + 1)) a7 n7 k7 l3 i5 i6 a8 n8 k8 c6 c7 c8 a9 n9 k9 i7 a10 n10 k10 l4 i8 i9 a21 n18 k18 c9 c10 c11 a12 n12 k12 i10 h_16 ∧
 True)) ∧
 (∀ (b8 : Nat), h_7 b8 = none → ∀ (h_17 : PHeap), h_17 = h_7.put b8 (.cells ⟨[vS l7, vB c9, vI (l4.length : Int)]⟩ 89) →
 (tv [vL a11 n11 k11]) ∧
 ∀ (b9 : Nat), h_17 b9 = none → ∀ (h_18 : PHeap), h_18 = h_17.put b9 (.cells ⟨[]⟩ 89) →
 (tv [vL a11 n11 k11]) ∧
 Raw Tryz.prog (execOp (rho [(97, vL (ad b9 0) 0 0), (102, vL a13 ((i12).toNat - 0) (k11 - 0))]) (mkO o42_14 30)) h_18 fun v_12 h_19 =>
 ∃ (a22 : OA) (n19 k19 : Nat), v_12 = vL a22 n19 k19 ∧
 (tv [vL a11 n11 k11]) ∧
 Raw Tryz.prog (execOp (rho [(103, vL a22 n19 k19), (105, vL (ad b8 0) 1 1)]) (mkO o42_15 30)) h_19 fun v_13 h_20 =>
 ∃ (a23 : OA) (n20 k20 : Nat), v_13 = vL a23 n20 k20 ∧
 (tv [vL a11 n11 k11]) ∧
 (okA a11 n11 k11 ∧ 0 ≤ i12 ∧ i12 ≤ ((n11 : Nat) : Int) ∧ ((n11 : Nat) : Int) ≤ k11) ∧ ∀ (a24 : OA), SlA a11 a24 (i12).toNat k11 3 →
 Raw Tryz.prog (execOp (rho [(107, vL a23 n20 k20), (112, vL a24 (((n11 : Nat) : Int).toNat - (i12).toNat) (k11 - (i12).toNat))]) (mkO o42_16 30)) h_20 fun v_14 h_21 =>
 ∃ (a25 : OA) (n21 k21 : Nat), v_14 = vL a25 n21 k21 ∧
 ∃ (m8 : Nat), m8 < m1 ∧ I_1 m8 (IntKind.i64.wrap (i4 + 1)) a7 n7 k7 l3 i5 i6 a8 n8 k8 c6 c7 c8 a9 n9 k9 i7 a10 n10 k10 l4 i8 i9 a25 n21 k21 c9 c10 c11 a12 n12 k12 i10 h_21 ∧
 True)))
 ((tv [vL a11 n11 k11]) ∧
 (okA a11 n11 k11 ∧ 0 ≤ (0 : Int) ∧ (0 : Int) ≤ i12 ∧ i12 ≤ k11) ∧ ∀ (a26 : OA), SlA a11 a26 0 k11 3 →
 (∀ (b10 : Nat), h_6 b10 = none → ∀ (h_22 : PHeap), h_22 = h_6.put b10 (.cells ⟨[]⟩ 89) →
 (tv [vS l7, vB c9, vI (l4.length : Int)]) ∧
 (tv [vL a11 n11 k11]) ∧
 (Raw Tryz.prog (execOp (rho [(97, vL (ad b10 0) 0 0), (102, vL a26 ((i12).toNat - 0) (k11 - 0))]) (mkO o42_14 30)) h_22 fun v_15 h_23 =>
 ∃ (a27 : OA) (n22 k22 : Nat), v_15 = vL a27 n22 k22 ∧
 (tv [vS l7, vB c9, vI (l4.length : Int)]) ∧
 (tv [vL a11 n11 k11]) ∧
 ∀ (b11 : Nat), h_23 b11 = none → ∀ (h_24 : PHeap), h_24 = h_23.put b11 (.cells ⟨[vS l7, vB c9, vI (l4.length : Int)]⟩ 89) →
 (tv [vL a11 n11 k11]) ∧
 Raw Tryz.prog (execOp (rho [(103, vL a27 n22 k22), (105, vL (ad b11 0) 1 1)]) (mkO o42_15 30)) h_24 fun v_16 h_25 =>
 ∃ (a28 : OA) (n23 k23 : Nat), v_16 = vL a28 n23 k23 ∧
 (tv [vL a11 n11 k11]) ∧
 (okA a11 n11 k11 ∧ 0 ≤ i12 ∧ i12 ≤ ((n11 : Nat) : Int) ∧ ((n11 : Nat) : Int) ≤ k11) ∧ ∀ (a29 : OA), SlA a11 a29 (i12).toNat k11 3 →
 Raw Tryz.prog (execOp (rho [(107, vL a28 n23 k23), (112, vL a29 (((n11 : Nat) : Int).toNat - (i12).toNat) (k11 - (i12).toNat))]) (mkO o42_16 30)) h_25 fun v_17 h_26 =>
 ∃ (a30 : OA) (n24 k24 : Nat), v_17 = vL a30 n24 k24 ∧
 ∃ (m9 : Nat), m9 < m1 ∧ I_1 m9 (IntKind.i64.wrap (i4 + 1)) a7 n7 k7 l3 i5 i6 a8 n8 k8 c6 c7 c8 a9 n9 k9 i7 a10 n10 k10 l4 i8 i9 a30 n24 k24 c9 c10 c11 a12 n12 k12 i10 h_26 ∧
 True) ∧
 (∀ (b12 : Nat), h_22 b12 = none → ∀ (h_27 : PHeap), h_27 = h_22.put b12 (.cells ⟨[vS l7, vB c9, vI (l4.length : Int)]⟩ 89) →
 (tv [vL a11 n11 k11]) ∧
 Raw Tryz.prog (execOp (rho [(97, vL (ad b10 0) 0 0), (102, vL a26 ((i12).toNat - 0) (k11 - 0))]) (mkO o42_14 30)) h_27 fun v_18 h_28 =>
 ∃ (a31 : OA) (n25 k25 : Nat), v_18 = vL a31 n25 k25 ∧
 (tv [vL a11 n11 k11]) ∧
 Raw Tryz.prog (execOp (rho [(103, vL a31 n25 k25), (105, vL (ad b12 0) 1 1)]) (mkO o42_15 30)) h_28 fun v_19 h_29 =>
 ∃ (a32 : OA) (n26 k26 : Nat), v_19 = vL a32 n26 k26 ∧
 (tv [vL a11 n11 k11]) ∧
 (okA a11 n11 k11 ∧ 0 ≤ i12 ∧ i12 ≤ ((n11 : Nat) : Int) ∧ ((n11 : Nat) : Int) ≤ k11) ∧ ∀ (a33 : OA), SlA a11 a33 (i12).toNat k11 3 →
 Raw Tryz.prog (execOp (rho [(107, vL a32 n26 k26), (112, vL a33 (((n11 : Nat) : Int).toNat - (i12).toNat) (k11 - (i12).toNat))]) (mkO o42_16 30)) h_29 fun v_20 h_30 =>
 ∃ (a34 : OA) (n27 k27 : Nat), v_20 = vL a34 n27 k27 ∧
 ∃ (m10 : Nat), m10 < m1 ∧ I_1 m10 (IntKind.i64.wrap (i4 + 1)) a7 n7 k7 l3 i5 i6 a8 n8 k8 c6 c7 c8 a9 n9 k9 i7 a10 n10 k10 l4 i8 i9 a34 n27 k27 c9 c10 c11 a12 n12 k12 i10 h_30 ∧
 True)) ∧
 (∀ (b13 : Nat), h_6 b13 = none → ∀ (h_31 : PHeap), h_31 = h_6.put b13 (.cells ⟨[vS l7, vB c9, vI (l4.length : Int)]⟩ 89) →
 (tv [vL a11 n11 k11]) ∧
 ∀ (b14 : Nat), h_31 b14 = none → ∀ (h_32 : PHeap), h_32 = h_31.put b14 (.cells ⟨[]⟩ 89) →
 (tv [vL a11 n11 k11]) ∧
 Raw Tryz.prog (execOp (rho [(97, vL (ad b14 0) 0 0), (102, vL a26 ((i12).toNat - 0) (k11 - 0))]) (mkO o42_14 30)) h_32 fun v_21 h_33 =>
 ∃ (a35 : OA) (n28 k28 : Nat), v_21 = vL a35 n28 k28 ∧
 (tv [vL a11 n11 k11]) ∧
 Raw Tryz.prog (execOp (rho [(103, vL a35 n28 k28), (105, vL (ad b13 0) 1 1)]) (mkO o42_15 30)) h_33 fun v_22 h_34 =>
 ∃ (a36 : OA) (n29 k29 : Nat), v_22 = vL a36 n29 k29 ∧
 (tv [vL a11 n11 k11]) ∧
 (okA a11 n11 k11 ∧ 0 ≤ i12 ∧ i12 ≤ ((n11 : Nat) : Int) ∧ ((n11 : Nat) : Int) ≤ k11) ∧ ∀ (a37 : OA), SlA a11 a37 (i12).toNat k11 3 →
 Raw Tryz.prog (execOp (rho [(107, vL a36 n29 k29), (112, vL a37 (((n11 : Nat) : Int).toNat - (i12).toNat) (k11 - (i12).toNat))]) (mkO o42_16 30)) h_34 fun v_23 h_35 =>
 ∃ (a38 : OA) (n30 k30 : Nat), v_23 = vL a38 n30 k30 ∧
 ∃ (m11 : Nat), m11 < m1 ∧ I_1 m11 (IntKind.i64.wrap (i4 + 1)) a7 n7 k7 l3 i5 i6 a8 n8 k8 c6 c7 c8 a9 n9 k9 i7 a10 n10 k10 l4 i8 i9 a38 n30 k30 c9 c10 c11 a12 n12 k12 i10 h_35 ∧
 True)))
 (∃ (I_3 : Nat → Int → PHeap → Prop), (∃ (m13 : Nat), I_3 m13 (0 : Int) h_5) ∧
 ∀ (m12 : Nat) (i14 : Int) (h_36 : PHeap), I_3 m12 i14 h_36 →
 br (decide (i14 < ((n11 : Nat) : Int)))
 (∃ (b15 o5 : Nat), a11 = some ⟨b15, o5, none⟩ ∧ (0 ≤ i14 ∧ i14 < n11) ∧
 ∃ (l9 : Bs) (c15 : Bool) (i15 : Int), h_36.row b15 (o5 + (i14).toNat * 3) [vS l9, vB c15, vI i15] ∧
 Tri Tryz.prog 45 [vA [vS l9, vB c15, vI i15], vA [vS l7, vB c9, vI (IntKind.i64.wrap (4 * ((n10 : Nat) : Int)))]] h_36 fun v_24 h_37 =>
 ∃ (c16 : Bool), v_24 = vB c16 ∧
 (tv [vL a11 n11 k11]) ∧
 (tv [vL a11 n11 k11]) ∧
 br c16
 (∃ (m14 : Nat), m14 < m12 ∧ I_3 m14 (IntKind.i64.wrap (i14 + 1)) h_37 ∧
 tv [vS l7, vB c9, vI (IntKind.i64.wrap (4 * ((n10 : Nat) : Int)))] ∧ tv [vL a7 n7 k7, vS l3, vI i5, vI i6, vL a8 n8 k8, vB c6, vB c7, vB c8, vL a9 n9 k9, vI i7] ∧ tv [vL a10 n10 k10, vS l4, vI i8, vI i9, vL a11 n11 k11, vB c9, vB c10, vB c11, vL a12 n12 k12, vI i10] ∧ True)
 ((okA a11 n11 k11 ∧ 0 ≤ (0 : Int) ∧ (0 : Int) ≤ i14 ∧ i14 ≤ k11) ∧ ∀ (a39 : OA), SlA a11 a39 0 k11 3 →
 (∀ (b16 : Nat), h_37 b16 = none → ∀ (h_38 : PHeap), h_38 = h_37.put b16 (.cells ⟨[]⟩ 89) →
 (tv [vS l7, vB c9, vI (IntKind.i64.wrap (4 * ((n10 : Nat) : Int)))]) ∧
 (tv [vL a11 n11 k11]) ∧
 (Raw Tryz.prog (execOp (rho [(97, vL (ad b16 0) 0 0), (102, vL a39 ((i14).toNat - 0) (k11 - 0))]) (mkO o42_14 30)) h_38 fun v_25 h_39 =>
 ∃ (a40 : OA) (n31 k31 : Nat), v_25 = vL a40 n31 k31 ∧
 (tv [vS l7, vB c9, vI (IntKind.i64.wrap (4 * ((n10 : Nat) : Int)))]) ∧
 (tv [vL a11 n11 k11]) ∧
 ∀ (b17 : Nat), h_39 b17 = none → ∀ (h_40 : PHeap), h_40 = h_39.put b17 (.cells ⟨[vS l7, vB c9, vI (IntKind.i64.wrap (4 * ((n10 : Nat) : Int)))]⟩ 89) →
 (tv [vL a11 n11 k11]) ∧
 Raw Tryz.prog (execOp (rho [(103, vL a40 n31 k31), (105, vL (ad b17 0) 1 1)]) (mkO o42_15 30)) h_40 fun v_26 h_41 =>
 ∃ (a41 : OA) (n32 k32 : Nat), v_26 = vL a41 n32 k32 ∧
 (tv [vL a11 n11 k11]) ∧
 (okA a11 n11 k11 ∧ 0 ≤ i14 ∧ i14 ≤ ((n11 : Nat) : Int) ∧ ((n11 : Nat) : Int) ≤ k11) ∧ ∀ (a42 : OA), SlA a11 a42 (i14).toNat k11 3 →
 Raw Tryz.prog (execOp (rho [(107, vL a41 n32 k32), (112, vL a42 (((n11 : Nat) : Int).toNat - (i14).toNat) (k11 - (i14).toNat))]) (mkO o42_16 30)) h_41 fun v_27 h_42 =>
 ∃ (a43 : OA) (n33 k33 : Nat), v_27 = vL a43 n33 k33 ∧
 ∃ (m15 : Nat), m15 < m1 ∧ I_1 m15 (IntKind.i64.wrap (i4 + 1)) a7 n7 k7 l3 i5 i6 a8 n8 k8 c6 c7 c8 a9 n9 k9 i7 a10 n10 k10 l4 i8 i9 a43 n33 k33 c9 c10 c11 a12 n12 k12 i10 h_42 ∧
 True) ∧
 (∀ (b18 : Nat), h_38 b18 = none → ∀ (h_43 : PHeap), h_43 = h_38.put b18 (.cells ⟨[vS l7, vB c9, vI (IntKind.i64.wrap (4 * ((n10 : Nat) : Int)))]⟩ 89) →
 (tv [vL a11 n11 k11]) ∧
 Raw Tryz.prog (execOp (rho [(97, vL (ad b16 0) 0 0), (102, vL a39 ((i14).toNat - 0) (k11 - 0))]) (mkO o42_14 30)) h_43 fun v_28 h_44 =>
 ∃ (a44 : OA) (n34 k34 : Nat), v_28 = vL a44 n34 k34 ∧
 (tv [vL a11 n11 k11]) ∧
 Raw Tryz.prog (execOp (rho [(103, vL a44 n34 k34), (105, vL (ad b18 0) 1 1)]) (mkO o42_15 30)) h_44 fun v_29 h_45 =>
 ∃ (a45 : OA) (n35 k35 : Nat), v_29 = vL a45 n35 k35 ∧
 (tv [vL a11 n11 k11]) ∧
 (okA a11 n11 k11 ∧ 0 ≤ i14 ∧ i14 ≤ ((n11 : Nat) : Int) ∧ ((n11 : Nat) : Int) ≤ k11) ∧ ∀ (a46 : OA), SlA a11 a46 (i14).toNat k11 3 →
 Raw Tryz.prog (execOp (rho [(107, vL a45 n35 k35), (112, vL a46 (((n11 : Nat) : Int).toNat - (i14).toNat) (k11 - (i14).toNat))]) (mkO o42_16 30)) h_45 fun v_30 h_46 =>
 ∃ (a47 : OA) (n36 k36 : Nat), v_30 = vL a47 n36 k36 ∧
 ∃ (m16 : Nat), m16 < m1 ∧ I_1 m16 (IntKind.i64.wrap (i4 + 1)) a7 n7 k7 l3 i5 i6 a8 n8 k8 c6 c7 c8 a9 n9 k9 i7 a10 n10 k10 l4 i8 i9 a47 n36 k36 c9 c10 c11 a12 n12 k12 i10 h_46 ∧
 True)) ∧
 (∀ (b19 : Nat), h_37 b19 = none → ∀ (h_47 : PHeap), h_47 = h_37.put b19 (.cells ⟨[vS l7, vB c9, vI (IntKind.i64.wrap (4 * ((n10 : Nat) : Int)))]⟩ 89) →
 (tv [vL a11 n11 k11]) ∧
 ∀ (b20 : Nat), h_47 b20 = none → ∀ (h_48 : PHeap), h_48 = h_47.put b20 (.cells ⟨[]⟩ 89) →
 (tv [vL a11 n11 k11]) ∧
 Raw Tryz.prog (execOp (rho [(97, vL (ad b20 0) 0 0), (102, vL a39 ((i14).toNat - 0) (k11 - 0))]) (mkO o42_14 30)) h_48 fun v_31 h_49 =>
 ∃ (a48 : OA) (n37 k37 : Nat), v_31 = vL a48 n37 k37 ∧
 (tv [vL a11 n11 k11]) ∧
 Raw Tryz.prog (execOp (rho [(103, vL a48 n37 k37), (105, vL (ad b19 0) 1 1)]) (mkO o42_15 30)) h_49 fun v_32 h_50 =>
 ∃ (a49 : OA) (n38 k38 : Nat), v_32 = vL a49 n38 k38 ∧
 (tv [vL a11 n11 k11]) ∧
 (okA a11 n11 k11 ∧ 0 ≤ i14 ∧ i14 ≤ ((n11 : Nat) : Int) ∧ ((n11 : Nat) : Int) ≤ k11) ∧ ∀ (a50 : OA), SlA a11 a50 (i14).toNat k11 3 →
 Raw Tryz.prog (execOp (rho [(107, vL a49 n38 k38), (112, vL a50 (((n11 : Nat) : Int).toNat - (i14).toNat) (k11 - (i14).toNat))]) (mkO o42_16 30)) h_50 fun v_33 h_51 =>
 ∃ (a51 : OA) (n39 k39 : Nat), v_33 = vL a51 n39 k39 ∧
 ∃ (m17 : Nat), m17 < m1 ∧ I_1 m17 (IntKind.i64.wrap (i4 + 1)) a7 n7 k7 l3 i5 i6 a8 n8 k8 c6 c7 c8 a9 n9 k9 i7 a10 n10 k10 l4 i8 i9 a51 n39 k39 c9 c10 c11 a12 n12 k12 i10 h_51 ∧
 True)))
 ((tv [vL a11 n11 k11]) ∧
 (okA a11 n11 k11 ∧ 0 ≤ (0 : Int) ∧ (0 : Int) ≤ i14 ∧ i14 ≤ k11) ∧ ∀ (a52 : OA), SlA a11 a52 0 k11 3 →
 (∀ (b21 : Nat), h_36 b21 = none → ∀ (h_52 : PHeap), h_52 = h_36.put b21 (.cells ⟨[]⟩ 89) →
 (tv [vS l7, vB c9, vI (IntKind.i64.wrap (4 * ((n10 : Nat) : Int)))]) ∧
 (tv [vL a11 n11 k11]) ∧
 (Raw Tryz.prog (execOp (rho [(97, vL (ad b21 0) 0 0), (102, vL a52 ((i14).toNat - 0) (k11 - 0))]) (mkO o42_14 30)) h_52 fun v_34 h_53 =>
 ∃ (a53 : OA) (n40 k40 : Nat), v_34 = vL a53 n40 k40 ∧
 (tv [vS l7, vB c9, vI (IntKind.i64.wrap (4 * ((n10 : Nat) : Int)))]) ∧
 (tv [vL a11 n11 k11]) ∧
 ∀ (b22 : Nat), h_53 b22 = none → ∀ (h_54 : PHeap), h_54 = h_53.put b22 (.cells ⟨[vS l7, vB c9, vI (IntKind.i64.wrap (4 * ((n10 : Nat) : Int)))]⟩ 89) →
 (tv [vL a11 n11 k11]) ∧
 Raw Tryz.prog (execOp (rho [(103, vL a53 n40 k40), (105, vL (ad b22 0) 1 1)]) (mkO o42_15 30)) h_54 fun v_35 h_55 =>
 ∃ (a54 : OA) (n41 k41 : Nat), v_35 = vL a54 n41 k41 ∧
 (tv [vL a11 n11 k11]) ∧
 (okA a11 n11 k11 ∧ 0 ≤ i14 ∧ i14 ≤ ((n11 : Nat) : Int) ∧ ((n11 : Nat) : Int) ≤ k11) ∧ ∀ (a55 : OA), SlA a11 a55 (i14).toNat k11 3 →
 Raw Tryz.prog (execOp (rho [(107, vL a54 n41 k41), (112, vL a55 (((n11 : Nat) : Int).toNat - (i14).toNat) (k11 - (i14).toNat))]) (mkO o42_16 30)) h_55 fun v_36 h_56 =>
 ∃ (a56 : OA) (n42 k42 : Nat), v_36 = vL a56 n42 k42 ∧
 ∃ (m18 : Nat), m18 < m1 ∧ I_1 m18 (IntKind.i64.wrap (i4 + 1)) a7 n7 k7 l3 i5 i6 a8 n8 k8 c6 c7 c8 a9 n9 k9 i7 a10 n10 k10 l4 i8 i9 a56 n42 k42 c9 c10 c11 a12 n12 k12 i10 h_56 ∧
 True) ∧
 (∀ (b23 : Nat), h_52 b23 = none → ∀ (h_57 : PHeap), h_57 = h_52.put b23 (.cells ⟨[vS l7, vB c9, vI (IntKind.i64.wrap (4 * ((n10 : Nat) : Int)))]⟩ 89) →
 (tv [vL a11 n11 k11]) ∧
 Raw Tryz.prog (execOp (rho [(97, vL (ad b21 0) 0 0), (102, vL a52 ((i14).toNat - 0) (k11 - 0))]) (mkO o42_14 30)) h_57 fun v_37 h_58 =>
 ∃ (a57 : OA) (n43 k43 : Nat), v_37 = vL a57 n43 k43 ∧
 (tv [vL a11 n11 k11]) ∧
 Raw Tryz.prog (execOp (rho [(103, vL a57 n43 k43), (105, vL (ad b23 0) 1 1)]) (mkO o42_15 30)) h_58 fun v_38 h_59 =>
 ∃ (a58 : OA) (n44 k44 : Nat), v_38 = vL a58 n44 k44 ∧
 (tv [vL a11 n11 k11]) ∧
 (okA a11 n11 k11 ∧ 0 ≤ i14 ∧ i14 ≤ ((n11 : Nat) : Int) ∧ ((n11 : Nat) : Int) ≤ k11) ∧ ∀ (a59 : OA), SlA a11 a59 (i14).toNat k11 3 →
 Raw Tryz.prog (execOp (rho [(107, vL a58 n44 k44), (112, vL a59 (((n11 : Nat) : Int).toNat - (i14).toNat) (k11 - (i14).toNat))]) (mkO o42_16 30)) h_59 fun v_39 h_60 =>
 ∃ (a60 : OA) (n45 k45 : Nat), v_39 = vL a60 n45 k45 ∧
 ∃ (m19 : Nat), m19 < m1 ∧ I_1 m19 (IntKind.i64.wrap (i4 + 1)) a7 n7 k7 l3 i5 i6 a8 n8 k8 c6 c7 c8 a9 n9 k9 i7 a10 n10 k10 l4 i8 i9 a60 n45 k45 c9 c10 c11 a12 n12 k12 i10 h_60 ∧
 True)) ∧
 (∀ (b24 : Nat), h_36 b24 = none → ∀ (h_61 : PHeap), h_61 = h_36.put b24 (.cells ⟨[vS l7, vB c9, vI (IntKind.i64.wrap (4 * ((n10 : Nat) : Int)))]⟩ 89) →
 (tv [vL a11 n11 k11]) ∧
 ∀ (b25 : Nat), h_61 b25 = none → ∀ (h_62 : PHeap), h_62 = h_61.put b25 (.cells ⟨[]⟩ 89) →
 (tv [vL a11 n11 k11]) ∧
 Raw Tryz.prog (execOp (rho [(97, vL (ad b25 0) 0 0), (102, vL a52 ((i14).toNat - 0) (k11 - 0))]) (mkO o42_14 30)) h_62 fun v_40 h_63 =>
 ∃ (a61 : OA) (n46 k46 : Nat), v_40 = vL a61 n46 k46 ∧
 (tv [vL a11 n11 k11]) ∧
 Raw Tryz.prog (execOp (rho [(103, vL a61 n46 k46), (105, vL (ad b24 0) 1 1)]) (mkO o42_15 30)) h_63 fun v_41 h_64 =>
 ∃ (a62 : OA) (n47 k47 : Nat), v_41 = vL a62 n47 k47 ∧
 (tv [vL a11 n11 k11]) ∧
 (okA a11 n11 k11 ∧ 0 ≤ i14 ∧ i14 ≤ ((n11 : Nat) : Int) ∧ ((n11 : Nat) : Int) ≤ k11) ∧ ∀ (a63 : OA), SlA a11 a63 (i14).toNat k11 3 →
 Raw Tryz.prog (execOp (rho [(107, vL a62 n47 k47), (112, vL a63 (((n11 : Nat) : Int).toNat - (i14).toNat) (k11 - (i14).toNat))]) (mkO o42_16 30)) h_64 fun v_42 h_65 =>
 ∃ (a64 : OA) (n48 k48 : Nat), v_42 = vL a64 n48 k48 ∧
 ∃ (m20 : Nat), m20 < m1 ∧ I_1 m20 (IntKind.i64.wrap (i4 + 1)) a7 n7 k7 l3 i5 i6 a8 n8 k8 c6 c7 c8 a9 n9 k9 i7 a10 n10 k10 l4 i8 i9 a64 n48 k48 c9 c10 c11 a12 n12 k12 i10 h_65 ∧
 True)))))))
 (br (((n6 : Nat) : Int) == 0)
 (Q (vT [vA [vL a10 n10 k10, vS l4, vI i8, vI i9, vL a11 n11 k11, vB c9, vB c10, vB c11, vL a12 n12 k12, vI i10], vI 0]) h_3)
 (Tri Tryz.prog 96 [vA [vL a10 n10 k10, vS l4, vI i8, vI i9, vL a11 n11 k11, vB c9, vB c10, vB c11, vL a12 n12 k12, vI i10], vL a6 n6 k6] h_3 fun v_43 h_66 =>
 ∃ (a65 : OA) (n49 k49 : Nat) (l10 : Bs) (i16 i17 : Int) (a66 : OA) (n50 k50 : Nat) (c17 c18 c19 : Bool) (a67 : OA) (n51 k51 : Nat) (i18 i19 : Int), v_43 = vT [vA [vL a65 n49 k49, vS l10, vI i16, vI i17, vL a66 n50 k50, vB c17, vB c18, vB c19, vL a67 n51 k51, vI i18], vI i19] ∧
 Q (vT [vA [vL a65 n49 k49, vS l10, vI i16, vI i17, vL a66 n50 k50, vB c17, vB c18, vB c19, vL a67 n51 k51, vI i18], vI i19]) h_66))))
theorem T42 {a1 : OA} {n1 : Nat} {eyk1 : Nat} {l1 : Bs} {i1 : Int} {i2 : Int} {a2 : OA} {n2 : Nat} {eyk2 : Nat} {c1 : Bool} {c2 : Bool} {c3 : Bool} {a3 : OA} {n3 : Nat} {eyk3 : Nat} {i3 : Int} {l2 : Bs} {h : PHeap} {Q : Value → PHeap → Prop} (hR : R42 a1 n1 eyk1 l1 i1 i2 a2 n2 eyk2 c1 c2 c3 a3 n3 eyk3 i3 l2 h Q) : Tri Tryz.prog 42 [vA [vL a1 n1 eyk1, vS l1, vI i1, vI i2, vL a2 n2 eyk2, vB c1, vB c2, vB c3, vL a3 n3 eyk3, vI i3], vS l2] h Q :=
 tri_of_dn mixed Tryz.func42 rfl (by kernel_rfl) low42 (rs := [.cell 4 true 10, .tmp 5]) (by kernel_rfl) rfl (Eq.mpr (by kernel_rfl : dnF Tryz.prog Tryz.f42.ntmps d42 [.cell 4 true 10, .tmp 5] [vA [vL a1 n1 eyk1, vS l1, vI i1, vI i2, vL a2 n2 eyk2, vB c1, vB c2, vB c3, vL a3 n3 eyk3, vI i3], vS l2] h Q = R42 a1 n1 eyk1 l1 i1 i2 a2 n2 eyk2 c1 c2 c3 a3 n3 eyk3 i3 l2 h Q) hR)
abbrev o43_5 : Op := .call { callee := (.builtin .append), args := #[(.tmp 50), (.tmp 52)], argTypes := #[29, 29] }
noncomputable def d43 : DCode := up ⟨[(19, .l eyk3), (20, .l eyk2), (22, .l [.str]), (23, .c (.one false [qi])), (27, .l eyk2), (29, .l [qi]), (33, .l [qi]), (38, .l [qi]), (41, .l eyk2), (43, .l [qi]), (45, .l [qi]), (52, .l [.slice]), (53, .c (.one false [.slice])), (56, .l [.slice]), (58, .l [qi]), (65, .l [.str]), (67, .l [qi]), (70, .c (.one false [.str])), (73, .l [.str]), (75, .l [qi]), (80, .l eyk2)], [61], [(10, 75, [(7, qi)], [(4, eyk2), (2, eyk2)])]⟩ (low Tryz.prog (fun _ => false) (Tryz.f43.body.getD .skip))
theorem low43 : low Tryz.prog (fun _ => false) (Tryz.f43.body.getD .skip) = some (eC d43) := by kernel_rfl
def R43 (a1 : OA) (n1 : Nat) (eyk1 : Nat) (l1 : Bs) (i1 : Int) (i2 : Int) (a2 : OA) (n2 : Nat) (eyk2 : Nat) (a3 : OA) (n3 : Nat) (eyk3 : Nat) (h : PHeap) (Q : Value → PHeap → Prop) : Prop :=
 ∃ (I_1 : Nat → Int → OA → Nat → Nat → Bs → Int → Int → OA → Nat → Nat → OA → Nat → Nat → Bs → Int → Int → OA → Nat → Nat → PHeap → Prop), (∃ (m2 : Nat), I_1 m2 (0 : Int) none 0 0 [] (0 : Int) (0 : Int) none 0 0 a1 n1 eyk1 l1 i1 i2 a2 n2 eyk2 h) ∧
 ∀ (m1 : Nat) (i3 : Int) (a4 : OA) (n4 : Nat) (k4 : Nat) (l2 : Bs) (i4 : Int) (i5 : Int) (a5 : OA) (n5 : Nat) (k5 : Nat) (a6 : OA) (n6 : Nat) (k6 : Nat) (l3 : Bs) (i6 : Int) (i7 : Int) (a7 : OA) (n7 : Nat) (k7 : Nat) (h_1 : PHeap), I_1 m1 i3 a4 n4 k4 l2 i4 i5 a5 n5 k5 a6 n6 k6 l3 i6 i7 a7 n7 k7 h_1 →
 br (decide (i3 < ((n3 : Nat) : Int)))
 (∃ (b1 o1 : Nat), a3 = some ⟨b1, o1, none⟩ ∧ (0 ≤ i3 ∧ i3 < n3) ∧
 ∃ (i8 i9 i10 i11 i12 : Int) (l4 : Bs), h_1.row b1 (o1 + (i3).toNat * 6) [vI i8, vI i9, vI i10, vI i11, vI i12, vS l4] ∧
 Tri Tryz.prog 23 [vA [vL a6 n6 k6, vS l3, vI i6, vI i7, vL a7 n7 k7], vS l4] h_1 fun v_1 h_2 =>
 ∃ (i13 : Int), v_1 = vI i13 ∧
 br (decide (i13 < 0))
 ((tv [vI i8]) ∧
 Q (vT [vA [vL a6 n6 k6, vS l3, vI i6, vI i7, vL a7 n7 k7], vI i8, vI 37]) h_2)
 (br (decide (i13 < i11))
 ((tv [vI i8]) ∧
 Q (vT [vA [vL a6 n6 k6, vS l3, vI i6, vI i7, vL a7 n7 k7], vI i8, vI 2]) h_2)
 (br (decide (i13 > i12))
 ((tv [vI i8]) ∧
 Q (vT [vA [vL a6 n6 k6, vS l3, vI i6, vI i7, vL a7 n7 k7], vI i8, vI 2]) h_2)
 (br (i9 == 0)
 (∀ (b2 : Nat), h_2 b2 = none → ∀ (h_3 : PHeap), h_3 = h_2.put b2 (.cells ⟨[]⟩ 57) →
 Raw Tryz.prog (execOp (rho [(50, vL (ad b2 0) 0 0), (52, vL a6 n6 k6)]) (mkO o43_5 29)) h_3 fun v_2 h_4 =>
 ∃ (a8 : OA) (n8 k8 : Nat), v_2 = vL a8 n8 k8 ∧
 ∃ (b3 o2 : Nat), a8 = some ⟨b3, o2, none⟩ ∧ (0 ≤ i10 ∧ i10 < n8) ∧
 ∃ (l5 : List Value) (t1 : TypeId) (z1 : Nat × Nat), h_4 b3 = some (.cells ⟨l5⟩ t1 z1) ∧ (((o2 + (i10).toNat * 4) + 3) + 1 ≤ l5.length ∧ z1.2 ≤ ((o2 + (i10).toNat * 4) + 3)) ∧
 ∀ (h_5 : PHeap), h_5 = h_4.put b3 (.cells ⟨splice l5 ((o2 + (i10).toNat * 4) + 3) [vI i13]⟩ t1 z1) →
 ∃ (m3 : Nat), m3 < m1 ∧ I_1 m3 (IntKind.i64.wrap (i3 + 1)) a4 n4 k4 l2 i4 i5 a5 n5 k5 a8 n8 k8 l3 i6 i7 a7 n7 k7 h_5 ∧
 True)
 (br (i9 == 1)
 ((0 ≤ (0 : Int) ∧ (0 : Int) ≤ i10 ∧ i10 ≤ (l3.length : Int)) ∧
 (0 ≤ (IntKind.i64.wrap (i10 + 4)) ∧ (IntKind.i64.wrap (i10 + 4)) ≤ (l3.length : Int) ∧ (l3.length : Int) ≤ (l3.length : Int)) ∧
 Tri Tryz.prog 97 [vI i13] h_2 fun v_3 h_6 =>
 ∃ (l6 : Bs), v_3 = vS l6 ∧
 (tv [vI i10]) ∧
 (tv [vS l3]) ∧
 (tv [vI i10]) ∧
 (tv [vS l3]) ∧
 ((l3.drop 0).take ((i10).toNat - 0)).length + l6.length ≤ 9223372036854775807 ∧
 (((l3.drop 0).take ((i10).toNat - 0)) ++ l6).length + ((l3.drop (IntKind.i64.wrap (i10 + 4)).toNat).take ((l3.length : Int).toNat - (IntKind.i64.wrap (i10 + 4)).toNat)).length ≤ 9223372036854775807 ∧
 ∃ (m4 : Nat), m4 < m1 ∧ I_1 m4 (IntKind.i64.wrap (i3 + 1)) a4 n4 k4 l2 i4 i5 a5 n5 k5 a6 n6 k6 ((((l3.drop 0).take ((i10).toNat - 0)) ++ l6) ++ ((l3.drop (IntKind.i64.wrap (i10 + 4)).toNat).take ((l3.length : Int).toNat - (IntKind.i64.wrap (i10 + 4)).toNat))) i6 i7 a7 n7 k7 h_6 ∧
 True)
 (∃ (m5 : Nat), m5 < m1 ∧ I_1 m5 (IntKind.i64.wrap (i3 + 1)) a4 n4 k4 l2 i4 i5 a5 n5 k5 a6 n6 k6 l3 i6 i13 a7 n7 k7 h_2 ∧
 True))))))
 (Q (vT [vA [vL a6 n6 k6, vS l3, vI i6, vI i7, vL a7 n7 k7], vI 0, vI 0]) h_1)
theorem T43 {a1 : OA} {n1 : Nat} {eyk1 : Nat} {l1 : Bs} {i1 : Int} {i2 : Int} {a2 : OA} {n2 : Nat} {eyk2 : Nat} {a3 : OA} {n3 : Nat} {eyk3 : Nat} {h : PHeap} {Q : Value → PHeap → Prop} (hR : R43 a1 n1 eyk1 l1 i1 i2 a2 n2 eyk2 a3 n3 eyk3 h Q) : Tri Tryz.prog 43 [vA [vL a1 n1 eyk1, vS l1, vI i1, vI i2, vL a2 n2 eyk2], vL a3 n3 eyk3] h Q :=
 tri_of_dn mixed Tryz.func43 rfl (by kernel_rfl) low43 (rs := [.cell 4 true 5, .tmp 5, .tmp 6]) (by kernel_rfl) rfl (Eq.mpr (by kernel_rfl : dnF Tryz.prog Tryz.f43.ntmps d43 [.cell 4 true 5, .tmp 5, .tmp 6] [vA [vL a1 n1 eyk1, vS l1, vI i1, vI i2, vL a2 n2 eyk2], vL a3 n3 eyk3] h Q = R43 a1 n1 eyk1 l1 i1 i2 a2 n2 eyk2 a3 n3 eyk3 h Q) hR)
end Go.Proofs.D
namespace Go.As
def rst (a : St) : St := { a with p := srt a.p }
def defR (a : St) : List Bytes → R St
 | [] => .ok a
 | n :: l =>
   if isLabel n = false then .error 12
   else if (a.p.labels.any fun x => x.name == n) then .error 7
   else if 1024 ≤ a.p.labels.length then .error 9
   else defR { a with p := { a.p with labels := insL ⟨n, a.inData, if a.inData then (a.p.data.length : Int) else (4 * a.p.code.length : Nat)⟩ a.p.labels } } l
def lineR (a : St) (s : Bytes) : R St :=
 match tokensL s with
 | none => .error 6
 | some ts => match splitL ts with
   | none => .error 30
   | some (ls, none) => defR a ls
   | some (ls, some (n, os)) => match defR a ls with
     | .error e => .error e
     | .ok b => stmtS b n os
theorem def_rst : ∀ (l : List Bytes) (a : St), defR (rst a) l = (defineS a l).map rst
 | [], a => rfl
 | n :: l, a => by
   rw [defR, defineS]
   have h1 : ((rst a).p.labels.any fun x => x.name == n) = (a.p.labels.any fun x => x.name == n) := any_srt a.p.labels n
   have h2 : (rst a).p.labels.length = a.p.labels.length := sort_len a.p.labels
   rw [h1, h2]
   by_cases g1 : isLabel n = false
   · rw [if_pos g1, if_pos g1]; rfl
   rw [if_neg g1, if_neg g1]
   by_cases g2 : (a.p.labels.any fun x => x.name == n) = true
   · rw [if_pos g2, if_pos g2]; rfl
   rw [if_neg g2, if_neg g2]
   by_cases g3 : 1024 ≤ a.p.labels.length
   · rw [if_pos g3, if_pos g3]; rfl
   rw [if_neg g3, if_neg g3, ← def_rst l]
   congr 1
   show _ = St.mk (Pg.mk a.p.code a.p.data a.p.zero a.p.entry (sortL (a.p.labels ++ [_]))) _ _ _ _ _
   rw [sort_snoc]
   rfl
theorem words_rst : ∀ (l : List Tk) (a : St), wordsS (rst a) l = (wordsS a l).map rst
 | [], a => rfl
 | t :: l, a => by
   rw [wordsS, wordsS]
   show (valueS a.line t.text 1 a.p.data.length _ _ >>= _) = _
   cases valueS a.line t.text 1 a.p.data.length (-2147483648) 4294967295 with
   | error e => rfl
   | ok x => exact words_rst l { a with p := { a.p with data := a.p.data ++ wordOf x.1 }, uses := a.uses ++ x.2 }
theorem bytes_rst : ∀ (l : List Tk) (a : St), bytesS (rst a) l = (bytesS a l).map rst
 | [], a => rfl
 | t :: l, a => by
   rw [bytesS, bytesS]
   cases literalS t.text (-128) 255 with
   | error e => rfl
   | ok x => exact bytes_rst l { a with p := { a.p with data := a.p.data ++ [byteOf x] } }
theorem full_rst (a : St) : full (rst a) = (full a).map rst := by
 unfold full
 show (if 4096 < a.p.data.length then _ else _) = _
 split <;> rfl
theorem full_bind (r : R St) : (r.map rst >>= full) = (r >>= full).map rst := by
 cases r with
 | error e => rfl
 | ok a => exact full_rst a
theorem instr_rst (a : St) (op : Nat) (l : List Tk) : instrS (rst a) op l = (instrS a op l).map rst := by
 unfold instrS
 by_cases hf : form op ≤ 3
 · rw [if_pos hf, if_pos hf]
   cases regsS l with
   | error e => rfl
   | ok r =>
     show (if 1024 ≤ a.p.code.length then _ else _) = Except.map rst (if 1024 ≤ a.p.code.length then _ else _)
     split <;> rfl
 · rw [if_neg hf, if_neg hf]
   cases regsS l.dropLast with
   | error e => rfl
   | ok r =>
     show (valueS a.line _ _ a.p.code.length _ _ >>= _) = Except.map rst (valueS a.line _ _ a.p.code.length _ _ >>= _)
     cases valueS a.line (l.getLast?.getD ⟨1, []⟩).text 0 a.p.code.length (limits op).1 (limits op).2 with
     | error e => rfl
     | ok x =>
       show (if 1024 ≤ a.p.code.length then _ else _) = Except.map rst (if 1024 ≤ a.p.code.length then _ else _)
       split <;> rfl
theorem ite_map {c : Prop} [Decidable c] {x y x' y' : R St} (h1 : x = x'.map rst) (h2 : y = y'.map rst) : (if c then x else y) = (if c then x' else y').map rst := by
 split
 · exact h1
 · exact h2
theorem stmt_rst (a : St) (n : Bytes) (l : List Tk) : stmtS (rst a) n l = (stmtS a n l).map rst := by
 unfold stmtS
 cases wordsB.findIdx? (· == n) with
 | some op => exact ite_map rfl (ite_map rfl (instr_rst a op l))
 | none =>
   refine ite_map (ite_map rfl rfl) (ite_map (ite_map rfl (ite_map rfl ?_)) (ite_map (ite_map rfl (ite_map rfl ?_)) (ite_map (ite_map rfl (ite_map rfl (ite_map rfl (ite_map ?_ (ite_map ?_ (ite_map (full_rst { a with p := { a.p with data := a.p.data ++ (l.getD 0 ⟨1, []⟩).text } }) ?_)))))) rfl)))
   · show (valueS a.line _ 2 0 _ _ >>= _) = Except.map rst (valueS a.line _ 2 0 _ _ >>= _)
     cases valueS a.line (l.getD 0 ⟨1, []⟩).text 2 0 (-9999999999) 9999999999 <;> rfl
   · cases literalS (l.getD 0 ⟨1, []⟩).text 0 4096 <;> rfl
   · rw [words_rst]; exact full_bind _
   · rw [bytes_rst]; exact full_bind _
   · cases literalS (l.getD 0 ⟨1, []⟩).text 0 4096 with
     | error e => rfl
     | ok x => exact full_rst { a with p := { a.p with data := a.p.data ++ List.replicate x.toNat 0 } }
theorem line_rst (a : St) (s : Bytes) : lineR (rst a) s = (lineS a s).map rst := by
 unfold lineR lineS
 cases tokensL s with
 | none => rfl
 | some ts =>
   simp only
   cases splitL ts with
   | none => rfl
   | some x =>
     obtain ⟨ls, o⟩ := x
     cases o with
     | none => exact def_rst ls a
     | some y =>
       obtain ⟨n, os⟩ := y
       simp only
       rw [def_rst]
       cases defineS a ls with
       | error e => rfl
       | ok b => exact stmt_rst b n os
theorem operands_kind : ∀ (l os : List Tk), operandsS l = some os → ∀ t ∈ os, t.kind = 1 ∨ t.kind = 2
 | [], os, h, t, ht => by simp [operandsS] at h; subst h; cases ht
 | [u], os, h, t, ht => by
   simp only [operandsS] at h
   split at h
   · injection h with h; subst h; simp at ht; subst ht; assumption
   · cases h
 | [u, v], os, h, t, ht => by simp [operandsS] at h
 | u :: v :: w :: l, os, h, t, ht => by
   simp only [operandsS] at h
   split at h
   · rename_i g
     simp only [Option.map_eq_some_iff] at h
     obtain ⟨os', h1, rfl⟩ := h
     rcases List.mem_cons.1 ht with rfl | ht
     · exact g.1
     · exact operands_kind (w :: l) os' h1 t ht
   · cases h
theorem split_kind : ∀ (ts : List Tk) (ls : List Bytes) (n : Bytes) (os : List Tk), splitL ts = some (ls, some (n, os)) → ∀ t ∈ os, t.kind = 1 ∨ t.kind = 2
 | [], ls, n, os, h => by simp [splitL] at h
 | [t], ls, n, os, h => by
   simp only [splitL] at h
   split at h
   · cases h
   · simp only [Option.some.injEq, Prod.mk.injEq] at h
     obtain ⟨_, _, rfl⟩ := h
     intro t ht; cases ht
 | t :: u :: l, ls, n, os, h => by
   simp only [splitL] at h
   split at h
   · cases h
   split at h
   · simp only [Option.map_eq_some_iff] at h
     obtain ⟨⟨ls', o⟩, h1, h2⟩ := h
     simp only [Prod.mk.injEq] at h2
     obtain ⟨_, rfl⟩ := h2
     exact split_kind l ls' n os h1
   · simp only [Option.map_eq_some_iff] at h
     obtain ⟨x, h1, h2⟩ := h
     simp only [Prod.mk.injEq, Option.some.injEq] at h2
     obtain ⟨_, _, rfl⟩ := h2
     exact operands_kind _ _ h1
theorem tok_kind : ∀ (f : Nat) (s : Bytes) (ts : List Tk), tokensS f s = some ts → ∀ t ∈ ts, t.kind = 1 ∨ t.kind = 2 ∨ t.kind = 3 ∨ t.kind = 4
 | 0, s, ts, h => by simp [tokensS] at h
 | f + 1, [], ts, h => by simp [tokensS] at h; subst h; intro t ht; cases ht
 | f + 1, c :: r, ts, h => by
   have rec1 : ∀ {r' : Bytes} {x : Tk}, (tokensS f r').map (fun l => x :: l) = some ts → (x.kind = 1 ∨ x.kind = 2 ∨ x.kind = 3 ∨ x.kind = 4) → ∀ t ∈ ts, t.kind = 1 ∨ t.kind = 2 ∨ t.kind = 3 ∨ t.kind = 4 := fun {r' x} h hx t ht => by
    simp only [Option.map_eq_some_iff] at h
    obtain ⟨l, h1, rfl⟩ := h
    rcases List.mem_cons.1 ht with rfl | ht
    · exact hx
    · exact tok_kind f r' l h1 t ht
   rw [tokensS] at h
   split at h
   · injection h with h; subst h; intro t ht; cases ht
   split at h
   · exact tok_kind f r ts h
   split at h
   · exact rec1 h (.inr (.inr (.inl rfl)))
   split at h
   · exact rec1 h (.inr (.inr (.inr rfl)))
   split at h
   · split at h
     · cases h
     · exact rec1 h (.inr (.inl rfl))
   split at h
   · exact rec1 h (.inl rfl)
   · cases h
def OffOk (p : Pg) : Prop := ∀ l ∈ p.labels, 0 ≤ l.off ∧ l.off ≤ 4096
theorem addr_any {p : Pg} (ho : OffOk p) (n : Bytes) : (decide ((address p n).getD (-1) ≥ 0)) = (p.labels.any fun x => x.name == n) := by
 unfold address
 rw [Bool.eq_iff_iff, decide_eq_true_iff]
 cases hf : p.labels.find? (fun x => x.name == n) with
 | none =>
   have := List.find?_eq_none.1 hf
   simp only [Option.map_none, Option.getD_none]
   constructor
   · intro h; omega
   · intro h
     obtain ⟨x, h1, h2⟩ := List.any_eq_true.1 h
     exact absurd h2 (this x h1)
 | some x =>
   have h1 := List.mem_of_find?_eq_some hf
   have h2 : (x.name == n) = true := List.find?_some (p := fun x : Lb => x.name == n) hf
   have := ho x h1
   simp only [Option.map_some, Option.getD_some]
   refine ⟨fun _ => List.any_eq_true.2 ⟨x, h1, h2⟩, fun _ => ?_⟩
   unfold placeOf dataAt
   split <;> omega
end Go.As
namespace Go.Proofs.D
open Go Go.Den Go.As
set_option maxRecDepth 100000
attribute [local irreducible] IntKind.wrap Tri
theorem und30q : Tryz.prog.underlying 30 = some (.slice 89) := rfl
theorem elem89q : ElemT 89 3 := ⟨_, _, rfl, rfl, rfl, rfl, by decide⟩
def put42 (a11 : OA) (n11 k11 : Nat) (l7 : Bs) (c9 : Bool) (off : Int) (i12 : Int) (a13 : OA) (K : OA → Nat → Nat → PHeap → Prop) (h1 : PHeap) : Prop :=
 (∀ (b5 : Nat), h1 b5 = none → ∀ (h_8 : PHeap), h_8 = h1.put b5 (.cells ⟨[]⟩ 89) →
 (tv [vS l7, vB c9, vI off]) ∧
 (tv [vL a11 n11 k11]) ∧
 (Raw Tryz.prog (execOp (rho [(97, vL (ad b5 0) 0 0), (102, vL a13 ((i12).toNat - 0) (k11 - 0))]) (mkO o42_14 30)) h_8 fun v_6 h_9 =>
 ∃ (a14 : OA) (n13 k13 : Nat), v_6 = vL a14 n13 k13 ∧
 (tv [vS l7, vB c9, vI off]) ∧
 (tv [vL a11 n11 k11]) ∧
 ∀ (b6 : Nat), h_9 b6 = none → ∀ (h_10 : PHeap), h_10 = h_9.put b6 (.cells ⟨[vS l7, vB c9, vI off]⟩ 89) →
 (tv [vL a11 n11 k11]) ∧
 Raw Tryz.prog (execOp (rho [(103, vL a14 n13 k13), (105, vL (ad b6 0) 1 1)]) (mkO o42_15 30)) h_10 fun v_7 h_11 =>
 ∃ (a15 : OA) (n14 k14 : Nat), v_7 = vL a15 n14 k14 ∧
 (tv [vL a11 n11 k11]) ∧
 (okA a11 n11 k11 ∧ 0 ≤ i12 ∧ i12 ≤ ((n11 : Nat) : Int) ∧ ((n11 : Nat) : Int) ≤ k11) ∧ ∀ (a16 : OA), SlA a11 a16 (i12).toNat k11 3 →
 Raw Tryz.prog (execOp (rho [(107, vL a15 n14 k14), (112, vL a16 (((n11 : Nat) : Int).toNat - (i12).toNat) (k11 - (i12).toNat))]) (mkO o42_16 30)) h_11 fun v_8 h_12 =>
 ∃ (a17 : OA) (n15 k15 : Nat), v_8 = vL a17 n15 k15 ∧
 K a17 n15 k15 h_12) ∧
 (∀ (b7 : Nat), h_8 b7 = none → ∀ (h_13 : PHeap), h_13 = h_8.put b7 (.cells ⟨[vS l7, vB c9, vI off]⟩ 89) →
 (tv [vL a11 n11 k11]) ∧
 Raw Tryz.prog (execOp (rho [(97, vL (ad b5 0) 0 0), (102, vL a13 ((i12).toNat - 0) (k11 - 0))]) (mkO o42_14 30)) h_13 fun v_9 h_14 =>
 ∃ (a18 : OA) (n16 k16 : Nat), v_9 = vL a18 n16 k16 ∧
 (tv [vL a11 n11 k11]) ∧
 Raw Tryz.prog (execOp (rho [(103, vL a18 n16 k16), (105, vL (ad b7 0) 1 1)]) (mkO o42_15 30)) h_14 fun v_10 h_15 =>
 ∃ (a19 : OA) (n17 k17 : Nat), v_10 = vL a19 n17 k17 ∧
 (tv [vL a11 n11 k11]) ∧
 (okA a11 n11 k11 ∧ 0 ≤ i12 ∧ i12 ≤ ((n11 : Nat) : Int) ∧ ((n11 : Nat) : Int) ≤ k11) ∧ ∀ (a20 : OA), SlA a11 a20 (i12).toNat k11 3 →
 Raw Tryz.prog (execOp (rho [(107, vL a19 n17 k17), (112, vL a20 (((n11 : Nat) : Int).toNat - (i12).toNat) (k11 - (i12).toNat))]) (mkO o42_16 30)) h_15 fun v_11 h_16 =>
 ∃ (a21 : OA) (n18 k18 : Nat), v_11 = vL a21 n18 k18 ∧
 K a21 n18 k18 h_16)) ∧
 (∀ (b8 : Nat), h1 b8 = none → ∀ (h_17 : PHeap), h_17 = h1.put b8 (.cells ⟨[vS l7, vB c9, vI off]⟩ 89) →
 (tv [vL a11 n11 k11]) ∧
 ∀ (b9 : Nat), h_17 b9 = none → ∀ (h_18 : PHeap), h_18 = h_17.put b9 (.cells ⟨[]⟩ 89) →
 (tv [vL a11 n11 k11]) ∧
 Raw Tryz.prog (execOp (rho [(97, vL (ad b9 0) 0 0), (102, vL a13 ((i12).toNat - 0) (k11 - 0))]) (mkO o42_14 30)) h_18 fun v_12 h_19 =>
 ∃ (a22 : OA) (n19 k19 : Nat), v_12 = vL a22 n19 k19 ∧
 (tv [vL a11 n11 k11]) ∧
 Raw Tryz.prog (execOp (rho [(103, vL a22 n19 k19), (105, vL (ad b8 0) 1 1)]) (mkO o42_15 30)) h_19 fun v_13 h_20 =>
 ∃ (a23 : OA) (n20 k20 : Nat), v_13 = vL a23 n20 k20 ∧
 (tv [vL a11 n11 k11]) ∧
 (okA a11 n11 k11 ∧ 0 ≤ i12 ∧ i12 ≤ ((n11 : Nat) : Int) ∧ ((n11 : Nat) : Int) ≤ k11) ∧ ∀ (a24 : OA), SlA a11 a24 (i12).toNat k11 3 →
 Raw Tryz.prog (execOp (rho [(107, vL a23 n20 k20), (112, vL a24 (((n11 : Nat) : Int).toNat - (i12).toNat) (k11 - (i12).toNat))]) (mkO o42_16 30)) h_20 fun v_14 h_21 =>
 ∃ (a25 : OA) (n21 k21 : Nat), v_14 = vL a25 n21 k21 ∧
 K a25 n21 k21 h_21)
def loop42 (a7 : OA) (n7 k7 : Nat) (l3 : Bs) (i5 i6 : Int) (a8 : OA) (n8 k8 : Nat) (c6 c7 c8 : Bool) (a9 : OA) (n9 k9 : Nat) (i7 : Int) (a10 : OA) (n10 k10 : Nat) (l4 : Bs) (i8 i9 : Int) (a11 : OA) (n11 k11 : Nat) (c9 c10 c11 : Bool) (a12 : OA) (n12 k12 : Nat) (i10 : Int) (l7 : Bs) (off : Int) (K : OA → Nat → Nat → PHeap → Prop) (h0 : PHeap) : Prop :=
 ∃ (I_2 : Nat → Int → PHeap → Prop), (∃ (m4 : Nat), I_2 m4 (0 : Int) h0) ∧
 ∀ (m3 : Nat) (i12 : Int) (h_6 : PHeap), I_2 m3 i12 h_6 →
 br (decide (i12 < ((n11 : Nat) : Int)))
 (∃ (b4 o4 : Nat), a11 = some ⟨b4, o4, none⟩ ∧ (0 ≤ i12 ∧ i12 < n11) ∧
 ∃ (l8 : Bs) (c13 : Bool) (i13 : Int), h_6.row b4 (o4 + (i12).toNat * 3) [vS l8, vB c13, vI i13] ∧
 Tri Tryz.prog 45 [vA [vS l8, vB c13, vI i13], vA [vS l7, vB c9, vI off]] h_6 fun v_5 h_7 =>
 ∃ (c14 : Bool), v_5 = vB c14 ∧
 (tv [vL a11 n11 k11]) ∧
 (tv [vL a11 n11 k11]) ∧
 br c14
 (∃ (m5 : Nat), m5 < m3 ∧ I_2 m5 (IntKind.i64.wrap (i12 + 1)) h_7 ∧
 tv [vS l7, vB c9, vI off] ∧ tv [vL a7 n7 k7, vS l3, vI i5, vI i6, vL a8 n8 k8, vB c6, vB c7, vB c8, vL a9 n9 k9, vI i7] ∧ tv [vL a10 n10 k10, vS l4, vI i8, vI i9, vL a11 n11 k11, vB c9, vB c10, vB c11, vL a12 n12 k12, vI i10] ∧ True)
 ((okA a11 n11 k11 ∧ 0 ≤ (0 : Int) ∧ (0 : Int) ≤ i12 ∧ i12 ≤ k11) ∧ ∀ (a13 : OA), SlA a11 a13 0 k11 3 →
 put42 a11 n11 k11 l7 c9 off i12 a13 K h_7))
 ((tv [vL a11 n11 k11]) ∧
 (okA a11 n11 k11 ∧ 0 ≤ (0 : Int) ∧ (0 : Int) ≤ i12 ∧ i12 ≤ k11) ∧ ∀ (a26 : OA), SlA a11 a26 0 k11 3 →
 put42 a11 n11 k11 l7 c9 off i12 a26 K h_6)
section
variable {h : PHeap}
theorem lbC_ok (l : Lb) : (lbC l).length = 3 ∧ allOne (lbC l) = true := ⟨rfl, rfl⟩
theorem LbAt.cut {a a' : OA} {S : List Lb} {i k : Nat} (hL : LbAt h a S) (hs : SlA a a' i k 3) (hk : S.length ≤ k) (m : Nat) : LbAt h a' ((S.drop i).take m) := by
 by_cases hl : S.drop i = []
 · rw [hl]; exact .inl (by simp)
 have hi : i < S.length := Decidable.byContradiction fun hn => hl (List.drop_of_length_le (by omega))
 rcases hL with hL | ⟨b, o, ha, hL⟩
 · subst hL; simp at hi
 obtain ⟨o', h1, h2⟩ := hs.1 b o ha
 have := h2 (.inl (by omega))
 subst this
 refine .inr ⟨b, _, h1, fun j l hj => ?_⟩
 have hj' : S[i + j]? = some l := by
  rw [List.getElem?_take] at hj
  split at hj
  · rwa [List.getElem?_drop] at hj
  · cases hj
 have := hL (i + j) l hj'
 rwa [show o + i * 3 + j * 3 = o + (i + j) * 3 by omega]
theorem okA_cut {a a' : OA} {n k i m : Nat} (ho : okA a n k) (hs : SlA a a' i k 3) (h : n = 0 → m = 0) : okA a' m (k - i) := by
 rcases ho with ⟨b, o, rfl⟩ | ⟨rfl, h1, h2⟩
 · obtain ⟨o', h1, _⟩ := hs.1 b o rfl
   exact .inl ⟨b, o', h1⟩
 · exact .inr ⟨hs.2 rfl, h h1, by omega⟩
theorem put_42 {K : OA → Nat → Nat → PHeap → Prop} {a11 a13 : OA} {k11 k : Nat} {S : List Lb} {x : Lb} {i12 off : Int} {l7 : Bs} {c9 : Bool} {n11 : Nat} (hL : LbAt h a11 S) (hok : okA a11 S.length k11) (hle : S.length ≤ k11) (hn : S.length ≤ 1000000) (hs : SlA a11 a13 0 k11 3) (hk : k ≤ S.length) (hi : i12 = (k : Int)) (hn11 : n11 = S.length) (hx : [vS l7, vB c9, vI off] = lbC x)
 (hK : ∀ a' k' h', Ext h h' → LbAt h' a' (S.take k ++ x :: S.drop k) → okA a' (S.take k ++ x :: S.drop k).length k' → (S.take k ++ x :: S.drop k).length ≤ k' → K a' (S.take k ++ x :: S.drop k).length k' h') :
 put42 a11 n11 k11 l7 c9 off i12 a13 K h := by
 subst hi; subst hn11
 unfold put42
 rw [hx, Int.toNat_natCast, Int.toNat_natCast, Nat.sub_zero, Nat.sub_zero]
 have htl : (S.take k).length = k := by rw [List.length_take]; omega
 have hdl : (S.drop k).length = S.length - k := List.length_drop
 have hL1 : LbAt h a13 (S.take k) := by
  have := hL.cut hs hle k
  rwa [List.drop_zero] at this
 have ok1 : okA a13 (S.take k).length k11 := by
  have := okA_cut (m := (S.take k).length) hok hs fun h0 => by omega
  rwa [Nat.sub_zero] at this
 have first : ∀ {b : Nat} {h2 : PHeap}, Ext h h2 → L0 89 3 h h2 (ad b 0) 0 0 [] → Raw Tryz.prog (execOp (rho [(97, vL (ad b 0) 0 0), (102, vL a13 k k11)]) (mkO o42_14 30)) h2 fun v h3 => ∃ a' c', v = vL a' k c' ∧ Ext h h3 ∧ (∀ q o, q ≠ b → h2 q = some o → h3 q = some o) ∧ L0 89 3 h h3 a' k c' ((S.take k).map lbC) := fun {b h2} x2 hl => by
  refine Raw.mono (L0.extend2 (t := 30) (t2 := 30) (vy := vL a13 (S.take k).length k11) und30q elem89q rfl rfl rfl rfl (by rw [htl]; rfl) x2 hl (css2 := (S.take k).map lbC) (m := (S.take k).length) (src_rows und30q ok1 (hL1.ext x2) lbC_ok) (by simp) (fun cs hc => by obtain ⟨r, _, rfl⟩ := List.mem_map.1 hc; exact (lbC_ok r).1) (by omega)) ?_
  rintro v h3 ⟨a', c', rfl, x3, y3, hl3⟩
  exact ⟨a', c', by rw [htl, Nat.zero_add], x3, fun q o hq hqo => y3 q o (fun e => hq (by injection e with e; injection e with e; exact e.symm)) hqo, by rw [htl, Nat.zero_add, List.nil_append] at hl3; exact hl3⟩
 have second : ∀ {b : Nat} {h2 : PHeap} {a' : OA} {c' : Nat} (K' : OA → Nat → Nat → PHeap → Prop), (∀ a24 c2 h3, Ext h h3 → L0 89 3 h h3 a24 (k + 1) c2 ((S.take k).map lbC ++ [lbC x]) → K' a24 (k + 1) c2 h3) → Ext h h2 → L0 89 3 h h2 a' k c' ((S.take k).map lbC) → h2 b = some (.cells ⟨lbC x⟩ 89) → Raw Tryz.prog (execOp (rho [(103, vL a' k c'), (105, vL (ad b 0) 1 1)]) (mkO o42_15 30)) h2 fun v h3 => ∃ (a24 : OA) (n24 k24 : Nat), v = vL a24 n24 k24 ∧ K' a24 n24 k24 h3 := fun {b h2 a' c'} K' hK' x2 hl hb => by
  refine Raw.mono (L0.push (h0 := h) (h := h2) (t := 30) und30q elem89q rfl rfl rfl rfl rfl x2 hl hb rfl rfl (by omega)) ?_
  rintro v h3 ⟨a2, c2, rfl, x3, hl3⟩
  exact ⟨a2, _, c2, rfl, hK' a2 c2 h3 x3 hl3⟩
 have third : ∀ a24 c2 h3, Ext h h3 → L0 89 3 h h3 a24 (k + 1) c2 ((S.take k).map lbC ++ [lbC x]) → (tv [vL a11 S.length k11]) ∧ (okA a11 S.length k11 ∧ 0 ≤ (k : Int) ∧ (k : Int) ≤ ((S.length : Nat) : Int) ∧ ((S.length : Nat) : Int) ≤ k11) ∧ ∀ (a16 : OA), SlA a11 a16 k k11 3 →
  Raw Tryz.prog (execOp (rho [(107, vL a24 (k + 1) c2), (112, vL a16 (S.length - k) (k11 - k))]) (mkO o42_16 30)) h3 fun v_8 h_12 => ∃ (a17 : OA) (n15 k15 : Nat), v_8 = vL a17 n15 k15 ∧ K a17 n15 k15 h_12 := fun a24 c2 h3 x3 hl => by
  refine ⟨rfl, ⟨hok, by omega, by omega, by omega⟩, fun a16 hs2 => ?_⟩
  have hL2 : LbAt h a16 (S.drop k) := by
   have := hL.cut hs2 hle (S.drop k).length
   rwa [List.take_length] at this
  have ok2 : okA a16 (S.drop k).length (k11 - k) := okA_cut hok hs2 fun h0 => by omega
  refine Raw.mono (L0.extend (h0 := h) (h := h3) (t := 30) (t2 := 30) (vy := vL a16 (S.drop k).length (k11 - k)) und30q elem89q rfl rfl rfl rfl (by rw [hdl]; rfl) x3 hl (css2 := (S.drop k).map lbC) (m := (S.drop k).length) (src_rows und30q ok2 (hL2.ext x3) lbC_ok) (by simp) (fun cs hc => by obtain ⟨r, _, rfl⟩ := List.mem_map.1 hc; exact (lbC_ok r).1) (by omega)) ?_
  rintro v h4 ⟨a2, c3, rfl, x4, hl4⟩
  have hln : k + 1 + (S.drop k).length = (S.take k ++ x :: S.drop k).length := by rw [List.length_append, List.length_cons, htl]; omega
  rw [hln] at hl4 ⊢
  have hl4' : L0 89 3 h h4 a2 (S.take k ++ x :: S.drop k).length c3 ((S.take k ++ x :: S.drop k).map lbC) := by simpa using hl4
  exact ⟨a2, _, c3, rfl, hK a2 c3 h4 x4 hl4'.rows hl4'.okA.1 hl4'.okA.2⟩
 refine ⟨fun b13 hb13 h23 hh23 => ⟨rfl, rfl, ?_, fun b15 hb15 h27 hh27 => ⟨rfl, ?_⟩⟩, fun b16 hb16 h30 hh30 => ⟨rfl, fun b17 hb17 h31 hh31 => ⟨rfl, ?_⟩⟩⟩
 · have x23 := Put.ext hh23 hb13
   refine Raw.mono (first x23 (L0.lit hb13 hb13 hh23 rfl)) ?_
   rintro v h24 ⟨a', c', rfl, x24, _, hl⟩
   refine ⟨_, _, _, rfl, rfl, rfl, fun b14 hb14 h25 hh25 => ⟨rfl, ?_⟩⟩
   exact second _ third (x24.trans (Put.ext hh25 hb14)) (hl.ext (Put.ext hh25 hb14)) (Put.at hh25)
 · have x23 := Put.ext hh23 hb13
   have x27 := Put.ext hh27 hb15
   refine Raw.mono (first (x23.trans x27) ((L0.lit hb13 hb13 hh23 rfl).ext x27)) ?_
   rintro v h28 ⟨a', c', rfl, x28, y28, hl⟩
   exact ⟨_, _, _, rfl, rfl, second _ third x28 hl (y28 _ _ (fun e => by rw [e, Put.at hh23] at hb15; cases hb15) (Put.at hh27))⟩
 · have x30 := Put.ext hh30 hb16
   have x31 := Put.ext hh31 hb17
   refine Raw.mono (first (x30.trans x31) (L0.lit hb17 (x30.dom _ hb17) hh31 rfl)) ?_
   rintro v h32 ⟨a', c', rfl, x32, y32, hl⟩
   exact ⟨_, _, _, rfl, rfl, second _ third x32 hl (y32 _ _ (fun e => by rw [← e, Put.at hh30] at hb17; cases hb17) (x31 _ _ (Put.at hh30)))⟩
theorem loop_42 {K : OA → Nat → Nat → PHeap → Prop} {a7 : OA} {n7 k7 : Nat} {l3 : Bs} {i5 i6 : Int} {a8 : OA} {n8 k8 : Nat} {c6 c7 c8 : Bool} {a9 : OA} {n9 k9 : Nat} {i7 : Int} {a10 : OA} {n10 k10 : Nat} {l4 : Bs} {i8 i9 : Int} {a11 : OA} {k11 : Nat} {c9 c10 c11 : Bool} {a12 : OA} {n12 k12 : Nat} {i10 : Int} {l7 : Bs} {off : Int} {S : List Lb} {n11 : Nat} (hL : LbAt h a11 S) (hok : okA a11 S.length k11) (hle : S.length ≤ k11) (hn : S.length ≤ 1000000) (hn11 : n11 = S.length)
 (hK : ∀ a' k' h', Ext h h' → LbAt h' a' (insL ⟨l7, c9, off⟩ S) → okA a' (insL ⟨l7, c9, off⟩ S).length k' → (insL ⟨l7, c9, off⟩ S).length ≤ k' → K a' (insL ⟨l7, c9, off⟩ S).length k' h') :
 loop42 a7 n7 k7 l3 i5 i6 a8 n8 k8 c6 c7 c8 a9 n9 k9 i7 a10 n10 k10 l4 i8 i9 a11 n11 k11 c9 c10 c11 a12 n12 k12 i10 l7 off K h := by
 subst hn11
 obtain ⟨k, k1, k2, k3, k4⟩ := ins_at ⟨l7, c9, off⟩ S
 rw [k2] at hK
 unfold loop42
 refine ⟨fun m i h' => ∃ j : Nat, i = (j : Int) ∧ j + m = S.length ∧ h' = h ∧ j ≤ k, ⟨S.length, 0, rfl, by omega, rfl, Nat.zero_le _⟩, ?_⟩
 rintro m _ h1 ⟨j, rfl, hjm, rfl, hjk⟩
 refine br_split (fun e => ?_) fun e => ?_
 · have hlt : j < S.length := by have := of_decide_eq_true e; omega
   have hg : S[j]? = some S[j] := by simp [hlt]
   generalize S[j] = y at *
   obtain ⟨b, o, ha, hr⟩ := hL.get hg
   refine ⟨b, o, ha, ⟨by omega, by omega⟩, y.name, y.data, y.off, by rw [Int.toNat_natCast]; exact hr, ?_⟩
   refine Tri.mono (rfollows_t y ⟨l7, c9, off⟩) ?_
   rintro _ h2 ⟨rfl, rfl⟩
   refine ⟨_, rfl, rfl, rfl, br_split (fun e1 => ?_) fun e1 => ?_⟩
   · have : j < k := Decidable.byContradiction fun hn => by
      have hj : j = k := by omega
      subst hj
      rw [k4 y hg] at e1; cases e1
     exact ⟨m - 1, by omega, ⟨j + 1, by rw [wrap64 (by omega) (by omega)]; omega, by omega, rfl, by omega⟩, rfl, rfl, rfl, trivial⟩
   · have hj : j = k := Decidable.byContradiction fun hn => by
      rw [k3 j y (by omega) hg] at e1; cases e1
     subst hj
     exact ⟨⟨hok, by omega, by omega, by omega⟩, fun a13 hs => put_42 (x := ⟨l7, c9, off⟩) hL hok hle hn hs k1 rfl rfl rfl hK⟩
 · have hj : j = k := by have := of_decide_eq_false e; omega
   subst hj
   exact ⟨rfl, ⟨hok, by omega, by omega, by omega⟩, fun a13 hs => put_42 (x := ⟨l7, c9, off⟩) hL hok hle hn hs k1 rfl rfl rfl hK⟩
end
end Go.Proofs.D
namespace Go.Proofs.D
open Go Go.Den
set_option maxRecDepth 100000
set_option maxHeartbeats 4000000
abbrev ex14k1 : List CK := [.slice, .str, qi, qi, .slice, .bool, .bool, .bool, .slice, qi]
abbrev ex14k2 : List CK := [.slice, .str, qi, qi, .slice]
noncomputable def d14 : DCode := up ⟨[(36, .l ex14k1), (41, .c (.tup [(true, ex14k1), (false, [qi])])), (48, .l [qi]), (50, .l ex14k1), (54, .l [qi]), (59, .l ex14k2), (61, .l [.slice]), (62, .c (.tup [(true, ex14k2), (false, [qi]), (false, [qi])])), (71, .l ex14k2), (72, .c (.one false [qi])), (77, .l ex14k2)], [], [(19, 44, [(6, qi), (7, qi)], [(2, ex14k2), (5, ex14k1)])]⟩ (low Tryz.prog (fun _ => false) (Tryz.f14.body.getD .skip))
theorem low14 : low Tryz.prog (fun _ => false) (Tryz.f14.body.getD .skip) = some (eC d14) := by kernel_rfl
def R14 (l1 : Bs) (h : PHeap) (Q : Value → PHeap → Prop) : Prop :=
 br (decide ((l1.length : Int) > 65536))
 (Q (vT [vA [vL none 0 0, vS [], vI 0, vI 0, vL none 0 0], vI 0, vI 5]) h)
 (∃ (I_1 : Nat → Int → Int → OA → Nat → Nat → Bs → Int → Int → OA → Nat → Nat → OA → Nat → Nat → Bs → Int → Int → OA → Nat → Nat → Bool → Bool → Bool → OA → Nat → Nat → Int → PHeap → Prop), (∃ (m2 : Nat), I_1 m2 (0 : Int) (0 : Int) none 0 0 [] (0 : Int) (0 : Int) none 0 0 none 0 0 [] (0 : Int) (0 : Int) none 0 0 false false false none 0 0 (1 : Int) h) ∧
 ∀ (m1 : Nat) (i1 : Int) (i2 : Int) (a1 : OA) (n1 : Nat) (ex14k1 : Nat) (l2 : Bs) (i3 : Int) (i4 : Int) (a2 : OA) (n2 : Nat) (ex14k2 : Nat) (a3 : OA) (n3 : Nat) (k3 : Nat) (l3 : Bs) (i5 : Int) (i6 : Int) (a4 : OA) (n4 : Nat) (k4 : Nat) (c1 : Bool) (c2 : Bool) (c3 : Bool) (a5 : OA) (n5 : Nat) (k5 : Nat) (i7 : Int) (h_1 : PHeap), I_1 m1 i1 i2 a1 n1 ex14k1 l2 i3 i4 a2 n2 ex14k2 a3 n3 k3 l3 i5 i6 a4 n4 k4 c1 c2 c3 a5 n5 k5 i7 h_1 →
 br (decide (i2 ≤ (l1.length : Int)))
 (br (decide (i2 < (l1.length : Int)))
 (0 ≤ i2 ∧ ∃ (c4 : UInt8), (l1)[(i2).toNat]? = some c4 ∧
 br ((c4.toNat : Int) != 10)
 (∃ (m3 : Nat), m3 < m1 ∧ I_1 m3 i1 (IntKind.i64.wrap (i2 + 1)) a1 n1 ex14k1 l2 i3 i4 a2 n2 ex14k2 a3 n3 k3 l3 i5 i6 a4 n4 k4 c1 c2 c3 a5 n5 k5 i7 h_1 ∧
 True)
 ((0 ≤ i1 ∧ i1 ≤ i2 ∧ i2 ≤ (l1.length : Int)) ∧
 (Tri Tryz.prog 42 [vA [vL a3 n3 k3, vS l3, vI i5, vI i6, vL a4 n4 k4, vB c1, vB c2, vB c3, vL a5 n5 k5, vI i7], vS ((l1.drop (i1).toNat).take ((i2).toNat - (i1).toNat))] h_1 fun v_1 h_2 =>
 ∃ (a6 : OA) (n6 k6 : Nat) (l4 : Bs) (i8 i9 : Int) (a7 : OA) (n7 k7 : Nat) (c5 c6 c7 : Bool) (a8 : OA) (n8 k8 : Nat) (i10 i11 : Int), v_1 = vT [vA [vL a6 n6 k6, vS l4, vI i8, vI i9, vL a7 n7 k7, vB c5, vB c6, vB c7, vL a8 n8 k8, vI i10], vI i11] ∧
 br (i11 != 0)
 ((tv [vI i7]) ∧
 Q (vT [vA [vL none 0 0, vS [], vI 0, vI 0, vL none 0 0], vI i7, vI i11]) h_2)
 (∃ (m4 : Nat), m4 < m1 ∧ I_1 m4 (IntKind.i64.wrap (i2 + 1)) (IntKind.i64.wrap (i2 + 1)) a1 n1 ex14k1 l2 i3 i4 a2 n2 ex14k2 a6 n6 k6 l4 i8 i9 a7 n7 k7 c5 c6 c7 a8 n8 k8 (IntKind.i64.wrap (i10 + 1)) h_2 ∧
 True)) ∧
 ((tv [vL a3 n3 k3, vS l3, vI i5, vI i6, vL a4 n4 k4, vB c1, vB c2, vB c3, vL a5 n5 k5, vI i7]) ∧
 Tri Tryz.prog 42 [vA [vL a3 n3 k3, vS l3, vI i5, vI i6, vL a4 n4 k4, vB c1, vB c2, vB c3, vL a5 n5 k5, vI i7], vS ((l1.drop (i1).toNat).take ((i2).toNat - (i1).toNat))] h_1 fun v_2 h_3 =>
 ∃ (a9 : OA) (n9 k9 : Nat) (l5 : Bs) (i12 i13 : Int) (a10 : OA) (n10 k10 : Nat) (c8 c9 c10 : Bool) (a11 : OA) (n11 k11 : Nat) (i14 i15 : Int), v_2 = vT [vA [vL a9 n9 k9, vS l5, vI i12, vI i13, vL a10 n10 k10, vB c8, vB c9, vB c10, vL a11 n11 k11, vI i14], vI i15] ∧
 br (i15 != 0)
 ((tv [vI i7]) ∧
 Q (vT [vA [vL none 0 0, vS [], vI 0, vI 0, vL none 0 0], vI i7, vI i15]) h_3)
 (∃ (m5 : Nat), m5 < m1 ∧ I_1 m5 (IntKind.i64.wrap (i2 + 1)) (IntKind.i64.wrap (i2 + 1)) a1 n1 ex14k1 l2 i3 i4 a2 n2 ex14k2 a9 n9 k9 l5 i12 i13 a10 n10 k10 c8 c9 c10 a11 n11 k11 (IntKind.i64.wrap (i14 + 1)) h_3 ∧
 True))))
 ((0 ≤ i1 ∧ i1 ≤ i2 ∧ i2 ≤ (l1.length : Int)) ∧
 (Tri Tryz.prog 42 [vA [vL a3 n3 k3, vS l3, vI i5, vI i6, vL a4 n4 k4, vB c1, vB c2, vB c3, vL a5 n5 k5, vI i7], vS ((l1.drop (i1).toNat).take ((i2).toNat - (i1).toNat))] h_1 fun v_3 h_4 =>
 ∃ (a12 : OA) (n12 k12 : Nat) (l6 : Bs) (i16 i17 : Int) (a13 : OA) (n13 k13 : Nat) (c11 c12 c13 : Bool) (a14 : OA) (n14 k14 : Nat) (i18 i19 : Int), v_3 = vT [vA [vL a12 n12 k12, vS l6, vI i16, vI i17, vL a13 n13 k13, vB c11, vB c12, vB c13, vL a14 n14 k14, vI i18], vI i19] ∧
 br (i19 != 0)
 ((tv [vI i7]) ∧
 Q (vT [vA [vL none 0 0, vS [], vI 0, vI 0, vL none 0 0], vI i7, vI i19]) h_4)
 (∃ (m6 : Nat), m6 < m1 ∧ I_1 m6 (IntKind.i64.wrap (i2 + 1)) (IntKind.i64.wrap (i2 + 1)) a1 n1 ex14k1 l2 i3 i4 a2 n2 ex14k2 a12 n12 k12 l6 i16 i17 a13 n13 k13 c11 c12 c13 a14 n14 k14 (IntKind.i64.wrap (i18 + 1)) h_4 ∧
 True)) ∧
 ((tv [vL a3 n3 k3, vS l3, vI i5, vI i6, vL a4 n4 k4, vB c1, vB c2, vB c3, vL a5 n5 k5, vI i7]) ∧
 Tri Tryz.prog 42 [vA [vL a3 n3 k3, vS l3, vI i5, vI i6, vL a4 n4 k4, vB c1, vB c2, vB c3, vL a5 n5 k5, vI i7], vS ((l1.drop (i1).toNat).take ((i2).toNat - (i1).toNat))] h_1 fun v_4 h_5 =>
 ∃ (a15 : OA) (n15 k15 : Nat) (l7 : Bs) (i20 i21 : Int) (a16 : OA) (n16 k16 : Nat) (c14 c15 c16 : Bool) (a17 : OA) (n17 k17 : Nat) (i22 i23 : Int), v_4 = vT [vA [vL a15 n15 k15, vS l7, vI i20, vI i21, vL a16 n16 k16, vB c14, vB c15, vB c16, vL a17 n17 k17, vI i22], vI i23] ∧
 br (i23 != 0)
 ((tv [vI i7]) ∧
 Q (vT [vA [vL none 0 0, vS [], vI 0, vI 0, vL none 0 0], vI i7, vI i23]) h_5)
 (∃ (m7 : Nat), m7 < m1 ∧ I_1 m7 (IntKind.i64.wrap (i2 + 1)) (IntKind.i64.wrap (i2 + 1)) a1 n1 ex14k1 l2 i3 i4 a2 n2 ex14k2 a15 n15 k15 l7 i20 i21 a16 n16 k16 c14 c15 c16 a17 n17 k17 (IntKind.i64.wrap (i22 + 1)) h_5 ∧
 True))))
 (Tri Tryz.prog 43 [vA [vL a3 n3 k3, vS l3, vI i5, vI i6, vL a4 n4 k4], vL a5 n5 k5] h_1 fun v_5 h_6 =>
 ∃ (a18 : OA) (n18 k18 : Nat) (l8 : Bs) (i24 i25 : Int) (a19 : OA) (n19 k19 : Nat) (i26 i27 : Int), v_5 = vT [vA [vL a18 n18 k18, vS l8, vI i24, vI i25, vL a19 n19 k19], vI i26, vI i27] ∧
 br (i27 != 0)
 (Q (vT [vA [vL none 0 0, vS [], vI 0, vI 0, vL none 0 0], vI i26, vI i27]) h_6)
 (Tri Tryz.prog 22 [vA [vL a18 n18 k18, vS l8, vI i24, vI i25, vL a19 n19 k19]] h_6 fun v_6 h_7 =>
 ∃ (i28 : Int), v_6 = vI i28 ∧
 br (i28 != 0)
 (Q (vT [vA [vL none 0 0, vS [], vI 0, vI 0, vL none 0 0], vI 0, vI i28]) h_7)
 (Q (vT [vA [vL a18 n18 k18, vS l8, vI i24, vI i25, vL a19 n19 k19], vI 0, vI 0]) h_7))))
theorem T14 {l1 : Bs} {h : PHeap} {Q : Value → PHeap → Prop} (hR : R14 l1 h Q) : Tri Tryz.prog 14 [vS l1] h Q :=
 tri_of_dn mixed Tryz.func14 rfl (by kernel_rfl) low14 (rs := [.cell 2 true 5, .tmp 3, .tmp 4]) (by kernel_rfl) rfl (Eq.mpr (by kernel_rfl : dnF Tryz.prog Tryz.f14.ntmps d14 [.cell 2 true 5, .tmp 3, .tmp 4] [vS l1] h Q = R14 l1 h Q) hR)
abbrev o3_0 : Op := .call { callee := (.builtin .min), args := #[(.tmp 11), (.const (vI 1500))], argTypes := #[3, 3] }
noncomputable def d3 : DCode := up ⟨[(12, .c (.one false [qi])), (16, .c (.tup [(true, ex14k2), (false, [qi]), (false, [qi])])), (22, .c (.tup [(true, ex14k2), (false, [qi]), (false, [qi])])), (26, .c (.one false [.bool])), (38, .l ex14k2), (39, .c (.one true ex14k2)), (40, .l ex14k2), (41, .c (.one false [.bool]))], [], []⟩ (low Tryz.prog (fun _ => false) (Tryz.f3.body.getD .skip))
theorem low3 : low Tryz.prog (fun _ => false) (Tryz.f3.body.getD .skip) = some (eC d3) := by kernel_rfl
def R3 (l1 : Bs) (h : PHeap) (Q : Value → PHeap → Prop) : Prop :=
 ∃ (i1 : Int), PureRun Tryz.prog (execOp (rho [(11, vI (l1.length : Int))]) (mkO o3_0 3)) (vI i1) ∧
 (0 ≤ (0 : Int) ∧ (0 : Int) ≤ i1 ∧ i1 ≤ (l1.length : Int)) ∧
 Tri Tryz.prog 13 [vS ((l1.drop 0).take ((i1).toNat - 0))] h fun v_1 h_1 =>
 ∃ (a1 : OA) (n1 ex14k1 : Nat) (l2 : Bs) (i2 i3 : Int) (a2 : OA) (n2 ex14k2 : Nat) (i4 i5 : Int), v_1 = vT [vA [vL a1 n1 ex14k1, vS l2, vI i2, vI i3, vL a2 n2 ex14k2], vI i4, vI i5] ∧
 Tri Tryz.prog 14 [vS ((l1.drop 0).take ((i1).toNat - 0))] h_1 fun v_2 h_2 =>
 ∃ (a3 : OA) (n3 k3 : Nat) (l3 : Bs) (i6 i7 : Int) (a4 : OA) (n4 k4 : Nat) (i8 i9 : Int), v_2 = vT [vA [vL a3 n3 k3, vS l3, vI i6, vI i7, vL a4 n4 k4], vI i8, vI i9] ∧
 Tri Tryz.prog 15 [] h_2 fun v_3 h_3 =>
 ∃ (c1 : Bool), v_3 = vB c1 ∧
 br c1
 (br (i5 == i9)
 (br (i4 == i8)
 (Tri Tryz.prog 17 [vA [vL a1 n1 ex14k1, vS l2, vI i2, vI i3, vL a2 n2 ex14k2]] h_3 fun v_4 h_4 =>
 ∃ (a5 : OA) (n5 k5 : Nat) (l4 : Bs) (i10 i11 : Int) (a6 : OA) (n6 k6 : Nat), v_4 = vA [vL a5 n5 k5, vS l4, vI i10, vI i11, vL a6 n6 k6] ∧
 (tv [vL a3 n3 k3, vS l3, vI i6, vI i7, vL a4 n4 k4]) ∧
 Tri Tryz.prog 16 [vA [vL a5 n5 k5, vS l4, vI i10, vI i11, vL a6 n6 k6], vA [vL a3 n3 k3, vS l3, vI i6, vI i7, vL a4 n4 k4]] h_4 fun v_5 h_5 =>
 ∃ (c2 : Bool), v_5 = vB c2 ∧
 Q (vB c2) h_5)
 (Q (vB false) h_3))
 (Q (vB false) h_3))
 (Q (vB false) h_3)
theorem T3 {l1 : Bs} {h : PHeap} {Q : Value → PHeap → Prop} (hR : R3 l1 h Q) : Tri Tryz.prog 3 [vS l1] h Q :=
 tri_of_dn mixed Tryz.func3 rfl (by kernel_rfl) low3 (rs := [.tmp 2]) (by kernel_rfl) rfl (Eq.mpr (by kernel_rfl : dnF Tryz.prog Tryz.f3.ntmps d3 [.tmp 2] [vS l1] h Q = R3 l1 h Q) hR)
end Go.Proofs.D
namespace Go.Proofs.D
open Go Go.Den
set_option maxRecDepth 100000
set_option maxHeartbeats 4000000
abbrev ew17k1 : List CK := [.slice, .str, qi, qi, .slice]
abbrev ew17k2 : List CK := [qi, qi, qi, qi]
abbrev o17_1 : Op := .call { callee := (.builtin .append), args := #[(.tmp 28), (.tmp 38)], argTypes := #[29, 29] }
abbrev o17_4 : Op := .call { callee := (.builtin .append), args := #[(.tmp 54), (.tmp 62)], argTypes := #[30, 30] }
noncomputable def d17 : DCode := up ⟨[(9, .l [.str]), (11, .l [qi]), (13, .l [qi]), (17, .l [.slice]), (23, .l [.slice]), (26, .l ew17k2), (28, .l [.slice]), (30, .l [qi]), (32, .l [qi]), (34, .l [qi]), (36, .l [qi]), (39, .c (.one false [.slice])), (43, .l [.slice]), (49, .l [.slice]), (52, .l [.str, .bool, qi]), (54, .l [.slice]), (56, .l [.str]), (58, .l [.bool]), (60, .l [qi]), (63, .c (.one false [.slice])), (65, .l ew17k1)], [], [(15, 28, [(4, qi)], [(3, ew17k1)]), (41, 26, [(6, qi)], [(3, ew17k1)])]⟩ (low Tryz.prog (fun _ => false) (Tryz.f17.body.getD .skip))
theorem low17 : low Tryz.prog (fun _ => false) (Tryz.f17.body.getD .skip) = some (eC d17) := by kernel_rfl
def R17 (a1 : OA) (n1 : Nat) (ew17k1 : Nat) (l1 : Bs) (i1 : Int) (i2 : Int) (a2 : OA) (n2 : Nat) (ew17k2 : Nat) (h : PHeap) (Q : Value → PHeap → Prop) : Prop :=
 ∃ (I_1 : Nat → Int → OA → Nat → Nat → Bs → Int → Int → OA → Nat → Nat → PHeap → Prop), (∃ (m2 : Nat), I_1 m2 (0 : Int) none 0 0 l1 i1 i2 none 0 0 h) ∧
 ∀ (m1 : Nat) (i3 : Int) (a3 : OA) (n3 : Nat) (k3 : Nat) (l2 : Bs) (i4 : Int) (i5 : Int) (a4 : OA) (n4 : Nat) (k4 : Nat) (h_1 : PHeap), I_1 m1 i3 a3 n3 k3 l2 i4 i5 a4 n4 k4 h_1 →
 br (decide (i3 < ((n1 : Nat) : Int)))
 (∃ (b1 o1 : Nat), a1 = some ⟨b1, o1, none⟩ ∧ (0 ≤ i3 ∧ i3 < n1) ∧
 ∃ (i6 i7 i8 i9 : Int), h_1.row b1 (o1 + (i3).toNat * 4) [vI i6, vI i7, vI i8, vI i9] ∧
 ∀ (b2 : Nat), h_1 b2 = none → ∀ (h_2 : PHeap), h_2 = h_1.put b2 (.cells ⟨[vI i6, vI i7, vI i8, vI i9]⟩ 57) →
 Raw Tryz.prog (execOp (rho [(28, vL a3 n3 k3), (38, vL (ad b2 0) 1 1)]) (mkO o17_1 29)) h_2 fun v_1 h_3 =>
 ∃ (a5 : OA) (n5 k5 : Nat), v_1 = vL a5 n5 k5 ∧
 ∃ (m3 : Nat), m3 < m1 ∧ I_1 m3 (IntKind.i64.wrap (i3 + 1)) a5 n5 k5 l2 i4 i5 a4 n4 k4 h_3 ∧
 tv [vL none 0 0, vS [], vI 0, vI 0, vL none 0 0] ∧ tv [vL a1 n1 ew17k1, vS l1, vI i1, vI i2, vL a2 n2 ew17k2] ∧ True)
 (∃ (I_2 : Nat → Int → OA → Nat → Nat → Bs → Int → Int → OA → Nat → Nat → PHeap → Prop), (∃ (m5 : Nat), I_2 m5 (0 : Int) a3 n3 k3 l2 i4 i5 a4 n4 k4 h_1) ∧
 ∀ (m4 : Nat) (i10 : Int) (a6 : OA) (n6 : Nat) (k6 : Nat) (l3 : Bs) (i11 : Int) (i12 : Int) (a7 : OA) (n7 : Nat) (k7 : Nat) (h_4 : PHeap), I_2 m4 i10 a6 n6 k6 l3 i11 i12 a7 n7 k7 h_4 →
 br (decide (i10 < ((n2 : Nat) : Int)))
 (∃ (b3 o2 : Nat), a2 = some ⟨b3, o2, none⟩ ∧ (0 ≤ i10 ∧ i10 < n2) ∧
 ∃ (l4 : Bs) (c1 : Bool) (i13 : Int), h_4.row b3 (o2 + (i10).toNat * 3) [vS l4, vB c1, vI i13] ∧
 ∀ (b4 : Nat), h_4 b4 = none → ∀ (h_5 : PHeap), h_5 = h_4.put b4 (.cells ⟨[vS l4, vB c1, vI i13]⟩ 89) →
 Raw Tryz.prog (execOp (rho [(54, vL a7 n7 k7), (62, vL (ad b4 0) 1 1)]) (mkO o17_4 30)) h_5 fun v_2 h_6 =>
 ∃ (a8 : OA) (n8 k8 : Nat), v_2 = vL a8 n8 k8 ∧
 ∃ (m6 : Nat), m6 < m4 ∧ I_2 m6 (IntKind.i64.wrap (i10 + 1)) a6 n6 k6 l3 i11 i12 a8 n8 k8 h_6 ∧
 tv [vL none 0 0, vS [], vI 0, vI 0, vL none 0 0] ∧ tv [vL a1 n1 ew17k1, vS l1, vI i1, vI i2, vL a2 n2 ew17k2] ∧ True)
 (Q (vA [vL a6 n6 k6, vS l3, vI i11, vI i12, vL a7 n7 k7]) h_4))
theorem T17 {a1 : OA} {n1 : Nat} {ew17k1 : Nat} {l1 : Bs} {i1 : Int} {i2 : Int} {a2 : OA} {n2 : Nat} {ew17k2 : Nat} {h : PHeap} {Q : Value → PHeap → Prop} (hR : R17 a1 n1 ew17k1 l1 i1 i2 a2 n2 ew17k2 h Q) : Tri Tryz.prog 17 [vA [vL a1 n1 ew17k1, vS l1, vI i1, vI i2, vL a2 n2 ew17k2]] h Q :=
 tri_of_dn mixed Tryz.func17 rfl (by kernel_rfl) low17 (rs := [.cell 2 true 5]) (by kernel_rfl) rfl (Eq.mpr (by kernel_rfl : dnF Tryz.prog Tryz.f17.ntmps d17 [.cell 2 true 5] [vA [vL a1 n1 ew17k1, vS l1, vI i1, vI i2, vL a2 n2 ew17k2]] h Q = R17 a1 n1 ew17k1 l1 i1 i2 a2 n2 ew17k2 h Q) hR)
end Go.Proofs.D
namespace Go.As
def afterL (b : St) : Option (Bytes × List Tk) → R St
 | none => .ok b
 | some (n, os) => stmtS b n os
theorem ins_mem {x y : Lb} {l : List Lb} : y ∈ insL x l ↔ y = x ∨ y ∈ l := by rw [(ins_perm x l).mem_iff, List.mem_cons]
theorem ins_len (x : Lb) (l : List Lb) : (insL x l).length = l.length + 1 := by rw [(ins_perm x l).length_eq, List.length_cons]
end Go.As
namespace Go.Proofs.D
open Go Go.Den Go.As
set_option maxRecDepth 100000
attribute [local irreducible] IntKind.wrap Tri
section
variable {h : PHeap}
theorem one_t {a : As.St} {a1 : OA} {k1 : Nat} {a2 : OA} {k2 : Nat} {a3 : OA} {k3 : Nat} {s : Bytes} (hA : RA h a a1 k1 a2 k2 a3 k3) (hS : RSm a) (hO : OffOk a.p) (hs : s.length ≤ 65536) : Tri Tryz.prog 42 [vA (RAl a a1 k1 a2 k2 a3 k3), vS s] h fun v h' => RStP h (lineR a s) v h' := by
 refine T42 ?_
 unfold R42
 refine Tri.mono (rtokens_t h s (by omega)) ?_
 rintro v h1 ⟨x1, hv⟩
 have hlr : lineR a s = match tokensL s with
  | none => .error 6
  | some ts => match splitL ts with
    | none => .error 30
    | some (ls, none) => defR a ls
    | some (ls, some (n, os)) => match defR a ls with
      | .error e => .error e
      | .ok b => stmtS b n os := rfl
 cases ht : tokensL s with
 | none =>
   rw [ht] at hv hlr
   have hv : v = vT [vL none 0 0, vB false] := hv
   refine ⟨_, _, _, _, hv, br_pos rfl ?_⟩
   rw [hlr]
   exact ⟨x1, by decide, _, _, _, _, _, _, _, _, _, _, _, _, _, _, _, _, rfl⟩
 | some ts =>
   rw [ht] at hv hlr
   simp only at hlr
   obtain ⟨hlen, ta, tk, rfl, hM⟩ := hv
   have hkd : Kd ts := tok_kind _ _ _ ht
   have hfx := tok_facts _ _ _ ht
   refine ⟨_, _, _, _, rfl, br_neg rfl ?_⟩
   refine Tri.mono (rsplit_t hM.rtk hkd (by omega)) ?_
   rintro v h2 ⟨x2, hv⟩
   have x12 := x1.trans x2
   cases hsp : splitL ts with
   | none =>
     rw [hsp] at hv hlr
     have hv : v = vT [vL none 0 0, vL none 0 0, vB false] := hv
     refine ⟨_, _, _, _, _, _, _, hv, br_pos rfl ?_⟩
     rw [hlr]
     exact ⟨x12, by decide, _, _, _, _, _, _, _, _, _, _, _, _, _, _, _, _, rfl⟩
   | some y =>
     obtain ⟨ls, o⟩ := y
     obtain ⟨hls, hsub⟩ := split_sub ts ls o hsp
     rw [hsp] at hv hlr
     obtain ⟨la, lk, sa, sn, sk, hvv, hML, hst⟩ : ∃ (la : OA) (lk : Nat) (sa : OA) (sn sk : Nat), v = vT [vL la ls.length lk, vL sa sn sk, vB true] ∧ LM 9 1 h1 h2 la ls.length lk (sL ls) ∧ ((o = none → sn = 0) ∧ ∀ n os, o = some (n, os) → sn = os.length + 1 ∧ LM 180 2 h1 h2 sa (os.length + 1) sk (rtkL (⟨1, n⟩ :: os))) := by
      cases o with
      | none => obtain ⟨la, lk, hv, hM⟩ := hv; exact ⟨la, lk, _, _, _, hv, hM, fun _ => rfl, fun _ _ h => by cases h⟩
      | some z =>
        obtain ⟨n, os⟩ := z
        obtain ⟨la, lk, sa, sk, hv, hM, hM2⟩ := hv
        exact ⟨la, lk, sa, _, sk, hv, hM, fun h => by (cases h), fun _ _ h => by injection h with h; injection h with h1 h2; subst h1; subst h2; exact ⟨rfl, hM2⟩⟩
     clear hv
     refine ⟨_, _, _, _, _, _, _, hvv, br_neg rfl ?_⟩
     have hR : ∀ b : As.St, defR a ls = .ok b → lineR a s = afterL b o := fun b hb => by
      rw [hlr]
      cases o with
      | none => exact hb
      | some z => obtain ⟨n, os⟩ := z; simp only [afterL]; rw [hb]
     have hE : ∀ e : Nat, defR a ls = .error e → lineR a s = .error e := fun e hb => by
      rw [hlr]
      cases o with
      | none => exact hb
      | some z => obtain ⟨n, os⟩ := z; simp only; rw [hb]
     clear hlr
     refine ⟨fun m i4 a7 n7 k7 l3 i5 i6 a8 n8 k8 c6 c7 c8 a9 n9 k9 i7 a10 n10 k10 l4 i8 i9 a11 n11 k11 c9 c10 c11 a12 n12 k12 i10 h' => ∃ (j : Nat) (b : As.St), i4 = (j : Int) ∧ j + m = ls.length ∧ Ext h2 h' ∧ n10 = b.p.code.length ∧ l4 = b.p.data ∧ i8 = b.p.zero ∧ i9 = b.p.entry ∧ n11 = b.p.labels.length ∧ c9 = b.inData ∧ c10 = b.hasEntry ∧ c11 = b.hasZero ∧ n12 = b.uses.length ∧ i10 = (b.line : Int) ∧ RA h' b a10 k10 a11 k11 a12 k12 ∧ RSm b ∧ OffOk b.p ∧ defR a ls = defR b (ls.drop j),
      ⟨ls.length, 0, a, rfl, by omega, Ext.refl _, rfl, rfl, rfl, rfl, rfl, rfl, rfl, rfl, rfl, rfl, hA.ext x12, hS, hO, rfl⟩, ?_⟩
     rintro m _ a7 n7 k7 l3 i5 i6 a8 n8 k8 c6 c7 c8 a9 n9 k9 i7 a10 _ k10 _ _ _ a11 _ k11 _ _ _ a12 _ k12 _ h3 ⟨j, b, rfl, hjm, x3, rfl, rfl, rfl, rfl, rfl, rfl, rfl, rfl, rfl, rfl, hB, hSb, hOb, hdef⟩
     have x13 := x12.trans x3
     refine br_split (fun e => ?_) fun e => ?_
     · have hlt : j < ls.length := by have := of_decide_eq_true e; omega
       have hg : ls[j]? = some ls[j] := by simp [hlt]
       have hdr := List.drop_eq_getElem_cons hlt
       rw [hdr, defR] at hdef
       generalize ls[j] = n at *
       obtain ⟨b1, ha1, hr1⟩ := hML.rowAt (j := j) (cs := [vS n]) (by simp [sL, hg])
       have hc : ∀ h', Ext h2 h' → h'.cell b1 (0 + ((j : Nat) : Int).toNat * 1) = some (vS n) := fun h' x' => by
        rw [Int.toNat_natCast]
        exact cell_ext (fun ob => x' b1 ob) hr1
       refine ⟨b1, 0, ha1, ⟨by omega, by omega⟩, n, hc h3 x3, ?_⟩
       refine Tri.mono (rlabel_t h3 n) ?_
       rintro _ h4 ⟨rfl, rfl⟩
       have err : ∀ e : Nat, e ≠ 0 → defR a ls = .error e → RStP h (lineR a s) (vT [vA (RAl b a10 k10 a11 k11 a12 k12), vI (e : Int)]) h4 := fun e he hd => by
        rw [hE e hd]
        exact ⟨x13, he, _, _, _, _, _, _, _, _, _, _, _, _, _, _, _, _, rfl⟩
       refine ⟨_, rfl, br_split (fun e1 => err 12 (by decide) ?_) fun e1 => ?_⟩
       · rw [hdef, if_pos (not_f e1)]
       have e1 := not_t e1
       rw [if_neg (by rw [e1]; decide)] at hdef
       refine ⟨b1, 0, ha1, ⟨by omega, by omega⟩, n, hc h4 x3, ?_⟩
       have hcl := hSb.code
       have hdl := hSb.data
       have hll := hSb.labels
       refine Tri.mono (raddr_t (p := b.p) (n := n) (k1 := k10) (k2 := k11) (a1 := a10) hB.lbs (by omega) (by omega) (fun l hl => by have := hOb l hl; omega)) ?_
       rintro _ h5 ⟨rfl, rfl⟩
       refine ⟨_, rfl, ?_⟩
       rw [addr_any hOb]
       refine br_split (fun e2 => err 7 (by decide) (by rw [hdef, if_pos e2])) fun e2 => ?_
       rw [if_neg (by rw [e2]; decide)] at hdef
       refine br_split (fun e3 => err 9 (by decide) (by have := of_decide_eq_true e3; rw [hdef, if_pos (by omega)])) fun e3 => ?_
       have e3 := of_decide_eq_false e3
       rw [if_neg (by omega)] at hdef
       have hw : IntKind.i64.wrap (4 * ((b.p.code.length : Nat) : Int)) = ((4 * b.p.code.length : Nat) : Int) := by rw [wrap64 (by omega) (by omega)]; omega
       have hw2 : IntKind.i64.wrap ((j : Int) + 1) = ((j + 1 : Nat) : Int) := by rw [wrap64 (by omega) (by omega)]; omega
       rw [hw, hw2]
       refine ⟨b1, 0, ha1, ⟨by omega, by omega⟩, n, hc h5 x3, rfl, rfl, hc h5 x3, ?_⟩
       have nxt : ∀ (off : Int), off = (if b.inData then (b.p.data.length : Int) else (4 * b.p.code.length : Nat)) → ∀ a' k' h', Ext h5 h' → LbAt h' a' (insL ⟨n, b.inData, off⟩ b.p.labels) → okA a' (insL ⟨n, b.inData, off⟩ b.p.labels).length k' → (insL ⟨n, b.inData, off⟩ b.p.labels).length ≤ k' →
        ∃ (m6 : Nat), m6 < m ∧ (∃ (j' : Nat) (b' : As.St), ((j + 1 : Nat) : Int) = (j' : Int) ∧ j' + m6 = ls.length ∧ Ext h2 h' ∧ b.p.code.length = b'.p.code.length ∧ b.p.data = b'.p.data ∧ b.p.zero = b'.p.zero ∧ b.p.entry = b'.p.entry ∧ (insL ⟨n, b.inData, off⟩ b.p.labels).length = b'.p.labels.length ∧ b.inData = b'.inData ∧ b.hasEntry = b'.hasEntry ∧ b.hasZero = b'.hasZero ∧ b.uses.length = b'.uses.length ∧ (b.line : Int) = (b'.line : Int) ∧ RA h' b' a10 k10 a' k' a12 k12 ∧ RSm b' ∧ OffOk b'.p ∧ defR a ls = defR b' (ls.drop j')) ∧ True := fun off hoff a' k' h' x' g1 g2 g3 => by
        have hil := ins_len ⟨n, b.inData, off⟩ b.p.labels
        have hB' := hB.ext x'
        refine ⟨m - 1, by omega, ⟨j + 1, { b with p := { b.p with labels := insL ⟨n, b.inData, off⟩ b.p.labels } }, rfl, by omega, x3.trans x', rfl, rfl, rfl, rfl, rfl, rfl, rfl, rfl, rfl, rfl, ⟨hB'.ins, g1, hB'.uss, hB'.ok1, g2, hB'.ok3, g3⟩, ⟨hcl, hdl, by show (insL _ _).length ≤ 1024; omega, hSb.uses⟩, ?_, ?_⟩, trivial⟩
        · intro l hl
          rcases ins_mem.1 hl with rfl | hl
          · subst hoff
            simp only
            split <;> omega
          · exact hOb l hl
        · subst hoff
          exact hdef
       refine br_split (fun e4 => ?_) fun e4 => ?_
       · refine loop_42 (off := (b.p.data.length : Int)) (c9 := b.inData) hB.lbs hB.ok2 hB.le2 (by omega) rfl ?_
         exact nxt _ (by rw [if_pos e4])
       · refine loop_42 (off := ((4 * b.p.code.length : Nat) : Int)) (c9 := b.inData) hB.lbs hB.ok2 hB.le2 (by omega) rfl ?_
         exact nxt _ (by rw [if_neg (by rw [e4]; decide)])
     · have hj : j = ls.length := by have := of_decide_eq_false e; omega
       subst hj
       rw [List.drop_length, defR] at hdef
       rw [hR b hdef]
       cases o with
       | none =>
         have hst : sn = 0 := hst.1 rfl
         subst hst
         exact br_pos rfl ⟨x13, a10, k10, a11, k11, a12, k12, rfl, hB⟩
       | some z =>
         obtain ⟨n, os⟩ := z
         obtain ⟨rfl, hM2⟩ := hst.2 n os rfl
         obtain ⟨g1, g2, t, g3, g4, g5⟩ := hsub n os rfl
         refine br_neg (by simp; omega) ?_
         refine Tri.mono (statement_t (l := os) (name := n) (k4 := sk) (a4 := sa) hB hSb (hM2.rtk.ext x3) (split_kind ts ls n os hsp) (fun t ht => by have := (hfx t (g2 t ht)).1; omega) (by omega) hM2.okA.2 hM2.okA.1) ?_
         intro v h5 hr2
         obtain ⟨b1, n1, j1, l1, i1, i2, b2, n2, j2, c1, c2, c3, b3, n3, j3, i3, i4, hv⟩ := hr2.get
         subst hv
         exact ⟨_, _, _, _, _, _, _, _, _, _, _, _, _, _, _, _, _, rfl, hr2.trans x13⟩
def RPgP (h : PHeap) (r : Except (Nat × Nat) Pg) (v : Value) (h' : PHeap) : Prop := Ext h h' ∧ match r with
 | .error (l, e) => e ≠ 0 ∧ ∃ (a1 : OA) (n1 k1 : Nat) (d : Bs) (i1 i2 : Int) (a2 : OA) (n2 k2 : Nat), v = vT [vA [vL a1 n1 k1, vS d, vI i1, vI i2, vL a2 n2 k2], vI (l : Int), vI (e : Int)]
 | .ok q => ∃ a1 k1 a2 k2, v = vT [vA [vL a1 q.code.length k1, vS q.data, vI q.zero, vI q.entry, vL a2 q.labels.length k2], vI 0, vI 0] ∧ InAt h' a1 q.code ∧ LbAt h' a2 q.labels ∧ q.code.length ≤ 1024 ∧ q.data.length ≤ 4096 ∧ q.labels.length ≤ 1024
theorem UsR.get {a : OA} {us : List Us} (hu : UsR h a us) {j : Nat} {u : Us} (hj : us[j]? = some u) : ∃ b o, a = ad b o ∧ h.row b (o + j * 6) (usC u) := by
 rcases hu with hu | ⟨b, o, ha, hr⟩
 · subst hu; simp at hj
 · exact ⟨b, o, ha, hr j u hj⟩
theorem resolve_t {p : Pg} {us : List Us} {a1 : OA} {k1 : Nat} {a2 : OA} {k2 : Nat} {a3 : OA} {k3 : Nat} (hI : InAt h a1 p.code) (hL : LbAt h a2 p.labels) (hU : UsR h a3 us) (ok1 : okA a1 p.code.length k1) (hc : p.code.length ≤ 1024) (hd : p.data.length ≤ 4096) (hl : p.labels.length ≤ 1024) (hn : us.length ≤ 1000000) (hO : OffOk p) (hu : ∀ u ∈ us, UseOk p u) (he : -10000000000 ≤ p.entry ∧ p.entry ≤ 10000000000) :
 Tri Tryz.prog 43 [vA [vL a1 p.code.length k1, vS p.data, vI p.zero, vI p.entry, vL a2 p.labels.length k2], vL a3 us.length k3] h fun v h' => RPgP h (resolveS p us) v h' := by
 refine T43 ?_
 unfold R43
 refine ⟨fun m i3 a4 n4 k4 l2 i4 i5 a5 n5 k5 a6 n6 k6 l3 i6 i7 a7 n7 k7 h' => ∃ (j : Nat) (q : Pg), i3 = (j : Int) ∧ j + m = us.length ∧ Ext h h' ∧ InAt h' a6 q.code ∧ okA a6 q.code.length k6 ∧ n6 = q.code.length ∧ l3 = q.data ∧ i6 = q.zero ∧ i7 = q.entry ∧ a2 = a7 ∧ n7 = q.labels.length ∧ k2 = k7 ∧ SameSz p q ∧ resolveS p us = resolveS q (us.drop j),
  ⟨us.length, 0, p, rfl, by omega, Ext.refl _, hI, ok1, rfl, rfl, rfl, rfl, rfl, rfl, rfl, ⟨rfl, rfl, rfl, he⟩, rfl⟩, ?_⟩
 rintro m _ a4 n4 k4 l2 i4 i5 a5 n5 k5 a6 _ k6 _ _ _ _ _ _ h1 ⟨j, q, rfl, hjm, x1, hI1, ok6, rfl, rfl, rfl, rfl, rfl, rfl, rfl, hsz, hres⟩
 have z1 := hsz.code
 have z2 := hsz.data
 have z3 := hsz.labels
 have hLq : LbAt h1 a2 q.labels := by rw [z3]; exact hL.ext x1
 refine br_split (fun e => ?_) fun e => ?_
 · have hlt : j < us.length := by have := of_decide_eq_true e; omega
   have hg : us[j]? = some us[j] := by simp [hlt]
   have hdr := List.drop_eq_getElem_cons hlt
   have hum := hu _ (List.getElem_mem hlt)
   rw [hdr, As.resolve_cons] at hres
   generalize us[j] = u at *
   have hum : UseOk q u := ⟨fun e => by have := hum.code e; omega, fun e => by have := hum.data e; omega, hum.ent⟩
   obtain ⟨b, o, ha, hr⟩ := (hU.ext x1).get hg
   have hw2 : IntKind.i64.wrap ((j : Int) + 1) = ((j + 1 : Nat) : Int) := by rw [wrap64 (by omega) (by omega)]; omega
   rw [hw2]
   refine ⟨b, o, ha, ⟨by omega, by omega⟩, u.line, u.kind, u.idx, u.low, u.high, u.name, by rw [Int.toNat_natCast]; exact hr, ?_⟩
   refine Tri.mono (raddr_t (p := q) (n := u.name) (k1 := k6) (k2 := k2) (a1 := a6) hLq (by omega) (by rw [z3]; omega) (fun l hl => by rw [z3] at hl; have := hO l hl; omega)) ?_
   rintro _ h2 ⟨rfl, rfl⟩
   have err : ∀ e : Nat, e ≠ 0 → resolveS p us = .error (u.line, e) → RPgP h (resolveS p us) (vT [vA [vL a6 q.code.length k6, vS q.data, vI q.zero, vI q.entry, vL a2 q.labels.length k2], vI (u.line : Int), vI (e : Int)]) h2 := fun e he hd => by
    rw [hd]
    exact ⟨x1, he, _, _, _, _, _, _, _, _, _, rfl⟩
   cases had : address q u.name with
   | none =>
     rw [had] at hres
     exact ⟨-1, rfl, br_pos rfl ⟨rfl, err 37 (by decide) hres⟩⟩
   | some n =>
     rw [had] at hres
     have hnr : 0 ≤ n ∧ n ≤ 5000000 := by
      unfold address at had
      simp only [Option.map_eq_some_iff] at had
      obtain ⟨l, g1, rfl⟩ := had
      have g2 := List.mem_of_find?_eq_some g1
      rw [z3] at g2
      exact place_range (by omega) (hO l g2)
     refine ⟨n, rfl, ?_⟩
     refine br_neg (decide_eq_false (by omega)) (br_split (fun e1 => ⟨rfl, err 2 (by decide) ?_⟩) fun e1 => br_split (fun e2 => ⟨rfl, err 2 (by decide) ?_⟩) fun e2 => ?_)
     · rw [hres]; simp only; rw [if_pos (.inl (of_decide_eq_true e1))]
     · rw [hres]; simp only; rw [if_pos (.inr (of_decide_eq_true e2))]
     have e1 : ¬ (n < u.low) := of_decide_eq_false e1
     have e2 : ¬ (n > u.high) := of_decide_eq_false e2
     simp only at hres
     rw [if_neg (by omega)] at hres
     have hsz' := hsz.put hum hnr
     have hkind : ∀ k : Nat, (((u.kind : Nat) : Int) == (k : Int)) = decide (u.kind = k) := fun k => by rw [Bool.eq_iff_iff]; simp; omega
     rw [show (0 : Int) = ((0 : Nat) : Int) from rfl, show (1 : Int) = ((1 : Nat) : Int) from rfl, hkind, hkind]
     have nxt : ∀ (q' : Pg) a' k' h', q' = putU q u n → Ext h2 h' ∨ Ext h h' → Ext h h' → InAt h' a' q'.code → okA a' q'.code.length k' → ∃ (m3 : Nat), m3 < m ∧ (∃ (j' : Nat) (q'' : Pg), ((j + 1 : Nat) : Int) = (j' : Int) ∧ j' + m3 = us.length ∧ Ext h h' ∧ InAt h' a' q''.code ∧ okA a' q''.code.length k' ∧ q'.code.length = q''.code.length ∧ q'.data = q''.data ∧ q'.zero = q''.zero ∧ q'.entry = q''.entry ∧ a2 = a2 ∧ q'.labels.length = q''.labels.length ∧ k2 = k2 ∧ SameSz p q'' ∧ resolveS p us = resolveS q'' (us.drop j')) ∧ True := fun q' a' k' h' hq _ x' g1 g2 => by
      subst hq
      exact ⟨m - 1, by omega, ⟨j + 1, putU q u n, rfl, by omega, x', g1, g2, rfl, rfl, rfl, rfl, rfl, rfl, rfl, hsz', hres⟩, trivial⟩
     refine br_split (fun e3 => ?_) fun e3 => br_split (fun e4 => ?_) fun e4 => ?_
     · have e3 := of_decide_eq_true e3
       have hidx := hum.code e3
       have hq' : putU q u n = { q with code := setC q.code u.idx n } := by unfold putU; rw [if_pos e3]
       intro b2 hb2 h3 hh3
       refine Raw.mono (copy2 (h := h2) (t := 29) (ty2 := 29) (L := q.code) (f := insC) und29q elem57q insC_len ok6 hI1 hb2 hh3 rfl (by omega) rfl rfl rfl rfl rfl) ?_
       rintro v h4 ⟨a', c', rfl, x4, hl4⟩
       obtain ⟨hfl, hrow⟩ := hl4.row
       rcases hrow with ⟨_, hz⟩ | ⟨b3, cap, rest, hvv, hb3, hrest, hcap⟩
       · omega
       injection hvv with g1 g2 g3
       subst g1
       subst g3
       have hnone := (hl4.own b3 rfl).1
       refine ⟨_, _, _, rfl, b3, 0, rfl, ⟨by omega, by omega⟩, _, _, _, hb3, ⟨?_, Nat.zero_le _⟩, ?_⟩
       · rw [List.length_append, hfl, Int.toNat_natCast]; omega
       rintro h5 rfl
       have hcur : splice ((q.code.map insC).flatten ++ rest) ((0 + ((u.idx : Nat) : Int).toNat * 4) + 3) [vI n] = ((setC q.code u.idx n).map insC).flatten ++ rest := by
        rw [Int.toNat_natCast, Nat.zero_add, flatten_modify 4 _ _ _ _ _ (fun cs hc => by obtain ⟨r, _, rfl⟩ := List.mem_map.1 hc; rfl) (by simp; omega) (by omega)]
        have := inL_setC q.code u.idx n
        unfold inL at this
        rw [this]
       rw [hcur]
       have x5 : Ext h (h4.put b3 (.cells ⟨((setC q.code u.idx n).map insC).flatten ++ rest⟩ 57)) := fun k ob hk => by
        have hk2 := x1 k ob hk
        have : k ≠ b3 := fun e => by subst e; rw [hnone] at hk2; cases hk2
        rw [put_ne this]; exact x4 k ob hk2
       have hlen : q.code.length = (setC q.code u.idx n).length := by simp [setC]
       have := nxt _ (ad b3 0) c' (h4.put b3 (.cells ⟨((setC q.code u.idx n).map insC).flatten ++ rest⟩ 57)) hq'.symm (.inr x5) x5 (.inr ⟨b3, 0, rfl, fun j' x hx => ?_⟩) (.inl ⟨b3, 0, rfl⟩)
       · rw [← hlen] at this
         exact this
       · refine row_lit (put_same _ _ _) fun i v hv => ?_
         have := flatten_row (k := 4) (css := (setC q.code u.idx n).map insC) (j := j') (cs := insC x) (fun i c hc => by rw [List.getElem?_map] at hc; obtain ⟨r, _, rfl⟩ := Option.map_eq_some_iff.1 hc; rfl) (by rw [List.getElem?_map, hx]; rfl) i v hv
         rw [Nat.zero_add, List.getElem?_append_left (List.getElem?_eq_some_iff.1 this).1]
         exact this
     · have e3 := of_decide_eq_false e3
       have e4 := of_decide_eq_true e4
       have hidx := hum.data e4
       have hq' : putU q u n = { q with data := putW q.data u.idx n } := by unfold putU; rw [if_neg e3, if_pos e4]
       have hw4 : IntKind.i64.wrap ((u.idx : Int) + 4) = ((u.idx + 4 : Nat) : Int) := by rw [wrap64 (by omega) (by omega)]; omega
       rw [hw4]
       refine ⟨⟨by omega, by omega, by omega⟩, ⟨by omega, by omega, Int.le_refl _⟩, ?_⟩
       refine Tri.mono (rword97_t n) ?_
       rintro _ h3 ⟨rfl, x3⟩
       have hpw : ((q.data.drop 0).take (((u.idx : Nat) : Int).toNat - 0) ++ wordOf n) ++ ((q.data.drop ((u.idx + 4 : Nat) : Int).toNat).take ((q.data.length : Int).toNat - ((u.idx + 4 : Nat) : Int).toNat)) = putW q.data u.idx n := by
        unfold putW
        rw [Int.toNat_natCast, Int.toNat_natCast, Int.toNat_natCast, List.drop_zero, Nat.sub_zero]
        congr 1
        exact List.take_of_length_le (by rw [List.length_drop]; omega)
       refine ⟨_, rfl, rfl, rfl, rfl, rfl, ?_, ?_, ?_⟩
       · simp only [List.length_take, List.length_drop, wordOf_len]; omega
       · simp only [List.length_append, List.length_take, List.length_drop, wordOf_len]; omega
       rw [hpw]
       exact nxt { q with data := putW q.data u.idx n } a6 k6 h3 hq'.symm (.inl x3) (x1.trans x3) (hI1.ext x3) ok6
     · have e3 := of_decide_eq_false e3
       have e4 := of_decide_eq_false e4
       have hq' : putU q u n = { q with entry := n } := by unfold putU; rw [if_neg e3, if_neg e4]
       exact nxt { q with entry := n } a6 k6 h2 hq'.symm (.inr x1) x1 hI1 ok6
 · have hj : j = us.length := by have := of_decide_eq_false e; omega
   subst hj
   rw [List.drop_length] at hres
   rw [hres]
   exact ⟨x1, a6, k6, a2, k2, rfl, hI1, hLq, by omega, by omega, by rw [z3]; omega⟩
end
end Go.Proofs.D
namespace Go.As
def progOf : Except (Nat × Nat) Pg → Pg
 | .ok q => q
 | .error _ => ⟨[], [], 0, 0, []⟩
def lineOf : Except (Nat × Nat) Pg → Nat
 | .ok _ => 0
 | .error e => e.1
def errOf : Except (Nat × Nat) Pg → Nat
 | .ok _ => 0
 | .error e => e.2
end Go.As
namespace Go.Proofs.D
open Go Go.Den Go.As
set_option maxRecDepth 100000
attribute [local irreducible] IntKind.wrap Tri
section
variable {h h0 : PHeap}
theorem AsmR.get {r : Except (Nat × Nat) Pg} {v : Value} (hr : AsmR h0 r v h) : Ext h0 h ∧ ∃ a1 k1 a2 k2, v = vT [PV a1 k1 a2 k2 (progOf r), vI (lineOf r : Int), vI (errOf r : Int)] ∧ PgAt h a1 k1 a2 k2 (progOf r) := by
 obtain ⟨x, hr⟩ := hr
 refine ⟨x, ?_⟩
 cases r with
 | error e =>
   obtain ⟨l, e⟩ := e
   obtain ⟨_, rfl⟩ := hr
   exact ⟨none, 0, none, 0, rfl, .inl rfl, .inl rfl, ⟨Nat.le_refl _, fun _ => ⟨rfl, rfl⟩⟩, ⟨Nat.le_refl _, fun _ => ⟨rfl, rfl⟩⟩⟩
 | ok q =>
   obtain ⟨a1, k1, a2, k2, rfl, g1, g2, g3, g4⟩ := hr
   exact ⟨a1, k1, a2, k2, rfl, g1, g2, g3, g4⟩
theorem asm_small (s : Bytes) : (progOf (assembleS s)).code.length ≤ 1024 ∧ (progOf (assembleS s)).labels.length ≤ 1024 ∧ (progOf (assembleS s)).data.length ≤ 4096 := by
 cases hr : assembleS s with
 | error e => exact ⟨by simp [progOf], by simp [progOf], by simp [progOf]⟩
 | ok q =>
   have hok := check_ok (assemble_ok hr)
   have h1 := hok.codeLen
   have h2 := hok.count
   simp only [progOf]
   omega
end
end Go.Proofs.D
namespace Go.Proofs.D
open Go Go.Den
set_option maxRecDepth 100000
set_option maxHeartbeats 4000000
end Go.Proofs.D
namespace Go.Proofs.D
open Go Go.Den Go.As
set_option maxRecDepth 100000
attribute [local irreducible] IntKind.wrap Tri
theorem und40' : Tryz.prog.underlying 40 = some (.slice 5) := rfl
theorem elem5' : ElemT 5 1 := ⟨_, _, rfl, rfl, rfl, rfl, by decide⟩
section
variable {h : PHeap}
end
end Go.Proofs.D
namespace Go.Proofs.D
open Go Go.Den
set_option maxRecDepth 100000
set_option maxHeartbeats 4000000
end Go.Proofs.D
namespace Go.Proofs.D
open Go Go.Den Go.As Go.Shelf Go.RowKit
set_option maxRecDepth 100000
structure OB (h0 h : PHeap) (a : OA) (n k : Nat) (l : Bytes) : Prop where
 own : Own h 5 1 (vL a n k) n (l.map byteV)
 new : ∀ b, a = ad b 0 → h0 b = none
 ext : Ext h0 h
theorem OB.len {h0 h : PHeap} {a : OA} {n k : Nat} {l : Bytes} (hb : OB h0 h a n k l) : n = l.length := by have := hb.own.1; simp at this; omega
theorem OB.put {h0 h h' : PHeap} {a : OA} {n k b : Nat} {l : Bytes} {o : Obj} (hb : OB h0 h a n k l) (hn : h b = none) (hh : h' = h.put b o) : OB h0 h' a n k l := by
 refine ⟨Own.keep (fun q hq => ?_) hb.own, hb.new, hb.ext.trans (Put.ext hh hn)⟩
 rcases hb.own.2 with ⟨h1, _⟩ | ⟨b', cap, rest, h1, h2, _⟩
 · injection h1 with h1; rw [hq] at h1; cases h1
 · injection h1 with h1; rw [hq] at h1; injection h1 with h1; injection h1 with h1; subst h1
   rw [Put.ext hh hn _ _ h2, h2]
set_option maxHeartbeats 1000000 in
theorem raw_appendz {h : PHeap} {ρ : Operand → Value} {cl : Call} {x y : Operand} {t t2 ty e : TypeId} {i : TypeInfo} {a : OA} {n cap : Nat} {vy : Value} (hc : cl.callee = .builtin .append) (ha : cl.args = #[x, y]) (hts : cl.argTypes = #[t, t2]) (hu : Tryz.prog.underlying t = some (.slice e)) (hi : Tryz.prog.info? e = some i)
 (hsrc : SrcH Tryz.prog h i.size t2 vy 0 []) (hx : ρ x = vL a n cap) (hy : ρ y = vy) (hfit : n ≤ cap) : Raw Tryz.prog (execOp ρ (mkO (.call cl) ty)) h fun v h' => v = vL a n cap ∧ h' = h := by
 intro w hs
 have hsr := hsrc w hs
 have hexec : (execOp ρ (mkO (.call cl) ty)).run Tryz.prog w = ((Builtin.append_ #[t, t2] ty #[vL a n cap, vy]).run Tryz.prog w).andThen fun v w' => .ok (.value v) w' := by
  simp [execOp, mkO, resolve, hc, ha, hts, hx, hy, invoke, builtin]
 have hrun : (Builtin.append_ #[t, t2] ty #[vL a n cap, vy]).run Tryz.prog w = .ok (vL a n cap) w := by
  cases a <;> rcases hsr.kind with ⟨e', hk⟩ | hk <;> simp [Builtin.append_, run_underlying hu, run_underlying hk, sizeOf, typeInfo, hi, hsr.len, hfit, hsr.cells, storeCells]
 exact ⟨_, _, w, h, by rw [hexec, hrun]; rfl, .inl rfl, ⟨rfl, rfl⟩, hs, Keep.refl w h⟩
theorem OB.fit {h0 h : PHeap} {a : OA} {n k : Nat} {l : Bytes} (hb : OB h0 h a n k l) : n ≤ k := by
 rcases hb.own.2 with ⟨h1, h2⟩ | ⟨b', cap, rest, h1, h2, _, h4⟩
 · omega
 · injection h1 with _ _ h1; omega
theorem OB.app {h0 h : PHeap} {a : OA} {n k : Nat} {l m : Bytes} {t2 ty : TypeId} {vy : Value} (hb : OB h0 h a n k l) (hl : l.length ≤ 10000000) (hl2 : m.length ≤ 10000000) (hsrc : SrcH Tryz.prog h 1 t2 vy m.length (m.map byteV))
 {ρ : Operand → Value} {cl : Call} {x y : Operand} (hcl : cl.callee = .builtin .append) (hca : cl.args = #[x, y]) (hts : cl.argTypes = #[40, t2]) (hx : ρ x = vL a n k) (hy : ρ y = vy) :
 Raw Tryz.prog (execOp ρ (mkO (.call cl) ty)) h fun v h2 => ∃ a' n' k', v = vL a' n' k' ∧ OB h0 h2 a' n' k' (l ++ m) ∧ ∀ q o, h q = some o → a ≠ ad q 0 → h2 q = some o ∧ a' ≠ ad q 0 := by
 obtain ⟨i, z, hi, hz, hzc, hk, hby⟩ := elem5'
 have hn := hb.len
 have hbig : (16 * (n + m.length) + 16384) * i.bytes ≤ 281474976710656 := by
  have : (16 * (n + m.length) + 16384) * i.bytes ≤ (16 * (n + m.length) + 16384) * 200 := Nat.mul_le_mul_left _ hby
  omega
 by_cases hm : m.length = 0
 · have hm : m = [] := List.eq_nil_of_length_eq_zero hm
   subst hm
   refine Raw.mono (raw_appendz hcl hca hts und40' hi (by rw [hk]; exact hsrc) hx hy hb.fit) ?_
   rintro v h2 ⟨rfl, rfl⟩
   exact ⟨_, _, _, rfl, by rw [List.append_nil]; exact hb, fun q o hq hne => ⟨hq, hne⟩⟩
 refine Raw.mono (raw_append hcl hca hts und40' hi hz hx hy (by rw [hk]; exact hb.own) (by rw [hk]; exact hsrc) (by rw [hzc, hk]) (by omega) hbig (by omega)) ?_
 rintro v h2 ⟨b, cap, rest, rfl, rfl, hr, hcap, hor⟩
 have hnew : h0 b = none := by
  rcases hor with hor | ⟨c, hor⟩
  · cases e : h0 b with
    | none => rfl
    | some o => rw [hb.ext _ _ e] at hor; cases hor
  · injection hor with h1; exact hb.new b h1
 refine ⟨_, _, _, rfl, ⟨⟨?_, .inr ⟨b, cap, rest, rfl, ?_, by rw [hr, hk], hcap⟩⟩, fun q hq => ?_, fun q o hq => ?_⟩, fun q o hq hne => ?_⟩
 · simp; omega
 · rw [put_same, List.map_append]
 · injection hq with hq; injection hq with hq; subst hq; exact hnew
 · have hqb : q ≠ b := fun e => by subst e; rw [hnew] at hq; cases hq
   rw [put_ne hqb]; exact hb.ext _ _ hq
 · have hqb : q ≠ b := fun e => by
    subst e
    rcases hor with hor | ⟨c, hor⟩
    · rw [hor] at hq; cases hq
    · injection hor with h1; exact hne h1
   exact ⟨by rw [put_ne hqb]; exact hq, fun e => by injection e with e; injection e with e; exact hqb e.symm⟩
theorem OB.up {h0 h h' : PHeap} {a : OA} {n k : Nat} {l : Bytes} (hb : OB h0 h a n k l) (x : Ext h h') : OB h0 h' a n k l := by
 refine ⟨⟨hb.own.1, ?_⟩, hb.new, hb.ext.trans x⟩
 rcases hb.own.2 with h1 | ⟨b', cap, rest, h1, h2, h3, h4⟩
 · exact .inl h1
 · exact .inr ⟨b', cap, rest, h1, x _ _ h2, h3, h4⟩
structure PW (h0 h : PHeap) (b : Nat) (β : Bytes) (d : Value) : Prop where
 blk : ∃ p a n k, h b = some (.cells ⟨[p, vL a n k, d]⟩ 114 (0, 0)) ∧ (p = .pointer none ∨ p = vP b 0) ∧ OB h0 h a n k β ∧ a ≠ ad b 0
 new : h0 b = none
section
variable {h0 h h' : PHeap} {b : Nat} {β : Bytes} {d : Value}
theorem PW.ext (hw : PW h0 h b β d) : Ext h0 h := by
 obtain ⟨p, a, n, k, _, _, hO, _⟩ := hw.blk
 exact hO.ext
theorem PW.up (hw : PW h0 h b β d) (x : Ext h h') : PW h0 h' b β d := by
 obtain ⟨p, a, n, k, hb, hp, hO, hne⟩ := hw.blk
 exact ⟨⟨p, a, n, k, x _ _ hb, hp, hO.up x, hne⟩, hw.new⟩
theorem PW.depth (hw : PW h0 h b β d) : h.cell b (0 + 2) = some d := by
 obtain ⟨p, a, n, k, hb, hp, hO, hne⟩ := hw.blk
 rw [cell_of hb]; rfl
end
section
variable {h0 h : PHeap} {a : OA} {n k b : Nat} {β : Bytes} {d : Value}
attribute [local irreducible] IntKind.wrap Tri
end
end Go.Proofs.D
namespace Go.Proofs.D
open Go Go.Den Go.As
set_option maxRecDepth 100000
attribute [local irreducible] IntKind.wrap Tri
theorem LbAt.drop {h : PHeap} {a : OA} {ls : List Lb} (ht : LbAt h a ls) {k i : Nat} (hk : ls.length ≤ k) {a' : OA} (hs : SlA a a' i k 3) : LbAt h a' (ls.drop i) := by
 by_cases hi : i < ls.length
 · rcases ht with rfl | ⟨b, o, rfl, ht⟩
   · simp at hi
   · obtain ⟨o', h1, h2⟩ := hs.1 b o rfl
     refine .inr ⟨b, o', h1, fun j t hj => ?_⟩
     rw [List.getElem?_drop] at hj
     rw [h2 (.inl (by omega)), Nat.add_assoc, ← Nat.add_mul]
     exact ht _ _ hj
 · exact .inl (by simp; omega)
section
variable {h0 h : PHeap} {b : Nat} {β : Bytes} {d : Value}
structure LS (h0 : PHeap) (a : OA) (k : Nat) (ls : List Lb) : Prop where
 at' : LbAt h0 a ls
 le : ls.length ≤ k
 ok : okA a ls.length k
theorem LS.tail {a a' : OA} {k : Nat} {l : Lb} {ls : List Lb} (hL : LS h0 a k (l :: ls)) (hs : SlA a a' 1 k 3) : LS h0 a' (k - 1) ls := by
 have hle := hL.le
 simp only [List.length_cons] at hle
 refine ⟨hL.at'.drop hL.le hs, by omega, ?_⟩
 rcases hL.ok with ⟨b, o, h1⟩ | ⟨h1, h2, _⟩
 · obtain ⟨o', h2, _⟩ := hs.1 b o h1
   exact .inl ⟨b, o', h2⟩
 · simp at h2
end
end Go.Proofs.D
namespace Go.As
structure Rest (at' : Nat) (ls : List Lb) : Prop where
 all : ∀ l ∈ ls, l.data = true ∧ (at' : Int) ≤ l.off
 sort : ls.Pairwise fun x y => x.off ≤ y.off
theorem Rest.drop {at' : Nat} {ls : List Lb} (h : Rest at' ls) : Rest at' (dropM true at' ls) ∧ ∀ l ∈ dropM true at' ls, (at' : Int) < l.off := by
 have hsub : (dropM true at' ls).Sublist ls := List.dropWhile_sublist _
 have hr : Rest at' (dropM true at' ls) := ⟨fun l hl => h.all l (hsub.subset hl), h.sort.sublist hsub⟩
 refine ⟨hr, fun l hl => ?_⟩
 cases hd : dropM true at' ls with
 | nil => rw [hd] at hl; cases hl
 | cons x t =>
   have hx := drop_head hd
   have h1 := hr.all x (by rw [hd]; exact List.mem_cons_self ..)
   have h2 : (at' : Int) < x.off := by
    have : x.off ≠ (at' : Int) := fun e => hx ⟨h1.1, e⟩
    omega
   rw [hd] at hl
   rcases List.mem_cons.1 hl with rfl | hl
   · exact h2
   · have h3 := hr.sort
     rw [hd] at h3
     have := (List.pairwise_cons.1 h3).1 l hl
     omega
theorem Rest.step {at' : Nat} {r : Bytes} {ls : List Lb} (h : Rest at' ls) (hr : r ≠ []) : 1 ≤ chunkN at' r (dropM true at' ls) ∧ chunkN at' r (dropM true at' ls) ≤ r.length ∧ chunkN at' r (dropM true at' ls) ≤ 32 ∧ Rest (at' + chunkN at' r (dropM true at' ls)) (dropM true at' ls) := by
 obtain ⟨h1, h2⟩ := h.drop
 have hlr : 1 ≤ r.length := List.length_pos_iff.2 hr
 have hn : chunkN at' r (dropM true at' ls) ≤ min 32 r.length := Nat.min_le_left _ _
 cases hd : dropM true at' ls with
 | nil =>
   have hc : chunkN at' r [] = min (min 32 r.length) 32 := rfl
   rw [hc]
   refine ⟨by omega, by omega, by omega, fun l hl => (by cases hl), List.Pairwise.nil⟩
 | cons x t =>
   rw [hd] at h1 h2
   have hx := h2 x (List.mem_cons_self ..)
   have hc : chunkN at' r (x :: t) = min (min 32 r.length) ((x.off - at').toNat) := rfl
   rw [hc]
   refine ⟨by omega, by omega, by omega, fun l hl => ⟨(h1.all l hl).1, ?_⟩, h1.sort⟩
   have : x.off ≤ l.off := by
    rcases List.mem_cons.1 hl with rfl | hl
    · omega
    · exact (List.pairwise_cons.1 h1.sort).1 l hl
   omega
end Go.As
namespace Go.Proofs.D
open Go Go.Den Go.As
set_option maxRecDepth 100000
attribute [local irreducible] IntKind.wrap Tri
section
variable {h0 h : PHeap} {b : Nat} {β : Bytes}
end
end Go.Proofs.D
namespace Go.Proofs.D
open Go Go.Den Go.As
set_option maxRecDepth 100000
attribute [local irreducible] IntKind.wrap Tri
section
variable {h0 h : PHeap} {b b1 b2 : Nat} {β : Bytes}
end
end Go.Proofs.D
namespace Go.Proofs.D
open Go Go.Den Go.As
set_option maxRecDepth 100000
attribute [local irreducible] IntKind.wrap Tri
section
variable {h : PHeap}
end
end Go.Proofs.D
namespace Go.Proofs.D
open Go Go.Den Go.As
set_option maxRecDepth 100000
attribute [local irreducible] IntKind.wrap Tri
section
variable {h : PHeap}
theorem rcheckP_t {a1 : OA} {k1 : Nat} {a2 : OA} {k2 : Nat} {p : Pg} (hI : InAt h a1 p.code) (hL : LbAt h a2 p.labels) (hn : p.code.length ≤ 1000000) (hd : p.data.length ≤ 1000000) (hls : p.labels.length ≤ 1000000) :
 Tri Tryz.prog 22 [vA [vL a1 p.code.length k1, vS p.data, vI p.zero, vI p.entry, vL a2 p.labels.length k2]] h fun v h' => v = vI (checkP p : Int) ∧ h' = h := by
 refine T22 ?_
 unfold R22
 refine ⟨fun m i h' => ∃ j : Nat, i = (j : Int) ∧ j + m = p.code.length ∧ h' = h ∧ ∀ k x, k < j → p.code[k]? = some x → checkI x = 0, ⟨p.code.length, 0, rfl, by omega, rfl, fun k x hk => absurd hk (Nat.not_lt_zero k)⟩, ?_⟩
 rintro m _ h1 ⟨j, rfl, hjm, rfl, hu⟩
 refine br_split (fun e => ?_) fun e => ?_
 · have hlt : j < p.code.length := by have := of_decide_eq_true e; omega
   have hg : p.code[j]? = some p.code[j] := by simp [hlt]
   have hdr := List.drop_eq_getElem_cons hlt
   generalize p.code[j] = x at *
   obtain ⟨b, o, ha, hr⟩ := hI.get hg
   refine ⟨b, o, ha, ⟨by omega, by omega⟩, _, _, _, _, (by rw [Int.toNat_natCast]; exact hr), ?_⟩
   refine Tri.mono (rcheck_t x) ?_
   rintro _ h1 ⟨rfl, rfl⟩
   refine ⟨_, rfl, br_split (fun e1 => ?_) fun e1 => ?_⟩
   · have e1 : checkI x ≠ 0 := by simpa using e1
     have : checkP p = checkI x := by
      unfold checkP
      rw [find_take hu, hdr, List.map_cons, List.find?_cons, decide_eq_true e1]
     rw [this]
     exact ⟨rfl, rfl⟩
   · have e1 : checkI x = 0 := by simpa using e1
     refine ⟨m - 1, by omega, ⟨j + 1, ?_, by omega, rfl, fun k y h1 h2 => ?_⟩, rfl, trivial⟩
     · rw [wrap64 (by omega) (by omega)]; omega
     · by_cases hk : k = j
       · subst hk; rw [hg] at h2; injection h2 with h2; rw [← h2]; exact e1
       · exact hu k y (by omega) h2
 have hj : j = p.code.length := by have := of_decide_eq_false e; omega
 subst hj
 have hc : checkP p = if p.zero < 0 ∨ 4096 < p.zero ∨ 4096 < dataAt p + p.data.length + p.zero ∨ 1024 < p.labels.length then 9
  else if p.entry < 0 ∨ p.entry % 4 ≠ 0 ∨ 4 * (p.code.length : Int) ≤ p.entry then 2
  else if labelsErr p none p.labels ≠ 0 then labelsErr p none p.labels else if twice (p.labels.map (·.name)) then 7 else 0 := by
  unfold checkP
  rw [find_take hu, List.drop_length]; rfl
 have nine : (p.zero < 0 ∨ 4096 < p.zero ∨ 4096 < dataAt p + p.data.length + p.zero ∨ 1024 < p.labels.length) → vI 9 = vI (checkP p : Int) := fun hh => by rw [hc, if_pos hh]; rfl
 refine br_split (fun e1 => ?_) fun e1 => br_split (fun e2 => ?_) fun e2 => ?_
 · exact ⟨rfl, nine (.inl (of_decide_eq_true e1)), rfl⟩
 · exact ⟨rfl, rfl, nine (.inr (.inl (of_decide_eq_true e2))), rfl⟩
 have e1 := of_decide_eq_false e1
 have e2 := of_decide_eq_false e2
 refine Tri.mono (rdataAt_t hn) ?_
 rintro _ h1 ⟨rfl, rfl⟩
 have hda : 0 ≤ dataAt p ∧ dataAt p ≤ 4000100 := by unfold dataAt; omega
 refine ⟨_, rfl, rfl, rfl, rfl, rfl, ?_⟩
 rw [wrap64 (n := dataAt p + _) (by omega) (by omega), wrap64 (n := dataAt p + _ + _) (by omega) (by omega)]
 refine br_split (fun e3 => ⟨nine (.inr (.inr (.inl (of_decide_eq_true e3)))), rfl⟩) fun e3 => br_split (fun e4 => ⟨nine (.inr (.inr (.inr (by have := of_decide_eq_true e4; omega)))), rfl⟩) fun e4 => ?_
 have e3 := of_decide_eq_false e3
 have e4 := of_decide_eq_false e4
 rw [if_neg (by omega)] at hc
 have ent : (p.entry < 0 ∨ p.entry % 4 ≠ 0 ∨ 4 * (p.code.length : Int) ≤ p.entry) → vI 2 = vI (checkP p : Int) := fun hh => by rw [hc, if_pos hh]; rfl
 have hw4 : IntKind.i64.wrap (4 * ((p.code.length : Nat) : Int)) = 4 * (p.code.length : Int) := wrap64 (by omega) (by omega)
 have hwd : IntKind.i64.wrap ((p.data.length : Int) + p.zero) = (p.data.length : Int) + p.zero := wrap64 (by omega) (by omega)
 rw [hw4]
 refine br_split (fun e5 => ⟨ent (.inl (of_decide_eq_true e5)), rfl⟩) fun e5 => ?_
 have e5 := of_decide_eq_false e5
 have htm : Int.tmod p.entry 4 = p.entry % 4 := Int.tmod_eq_emod_of_nonneg (by omega)
 rw [htm]
 refine br_split (fun e6 => ⟨ent (.inr (.inl (by simpa using e6))), rfl⟩) fun e6 => br_split (fun e7 => ⟨ent (.inr (.inr (by have := of_decide_eq_true e7; omega))), rfl⟩) fun e7 => ?_
 have e6 : p.entry % 4 = 0 := by simpa using e6
 have e7 := of_decide_eq_false e7
 rw [if_neg (by omega)] at hc
 refine ⟨fun m i h' => ∃ j : Nat, i = (j : Int) ∧ j + m = p.labels.length ∧ h' = h1 ∧ labelsErr p none p.labels = labelsErr p (prevL p.labels j) (p.labels.drop j), ⟨p.labels.length, 0, rfl, by omega, rfl, rfl⟩, ?_⟩
 rintro m _ h2 ⟨j, rfl, hjm, rfl, hu2⟩
 refine br_split (fun e => ?_) fun e => ?_
 · have hlt : j < p.labels.length := by have := of_decide_eq_true e; omega
   have hg : p.labels[j]? = some p.labels[j] := by simp [hlt]
   have hdr := List.drop_eq_getElem_cons hlt
   rw [hdr, labels_cons] at hu2
   generalize p.labels[j] = l at *
   obtain ⟨b, o, ha, hr⟩ := hL.get hg
   have bad : ∀ e : Nat, labelsErr p none p.labels = e → e ≠ 0 → vI (e : Int) = vI (checkP p : Int) ∧ h2 = h2 := fun e h1 h2 => by
    rw [hc, h1, if_pos h2]; exact ⟨rfl, rfl⟩
   refine ⟨b, o, ha, ⟨by omega, by omega⟩, _, _, _, (by rw [Int.toNat_natCast]; exact hr), ?_⟩
   refine Tri.mono (rlabel_t h2 l.name) ?_
   rintro _ h2 ⟨rfl, rfl⟩
   refine ⟨_, rfl, br_split (fun g1 => bad 12 (by rw [hu2, if_pos (not_f g1)]) (by decide)) fun g1 => ?_⟩
   rw [if_neg (by rw [not_t g1]; decide)] at hu2
   have hw1 : IntKind.i64.wrap ((j : Int) + 1) = ((j + 1 : Nat) : Int) := by rw [wrap64 (by omega) (by omega)]; omega
   have two : (l.off < 0 ∨ (l.data = false ∧ (l.off % 4 ≠ 0 ∨ 4 * (p.code.length : Int) < l.off)) ∨ (l.data = true ∧ (p.data.length : Int) + p.zero < l.off)) → _ := fun hh => bad 2 (by rw [hu2, if_pos hh]) (by decide)
   have tail : ¬ (l.off < 0 ∨ (l.data = false ∧ (l.off % 4 ≠ 0 ∨ 4 * (p.code.length : Int) < l.off)) ∨ (l.data = true ∧ (p.data.length : Int) + p.zero < l.off)) →
    br (decide ((j : Int) > 0))
     (∃ (b2 o2 : Nat), a2 = some ⟨b2, o2, none⟩ ∧ (0 ≤ (IntKind.i64.wrap ((j : Int) - 1)) ∧ (IntKind.i64.wrap ((j : Int) - 1)) < p.labels.length) ∧
     ∃ (l3 : Bs) (c4 : Bool) (i5 : Int), h2.row b2 (o2 + (IntKind.i64.wrap ((j : Int) - 1)).toNat * 3) [vS l3, vB c4, vI i5] ∧
     Tri Tryz.prog 45 [vA [vS l3, vB c4, vI i5], vA (lbC l)] h2 fun v_3 h_4 =>
     ∃ (c6 : Bool), v_3 = vB c6 ∧
     (tv [vL a2 p.labels.length k2]) ∧
     br (!c6)
     (vI 32 = vI (checkP p : Int) ∧ h_4 = h2)
     (∃ (m3 : Nat), m3 < m ∧ (∃ j' : Nat, IntKind.i64.wrap ((j : Int) + 1) = (j' : Int) ∧ j' + m3 = p.labels.length ∧ h_4 = h2 ∧ labelsErr p none p.labels = labelsErr p (prevL p.labels j') (p.labels.drop j')) ∧
     tv [vL a1 p.code.length k1, vS p.data, vI p.zero, vI p.entry, vL a2 p.labels.length k2] ∧ True))
     (∃ (m4 : Nat), m4 < m ∧ (∃ j' : Nat, IntKind.i64.wrap ((j : Int) + 1) = (j' : Int) ∧ j' + m4 = p.labels.length ∧ h2 = h2 ∧ labelsErr p none p.labels = labelsErr p (prevL p.labels j') (p.labels.drop j')) ∧
     tv [vL a1 p.code.length k1, vS p.data, vI p.zero, vI p.entry, vL a2 p.labels.length k2] ∧ True) := fun hno => by
    rw [if_neg hno] at hu2
    have hpj : prevL p.labels (j + 1) = some l := by unfold prevL; rw [if_neg (by omega), Nat.add_sub_cancel, hg]
    refine br_split (fun q1 => ?_) fun q1 => ?_
    · have hj0 : 0 < j := by have := of_decide_eq_true q1; omega
      have hwj : IntKind.i64.wrap ((j : Int) - 1) = ((j - 1 : Nat) : Int) := by rw [wrap64 (by omega) (by omega)]; omega
      have hlt' : j - 1 < p.labels.length := by omega
      have hg' : p.labels[j - 1]? = some p.labels[j - 1] := by simp [hlt']
      have hpv : prevL p.labels j = some p.labels[j - 1] := by unfold prevL; rw [if_neg (by omega), hg']
      rw [hpv] at hu2
      generalize p.labels[j - 1] = q at *
      obtain ⟨b', o', ha', hr'⟩ := hL.get hg'
      rw [hwj]
      refine ⟨b', o', ha', ⟨by omega, by omega⟩, _, _, _, (by rw [Int.toNat_natCast]; exact hr'), ?_⟩
      refine Tri.mono (rfollows_t q l) ?_
      rintro _ h3 ⟨rfl, rfl⟩
      refine ⟨_, rfl, rfl, br_split (fun q2 => ?_) fun q2 => ?_⟩
      · simp only [q2, if_true] at hu2
        exact bad 32 hu2 (by decide)
      · simp only [q2, Bool.false_eq_true, if_false] at hu2
        exact ⟨m - 1, by omega, ⟨j + 1, hw1, by omega, rfl, by rw [hpj]; exact hu2⟩, rfl, trivial⟩
    · have hj0 : j = 0 := by have := of_decide_eq_false q1; omega
      have hpv : prevL p.labels j = none := by unfold prevL; rw [if_pos hj0]
      rw [hpv] at hu2
      exact ⟨m - 1, by omega, ⟨j + 1, hw1, by omega, rfl, by rw [hpj]; exact hu2⟩, rfl, trivial⟩
   refine br_split (fun g2 => two (.inl (of_decide_eq_true g2))) fun g2 => ?_
   have g2 := of_decide_eq_false g2
   have htm2 : Int.tmod l.off 4 = l.off % 4 := Int.tmod_eq_emod_of_nonneg (by omega)
   rw [htm2, hwd]
   refine br_split (fun g3 => ?_) fun g3 => ?_
   · have g3 : l.data = false := not_f g3
     refine br_split (fun g4 => two (.inr (.inl ⟨g3, .inl (by simpa using g4)⟩))) fun g4 => br_split (fun g5 => two (.inr (.inl ⟨g3, .inr (by have := of_decide_eq_true g5; omega)⟩))) fun g5 => br_neg g3 (tail ?_)
     have g4 : l.off % 4 = 0 := by simpa using g4
     have g5 := of_decide_eq_false g5
     rw [g3]; simp; omega
   · have g3 : l.data = true := not_t g3
     refine br_pos g3 (br_split (fun g4 => two (.inr (.inr ⟨g3, of_decide_eq_true g4⟩))) fun g4 => tail ?_)
     have g4 := of_decide_eq_false g4
     rw [g3]; simp; omega
 · have hj : j = p.labels.length := by have := of_decide_eq_false e; omega
   subst hj
   rw [List.drop_length] at hu2
   have hu2 : labelsErr p none p.labels = 0 := by rw [hu2]; unfold labelsErr; rfl
   rw [hu2, if_neg (by decide)] at hc
   have seven : twice (p.labels.map (·.name)) = true → vI 7 = vI (checkP p : Int) := fun hh => by rw [hc, hh]; rfl
   refine ⟨fun m i h' => ∃ j : Nat, i = (j : Int) ∧ j + m = p.labels.length ∧ h' = h2 ∧ twice ((p.labels.take j).map (·.name)) = false, ⟨p.labels.length, 0, rfl, by omega, rfl, rfl⟩, ?_⟩
   rintro m _ h3 ⟨j, rfl, hjm, rfl, htw⟩
   refine br_split (fun e => ?_) fun e => ?_
   · have hlt : j < p.labels.length := by have := of_decide_eq_true e; omega
     have hg : p.labels[j]? = some p.labels[j] := by simp [hlt]
     have htk := List.take_append_getElem hlt
     generalize p.labels[j] = l at *
     have hsn : (p.labels.take (j + 1)).map (·.name) = (p.labels.take j).map (·.name) ++ [l.name] := by rw [← htk]; simp
     obtain ⟨b, o, ha, hr⟩ := hL.get hg
     refine ⟨fun m2 i h' => ∃ t : Nat, i = (t : Int) ∧ t + m2 = j ∧ h' = h3 ∧ ((p.labels.take t).map (·.name)).contains l.name = false, ⟨j, 0, rfl, by omega, rfl, rfl⟩, ?_⟩
     rintro m2 _ h4 ⟨t, rfl, htm3, rfl, hnc⟩
     refine br_split (fun q => ?_) fun q => ?_
     · have hlt2 : t < j := by have := of_decide_eq_true q; omega
       have hlt3 : t < p.labels.length := by omega
       have hg2 : p.labels[t]? = some p.labels[t] := by simp [hlt3]
       have htk2 := List.take_append_getElem hlt3
       have hmem : p.labels[t] ∈ p.labels.take j := by
        rw [List.mem_take_iff_getElem]
        exact ⟨t, by omega, rfl⟩
       generalize p.labels[t] = y at *
       obtain ⟨b', o', ha', hr'⟩ := hL.get hg2
       refine ⟨b', o', ha', ⟨by omega, by omega⟩, y.name, (by rw [Int.toNat_natCast]; exact hr'.1), b, o, ha, ⟨by omega, by omega⟩, l.name, (by rw [Int.toNat_natCast]; exact hr.1), br_split (fun q1 => ⟨seven ?_, rfl⟩) fun q1 => ?_⟩
       · have q1 : y.name = l.name := by simpa using q1
         have h1 : twice ((p.labels.take (j + 1)).map (·.name)) = true := by
          rw [hsn, twice_snoc]
          have : ((p.labels.take j).map (·.name)).contains l.name = true := by
           rw [List.contains_iff_mem, ← q1]; exact List.mem_map_of_mem hmem
          rw [this]; simp
         have := twice_pre _ ((p.labels.drop (j + 1)).map (·.name)) h1
         rwa [← List.map_append, List.take_append_drop] at this
       · refine ⟨m2 - 1, by omega, ⟨t + 1, by rw [wrap64 (by omega) (by omega)]; omega, by omega, rfl, ?_⟩, rfl, trivial⟩
         have q1 : y.name ≠ l.name := by simpa using q1
         cases hcc : ((p.labels.take (t + 1)).map (·.name)).contains l.name with
         | false => rfl
         | true =>
           rw [← htk2, List.map_append, List.contains_iff_mem, List.mem_append] at hcc
           rcases hcc with hcc | hcc
           · rw [← List.contains_iff_mem, hnc] at hcc; cases hcc
           · exact absurd (by simpa using hcc : l.name = y.name).symm q1
     · have htj : t = j := by have := of_decide_eq_false q; omega
       subst htj
       refine ⟨m - 1, by omega, ⟨t + 1, by rw [wrap64 (by omega) (by omega)]; omega, by omega, rfl, ?_⟩, rfl, trivial⟩
       rw [hsn, twice_snoc, htw, hnc]; rfl
   · have hj : j = p.labels.length := by have := of_decide_eq_false e; omega
     subst hj
     rw [List.take_length] at htw
     rw [htw] at hc
     exact ⟨by rw [hc]; rfl, rfl⟩
end
end Go.Proofs.D
namespace Go.As
def cutN (l : Lb) : Lb := { l with name := l.name.take 60 }
def shortP (p : Pg) : Pg := { p with code := p.code.take 24, data := p.data.take 200, labels := (p.labels.take 12).map cutN }
end Go.As
namespace Go.Proofs.D
open Go Go.Den Go.As
set_option maxRecDepth 100000
attribute [local irreducible] IntKind.wrap Tri
theorem und30 : Tryz.prog.underlying 30 = some (.slice 89) := rfl
theorem elem89 : ElemT 89 3 := ⟨_, _, rfl, rfl, rfl, rfl, by decide⟩
theorem LM.lbs' {e : Nat} {h0 h : PHeap} {a : OA} {n c : Nat} {L : List Lb} (hM : LM e 3 h0 h a n c (L.map lbC)) : LbAt h a L := by
 by_cases hL : L = []
 · exact .inl hL
 have hn : 0 < n := by
  have := hM.len
  cases L with
  | nil => exact absurd rfl hL
  | cons x L => simp at this; omega
 obtain ⟨b, rest, h1, h2, _⟩ := hM.open hn
 refine .inr ⟨b, 0, h1, fun j l hj => ?_⟩
 obtain ⟨b', h3, h4⟩ := hM.rowAt (j := j) (cs := lbC l) (by simp [hj])
 rw [h1] at h3; injection h3 with h3; injection h3 with h3
 subst h3; exact h4
section
variable {h : PHeap}
structure PIn (h : PHeap) (a1 : OA) (k1 : Nat) (a2 : OA) (k2 : Nat) (p : Pg) : Prop where
 ins : InAt h a1 p.code
 lbs : LbAt h a2 p.labels
 ok : okA a1 p.code.length k1
 le : p.code.length ≤ k1
end
end Go.Proofs.D
namespace Go.As
end Go.As
namespace Go.Proofs.D
open Go Go.Den
set_option maxRecDepth 100000
set_option maxHeartbeats 4000000
end Go.Proofs.D
namespace Go.Proofs.D
open Go Go.Den Go.As
set_option maxRecDepth 100000
attribute [local irreducible] IntKind.wrap Tri
section
variable {h : PHeap}
end
end Go.Proofs.D
namespace Go.Proofs.D
open Go Go.Den
set_option maxRecDepth 100000
set_option maxHeartbeats 4000000
end Go.Proofs.D
namespace Go.As
def hlt : Bytes := [58, 104, 97, 108, 116]
end Go.As
namespace Go.Proofs.D
open Go Go.Den Go.As
set_option maxRecDepth 100000
attribute [local irreducible] IntKind.wrap Tri
section
variable {h : PHeap}
end
end Go.Proofs.D
namespace Go.Proofs.D
open Go Go.Den Go.As
set_option maxRecDepth 100000
attribute [local irreducible] IntKind.wrap Tri
structure PRange (p : Pg) : Prop where
 ent : -9223372036854775808 ≤ p.entry ∧ p.entry ≤ 9223372036854775807
 off : ∀ l ∈ p.labels, -9223372036854775808 ≤ l.off ∧ l.off ≤ 9223372036854775807
theorem PRange.short {p : Pg} (h : PRange p) : PRange (shortP p) := by
 refine ⟨h.ent, fun l hl => ?_⟩
 obtain ⟨x, hx, rfl⟩ := List.mem_map.1 hl
 exact h.off x (List.mem_of_mem_take hx)
end Go.Proofs.D
namespace Go.Proofs.D
open Go Go.Den
set_option maxRecDepth 100000
set_option maxHeartbeats 4000000
abbrev esk1 : List CK := [qi, qi, qi, qi]
abbrev esk2 : List CK := [.slice, .str, qi, qi, .slice]
abbrev o16_5 : Op := .binOp .neq 57 (.tmp 55) (.tmp 60) 57
abbrev o16_8 : Op := .binOp .neq 89 (.tmp 73) (.tmp 78) 89
noncomputable def d16 : DCode := up ⟨[(8, .l [.str]), (10, .l [.str]), (14, .l [qi]), (16, .l [qi]), (21, .l [qi]), (23, .l [qi]), (28, .l [.slice]), (31, .l [.slice]), (37, .l [.slice]), (40, .l [.slice]), (46, .l [.slice]), (52, .l [.slice]), (55, .l esk1), (57, .l [.slice]), (60, .l esk1), (61, .c (.one false [.bool])), (64, .l [.slice]), (70, .l [.slice]), (73, .l [.str, .bool, qi]), (75, .l [.slice]), (78, .l [.str, .bool, qi]), (79, .c (.one false [.bool]))], [], [(44, 20, [(5, qi)], []), (62, 20, [(6, qi)], [])]⟩ (low Tryz.prog (fun _ => false) (Tryz.f16.body.getD .skip))
theorem low16 : low Tryz.prog (fun _ => false) (Tryz.f16.body.getD .skip) = some (eC d16) := by kernel_rfl
def R16 (a1 : OA) (n1 : Nat) (esk1 : Nat) (l1 : Bs) (i1 : Int) (i2 : Int) (a2 : OA) (n2 : Nat) (esk2 : Nat) (a3 : OA) (n3 : Nat) (k3 : Nat) (l2 : Bs) (i3 : Int) (i4 : Int) (a4 : OA) (n4 : Nat) (k4 : Nat) (h : PHeap) (Q : Value → PHeap → Prop) : Prop :=
 br (!(l1 == l2))
 (Q (vB false) h)
 (br (i1 != i3)
 (Q (vB false) h)
 (br (i2 != i4)
 (Q (vB false) h)
 (br (((n1 : Nat) : Int) != ((n3 : Nat) : Int))
 (Q (vB false) h)
 (br (((n2 : Nat) : Int) != ((n4 : Nat) : Int))
 (Q (vB false) h)
 (∃ (I_1 : Nat → Int → PHeap → Prop), (∃ (m2 : Nat), I_1 m2 (0 : Int) h) ∧
 ∀ (m1 : Nat) (i5 : Int) (h_1 : PHeap), I_1 m1 i5 h_1 →
 br (decide (i5 < ((n1 : Nat) : Int)))
 (∃ (b1 o1 : Nat), a1 = some ⟨b1, o1, none⟩ ∧ (0 ≤ i5 ∧ i5 < n1) ∧
 ∃ (i6 i7 i8 i9 : Int), h_1.row b1 (o1 + (i5).toNat * 4) [vI i6, vI i7, vI i8, vI i9] ∧
 ∃ (b2 o2 : Nat), a3 = some ⟨b2, o2, none⟩ ∧ (0 ≤ i5 ∧ i5 < n3) ∧
 ∃ (i10 i11 i12 i13 : Int), h_1.row b2 (o2 + (i5).toNat * 4) [vI i10, vI i11, vI i12, vI i13] ∧
 ∃ (c1 : Bool), PureRun Tryz.prog (execOp (rho [(55, vA [vI i6, vI i7, vI i8, vI i9]), (60, vA [vI i10, vI i11, vI i12, vI i13])]) (mkO o16_5 4)) (vB c1) ∧
 br c1
 (Q (vB false) h_1)
 (∃ (m3 : Nat), m3 < m1 ∧ I_1 m3 (IntKind.i64.wrap (i5 + 1)) h_1 ∧
 tv [vL a3 n3 k3, vS l2, vI i3, vI i4, vL a4 n4 k4] ∧ tv [vL a1 n1 esk1, vS l1, vI i1, vI i2, vL a2 n2 esk2] ∧ True))
 (∃ (I_2 : Nat → Int → PHeap → Prop), (∃ (m5 : Nat), I_2 m5 (0 : Int) h_1) ∧
 ∀ (m4 : Nat) (i14 : Int) (h_2 : PHeap), I_2 m4 i14 h_2 →
 br (decide (i14 < ((n2 : Nat) : Int)))
 (∃ (b3 o3 : Nat), a2 = some ⟨b3, o3, none⟩ ∧ (0 ≤ i14 ∧ i14 < n2) ∧
 ∃ (l3 : Bs) (c2 : Bool) (i15 : Int), h_2.row b3 (o3 + (i14).toNat * 3) [vS l3, vB c2, vI i15] ∧
 ∃ (b4 o4 : Nat), a4 = some ⟨b4, o4, none⟩ ∧ (0 ≤ i14 ∧ i14 < n4) ∧
 ∃ (l4 : Bs) (c3 : Bool) (i16 : Int), h_2.row b4 (o4 + (i14).toNat * 3) [vS l4, vB c3, vI i16] ∧
 ∃ (c4 : Bool), PureRun Tryz.prog (execOp (rho [(73, vA [vS l3, vB c2, vI i15]), (78, vA [vS l4, vB c3, vI i16])]) (mkO o16_8 4)) (vB c4) ∧
 br c4
 (Q (vB false) h_2)
 (∃ (m6 : Nat), m6 < m4 ∧ I_2 m6 (IntKind.i64.wrap (i14 + 1)) h_2 ∧
 tv [vL a3 n3 k3, vS l2, vI i3, vI i4, vL a4 n4 k4] ∧ tv [vL a1 n1 esk1, vS l1, vI i1, vI i2, vL a2 n2 esk2] ∧ True))
 (Q (vB true) h_2)))))))
theorem T16 {a1 : OA} {n1 : Nat} {esk1 : Nat} {l1 : Bs} {i1 : Int} {i2 : Int} {a2 : OA} {n2 : Nat} {esk2 : Nat} {a3 : OA} {n3 : Nat} {k3 : Nat} {l2 : Bs} {i3 : Int} {i4 : Int} {a4 : OA} {n4 : Nat} {k4 : Nat} {h : PHeap} {Q : Value → PHeap → Prop} (hR : R16 a1 n1 esk1 l1 i1 i2 a2 n2 esk2 a3 n3 k3 l2 i3 i4 a4 n4 k4 h Q) : Tri Tryz.prog 16 [vA [vL a1 n1 esk1, vS l1, vI i1, vI i2, vL a2 n2 esk2], vA [vL a3 n3 k3, vS l2, vI i3, vI i4, vL a4 n4 k4]] h Q :=
 tri_of_dn mixed Tryz.func16 rfl (by kernel_rfl) low16 (rs := [.tmp 4]) (by kernel_rfl) rfl (Eq.mpr (by kernel_rfl : dnF Tryz.prog Tryz.f16.ntmps d16 [.tmp 4] [vA [vL a1 n1 esk1, vS l1, vI i1, vI i2, vL a2 n2 esk2], vA [vL a3 n3 k3, vS l2, vI i3, vI i4, vL a4 n4 k4]] h Q = R16 a1 n1 esk1 l1 i1 i2 a2 n2 esk2 a3 n3 k3 l2 i3 i4 a4 n4 k4 h Q) hR)
end Go.Proofs.D
namespace Go.Proofs.D
open Go Go.Den Go.As
set_option maxRecDepth 100000
theorem eq_ins57 (x y : Ins) (w : World) : (Op.equalIn 10000 57 (vA (insC x)) (vA (insC y))).run Tryz.prog w = .ok (decide (x = y)) w := by
 have h1 : Tryz.prog.underlying 57 = some (.struct (Tryz.prog.fieldsOf 57)) := by unfold Program.fieldsOf; rw [Tryz.underlying57]
 have h2 : Tryz.prog.stoodInHeld 57 = false := by kernel_rfl
 have := run_equalIn_struct w (P := Tryz.prog) 9999 57 ⟨insC x⟩ ⟨insC y⟩ h1 h2
 rw [show (Op.equalIn 10000 57 (vA (insC x)) (vA (insC y))) = Op.equalIn (9999 + 1) 57 (.agg ⟨insC x⟩) (.agg ⟨insC y⟩) from rfl, this]
 have p : ∀ (x : Ins) (k : Nat) (v : Value), (insC x)[k]? = some v → (part 3 ⟨insC x⟩ k).run Tryz.prog w = .ok v w := fun x k v h => run_part1 w (Tryz.isAgg3 w) h
 simp only [Program.fieldsOf, Tryz.underlying57, Op.eqFields, ne_eq, Sem.run_bind, Sem.run_ite, p _ 0 _ rfl, p _ 1 _ rfl, p _ 2 _ rfl, p _ 3 _ rfl, Result.andThen_ok, run_int3, Sem.run_pure]
 obtain ⟨x1, x2, x3, x4⟩ := x
 obtain ⟨y1, y2, y3, y4⟩ := y
 by_cases e1 : x1 = y1 <;> by_cases e2 : x2 = y2 <;> by_cases e3 : x3 = y3 <;> by_cases e4 : x4 = y4 <;> simp [e1, e2, e3, e4]
theorem eq_lb89 (x y : Lb) (w : World) : (Op.equalIn 10000 89 (vA (lbC x)) (vA (lbC y))).run Tryz.prog w = .ok (decide (x = y)) w := by
 have h1 : Tryz.prog.underlying 89 = some (.struct (Tryz.prog.fieldsOf 89)) := by unfold Program.fieldsOf; rw [Tryz.underlying89]
 have h2 : Tryz.prog.stoodInHeld 89 = false := by kernel_rfl
 have := run_equalIn_struct w (P := Tryz.prog) 9999 89 ⟨lbC x⟩ ⟨lbC y⟩ h1 h2
 rw [show (Op.equalIn 10000 89 (vA (lbC x)) (vA (lbC y))) = Op.equalIn (9999 + 1) 89 (.agg ⟨lbC x⟩) (.agg ⟨lbC y⟩) from rfl, this]
 have p0 : ∀ (x : Lb), (part 9 ⟨lbC x⟩ 0).run Tryz.prog w = .ok (vS x.name) w := fun x => run_part1 w (Tryz.isAgg9 w) rfl
 have p1 : ∀ (x : Lb), (part 4 ⟨lbC x⟩ 1).run Tryz.prog w = .ok (vB x.data) w := fun x => run_part1 w (Tryz.isAgg4 w) rfl
 have p2 : ∀ (x : Lb), (part 3 ⟨lbC x⟩ 2).run Tryz.prog w = .ok (vI x.off) w := fun x => run_part1 w (Tryz.isAgg3 w) rfl
 simp only [Program.fieldsOf, Tryz.underlying89, Op.eqFields, ne_eq, Sem.run_bind, Sem.run_ite, p0, p1, p2, Result.andThen_ok, run_int3, run_str9, run_bool4, Sem.run_pure]
 obtain ⟨x1, x2, x3⟩ := x
 obtain ⟨y1, y2, y3⟩ := y
 by_cases e1 : x1 = y1 <;> by_cases e2 : x2 = y2 <;> by_cases e3 : x3 = y3 <;> simp [e1, e2, e3]
attribute [local irreducible] IntKind.wrap Tri
theorem rsame_t {h : PHeap} {a1 a2 a3 a4 : OA} {k1 k2 k3 k4 : Nat} {p q : Pg} (i1 : InAt h a1 p.code) (l1 : LbAt h a2 p.labels) (i2 : InAt h a3 q.code) (l2 : LbAt h a4 q.labels) (hn : p.code.length ≤ 1000000) (hm : p.labels.length ≤ 1000000) :
 Tri Tryz.prog 16 [PV a1 k1 a2 k2 p, PV a3 k3 a4 k4 q] h fun v h' => v = vB (decide (p = q)) ∧ h' = h := by
 refine T16 ?_
 unfold R16
 refine br_split (fun e => ?_) fun g1 => br_split (fun e => ?_) fun g2 => br_split (fun e => ?_) fun g3 => br_split (fun e => ?_) fun g4 => br_split (fun e => ?_) fun g5 => ?_
 · exact ⟨by congr 1; symm; apply decide_eq_false; rintro rfl; simp at e, rfl⟩
 · exact ⟨by congr 1; symm; apply decide_eq_false; rintro rfl; simp at e, rfl⟩
 · exact ⟨by congr 1; symm; apply decide_eq_false; rintro rfl; simp at e, rfl⟩
 · exact ⟨by congr 1; symm; apply decide_eq_false; rintro rfl; simp at e, rfl⟩
 · exact ⟨by congr 1; symm; apply decide_eq_false; rintro rfl; simp at e, rfl⟩
 have g1 : p.data = q.data := by simpa using g1
 have g2 : p.zero = q.zero := by simpa using g2
 have g3 : p.entry = q.entry := by simpa using g3
 have g4 : p.code.length = q.code.length := by
  have : (p.code.length : Int) = (q.code.length : Int) := by simpa using g4
  omega
 have g5 : p.labels.length = q.labels.length := by
  have : (p.labels.length : Int) = (q.labels.length : Int) := by simpa using g5
  omega
 refine ⟨fun n i h' => ∃ j : Nat, i = (j : Int) ∧ j + n = p.code.length ∧ h' = h ∧ p.code.take j = q.code.take j, ⟨p.code.length, 0, rfl, by omega, rfl, rfl⟩, ?_⟩
 rintro n _ h3 ⟨j, rfl, hjn, rfl, ht⟩
 refine br_split (fun e => ?_) fun e => ?_
 · have hlt : j < p.code.length := by have := of_decide_eq_true e; omega
   have e1 : p.code[j]? = some p.code[j] := by simp [hlt]
   have hlt2 : j < q.code.length := by omega
   have e2 : q.code[j]? = some q.code[j] := by simp [hlt2]
   have hiff := take_eq_iff e1 e2
   generalize p.code[j] = x at *
   generalize q.code[j] = y at *
   obtain ⟨b1, o1, ha1, r1⟩ := i1.get e1
   obtain ⟨b2, o2, ha2, r2⟩ := i2.get e2
   refine ⟨b1, o1, ha1, ⟨by omega, by omega⟩, _, _, _, _, (by rw [Int.toNat_natCast]; exact r1), b2, o2, ha2, ⟨by omega, by omega⟩, _, _, _, _, (by rw [Int.toNat_natCast]; exact r2), !decide (x = y), pure_neq (xs := insC x) (ys := insC y) rfl rfl (by kernel_rfl) (eq_ins57 x y), br_split (fun c => ?_) fun c => ?_⟩
   · have hxy : x ≠ y := by simpa using c
     exact ⟨by congr 1; symm; apply decide_eq_false; rintro rfl; rw [e1] at e2; injection e2 with e2; exact hxy e2, rfl⟩
   · have hxy : x = y := by simpa using c
     exact ⟨n - 1, by omega, ⟨j + 1, by rw [wrap64 (by omega) (by omega)]; omega, by omega, rfl, hiff.2 ⟨ht, hxy⟩⟩, rfl, rfl, trivial⟩
 have hj : j = p.code.length := by have := of_decide_eq_false e; omega
 subst hj
 rw [List.take_length, g4, List.take_length] at ht
 refine ⟨fun n i h' => ∃ j : Nat, i = (j : Int) ∧ j + n = p.labels.length ∧ h' = h3 ∧ p.labels.take j = q.labels.take j, ⟨p.labels.length, 0, rfl, by omega, rfl, rfl⟩, ?_⟩
 rintro n _ h3 ⟨j, rfl, hjn, rfl, ht2⟩
 refine br_split (fun e => ?_) fun e => ?_
 · have hlt : j < p.labels.length := by have := of_decide_eq_true e; omega
   have e1 : p.labels[j]? = some p.labels[j] := by simp [hlt]
   have hlt2 : j < q.labels.length := by omega
   have e2 : q.labels[j]? = some q.labels[j] := by simp [hlt2]
   have hiff := take_eq_iff e1 e2
   generalize p.labels[j] = x at *
   generalize q.labels[j] = y at *
   obtain ⟨b1, o1, ha1, r1⟩ := l1.get e1
   obtain ⟨b2, o2, ha2, r2⟩ := l2.get e2
   refine ⟨b1, o1, ha1, ⟨by omega, by omega⟩, _, _, _, (by rw [Int.toNat_natCast]; exact r1), b2, o2, ha2, ⟨by omega, by omega⟩, _, _, _, (by rw [Int.toNat_natCast]; exact r2), !decide (x = y), pure_neq (xs := lbC x) (ys := lbC y) rfl rfl (by kernel_rfl) (eq_lb89 x y), br_split (fun c => ?_) fun c => ?_⟩
   · have hxy : x ≠ y := by simpa using c
     exact ⟨by congr 1; symm; apply decide_eq_false; rintro rfl; rw [e1] at e2; injection e2 with e2; exact hxy e2, rfl⟩
   · have hxy : x = y := by simpa using c
     exact ⟨n - 1, by omega, ⟨j + 1, by rw [wrap64 (by omega) (by omega)]; omega, by omega, rfl, hiff.2 ⟨ht2, hxy⟩⟩, rfl, rfl, trivial⟩
 · have hj : j = p.labels.length := by have := of_decide_eq_false e; omega
   subst hj
   rw [List.take_length, g5, List.take_length] at ht2
   refine ⟨?_, rfl⟩
   congr 1; symm; apply decide_eq_true
   obtain ⟨c1, d1, z1, t1, m1⟩ := p
   obtain ⟨c2, d2, z2, t2, m2⟩ := q
   rw [Pg.mk.injEq]
   exact ⟨ht, g1, g2, g3, ht2⟩
theorem PIn.ext {h h' : PHeap} {a1 : OA} {k1 : Nat} {a2 : OA} {k2 : Nat} {p : Pg} (x : Ext h h') (hp : PIn h a1 k1 a2 k2 p) : PIn h' a1 k1 a2 k2 p := ⟨hp.ins.ext x, hp.lbs.ext x, hp.ok, hp.le⟩
end Go.Proofs.D
namespace Go.As
end Go.As
namespace Go.Proofs.D
open Go Go.Den Go.As
set_option maxRecDepth 100000
attribute [local irreducible] IntKind.wrap Tri
theorem und29 : Tryz.prog.underlying 29 = some (.slice 57) := rfl
theorem elem57 : ElemT 57 4 := ⟨_, _, rfl, rfl, rfl, rfl, by decide⟩
theorem LM.ins57 {h0 h : PHeap} {a : OA} {n c : Nat} {L : List Ins} (hM : LM 57 4 h0 h a n c (inL L)) : InAt h a L := by
 by_cases hL : L = []
 · exact .inl hL
 have hn : 0 < n := by
  have := hM.len
  cases L with
  | nil => exact absurd rfl hL
  | cons x L => simp [inL] at this; omega
 obtain ⟨b, rest, h1, h2, _⟩ := hM.open hn
 refine .inr ⟨b, 0, h1, fun j l hj => ?_⟩
 obtain ⟨b', h3, h4⟩ := hM.rowAt (j := j) (cs := insC l) (by simp [inL, hj])
 rw [h1] at h3; injection h3 with h3; injection h3 with h3
 subst h3; exact h4
section
variable {h : PHeap}
theorem of_t {a1 : OA} {k1 : Nat} {a2 : OA} {k2 : Nat} {p : Pg} (hI : InAt h a1 p.code) (hL : LbAt h a2 p.labels) (hn : p.code.length ≤ 1000000) (hls : p.labels.length ≤ 1000000) :
 Tri Tryz.prog 17 [PV a1 k1 a2 k2 p] h fun v h' => Ext h h' ∧ ∃ a3 k3 a4 k4, v = PV a3 k3 a4 k4 p ∧ PgAt h' a3 k3 a4 k4 p := by
 refine T17 ?_
 unfold R17
 refine ⟨fun m i a n k l z e a' n' k' h' => ∃ j : Nat, i = (j : Int) ∧ j + m = p.code.length ∧ n = j ∧ l = p.data ∧ z = p.zero ∧ e = p.entry ∧ a' = none ∧ n' = 0 ∧ k' = 0 ∧ Ext h h' ∧ LM 57 4 h h' a n k (inL (p.code.take j)), ⟨p.code.length, 0, rfl, by omega, rfl, rfl, rfl, rfl, rfl, rfl, rfl, Ext.refl _, LM.nil⟩, ?_⟩
 rintro m _ a j k _ _ _ _ _ _ h1 ⟨_, rfl, hjm, rfl, rfl, rfl, rfl, rfl, rfl, rfl, hx, hM⟩
 refine br_split (fun e => ?_) fun e => ?_
 · have hlt : j < p.code.length := by have := of_decide_eq_true e; omega
   have hg : p.code[j]? = some p.code[j] := by simp [hlt]
   have htk := List.take_append_getElem hlt
   generalize p.code[j] = x at *
   obtain ⟨bb, o, ha, hr⟩ := (hI.ext hx).get hg
   refine ⟨bb, o, ha, ⟨by omega, by omega⟩, _, _, _, _, (by rw [Int.toNat_natCast]; exact hr), ?_⟩
   intro b2 hb2 h2 hh2
   refine Raw.mono (LM.push und29 elem57 rfl rfl rfl rfl rfl hx hM hb2 hh2 rfl rfl (by omega)) ?_
   rintro _ h3 ⟨b3, cap, rfl, x3, hM3, _⟩
   refine ⟨_, _, _, rfl, m - 1, by omega, ⟨j + 1, by rw [wrap64 (by omega) (by omega)]; omega, by omega, rfl, rfl, rfl, rfl, rfl, rfl, rfl, x3, ?_⟩, rfl, rfl, trivial⟩
   rw [← htk]
   unfold inL at hM3 ⊢
   rw [List.map_append]
   exact hM3
 · have hj : j = p.code.length := by have := of_decide_eq_false e; omega
   subst hj
   rw [List.take_length] at hM
   refine ⟨fun m i a' n' k' l z e a'' n'' k'' h' => ∃ j : Nat, i = (j : Int) ∧ j + m = p.labels.length ∧ a' = a ∧ n' = p.code.length ∧ k' = k ∧ l = p.data ∧ z = p.zero ∧ e = p.entry ∧ n'' = j ∧ Ext h1 h' ∧ LM 89 3 h1 h' a'' n'' k'' ((p.labels.take j).map lbC), ⟨p.labels.length, 0, rfl, by omega, rfl, rfl, rfl, rfl, rfl, rfl, rfl, Ext.refl _, LM.nil⟩, ?_⟩
   rintro m _ _ _ _ _ _ _ a'' j k'' h2 ⟨_, rfl, hjm, rfl, rfl, rfl, rfl, rfl, rfl, rfl, hx2, hM2⟩
   refine br_split (fun e => ?_) fun e => ?_
   · have hlt : j < p.labels.length := by have := of_decide_eq_true e; omega
     have hg : p.labels[j]? = some p.labels[j] := by simp [hlt]
     have htk := List.take_append_getElem hlt
     generalize p.labels[j] = l at *
     obtain ⟨bb, o, ha, hr⟩ := (hL.ext (hx.trans hx2)).get hg
     refine ⟨bb, o, ha, ⟨by omega, by omega⟩, _, _, _, (by rw [Int.toNat_natCast]; exact hr), ?_⟩
     intro b2 hb2 h3 hh3
     refine Raw.mono (LM.push und30 elem89 rfl rfl rfl rfl rfl hx2 hM2 hb2 hh3 rfl rfl (by omega)) ?_
     rintro _ h4 ⟨b3, cap, rfl, x4, hM4, _⟩
     refine ⟨_, _, _, rfl, m - 1, by omega, ⟨j + 1, by rw [wrap64 (by omega) (by omega)]; omega, by omega, rfl, rfl, rfl, rfl, rfl, rfl, rfl, x4, ?_⟩, rfl, rfl, trivial⟩
     rw [← htk, List.map_append]
     exact hM4
   · have hj : j = p.labels.length := by have := of_decide_eq_false e; omega
     subst hj
     rw [List.take_length] at hM2
     exact ⟨hx.trans hx2, _, _, _, _, rfl, hM.ins57.ext hx2, hM2.lbs', hM.okN, hM2.okN⟩
end
end Go.Proofs.D
namespace Go.As
theorem split_ten : ∀ (x y : Bytes), (∀ c ∈ x, c ≠ 10) → splitAt10 (x ++ 10 :: y) = x :: splitAt10 y
 | [], y, _ => by rw [List.nil_append, splitAt10, if_pos rfl]
 | c :: x, y, h => by
   rw [List.cons_append, splitAt10, if_neg (h c (List.mem_cons_self ..)), split_ten x y fun d hd => h d (List.mem_cons_of_mem _ hd)]
theorem split_all : ∀ (x : Bytes), (∀ c ∈ x, c ≠ 10) → splitAt10 x = [x]
 | [], _ => rfl
 | c :: x, h => by
   rw [splitAt10, if_neg (h c (List.mem_cons_self ..)), split_all x fun d hd => h d (List.mem_cons_of_mem _ hd)]
def restL (s : Bytes) (k : Nat) : List Bytes := if k ≤ s.length then splitAt10 (s.drop k) else []
theorem rest_next {s : Bytes} {k i : Nat} (hk : k ≤ i) (hi : i ≤ s.length) (hn : ∀ c ∈ (s.drop k).take (i - k), c ≠ 10) (he : i = s.length ∨ s[i]? = some 10) : restL s k = (s.drop k).take (i - k) :: restL s (i + 1) := by
 unfold restL
 rw [if_pos (by omega)]
 by_cases hil : i = s.length
 · subst hil
   have : (s.drop k).take (s.length - k) = s.drop k := List.take_of_length_le (by rw [List.length_drop]; omega)
   rw [this] at hn ⊢
   rw [if_neg (by omega), split_all _ hn]
 · have hc := he.resolve_left hil
   obtain ⟨hlt, hx⟩ := List.getElem?_eq_some_iff.1 hc
   rw [if_pos (by omega)]
   have : s.drop k = (s.drop k).take (i - k) ++ 10 :: s.drop (i + 1) := by
    have h1 : (s.drop k).drop (i - k) = 10 :: s.drop (i + 1) := by
     rw [List.drop_drop, show k + (i - k) = i by omega, List.drop_eq_getElem_cons hlt, hx]
    conv => lhs; rw [← List.take_append_drop (i - k) (s.drop k), h1]
   conv => lhs; rw [this]
   rw [split_ten _ _ hn]
end Go.As
namespace Go.Proofs.D
open Go Go.Den Go.As
set_option maxRecDepth 100000
attribute [local irreducible] IntKind.wrap Tri
section
variable {h : PHeap}
theorem rsm_of {a : As.St} (hL : Lim a) : RSm (rst a) := by
 have h4 := hL.uses
 have h1 := hL.code
 have h2 := hL.data
 have h3 := hL.labels
 have : a.hasEntry.toNat ≤ 1 := by cases a.hasEntry <;> decide
 refine ⟨h1, h2, ?_, ?_⟩
 · show (sortL a.p.labels).length ≤ 1024
   rw [sort_len]; exact h3
 · show a.uses.length ≤ 1000000
   omega
theorem off_of {a : As.St} (hV : As.Inv a) : OffOk (rst a).p := fun l hl => hV.labs l ((sort_perm a.p.labels).mem_iff.1 hl)
def RAsmP (h : PHeap) (r : Except (Nat × Nat) Pg) (v : Value) (h' : PHeap) : Prop := Ext h h' ∧ ∃ a1 k1 a2 k2, v = vT [PV a1 k1 a2 k2 (progOf r), vI (lineOf r : Int), vI (errOf r : Int)] ∧ InAt h' a1 (progOf r).code ∧ LbAt h' a2 (progOf r).labels
theorem RAsmP.err {l e : Nat} {h' : PHeap} (x : Ext h h') : RAsmP h (.error (l, e)) (vT [vA [vL none 0 0, vS [], vI 0, vI 0, vL none 0 0], vI (l : Int), vI (e : Int)]) h' :=
 ⟨x, none, 0, none, 0, rfl, .inl rfl, .inl rfl⟩
theorem rasm_t (s : Bytes) : Tri Tryz.prog 14 [vS s] h fun v h' => RAsmP h (assembleS s) v h' := by
 refine T14 ?_
 unfold R14
 refine br_split (fun e => ?_) fun e => ?_
 · have e := of_decide_eq_true e
   rw [assemble_pass, if_pos (by omega)]
   exact RAsmP.err (Ext.refl _)
 have hs : s.length ≤ 65536 := by have := of_decide_eq_false e; omega
 have hpass : assembleS s = match linesS As.st0 (restL s 0) with
  | .error e => .error e
  | .ok a => passS a := by
  rw [assemble_pass, if_neg (by omega)]
  have : restL s 0 = splitAt10 s := by unfold restL; rw [if_pos (Nat.zero_le _), List.drop_zero]
  first
  | (rw [this]; done)
  | (rw [this]; rfl)
 refine ⟨fun m i1 i2 _ _ _ _ _ _ _ _ _ a3 n3 k3 l3 i5 i6 a4 n4 k4 c1 c2 c3 a5 n5 k5 i7 h' => ∃ (k i : Nat) (b : As.St), i1 = (k : Int) ∧ i2 = (i : Int) ∧ i + m = s.length + 1 ∧ k ≤ i ∧ (∀ c ∈ (s.drop k).take (i - k), c ≠ 10) ∧ (i = s.length + 1 → k = i) ∧ Ext h h' ∧ n3 = (rst b).p.code.length ∧ l3 = (rst b).p.data ∧ i5 = (rst b).p.zero ∧ i6 = (rst b).p.entry ∧ n4 = (rst b).p.labels.length ∧ c1 = (rst b).inData ∧ c2 = (rst b).hasEntry ∧ c3 = (rst b).hasZero ∧ n5 = (rst b).uses.length ∧ i7 = ((rst b).line : Int) ∧ RA h' (rst b) a3 k3 a4 k4 a5 k5 ∧ Lim b ∧ As.Inv b ∧ b.line ≤ k + 1 ∧ linesS As.st0 (restL s 0) = linesS b (restL s k),
  ⟨s.length + 1, 0, 0, As.st0, rfl, rfl, by omega, Nat.le_refl _, by simp, by omega, Ext.refl _, rfl, rfl, rfl, rfl, rfl, rfl, rfl, rfl, rfl, rfl, ⟨.inl rfl, .inl rfl, .inl rfl, .inr ⟨rfl, rfl, rfl⟩, .inr ⟨rfl, rfl, rfl⟩, .inr ⟨rfl, rfl, rfl⟩, Nat.le_refl _⟩, lim0, inv0, by decide, rfl⟩, ?_⟩
 rintro m _ _ z1 z2 z3 z4 z5 z6 z7 z8 z9 a3 _ k3 _ _ _ a4 _ k4 _ _ _ a5 _ k5 _ h1 ⟨k, i, b, rfl, rfl, him, hki, hno, hend, x1, rfl, rfl, rfl, rfl, rfl, rfl, rfl, rfl, rfl, rfl, hA, hLim, hInv, hline, hres⟩
 have hw : ∀ i : Nat, i ≤ 65537 → IntKind.i64.wrap ((i : Int) + 1) = ((i + 1 : Nat) : Int) := fun i hi => by rw [wrap64 (by omega) (by omega)]; omega
 have LN : i ≤ s.length → (i = s.length ∨ s[i]? = some 10) → _ := fun (hi : i ≤ s.length) (he : i = s.length ∨ s[i]? = some 10) => (by
  have hrest := rest_next hki hi hno he
  rw [hrest, linesS] at hres
  have hll : ((s.drop k).take (i - k)).length ≤ 65536 := by rw [List.length_take, List.length_drop]; omega
  rw [Int.toNat_natCast, Int.toNat_natCast, hw i (by omega)]
  generalize (s.drop k).take (i - k) = l at *
  refine Tri.mono (one_t (s := l) hA (rsm_of hLim) (off_of hInv) hll) ?_
  rintro v h2 hr
  rw [line_rst] at hr
  cases hl : lineS b l with
  | error e =>
    rw [hl] at hr hres
    obtain ⟨x2, hne, b1, n1, j1, l1, i1, i2, b2, n2, j2, c1, c2, c3, b3, n3, j3, i3, rfl⟩ := hr
    refine ⟨_, _, _, _, _, _, _, _, _, _, _, _, _, _, _, _, _, rfl, br_pos (by simp; omega) ⟨rfl, ?_⟩⟩
    rw [hpass, hres]
    exact RAsmP.err (x1.trans x2)
  | ok b' =>
    rw [hl] at hr hres
    obtain ⟨x2, a1', k1', a2', k2', a3', k3', rfl, hA'⟩ := hr
    obtain ⟨q1, q2⟩ := line_lim hLim hll hl
    have q3 := line_inv hLim hInv hll hl
    have hw7 : IntKind.i64.wrap (((rst b').line : Int) + 1) = ((b.line + 1 : Nat) : Int) := by
     show IntKind.i64.wrap ((b'.line : Int) + 1) = _
     rw [q2]; exact hw _ (by omega)
    refine ⟨_, _, _, _, _, _, _, _, _, _, _, _, _, _, _, _, _, rfl, br_neg rfl ⟨m - 1, by omega, ⟨i + 1, i + 1, { b' with line := b.line + 1 }, rfl, rfl, by omega, Nat.le_refl _, by simp, fun _ => rfl, x1.trans x2, rfl, rfl, rfl, rfl, rfl, rfl, rfl, rfl, rfl, hw7, ⟨hA'.ins, hA'.lbs, hA'.uss, hA'.ok1, hA'.ok2, hA'.ok3, hA'.le2⟩, ⟨q1.code, q1.data, q1.labels, q1.uses⟩, ⟨q3.uses, q3.labs, q3.nd, q3.ent⟩, by show b.line + 1 ≤ _; omega, hres⟩, trivial⟩⟩ :
   Tri Tryz.prog 42 [vA (RAl (rst b) a3 k3 a4 k4 a5 k5), vS ((s.drop ((k : Nat) : Int).toNat).take (((i : Nat) : Int).toNat - ((k : Nat) : Int).toNat))] h1 fun v_3 h_4 =>
   ∃ (a12 : OA) (n12 k12 : Nat) (l6 : Bs) (i16 i17 : Int) (a13 : OA) (n13 k13 : Nat) (c11 c12 c13 : Bool) (a14 : OA) (n14 k14 : Nat) (i18 i19 : Int), v_3 = vT [vA [vL a12 n12 k12, vS l6, vI i16, vI i17, vL a13 n13 k13, vB c11, vB c12, vB c13, vL a14 n14 k14, vI i18], vI i19] ∧
   br (i19 != 0)
   ((tv [vI ((rst b).line : Int)]) ∧
   RAsmP h (assembleS s) (vT [vA [vL none 0 0, vS [], vI 0, vI 0, vL none 0 0], vI ((rst b).line : Int), vI i19]) h_4)
   (∃ (m6 : Nat), m6 < m ∧ (∃ (k' i' : Nat) (b' : As.St), (IntKind.i64.wrap ((i : Int) + 1)) = (k' : Int) ∧ (IntKind.i64.wrap ((i : Int) + 1)) = (i' : Int) ∧ i' + m6 = s.length + 1 ∧ k' ≤ i' ∧ (∀ c ∈ (s.drop k').take (i' - k'), c ≠ 10) ∧ (i' = s.length + 1 → k' = i') ∧ Ext h h_4 ∧ n12 = (rst b').p.code.length ∧ l6 = (rst b').p.data ∧ i16 = (rst b').p.zero ∧ i17 = (rst b').p.entry ∧ n13 = (rst b').p.labels.length ∧ c11 = (rst b').inData ∧ c12 = (rst b').hasEntry ∧ c13 = (rst b').hasZero ∧ n14 = (rst b').uses.length ∧ IntKind.i64.wrap (i18 + 1) = ((rst b').line : Int) ∧ RA h_4 (rst b') a12 k12 a13 k13 a14 k14 ∧ Lim b' ∧ As.Inv b' ∧ b'.line ≤ k' + 1 ∧ linesS As.st0 (restL s 0) = linesS b' (restL s k')) ∧ True))
 refine br_split (fun e1 => br_split (fun e2 => ?_) fun e2 => ?_) fun e1 => ?_
 · have hlt : i < s.length := by have := of_decide_eq_true e2; omega
   have hg : s[i]? = some s[i] := by simp [hlt]
   have htk : (s.drop k).take (i + 1 - k) = (s.drop k).take (i - k) ++ [s[i]] := by
    rw [show i + 1 - k = i - k + 1 by omega, List.take_add_one, List.getElem?_drop, show k + (i - k) = i by omega, hg]; rfl
   generalize s[i] = c at *
   refine ⟨by omega, c, by rw [Int.toNat_natCast]; exact hg, br_split (fun e3 => ?_) fun e3 => ⟨⟨by omega, by omega, by omega⟩, LN (by omega) (.inr ?_), rfl, LN (by omega) (.inr ?_)⟩⟩
   · have hc : c ≠ 10 := fun e => by subst e; simp at e3
     refine ⟨m - 1, by omega, ⟨k, i + 1, b, rfl, hw i (by omega), by omega, by omega, fun d hd => ?_, fun h => by omega, x1, rfl, rfl, rfl, rfl, rfl, rfl, rfl, rfl, rfl, rfl, hA, hLim, hInv, hline, hres⟩, trivial⟩
     rw [htk] at hd
     rcases List.mem_append.1 hd with hd | hd
     · exact hno d hd
     · simp at hd; subst hd; exact hc
   · have hc : c = 10 := Decidable.byContradiction fun hc => by
      have : ((c.toNat : Int) != 10) = true := by
       simp only [bne_iff_ne, ne_eq]
       intro e
       exact hc (UInt8.toNat_inj.1 (by show c.toNat = 10; omega))
      rw [this] at e3; cases e3
     rw [← hc]; exact hg
   · have hc : c = 10 := Decidable.byContradiction fun hc => by
      have : ((c.toNat : Int) != 10) = true := by
       simp only [bne_iff_ne, ne_eq]
       intro e
       exact hc (UInt8.toNat_inj.1 (by show c.toNat = 10; omega))
      rw [this] at e3; cases e3
     rw [← hc]; exact hg
 · have hi : i = s.length := by
    have := of_decide_eq_true e1
    have := of_decide_eq_false e2
    omega
   exact ⟨⟨by omega, by omega, by omega⟩, LN (by omega) (.inl hi), rfl, LN (by omega) (.inl hi)⟩
 · have hi : i = s.length + 1 := by have := of_decide_eq_false e1; omega
   have hk := hend hi
   clear LN
   have hr0 : restL s k = [] := by unfold restL; rw [if_neg (by omega)]
   rw [hr0, linesS] at hres
   have hfin : assembleS s = passS b := by rw [hpass, hres]
   have hb := rsm_of hLim
   have hrs := resolve_srt b.uses b.p hInv.nd
   refine Tri.mono (resolve_t (p := (rst b).p) (us := b.uses) hA.ins hA.lbs hA.uss hA.ok1 hb.code hb.data hb.labels hb.uses (off_of hInv) (fun u hu => UseOk.mono (p := b.p) (Nat.le_refl _) (Nat.le_refl _) (hInv.uses u hu)) hInv.ent) ?_
   rintro v h2 hr
   have hrs : resolveS (rst b).p b.uses = (resolveS b.p b.uses).map srt := hrs
   rw [hrs] at hr
   cases hp : resolveS b.p b.uses with
   | error le =>
     obtain ⟨l, e⟩ := le
     rw [hp] at hr
     obtain ⟨x2, hne, b1, n1, j1, d, i1, i2, b2, n2, j2, rfl⟩ := hr
     refine ⟨_, _, _, _, _, _, _, _, _, _, _, rfl, br_pos (by simp; omega) ?_⟩
     rw [hfin]
     unfold passS
     rw [hp]
     exact RAsmP.err (x1.trans x2)
   | ok q =>
     rw [hp] at hr
     obtain ⟨x2, b1, j1, b2, j2, rfl, hI, hL, s1, s2, s3⟩ := hr
     have hfq : assembleS s = if checkP (srt q) ≠ 0 then .error (0, checkP (srt q)) else .ok (srt q) := by
      rw [hfin]
      unfold passS
      rw [hp]
      rfl
     refine ⟨_, _, _, _, _, _, _, _, _, _, _, rfl, br_neg rfl ?_⟩
     refine Tri.mono (rcheckP_t (p := srt q) (k1 := j1) (k2 := j2) hI hL (by omega) (by omega) (by omega)) ?_
     rintro _ h3 ⟨rfl, rfl⟩
     refine ⟨_, rfl, br_split (fun e3 => ?_) fun e3 => ?_⟩
     · have e3 : checkP (srt q) ≠ 0 := by simpa using e3
       rw [hfq, if_pos e3]
       exact RAsmP.err (x1.trans x2)
     · have e3 : checkP (srt q) = 0 := by simpa using e3
       rw [hfq, if_neg (by rw [e3]; decide)]
       exact ⟨x1.trans x2, b1, j1, b2, j2, rfl, hI, hL⟩
theorem assembles_tri {h : PHeap} (hO : OpTab h) (hM : MaxLen h) (l1 : Bs) : Tri Tryz.prog 3 [vS l1] h fun v h' => v = vB true ∧ ∀ k o, h k = some o → h' k = some o := by
 refine T3 ?_
 unfold R3
 refine ⟨if 1500 < (l1.length : Int) then 1500 else (l1.length : Int), pureVal_run _ (by kernel_rfl), ⟨by omega, by split <;> omega, by split <;> omega⟩, ?_⟩
 generalize (l1.drop 0).take ((if 1500 < (l1.length : Int) then 1500 else (l1.length : Int)).toNat - 0) = s
 refine Tri.mono (asm_t s hO hM) ?_
 intro v h1 hr
 obtain ⟨x1, a1, k1, a2, k2, rfl, hp1⟩ := hr.get
 refine ⟨_, _, _, _, _, _, _, _, _, _, _, rfl, ?_⟩
 refine Tri.mono (rasm_t s) ?_
 rintro v h2 ⟨x2, b1, j1, b2, j2, rfl, hI, hL⟩
 have x12 := x1.trans x2
 refine ⟨_, _, _, _, _, _, _, _, _, _, _, rfl, ?_⟩
 refine Tri.mono (known_t (hO.ext x12) (hM.ext x12)) ?_
 rintro _ h3 ⟨rfl, x3⟩
 obtain ⟨s1, s2, s3⟩ := asm_small s
 refine ⟨_, rfl, br_pos rfl (br_pos (by simp) (br_pos (by simp) ?_))⟩
 refine Tri.mono (of_t (k1 := k1) (k2 := k2) (hp1.ins.ext (x2.trans x3)) (hp1.lbs.ext (x2.trans x3)) (by omega) (by omega)) ?_
 rintro v h4 ⟨x4, a5, k5, a6, k6, rfl, hG⟩
 refine ⟨_, _, _, _, _, _, _, _, _, rfl, rfl, ?_⟩
 refine Tri.mono (rsame_t (k1 := k5) (k2 := k6) (k3 := j1) (k4 := j2) hG.ins hG.lbs (hI.ext (x3.trans x4)) (hL.ext (x3.trans x4)) (by omega) (by omega)) ?_
 rintro _ h5 ⟨rfl, rfl⟩
 exact ⟨_, rfl, by simp, (x12.trans x3).trans x4⟩
end
end Go.Proofs.D
