/- Part 3 of the proof: lemmas on an abstract reading of the machine, and the functions that the law reaches. -/
import Derived.Shelf.SlIter.Nil
import Derived.Shelf.SortM.Plain
import Derived.Shelf.SortM.SortNone
import Derived.Shelf.SlMaps.Clone
import Derived.Ground.GgzProg
import Derived.Ground.SlgmProg
import Derived.Ground.SlmcProg
import Derived.Test.YtbglgpplnapceaaProg
import Derived.WalkKit
import Derived.ProofKit
import Derived.OpenShut
import Derived.ShutString
import Derived.ChangeOld
import Derived.Below
import Derived.SizedLaws
import Derived.Carry
import Derived.Test.YtbglgpplnapceaaA2
/- The library's contracts at this program, laid in plain words. -/
namespace Go.Proofs
open Go.Shelf
def Try.keys74_ren : Go.Shelf.Ren := ⟨fun | 7 => 74 | 10 => 126 | n => n, fun | 23 => 123 | 26 => 9 | 3 => 9 | 28 => 137 | 0 => 0 | 27 => 136 | 33 => 208 | 4 => 4 | n => n, fun | n => n⟩
theorem Try.keys74 : Go.Proofs.SlLaysZ.n7 Try.prog Try.keys74_ren := {
  mixed := by kernel_rfl
  f7 := ⟨Try.f74.name, by decide, Try.func74.trans (congrArg some (by kernel_rfl))⟩
  f10 := ⟨Try.f126.name, by decide, Try.func126.trans (congrArg some (by kernel_rfl))⟩
  t0 := Try.underlying0
  a0 := Try.isAgg0
  z0 := Try.sizeOf0
  v0 := Try.zeroValue0
  t4 := Try.underlying4
  a4 := Try.isAgg4
  z4 := Try.sizeOf4
  v4 := Try.zeroValue4
  t23 := Try.underlying123
  a23 := Try.isAgg123
  z23 := Try.sizeOf123
  v23 := Try.zeroValue123
  t26 := Try.underlying9
  a26 := Try.isAgg9
  z26 := Try.sizeOf9
  v26 := Try.zeroValue9
  t27 := Try.underlying136
  a27 := Try.isAgg136
  z27 := Try.sizeOf136
  v27 := Try.zeroValue136
  t28 := Try.underlying137
  a28 := Try.isAgg137
  z28 := Try.sizeOf137
  v28 := Try.zeroValue137
  t33 := Try.underlying208
  a33 := Try.isAgg208
  z33 := Try.sizeOf208
  v33 := Try.zeroValue208 }
def Try.sorted73_ren : Go.Shelf.Ren := ⟨fun | 6 => 73 | 8 => 124 | 9 => 125 | 11 => 156 | 13 => 144 | 12 => 157 | 23 => 177 | 24 => 178 | 14 => 182 | 15 => 183 | 16 => 184 | 17 => 185 | 18 => 186 | 19 => 187 | 20 => 188 | 21 => 189 | 22 => 190 | 25 => 205 | 26 => 197 | 27 => 198 | 28 => 206 | 29 => 207 | 30 => 208 | 31 => 211 | n => n, fun | 26 => 9 | 28 => 137 | 24 => 35 | 0 => 0 | 3 => 3 | 37 => 213 | 48 => 274 | 50 => 148 | 4 => 4 | 40 => 267 | 39 => 266 | 45 => 256 | 5 => 5 | 9 => 9 | 51 => 286 | 55 => 290 | 57 => 297 | 58 => 298 | 33 => 208 | n => n, fun | n => n⟩
theorem Try.sorted73 : Go.Proofs.SlLaysZ.n6 Try.prog Try.sorted73_ren := {
  mixed := by kernel_rfl
  f6 := ⟨Try.f73.name, by decide, Try.func73.trans (congrArg some (by kernel_rfl))⟩
  f8 := ⟨Try.f124.name, by decide, Try.func124.trans (congrArg some (by kernel_rfl))⟩
  f11 := ⟨Try.f156.name, by decide, Try.func156.trans (congrArg some (by kernel_rfl))⟩
  t0 := Try.underlying0
  a0 := Try.isAgg0
  z0 := Try.sizeOf0
  v0 := Try.zeroValue0
  t24 := Try.underlying35
  a24 := Try.isAgg35
  z24 := Try.sizeOf35
  v24 := Try.zeroValue35
  t26 := Try.underlying9
  a26 := Try.isAgg9
  z26 := Try.sizeOf9
  v26 := Try.zeroValue9
  t28 := Try.underlying137
  a28 := Try.isAgg137
  z28 := Try.sizeOf137
  v28 := Try.zeroValue137
  i26 := by kernel_rfl }
def Try.sort125_ren : Go.Shelf.Ren := ⟨fun | 6 => 125 | 8 => 144 | 9 => 157 | 19 => 177 | 20 => 178 | 21 => 182 | 22 => 183 | 23 => 184 | 24 => 185 | 25 => 186 | 26 => 187 | 27 => 188 | 28 => 189 | 29 => 190 | 36 => 205 | 31 => 197 | 32 => 198 | 37 => 206 | 38 => 207 | 39 => 208 | 41 => 211 | n => n, fun | 27 => 35 | 29 => 9 | 3 => 3 | 32 => 213 | 26 => 35 | 0 => 0 | 44 => 274 | 46 => 148 | 4 => 4 | 36 => 267 | 35 => 266 | 41 => 256 | 5 => 5 | 9 => 9 | 53 => 286 | 57 => 290 | 63 => 297 | 64 => 298 | n => n, fun | n => n⟩
theorem Try.sort125 : Go.Proofs.SlLaysM.n6 Try.prog Try.sort125_ren := {
  mixed := by kernel_rfl
  f6 := ⟨Try.f125.name, by decide, Try.func125.trans (congrArg some (by kernel_rfl))⟩
  f8 := Try.func144.trans (congrArg some (by kernel_rfl))
  f9 := ⟨Try.f157.name, by decide, Try.func157.trans (congrArg some (by kernel_rfl))⟩
  f19 := Try.func177.trans (congrArg some (by kernel_rfl))
  f20 := Try.func178.trans (congrArg some (by kernel_rfl))
  f21 := ⟨Try.f182.name, by decide, Try.func182.trans (congrArg some (by kernel_rfl))⟩
  f22 := ⟨Try.f183.name, by decide, Try.func183.trans (congrArg some (by kernel_rfl))⟩
  f23 := ⟨Try.f184.name, by decide, Try.func184.trans (congrArg some (by kernel_rfl))⟩
  f24 := ⟨Try.f185.name, by decide, Try.func185.trans (congrArg some (by kernel_rfl))⟩
  f25 := ⟨Try.f186.name, by decide, Try.func186.trans (congrArg some (by kernel_rfl))⟩
  f26 := ⟨Try.f187.name, by decide, Try.func187.trans (congrArg some (by kernel_rfl))⟩
  f27 := ⟨Try.f188.name, by decide, Try.func188.trans (congrArg some (by kernel_rfl))⟩
  f28 := ⟨Try.f189.name, by decide, Try.func189.trans (congrArg some (by kernel_rfl))⟩
  f29 := ⟨Try.f190.name, by decide, Try.func190.trans (congrArg some (by kernel_rfl))⟩
  f31 := Try.func197.trans (congrArg some (by kernel_rfl))
  f32 := Try.func198.trans (congrArg some (by kernel_rfl))
  f36 := ⟨Try.f205.name, by decide, Try.func205.trans (congrArg some (by kernel_rfl))⟩
  f37 := ⟨Try.f206.name, by decide, Try.func206.trans (congrArg some (by kernel_rfl))⟩
  f38 := ⟨Try.f207.name, by decide, Try.func207.trans (congrArg some (by kernel_rfl))⟩
  f39 := ⟨Try.f208.name, by decide, Try.func208.trans (congrArg some (by kernel_rfl))⟩
  f41 := ⟨Try.f211.name, by decide, Try.func211.trans (congrArg some (by kernel_rfl))⟩
  t0 := Try.underlying0
  a0 := Try.isAgg0
  z0 := Try.sizeOf0
  v0 := Try.zeroValue0
  t3 := Try.underlying3
  a3 := Try.isAgg3
  z3 := Try.sizeOf3
  v3 := Try.zeroValue3
  t4 := Try.underlying4
  a4 := Try.isAgg4
  z4 := Try.sizeOf4
  v4 := Try.zeroValue4
  t5 := Try.underlying5
  a5 := Try.isAgg5
  z5 := Try.sizeOf5
  v5 := Try.zeroValue5
  t9 := Try.underlying9
  a9 := Try.isAgg9
  z9 := Try.sizeOf9
  v9 := Try.zeroValue9
  t26 := Try.underlying35
  a26 := Try.isAgg35
  z26 := Try.sizeOf35
  v26 := Try.zeroValue35
  t27 := Try.underlying35
  a27 := Try.isAgg35
  z27 := Try.sizeOf35
  v27 := Try.zeroValue35
  t29 := Try.underlying9
  a29 := Try.isAgg9
  z29 := Try.sizeOf9
  v29 := Try.zeroValue9
  t32 := Try.underlying213
  a32 := Try.isAgg213
  z32 := Try.sizeOf213
  v32 := Try.zeroValue213
  t35 := Try.underlying266
  a35 := Try.isAgg266
  z35 := Try.sizeOf266
  v35 := Try.zeroValue266
  t36 := Try.underlying267
  a36 := Try.isAgg267
  z36 := Try.sizeOf267
  v36 := Try.zeroValue267
  t41 := Try.underlying256
  a41 := Try.isAgg256
  z41 := Try.sizeOf256
  v41 := Try.zeroValue256
  t44 := Try.underlying274
  a44 := Try.isAgg274
  z44 := Try.sizeOf274
  v44 := Try.zeroValue274
  t46 := Try.underlying148
  a46 := Try.isAgg148
  z46 := Try.sizeOf148
  v46 := Try.zeroValue148
  t53 := Try.underlying286
  a53 := Try.isAgg286
  z53 := Try.sizeOf286
  v53 := Try.zeroValue286
  t57 := Try.underlying290
  a57 := Try.isAgg290
  z57 := Try.sizeOf290
  v57 := Try.zeroValue290
  t63 := Try.underlying297
  a63 := Try.isAgg297
  z63 := Try.sizeOf297
  v63 := Try.zeroValue297
  t64 := Try.underlying298
  a64 := Try.isAgg298
  z64 := Try.sizeOf298
  v64 := Try.zeroValue298 }
def Try.clone68_ren : Go.Shelf.Ren := ⟨fun | 5 => 68 | 7 => 121 | n => n, fun | 23 => 123 | 25 => 9 | 3 => 9 | 4 => 4 | 20 => 20 | n => n, fun | n => n⟩
theorem Try.clone68 : Go.Proofs.SlLaysW.n5 Try.prog Try.clone68_ren := {
  mixed := by kernel_rfl
  f5 := ⟨Try.f68.name, by decide, Try.func68.trans (congrArg some (by kernel_rfl))⟩
  f7 := Try.func121.trans (congrArg some (by kernel_rfl))
  t4 := Try.underlying4
  a4 := Try.isAgg4
  z4 := Try.sizeOf4
  v4 := Try.zeroValue4
  t20 := Try.underlying20
  a20 := Try.isAgg20
  z20 := Try.sizeOf20
  v20 := Try.zeroValue20
  t23 := Try.underlying123
  a23 := Try.isAgg123
  z23 := Try.sizeOf123
  v23 := Try.zeroValue123 }
end Go.Proofs

/-
  DERIVED. MADE BY PROGRAM (lay-iter.mjs) off first.gsa: THE SHELF's CONTRACTS ON 'slices.Sorted(maps.Keys(m))' LAID AT THIS DUMP: 1 map type. NO WALK OF THE LIBRARY's TEXT: each is one application of a contract over any P and ρ (Derived/Shelf/SlIter/, Derived/Shelf/SortM/).
-/
namespace Go.Proofs
open Go.RowKit Go.Maps Go.Sort Go.Shelf

-- maps.Keys[sorites/disk.files,string,string] (function 74; its iterator 126) · slices.Sorted[string] (73) · slices.Sort[[]string,string] (125) · the map's type 123, the keys' 9

/-- slices.Sort's two contracts at this dump, at the fence that asks nothing. -/
theorem Try.sorts73 (m : Nat) : AnyZ.SortsIn Try.prog Try.sorted73_ren Fence.wide m :=
  ⟨fun blk off cap ss W hH hblk hsz => callsIn_wide.2 (AnyM.slices_Sort_string Try.sort125 blk off cap ss W hH hblk hsz),
   fun p cap W => callsIn_wide.2 (AnyM.slices_Sort_string_none Try.sort125 p cap W)⟩

/-- **maps.Keys[sorites/disk.files,string,string], at whatever map, the nil one too:** a function value over ONE NEW BLOCK, which holds the map. -/
theorem Try.maps_Keys_74 (mb : Option Nat) (W : World) : CallsIn Fence.wide 5 Try.prog 74 #[.map mb] W fun e w' => e = .returned (.func (.func 126) #[] #[.pointer (some ⟨W.heap.size, 0, none⟩)]) ∧ w' = W.alloc (.cells #[.map mb] 123) :=
  AnyZ.keys_in Try.keys74 Fence.wide 5 trivial rfl mb W

set_option maxHeartbeats 1000000 in
/-- **slices.Sorted[string] AT WHAT maps.Keys[sorites/disk.files,string,string] HANDED BACK FOR A MAP THAT IS NOT nil** ('w': the world AHEAD of maps.Keys' call): A NEW SLICE THAT HOLDS THE MAP's KEYS, SORTED; nil just where it has none; nothing that lay before has turned. -/
theorem Try.slices_Sorted_keys_73_74 {H : Type} (b nn : Nat) (D0 : DataW H) (R : Value → Option (DataW H × List MemPlace)) (w : World) (hown : w.ownsMap Try.prog 9 R b nn D0) (hmax : Maps.size D0 ≤ maxLen) (hbytes : Maps.size D0 * 16 ≤ 140737488355328) :
    CallsIn Fence.wide 5 Try.prog 73 #[.func (.func 126) #[] #[.pointer (some ⟨w.heap.size, 0, none⟩)]] (w.alloc (.cells #[.map (some b)] 123)) fun e w' => ∃ (v : Value) (ss : List (List UInt8)), e = .returned v ∧ ss.Perm (strKeys D0) ∧
      w'.ownsRow (w.alloc (.cells #[.map (some b)] 123)).heap.size 9 1 v ss.length ((ss.mergeSort (fun x y => decide (x ≤ y))).map encStr) ∧ (v = .slice none 0 0 ↔ ss = []) ∧ Below (w.alloc (.cells #[.map (some b)] 123)).heap.size (w.alloc (.cells #[.map (some b)] 123)) w' := by
  have hbl := hown.lt
  have hseq : SeqGives Fence.wide 2 Try.prog 126 #[.pointer (some ⟨w.heap.size, 0, none⟩)] encStr (fun ss => ss.Perm (strKeys D0)) (Maps.size D0) (w.alloc (.cells #[.map (some b)] 123)) :=
    AnyZ.keys_gives (ρ := Try.keys74_ren) { Try.keys74 with } Fence.wide _ trivial rfl (by omega) w.heap.size b nn D0 _ (by simp) (by simp) (by
      obtain ⟨es, clock, hb, Ft, hs, hD⟩ := hown
      exact ⟨es, clock, (Below.heap_alloc _ _ b hbl).trans hb, Ft, hs, hD⟩)
  exact AnyZ.sorted_in Try.sorted73 Fence.wide 5 trivial trivial trivial trivial rfl (by omega) (Try.sorts73 _) (enters_of Try.func125 (by kernel_rfl) rfl) 126 #[.pointer (some ⟨w.heap.size, 0, none⟩)] trivial (enters_of Try.func126 (by kernel_rfl) rfl) _ _ hmax hbytes _ hseq

set_option maxHeartbeats 1000000 in
/-- **.. AND FOR THE nil MAP: nil.** -/
theorem Try.slices_Sorted_keys_nil_73_74 (w : World) :
    CallsIn Fence.wide 5 Try.prog 73 #[.func (.func 126) #[] #[.pointer (some ⟨w.heap.size, 0, none⟩)]] (w.alloc (.cells #[.map none] 123)) fun e w' => ∃ (v : Value) (ss : List (List UInt8)), e = .returned v ∧ ss = [] ∧
      w'.ownsRow (w.alloc (.cells #[.map none] 123)).heap.size 9 1 v ss.length ((ss.mergeSort (fun x y => decide (x ≤ y))).map encStr) ∧ (v = .slice none 0 0 ↔ ss = []) ∧ Below (w.alloc (.cells #[.map none] 123)).heap.size (w.alloc (.cells #[.map none] 123)) w' := by
  have hseq : SeqGives Fence.wide 2 Try.prog 126 #[.pointer (some ⟨w.heap.size, 0, none⟩)] encStr (fun ss : List (List UInt8) => ss = []) 0 (w.alloc (.cells #[.map none] 123)) :=
    AnyZ.keys_gives_nil (ρ := Try.keys74_ren) { Try.keys74 with } Fence.wide _ trivial rfl w.heap.size _ (by simp) (by simp)
  exact AnyZ.sorted_in Try.sorted73 Fence.wide 5 trivial trivial trivial trivial rfl (by omega) (Try.sorts73 _) (enters_of Try.func125 (by kernel_rfl) rfl) 126 #[.pointer (some ⟨w.heap.size, 0, none⟩)] trivial (enters_of Try.func126 (by kernel_rfl) rfl) _ 0 (Nat.zero_le _) (by omega) _ hseq

-- THE CALLER's WALK over 'slices.Sorted(maps.Keys(m))' (inside '(callsIn_wide (n := 6)).1'; 'have hfK : Fence.wide.fn 74 := trivial', 'have hfS : Fence.wide.fn 73 := trivial' ahead): THE TWO ARMS TO PASTE:
--   gi_wp2_with (first
--     | (gi_at_call 74; refine (Try.maps_Keys_74 _ _).mono ?_; rintro e w' ⟨rfl, rfl⟩)
--     | (gi_at_call 73; refine (Try.slices_Sorted_keys_73_74 b nn D0 R w hown hmax hbytes).mono ?_; rintro e w' ⟨v, ss, rfl, hS, hrow, hnil, hb⟩))


end Go.Proofs

/- A map's keys, sorted: the library's contract, read abstractly. -/
set_option linter.unusedVariables false
set_option linter.unusedSimpArgs false
namespace Go.Am
open Go.RowKit Go.Maps

def addO (h : FHeap) : Option (Nat × Obj) → FHeap
  | none => h
  | some (g, ob) => h.add g ob

/-- A library's call that leaves all that lay before, and lays one block that never turns. -/
theorem ret_frozen {e : Env} {G : List AObj} {w w' : World} (hl : e.lb = []) (H : HRel e [] G w) (B : Below w.heap.size w w') (o : Option (Nat × Obj))
    (ho : ∀ g ob, o = some (g, ob) → w.heap.size ≤ g ∧ w'.heap[g]? = some ob) :
    ∃ e' : Env, e'.lb = [] ∧ HRel e' [] G w' ∧ Evo e [] G w e' [] G w' ∧ (∀ g ob, o = some (g, ob) → e'.h g = some ob) := by
  let h' : FHeap := addO e.h o
  let e' : Env := ⟨h', [], e.gb⟩
  have hle : e.h.le h' := fun b ob hb => by
    have hlt := H.hin.lt hb
    cases o with
    | none => exact hb
    | some x =>
      obtain ⟨g, ob'⟩ := x
      have := (ho g ob' rfl).1
      simp only [h', addO, FHeap.add]
      rw [if_neg (by omega)]; exact hb
  have hsame : ∀ b, b < w.heap.size → h' b = e.h b := fun b hb => by
    cases o with
    | none => rfl
    | some x =>
      obtain ⟨g, ob'⟩ := x
      have := (ho g ob' rfl).1
      simp only [h', addO, FHeap.add]
      rw [if_neg (by omega)]
  have hblk : ∀ p, e'.blk p = e.blk p := fun p => by
    cases p with
    | l i => simp [Env.blk, e', hl]
    | g i => rfl
  have gm : GMono e e' G G := ⟨hle, fun i k v r => by
    have := (emono_h (e := e) hle (obj [] G)).p (.g i) k v r
    exact this⟩
  refine ⟨e', rfl, ⟨fun b ob hb => ?_, rfl, H.gl, fun p x hx => ?_, fun p x b c hx hlv hb => ?_, fun p q x y b c d h1 h2 h3 h4 h5 h6 => ?_, H.gg⟩, ⟨B.os, B.tape, B.output, B.size, fun b hb _ => ⟨B.block b hb, hsame b hb⟩, fun b hb _ => ?_, gm⟩, fun g ob hg => ?_⟩
  · by_cases hlt : b < w.heap.size
    · have hb' : h' b = some ob := hb
      rw [hsame b hlt] at hb'
      rw [B.block b hlt]; exact H.hin b ob hb'
    · have hb' : h' b = some ob := hb
      cases o with
      | none => exact absurd (H.hin.lt hb') hlt
      | some x =>
        obtain ⟨g, ob'⟩ := x
        simp only [h', addO, FHeap.add] at hb'
        split at hb'
        · rename_i hbg; subst hbg; cases hb'; exact (ho b ob rfl).2
        · exact absurd (H.hin.lt hb') hlt
  · cases p with
    | l i => simp [obj] at hx
    | g i =>
      rw [hblk]
      have := ORel.glob (e := e) (e' := e') (L := []) (L' := []) (G := G) (G' := G) (w := w) (w' := w') (H.gg x (List.mem_of_getElem? hx)) gm (fun hlv b c hb => B.block b (H.free (.g i) x b c hx hlv hb).2) (H.o (.g i) x hx)
      exact this
  · rw [hblk] at hb
    have := H.free p x b c hx hlv hb
    exact ⟨by show h' b = none; rw [hsame b this.2]; exact this.1, Nat.lt_of_lt_of_le this.2 B.size⟩
  · rw [hblk] at h5 h6
    exact H.inj p q x y b c d h1 h2 h3 h4 h5 h6
  · obtain ⟨p, x, c, h1, h2, h3⟩ := hb
    rw [hblk] at h3
    exact ⟨p, x, c, h1, h2, h3⟩
  · subst hg
    show (e.h.add g ob) g = some ob
    simp [FHeap.add]

end Go.Am

namespace Go.Proofs
open Go.RowKit Go.Maps Go.Sort Go.Shelf
theorem Try.sorted_any {H : Type} (Bm b nn : Nat) (D0 : DataW H) (R : Value → Option (DataW H × List MemPlace)) (w : World) (hBm : Bm < w.heap.size) (hm : w.cell? ⟨Bm, 0, none⟩ = some (.map (some b)))
    (hown : w.ownsMap Try.prog 9 R b nn D0) (hmax : Maps.size D0 ≤ maxLen) (hbytes : Maps.size D0 * 16 ≤ 140737488355328) :
    Calls Try.prog 73 #[.func (.func 126) #[] #[.pointer (some ⟨Bm, 0, none⟩)]] w fun e w' => ∃ (v : Value) (ss : List (List UInt8)), e = .returned v ∧ ss.Perm (strKeys D0) ∧
      w'.ownsRow w.heap.size 9 1 v ss.length ((ss.mergeSort (fun x y => decide (x ≤ y))).map encStr) ∧ (v = .slice none 0 0 ↔ ss = []) ∧ Below w.heap.size w w' := by
  have hseq : SeqGives Fence.wide 2 Try.prog 126 #[.pointer (some ⟨Bm, 0, none⟩)] encStr (fun ss => ss.Perm (strKeys D0)) (Maps.size D0) w :=
    AnyZ.keys_gives (ρ := Try.keys74_ren) { Try.keys74 with } Fence.wide _ trivial rfl (by omega) Bm b nn D0 _ hBm hm hown
  exact (callsIn_wide (n := 5)).1 (AnyZ.sorted_in Try.sorted73 Fence.wide 5 trivial trivial trivial trivial rfl (by omega) (Try.sorts73 _) (enters_of Try.func125 (by kernel_rfl) rfl) 126 #[.pointer (some ⟨Bm, 0, none⟩)] trivial (enters_of Try.func126 (by kernel_rfl) rfl) _ _ hmax hbytes _ hseq)
end Go.Proofs

namespace Go.Proofs.Dev
open Go.Am
open Go.RowKit Go.Maps Go.Sort Go.Shelf
open Go.WideElems (Fit rd rg)
def bs (l : List UInt8) : ByteArray := ⟨l.toArray⟩

/-- Names, sorted. -/
def IsSorted (l : List ByteArray) (keys : List ByteArray) : Prop := ∃ ss : List (List UInt8), ss.Perm (keys.map fun k => k.data.toList) ∧ l = (ss.mergeSort (fun x y => decide (x ≤ y))).map bs


theorem enc_bs (l : List UInt8) : encStr l = .string (bs l) := rfl

theorem rd_enc {H : Type} (x : FE) (y : MapEntry) (hk : y.key = .string x.k) (hs : x.k.size ≤ 9223372036854775807) (R : Value → Option (DataW H × List MemPlace)) (z : DataW H × List MemPlace) (hR : R y.val = some z) :
    rd Try.prog 9 R y = some (.string x.k.data.toList, z.1) := by
  have hu := Try.underlying9
  have : maxLen = 9223372036854775807 := by decide
  unfold Go.WideElems.rd
  rw [hk, hR]
  simp only [Option.map_some]
  have hkey : keyOf Try.prog 9 (.string x.k) = some (.string x.k.data.toList) := by
    simp [keyOf, hu, mapKey, this, hs]
  rw [hkey]
  rfl

theorem sortedKeys_ok {G : List AObj} {n b : Nat} {m : FM} (hb : G[b]? = some m.obj) (hn : G[n]? = some (.cells [.p (.g b) .mp])) (ok : m.ok) (kn : (m.es.map (·.k)).Nodup)
    (hk : ∀ x ∈ m.es, x.k.size ≤ 9223372036854775807) (hc : m.es.length ≤ 1099511627776) :
    ACall Try.prog 73 [.clo (.func 126) [] [.p (.g n) (.ref 0)]] G (fun r G' => ∃ l, r = .d (.l (strRows l)) ∧ IsSorted l (m.es.map (·.k)) ∧ G' = G) := by
  refine ⟨⟨Try.f73, Try.func73, rfl, rfl⟩, fun e w cargs hl H hA => ?_⟩
  obtain ⟨hsz, hrel⟩ := hA
  match cargs, hsz, hrel with
  | ⟨[cv]⟩, hsz, hrel =>
  have hclo := hrel 0 _ cv rfl rfl
  cases hclo with
  | @clo _ _ _ fs cs h1 h2 r1 r2 =>
  match fs, cs, h1, h2, r2 with
  | ⟨[]⟩, ⟨[pv]⟩, h1, h2, r2 =>
  have hp := r2 0 _ pv rfl rfl
  cases hp with
  | p rp =>
  have hno : obj [] G (.g n) = some (.cells [.p (.g b) .mp]) := hn
  have hbo : obj [] G (.g b) = some m.obj := hb
  simp only [PRel, hno] at rp
  obtain ⟨Bm, c, hbm, rfl⟩ := rp
  obtain ⟨Bm', c', vs, t, hbm', hw, hvs, hcell⟩ := H.o _ _ hno
  rw [hbm] at hbm'; cases hbm'
  match vs, hvs, hcell, hw with
  | ⟨[mv]⟩, hvs, hcell, hw =>
  have hmv := (hcell 0 _ mv rfl rfl).1
  cases hmv with
  | p rm =>
  simp only [PRel, hbo, FM.obj] at rm
  obtain ⟨mb, cm, hmb, rfl⟩ := rm
  obtain ⟨mb', cm', ens, hmb', hwm, hse, hent⟩ := H.o _ _ hbo
  rw [hmb] at hmb'; cases hmb'
  have hBm : Bm < w.heap.size := (Array.getElem?_eq_some_iff.1 hw).1
  have hcm : w.cell? ⟨Bm, 0, none⟩ = some (.map (some mb)) := by simp [World.cell?, hw]
  let R : Value → Option (DataW Unit × List MemPlace) := fun _ => some (.lit (.bool true), [])
  have hes : ∀ (i : Nat) (x : FE) (y : MapEntry), m.es[i]? = some x → ens[i]? = some y → y.key = .string x.k ∧ y.born = x.b := fun i x y hx hy => by
    have := hent i x.enc y (by rw [List.getElem?_map, hx]; rfl) hy
    exact ⟨this.1, this.2.2⟩
  have hlen : ens.size = m.es.length := by simpa using hse
  have hmaxl : maxLen = 9223372036854775807 := by decide
  have hmapk : ens.toList.map (·.key) = m.es.map (fun x => Value.string x.k) := by
    apply List.ext_getElem?
    intro i
    rw [List.getElem?_map, List.getElem?_map]
    by_cases hi : i < m.es.length
    · have := (hes i m.es[i] (ens[i]'(by omega)) (List.getElem?_eq_getElem hi) (Array.getElem?_eq_getElem (by omega))).1
      rw [Array.getElem?_toList, Array.getElem?_eq_getElem (by omega), List.getElem?_eq_getElem hi]
      simp [this]
    · rw [List.getElem?_eq_none (by simp; omega), List.getElem?_eq_none (by omega)]; rfl
  have hmapb : ens.toList.map (·.born) = m.es.map (·.b) := by
    apply List.ext_getElem?
    intro i
    rw [List.getElem?_map, List.getElem?_map]
    by_cases hi : i < m.es.length
    · have := (hes i m.es[i] (ens[i]'(by omega)) (List.getElem?_eq_getElem hi) (Array.getElem?_eq_getElem (by omega))).2
      rw [Array.getElem?_toList, Array.getElem?_eq_getElem (by omega), List.getElem?_eq_getElem hi]
      simp [this]
    · rw [List.getElem?_eq_none (by simp; omega), List.getElem?_eq_none (by omega)]; rfl
  have hread : ∀ y ∈ ens.toList, ∃ x ∈ m.es, rd Try.prog 9 R y = some (.string x.k.data.toList, .lit (.bool true)) := fun y hy => by
    obtain ⟨i, hi, rfl⟩ := List.getElem_of_mem hy
    have hi' : i < m.es.length := by simp at hi; omega
    have := hes i m.es[i] ens.toList[i] (List.getElem?_eq_getElem hi') (by rw [← Array.getElem?_toList]; exact List.getElem?_eq_getElem hi)
    exact ⟨m.es[i], List.getElem_mem _, rd_enc m.es[i] _ this.1 (hk _ (List.getElem_mem _)) R _ rfl⟩
  have hown : w.ownsMap Try.prog 9 R mb ens.size (.map ((ens.toList.map (rg Try.prog 9 R)).foldr DataW.insert [])) := by
    refine ⟨ens, m.clock, hwm, ⟨by omega, ⟨fun y hy => ?_, ?_, ?_⟩, fun y hy => ?_⟩, Nat.le_refl _, rfl⟩
    · have : y.born ∈ m.es.map (·.b) := by rw [← hmapb]; exact List.mem_map.2 ⟨y, hy, rfl⟩
      obtain ⟨x, hx, hxb⟩ := List.mem_map.1 this
      have := ok.1 x hx
      omega
    · rw [hmapb]; exact ok.2
    · rw [hmapk]
      have : (m.es.map (fun x => Value.string x.k)) = (m.es.map (·.k)).map Value.string := by simp
      rw [this]
      exact List.Pairwise.map Value.string (fun a b hab h => hab (by simpa using h)) kn
    · obtain ⟨x, _, hx⟩ := hread y hy
      exact ⟨_, hx⟩
  have hsize : Maps.size (.map ((ens.toList.map (rg Try.prog 9 R)).foldr DataW.insert []) : DataW Unit) = ens.size := by
    simp only [Maps.size, length_sorted]; simp
  have hkeys : (strKeys (.map ((ens.toList.map (rg Try.prog 9 R)).foldr DataW.insert []) : DataW Unit)).Perm (m.es.map fun x => x.k.data.toList) := by
    simp only [strKeys]
    refine ((Go.WideShapes.sorted_perm _).map _).trans ?_
    have : (ens.toList.map (rg Try.prog 9 R)).map (fun p => strOf p.1) = m.es.map fun x => x.k.data.toList := by
      rw [List.map_map]
      apply List.ext_getElem?
      intro i
      rw [List.getElem?_map, List.getElem?_map]
      by_cases hi : i < m.es.length
      · have := (hes i m.es[i] (ens[i]'(by omega)) (List.getElem?_eq_getElem hi) (Array.getElem?_eq_getElem (by omega))).1
        rw [Array.getElem?_toList, Array.getElem?_eq_getElem (by omega), List.getElem?_eq_getElem hi]
        have hr := rd_enc m.es[i] _ this (hk _ (List.getElem_mem _)) R _ rfl
        simp [rg, hr, strOf]
      · rw [List.getElem?_eq_none (by simp; omega), List.getElem?_eq_none (by omega)]; rfl
    rw [this]
  have hcalls := Try.sorted_any Bm mb ens.size _ R w hBm hcm hown (by rw [hsize]; omega) (by rw [hsize]; omega)
  refine hcalls.mono fun en w' ⟨v, ss, h1, h2, h3, h4, B⟩ => ?_
  subst h1
  have hsort : IsSorted ((ss.mergeSort (fun x y => decide (x ≤ y))).map bs) (m.es.map (·.k)) := ⟨ss, (h2.trans hkeys).trans (by rw [List.map_map]; exact List.Perm.refl _), rfl⟩
  obtain ⟨hxs, hcase⟩ := h3
  have hmlen : (ss.mergeSort (fun x y => decide (x ≤ y))).length = ss.length := by simp
  rcases hcase with ⟨rfl, h0⟩ | ⟨g, cap, cur, rfl, hg, hwg, hle, hcap, hcur, htake⟩
  · obtain ⟨e', k1, k2, k3, _⟩ := ret_frozen hl H B none (fun g ob h => by cases h)
    have hnil : ss = [] := List.eq_nil_of_length_eq_zero h0
    refine ⟨e', G, _, _, rfl, k1, k2, .d (x := .l []) (.l 1 (fun _ => undef) (by simp) (Nat.le_refl _) (Nat.zero_le _) (by simp) (by simp)), rfl, k3, ⟨_, ?_, hsort, rfl⟩⟩
    subst hnil; simp [strRows, oneOrTup]
  · obtain ⟨e', k1, k2, k3, k4⟩ := ret_frozen hl H B (some (g, .cells cur 9 (0, 0))) (fun g' ob h => by cases h; exact ⟨hg, hwg⟩)
    have hh := k4 g _ rfl
    have hcell : ∀ i (x : Value), ((ss.mergeSort (fun x y => decide (x ≤ y))).map encStr)[i]? = some x → cur[i]? = some x := fun i x hx => by
      rw [← htake] at hx
      have hi := (List.getElem?_eq_some_iff.1 hx).1
      simp only [List.length_take] at hi
      rw [List.getElem?_take_of_lt (by omega), Array.getElem?_toList] at hx
      exact hx
    refine ⟨e', G, .d (.l (strRows ((ss.mergeSort (fun x y => decide (x ≤ y))).map bs))), _, rfl, k1, k2, ?_, rfl, k3, ⟨_, rfl, hsort, rfl⟩⟩
    have hrl : (strRows ((ss.mergeSort (fun x y => decide (x ≤ y))).map bs)).length = ss.length := by simp [strRows]
    have key : Rep e'.h (.l (strRows ((ss.mergeSort (fun x y => decide (x ≤ y))).map bs))) (.slice (some ⟨g, 0, none⟩) (strRows ((ss.mergeSort (fun x y => decide (x ≤ y))).map bs)).length cap) := by
      refine .l 1 (fun i => (((ss.mergeSort (fun x y => decide (x ≤ y))).map encStr)[i]?).getD undef) (fun r hr => ?_) (by rw [hrl]; exact hle) hcap (fun _ => ⟨_, rfl, fun i hi => ?_⟩) (fun j r k d hj hk => ?_)
      · simp [strRows] at hr
        obtain ⟨a, _, rfl⟩ := hr; rfl
      · rw [addr_add]
        simp only [FHeap.cell, hh, Nat.zero_add]
        rw [hrl] at hi
        have hi2 : i < ((ss.mergeSort (fun x y => decide (x ≤ y))).map encStr).length := by simp; omega
        have := hcell i _ (List.getElem?_eq_getElem hi2)
        simp [this, List.getElem?_eq_getElem hi2]
      · simp only [strRows, List.getElem?_map] at hj
        cases hq : (ss.mergeSort (fun x y => decide (x ≤ y)))[j]? with
        | none => rw [hq] at hj; simp at hj
        | some q =>
          rw [hq] at hj
          simp at hj; subst hj
          cases k with
          | zero =>
            simp at hk; subst hk
            simp only [Nat.mul_one, Nat.add_zero, List.getElem?_map, hq, Option.map_some, Option.getD_some, enc_bs]
            exact .v rfl
          | succ k => simp at hk
    rw [hrl] at key
    exact .d key
end Go.Proofs.Dev

/- Names, clones. -/
set_option linter.unusedVariables false
set_option linter.unusedSimpArgs false
namespace Go.Proofs
open Go.RowKit Go.Maps Go.Sort Go.Shelf
end Go.Proofs

namespace Go.Proofs.Dev
open Go.Am
set_option maxRecDepth 100000

attribute [local simp] runK callOf nextOf stepA evalV St.ev St.get St.put St.next cellsA oneA newVarA wantA okConst constA zeroA fieldA tbl shiftA obj loadA mkV TyK.agg binA binV intBin storeA splA globIf St.setObj
  intsA maxI minI pickA unA convA nilA thenA inBlockA List.range List.range.loop AVal.glob AVal.glob.globs List.replicate retE retA resA frzAll frzV frz1 dataV data1 ownA rowsA oneOrTup runL pureA okTup indexA lenA
  slotsWeak objsWeak AVal.under AVal.under.unders objsBelow AObj.underO runP runPs dryA buildSliceA pairsA rowA rowsOfA rowsFit toDat toDats ptrNil buildA fillA isNilPtr

theorem clone_ok {G : List AObj} {b : Nat} {m : FM} (hb : G[b]? = some m.obj) :
    ACall Try.prog 68 [.p (.g b) .mp] G (fun r G' => r = .p (.g G.length) .mp ∧ G' = G ++ [m.obj]) := by
  refine ⟨⟨Try.f68, Try.func68, rfl, rfl⟩, fun e w cargs hl H hA => ?_⟩
  obtain ⟨hsz, hrel⟩ := hA
  match cargs, hsz, hrel with
  | ⟨[cv]⟩, hsz, hrel =>
  have hp := hrel 0 _ cv rfl rfl
  have hbo : obj [] G (.g b) = some m.obj := hb
  cases hp with
  | p rp =>
  simp only [PRel, hbo, FM.obj] at rp
  obtain ⟨mb, c, hmb, rfl⟩ := rp
  obtain ⟨mb', c', ens, hmb', hwm, hse, hent⟩ := H.o _ _ hbo
  rw [hmb] at hmb'; cases hmb'
  refine (AnyW.maps_Clone Try.clone68 mb ens m.clock w hwm).mono fun en w' ⟨h1, h2⟩ => ?_
  subst h1; subst h2
  obtain ⟨k1, k2, k3⟩ := hrel_new H m.obj (.map ens m.clock) 0 (fun e' mo => ⟨w.heap.size, 0, ens, rfl, heap_alloc_new', hse, fun i kv en h1 h2 => ⟨(hent i kv en h1 h2).1, (hent i kv en h1 h2).2.1.mono mo, (hent i kv en h1 h2).2.2⟩⟩)
  have S : SRel ⟨e.h, e.lb ++ [some (w.heap.size, 0)], e.gb⟩ { s := [.p (.l 0) .mp], L := [] ++ [m.obj], G := G } { tmps := #[.map (some w.heap.size)], defers := [] } (w.alloc (.map ens m.clock)) := by
    refine ⟨rfl, rfl, fun t x v hx hv => ?_, k1⟩
    match t, hx, hv with
    | 0, hx, hv =>
      simp at hx hv; subst hx; subst hv
      refine .p ?_
      have : obj ([] ++ [m.obj]) G (.l 0) = some m.obj := rfl
      simp only [PRel, this, FM.obj]
      exact ⟨w.heap.size, 0, by simp [Env.blk, hl], rfl⟩
    | t + 1, hx, hv => simp at hx
  obtain ⟨e2, S2, E2⟩ := Weak.prom 0 (x := m.obj) rfl (by
    show AVal.glob.globs _ = true
    simp only [List.map_map]
    have := glob_obj m
    simp only [AObj.globO, FM.obj, List.map_map] at this
    simpa [FE.enc, AVal.ren, Function.comp_def] using this) _ _ _ S
  have hren : AObj.ren 0 G.length m.obj = m.obj := by simp [AObj.ren, FM.obj, FE.enc, AVal.ren, Function.comp_def]
  simp only [promS, List.nil_append, List.getElem?_cons_zero, hren, AVal.ren.rens, AVal.ren, if_true, List.map_cons, List.map_nil, List.set_cons_zero] at S2 E2
  refine ⟨e2.drop, _, _, _, rfl, rfl, S2.h.drop, ?_, ?_, ?_, rfl, rfl⟩
  · have := S2.s 0 _ (.map (some w.heap.size)) rfl rfl
    exact this.gmono (gmono_same (e := e2) (e' := e2.drop) rfl rfl) rfl
  · rfl
  · have E := k3.trans E2
    exact ⟨E.os, E.tape, E.output, E.size, E.old, fun b hb' hlt => E.has b (has_drop hb') hlt, ⟨E.m.h, E.m.p⟩⟩

theorem keys_ok {G : List AObj} {b : Nat} {m : FM} (hb : G[b]? = some m.obj) :
    ACall Try.prog 74 [.p (.g b) .mp] G (fun r G' => r = .clo (.func 126) [] [.p (.g G.length) (.ref 0)] ∧ G' = G ++ [.cells [.p (.g b) .mp]]) := by
  refine ACall.bodyW tblOk Try.func74 (c := _) rfl rfl ?_
  refine w_seq (w_run tblOk fun K hK => ?_)
  simp
  refine hK _ (then_n ?_); clear hK K
  refine w_seq (w_run tblOk fun K hK => ?_)
  simp
  refine hK _ (then_n ?_); clear hK K
  refine AWp.weak (Weak.prom 0 rfl rfl) (w_ret ?_)
  simp [promS, AVal.ren, AVal.ren.rens, AObj.ren]

variable {G : List AObj} {k : DK} {s : DS} {ml ms : FM}

theorem DAt.more (h : DAt G k s ml ms) (X : List AObj) : DAt (G ++ X) k s ml ms := by
  have key : ∀ {j : Nat} {o : AObj}, G[j]? = some o → (G ++ X)[j]? = some o := fun {j o} hj => by
    rw [List.getElem?_append_left (List.getElem?_eq_some_iff.1 hj).1]; exact hj
  refine ⟨key h.o, key h.a, key h.b, ?_, h.ab, h.last, h.seen, h.okl, h.oks⟩
  have hw := h.w
  rcases hk : k.w with _ | ⟨j, g⟩
  · rw [hk] at hw; exact hw
  · rw [hk] at hw; exact key hw

theorem Fr.more (G : List AObj) (k : DK) (X : List AObj) : Fr G k (G ++ X) k :=
  ⟨rfl, by simp, fun j hj _ => List.getElem?_append_left hj, fun j hj => .inl hj⟩

theorem names_ok (h : DAt G k s ml ms) (kn : (s.seen.map (·.1)).Nodup) (hk : ∀ x ∈ s.seen, x.1.size ≤ 9223372036854775807) (hc : s.seen.length ≤ 1099511627776) :
    ACall Try.prog 32 [.p (.g k.i) (.ref 0)] G (fun r G' => ∃ l, r = .d (.l (strRows l)) ∧ IsSorted l (s.seen.map (·.1)) ∧ DAt G' k s ml ms ∧ Fr G k G' k) := by
  have ho := h.o
  have hb := h.b
  have hs := h.seen
  simp only [DS.cells] at ho
  have hkey : ms.es.map (·.k) = s.seen.map (·.1) := by rw [← hs]; simp [kvs]
  have hb' : (G ++ [AObj.cells [.p (.g k.b) .mp]])[k.b]? = some ms.obj := by rw [List.getElem?_append_left (List.getElem?_eq_some_iff.1 hb).1]; exact hb
  have hsorted := sortedKeys_ok (G := G ++ [AObj.cells [.p (.g k.b) .mp]]) (n := G.length) hb' (by simp) h.oks (by rw [hkey]; exact kn) (fun x hx => hk (x.k, x.v) (by rw [← hs]; exact List.mem_map.2 ⟨x, hx, rfl⟩)) (by
    have := congrArg List.length hs
    simp only [kvs, List.length_map] at this
    omega)
  rw [hkey] at hsorted
  have hmore := h.more [AObj.cells [.p (.g k.b) .mp]]
  have hfr := Fr.more G k [AObj.cells [.p (.g k.b) .mp]]
  refine ACall.bodyW tblOk Try.func32 (c := _) rfl rfl ?_
  refine w_seq (w_run tblOk fun K hK => ?_)
  simp
  refine hK _ (then_n ?_); clear hK K
  refine w_seq (w_seq (w_run tblOk fun K hK => ?_))
  simp [ho]
  refine hK _ (then_n ?_); clear hK K
  refine w_cond (t := false) (by simp) (fun h => by cases h) (fun _ => w_skip (then_n ?_))
  refine w_seq (w_run tblOk fun K hK => ?_)
  simp [ho]
  refine callK_any (keys_ok hb) rfl rfl (by simp) fun r G' ⟨h1, h2⟩ => ?_
  subst h1; subst h2
  simp
  refine callK_any hsorted rfl rfl (by simp) fun r G' hr => ?_
  obtain ⟨l, rfl, hl, rfl⟩ := hr
  simp
  refine hK _ (then_n ?_); clear hK K
  refine w_ret ?_
  exact ⟨rfl, l, rfl, hl, hmore, hfr⟩
end Go.Proofs.Dev

/- All lasts. -/
set_option linter.unusedVariables false
set_option linter.unusedSimpArgs false
namespace Go.Proofs.Dev
open Go.Am
set_option maxRecDepth 100000

attribute [local simp] runK callOf nextOf stepA evalV St.ev St.get St.put St.next cellsA oneA newVarA wantA okConst constA zeroA fieldA tbl shiftA obj loadA mkV TyK.agg binA binV intBin storeA splA globIf St.setObj
  intsA maxI minI pickA unA convA nilA thenA inBlockA List.range List.range.loop AVal.glob AVal.glob.globs List.replicate retE retA resA frzAll frzV frz1 dataV data1 ownA rowsA oneOrTup runL pureA okTup indexA lenA
  slotsWeak objsWeak AVal.under AVal.under.unders objsBelow AObj.underO runP runPs dryA buildSliceA pairsA rowA rowsOfA rowsFit toDat toDats ptrNil buildA fillA isNilPtr

variable {G : List AObj} {k : DK} {s : DS} {ml ms : FM}

def syncS (s : DS) : Int × DS :=
  withMay s [] (if s.armed = 1 then (3, { s with down := true }) else (0, { s with armed := max (s.armed - 1) 0, deeds := s.deeds + 1, last := s.seen, waits := [] }))

theorem DAt.down (h : DAt G k s ml ms) (n : Int) (dn : Bool) (d : Int) : DAt (G.set k.i (({ s with armed := n, down := dn, deeds := d } : DS).cells k)) k { s with armed := n, down := dn, deeds := d } ml ms ∧
    Fr G k (G.set k.i (({ s with armed := n, down := dn, deeds := d } : DS).cells k)) k := by
  have ho := h.o
  have hi := (List.getElem?_eq_some_iff.1 ho).1
  have e1 : k.i ≠ k.a := fun e => by have := h.a; rw [← e, ho] at this; cases this
  have e2 : k.i ≠ k.b := fun e => by have := h.b; rw [← e, ho] at this; cases this
  refine ⟨⟨by simp [hi], by simp [e1, h.a], by simp [e2, h.b], ?_, h.ab, h.last, h.seen, h.okl, h.oks⟩, ⟨rfl, by simp, fun j hj hk => ?_, fun j hj => .inl hj⟩⟩
  · have hw := h.w
    rcases hk : k.w with _ | ⟨j, g⟩
    · rw [hk] at hw; exact hw
    · rw [hk] at hw
      simp only at hw ⊢
      have e3 : k.i ≠ j := fun e => by rw [← e, ho] at hw; cases hw
      simp [e3, hw]
  · have : k.i ≠ j := fun e => hk (by simp [DK.ids, e])
    rw [List.getElem?_set_ne this]

theorem sync_ok (h : DAt G k s ml ms) (ok : s.ok) :
    ACall Try.prog 22 [.p (.g k.i) (.ref 0)] G (fun r G' => ∃ k' ml', r = u8 (syncS s).1 ∧ DAt G' k' (syncS s).2 ml' ms ∧ Fr G k G' k') := by
  have ho := h.o
  have hb := h.b
  have hi := (List.getElem?_eq_some_iff.1 ho).1
  have hbl := (List.getElem?_eq_some_iff.1 hb).1
  have e2 : k.i ≠ k.b := fun e => by have := h.b; rw [← e, ho] at this; cases this
  have g1 : ∀ x, (G.set k.i x)[k.i]? = some x := fun x => by simp [hi]
  have g2 : ∀ x, (G.set k.i x)[k.b]? = some ms.obj := fun x => by simp [e2, hb]
  have g3 : ∀ x, (G.set k.i x ++ [ms.obj])[k.i]? = some x := fun x => by rw [List.getElem?_append_left (by simpa using hi)]; simp [hi]
  have g4 : ∀ x y, ((G.set k.i x ++ [ms.obj]).set k.i y)[k.i]? = some y := fun x y => by rw [List.getElem?_set_self (by simp; omega)]
  have hcnt := counts_ok (G := G) (i := k.i) ho ok.armed ⟨ok.deeds.1, by have := ok.deeds.2; omega⟩
  simp only [DS.cells] at ho
  by_cases hm : mayE s.down [] = 0
  case neg =>
    refine ACall.mono (Q := fun r G' => r = u8 (mayE s.down []) ∧ G' = G) ?_ (fun r G' hr => ?_)
    · refine ACall.bodyW tblOk Try.func22 (c := _) rfl rfl ?_
      refine w_seq (w_run tblOk fun K hK => ?_)
      simp
      refine hK _ (then_n ?_); clear hK K
      refine w_seq (w_seq (w_run tblOk fun K hK => ?_))
      simp
      refine callK_any (may_ok ho []) rfl rfl (by simp) fun r G' ⟨h1, h2⟩ => ?_
      subst h1; subst h2
      simp
      refine hK _ (then_n ?_); clear hK K
      refine w_seq (w_run tblOk fun K hK => ?_)
      simp
      refine hK _ (then_n ?_); clear hK K
      refine w_cond (t := true) (by simp [hm]) (fun ht => ?_) (fun h => by cases h)
      refine w_seq (w_run tblOk fun K hK => ?_)
      simp
      refine hK _ (then_n ?_); clear hK K
      refine w_ret ?_
      simp
    · obtain ⟨rfl, rfl⟩ := hr
      have hsp : syncS s = (mayE s.down [], s) := by simp [syncS, withMay, hm]
      rw [hsp]
      exact ⟨k, ml, rfl, h, .refl _ _⟩
  have key : ∀ Q : AVal → List AObj → Prop, (∀ r G', (if s.armed = 1 then r = u8 3 ∧ G' = G.set k.i (.cells [int s.room, .p (.g k.a) .mp, wv k.w, .p (.g k.b) .mp, int 1, boo true, int s.deeds])
      else r = u8 0 ∧ G' = (G ++ [ms.obj]).set k.i (.cells [int s.room, .p (.g G.length) .mp, .nils, .p (.g k.b) .mp, int (max (s.armed - 1) 0), boo s.down, int (s.deeds + 1)])) → Q r G') → ACall Try.prog 22 [.p (.g k.i) (.ref 0)] G Q := fun Q hQ => by
    refine ACall.mono (Q := fun r G' => if s.armed = 1 then r = u8 3 ∧ G' = G.set k.i (.cells [int s.room, .p (.g k.a) .mp, wv k.w, .p (.g k.b) .mp, int 1, boo true, int s.deeds])
      else r = u8 0 ∧ G' = (G ++ [ms.obj]).set k.i (.cells [int s.room, .p (.g G.length) .mp, .nils, .p (.g k.b) .mp, int (max (s.armed - 1) 0), boo s.down, int (s.deeds + 1)])) ?_ hQ
    refine ACall.bodyW tblOk Try.func22 (c := _) rfl rfl ?_
    refine w_seq (w_run tblOk fun K hK => ?_)
    simp
    refine hK _ (then_n ?_); clear hK K
    refine w_seq (w_seq (w_run tblOk fun K hK => ?_))
    simp
    refine callK_any (may_ok ho []) rfl rfl (by simp) fun r G' ⟨h1, h2⟩ => ?_
    subst h1; subst h2
    simp
    refine hK _ (then_n ?_); clear hK K
    refine w_seq (w_run tblOk fun K hK => ?_)
    simp
    refine hK _ (then_n ?_); clear hK K
    refine w_cond (t := false) (by simp [hm]) (fun h => by cases h) (fun _ => w_skip (then_n ?_))
    refine w_seq (w_seq (w_run tblOk fun K hK => ?_))
    simp
    refine callK_any hcnt rfl rfl (by simp) fun r G' ⟨h1, h2⟩ => ?_
    subst h1; subst h2
    by_cases h1 : s.armed = 1
    · simp [h1]
      refine hK _ (then_n ?_); clear hK K
      refine w_cond (t := true) (by simp) (fun _ => ?_) (fun h => by cases h)
      refine w_seq (w_run tblOk fun K hK => ?_)
      simp
      refine hK _ (then_n ?_); clear hK K
      refine w_ret ?_
      simp [h1]
    · simp [h1]
      refine hK _ (then_n ?_); clear hK K
      refine w_cond (t := false) (by simp) (fun h => by cases h) (fun _ => w_skip (then_n ?_))
      refine w_seq (w_run tblOk fun K hK => ?_)
      simp [g1, -List.getElem?_set_self]
      refine callK_any (clone_ok (g2 _)) rfl rfl (by simp) fun r G' ⟨h1, h2⟩ => ?_
      subst h1; subst h2
      simp [g3, g4, -List.getElem?_set_self]
      refine hK _ (then_n ?_); clear hK K
      refine w_seq (w_run tblOk fun K hK => ?_)
      simp
      refine hK _ (then_n ?_); clear hK K
      refine w_ret ?_
      simp [h1, List.set_append, hi]
  refine key _ fun r G' hr => ?_
  by_cases h1 : s.armed = 1
  · rw [if_pos h1] at hr
    obtain ⟨rfl, rfl⟩ := hr
    have hsp : syncS s = (3, { s with down := true }) := by simp [syncS, withMay, hm, h1]
    rw [hsp]
    have := h.down s.armed true s.deeds
    simp only [DS.cells, h1] at this
    rw [← h1] at this ⊢
    exact ⟨k, ml, rfl, this⟩
  · rw [if_neg h1] at hr
    obtain ⟨rfl, rfl⟩ := hr
    have hsp : syncS s = (0, { s with armed := max (s.armed - 1) 0, deeds := s.deeds + 1, last := s.seen, waits := [] }) := by simp [syncS, withMay, hm, h1]
    rw [hsp]
    have hn : G.length ≠ k.i := by omega
    refine ⟨⟨k.i, G.length, k.b, none⟩, ms, rfl, ⟨?_, ?_, ?_, rfl, by simp; omega, h.seen, h.seen, h.oks, h.oks⟩, ⟨rfl, by simp, fun j hj hk => ?_, fun j hj => ?_⟩⟩
    · simp only
      rw [List.getElem?_set_self (by simp; omega)]
      rfl
    · simp only
      rw [List.getElem?_set_ne (by omega)]
      simp
    · simp only
      rw [List.getElem?_set_ne e2, List.getElem?_append_left hbl]
      exact hb
    · have : k.i ≠ j := fun e => hk (by simp [DK.ids, e])
      rw [List.getElem?_set_ne this, List.getElem?_append_left hj]
    · simp [DK.ids] at hj ⊢
      omega
end Go.Proofs.Dev

/- A crash. -/
set_option linter.unusedVariables false
set_option linter.unusedSimpArgs false
namespace Go.Proofs.Dev
open Go.Am
set_option maxRecDepth 100000

attribute [local simp] runK callOf nextOf stepA evalV St.ev St.get St.put St.next cellsA oneA newVarA wantA okConst constA zeroA fieldA tbl shiftA obj loadA mkV TyK.agg binA binV intBin storeA splA globIf St.setObj
  intsA pickA unA convA nilA thenA inBlockA List.range List.range.loop AVal.glob AVal.glob.globs List.replicate retE retA resA frzAll frzV frz1 dataV data1 ownA rowsA oneOrTup runL pureA okTup indexA lenA
  slotsWeak objsWeak AVal.under AVal.under.unders objsBelow AObj.underO runP runPs dryA buildSliceA pairsA rowA rowsOfA toDat toDats ptrNil buildA fillA isNilPtr

def foldF (f : Fs) (l : List Deed) : Fs := l.foldl doF f

def canAll : Fs → List Deed → Prop
  | _, [] => True
  | f, x :: xs => can f x ∧ canAll (doF f x) xs

theorem canAll_at {l : List Deed} {x : Deed} : ∀ {f : Fs} {n : Nat}, canAll f l → l[n]? = some x → can (foldF f (l.take n)) x := by
  induction l with
  | nil => intro f n _ hx; simp at hx
  | cons y ys ih =>
    intro f n h hx
    cases n with
    | zero => simp at hx; subst hx; exact h.1
    | succ n => exact ih h.2 (by simpa using hx)

theorem foldF_step {f : Fs} {l : List Deed} {n : Nat} {x : Deed} (hx : l[n]? = some x) : foldF f (l.take (n + 1)) = doF (foldF f (l.take n)) x := by
  have hn := (List.getElem?_eq_some_iff.1 hx).1
  have hx' := (List.getElem?_eq_some_iff.1 hx).2
  rw [List.take_add_one, hx]
  simp [foldF]

def cutTo (n size : Int) : Int := max 0 (min n size)

def tornD (x : Deed) (torn : Int) : Deed := { x with b := x.b.extract 0 (cutTo torn x.b.size).toNat }

def crashF (last : Fs) (waits : List Deed) (K : Nat) (torn : Int) : Fs :=
  match waits[K]? with
  | some x => if x.kind = 1 then doF (foldF last (waits.take K)) (tornD x torn) else foldF last (waits.take K)
  | none => foldF last (waits.take K)

theorem maxmin (n m : Int) : maxI 0 [minI n [m]] = cutTo n m := by
  simp only [maxI, minI, cutTo, List.foldl]
  split <;> split <;> omega

variable {G : List AObj}

theorem crash_core {i a b j g : Nat} {s : DS} {ml : FM} {keep torn : Int} (ho : G[i]? = some (.cells [int s.room, .p (.g a) .mp, .p (.g j) (.own g), .p (.g b) .mp, int s.armed, boo s.down, int s.deeds])) (ha : G[a]? = some ml.obj)
    (hj : G[j]? = some (.frz 5 g (s.waits.map Deed.enc))) (okl : ml.ok) (hl : kvs ml.es = s.last) (hcan : canAll s.last s.waits) (hlen : s.waits.length ≤ 1099511627776) (K : Nat) (hK : (K : Int) = cutTo keep s.waits.length) :
    ACall Try.prog 20 [.p (.g i) (.ref 0), int keep, int torn] G (fun r G' => r = .tup [] ∧ ∃ M : FM, M.ok ∧ kvs M.es = crashF s.last s.waits K torn ∧
      G' = (G.set a M.obj ++ [M.obj]).set i (.cells [int s.room, .p (.g a) .mp, .nils, .p (.g G.length) .mp, int 0, boo false, int s.deeds])) := by
  have hKl : K ≤ s.waits.length := by simp only [cutTo] at hK; omega
  have hal := (List.getElem?_eq_some_iff.1 ha).1
  have hil := (List.getElem?_eq_some_iff.1 ho).1
  have eia : i ≠ a := fun e => by subst e; rw [ho] at ha; cases ha
  have eja : j ≠ a := fun e => by subst e; rw [hj] at ha; cases ha
  have eij : i ≠ j := fun e => by subst e; rw [ho] at hj; cases hj
  have g1 : ∀ x, (G.set a x)[i]? = some (.cells [int s.room, .p (.g a) .mp, .p (.g j) (.own g), .p (.g b) .mp, int s.armed, boo s.down, int s.deeds]) := fun x => by rw [List.getElem?_set_ne (Ne.symm eia)]; exact ho
  have g2 : ∀ x, (G.set a x)[a]? = some x := fun x => by simp [hal]
  have g3 : ∀ x, (G.set a x)[j]? = some (.frz 5 g (s.waits.map Deed.enc)) := fun x => by rw [List.getElem?_set_ne (Ne.symm eja)]; exact hj
  have hfit : rowsFit 5 (s.waits.map Deed.enc) = true := by
    simp [rowsFit, Deed.enc]
  refine ACall.bodyW tblOk Try.func20 (c := _) rfl rfl ?_
  refine w_seq (w_seq (w_run tblOk fun K hK => ?_))
  simp [ho]
  refine hK _ (then_n ?_)
  clear K hK
  refine w_cond (t := false) (by simp) (fun h => by cases h) (fun _ => w_skip (then_n ?_))
  refine w_seq (w_run tblOk fun K' hK' => ?_)
  simp [ho, hj, maxmin, ← hK]
  refine hK' _ (then_n ?_); clear hK' K'
  refine w_seq (w_seq (w_run tblOk fun K' hK' => ?_))
  simp [ho, hj, sliceA, bndA, sliceRows, hKl, hfit]
  refine hK' _ (then_n ?_); clear hK' K'
  refine w_block ?_
  let rv : AVal := .d (.l ((s.waits.map Deed.enc).take K))
  refine AWp.loopW (fun x : Nat × FM => { s := [.p (.g i) (.ref 0), int K, int torn] ++ List.replicate 22 .any ++ [rv, int K, int x.1] ++ List.replicate 62 .any, L := [], G := G.set a x.2.obj })
    (fun x => x.1 ≤ K ∧ x.2.ok ∧ kvs x.2.es = foldF s.last (s.waits.take x.1)) (fun x => K - x.1) (fun x hx => ?step) (0, ml) ⟨Nat.zero_le _, okl, by simp [foldF, hl]⟩ ?start
  case start =>
    have hga : G.set a ml.obj = G := by
      rw [← (List.getElem?_eq_some_iff.1 ha).2]; exact List.set_getElem_self _
    simp only [hga]
    exact Weak.slots (by simp [rv]) (by simp) (by simp [rv])
  obtain ⟨n, M⟩ := x
  simp only at hx ⊢
  refine w_seq (w_run tblOk fun K' hK' => ?_)
  simp
  refine hK' _ (then_n ?_); clear hK' K'
  refine w_seq (w_cond (t := decide (n < K)) (by simp) (fun ht => w_skip (then_n ?_)) (fun ht => w_exit ?_))
  · simp at ht
    have hn : n < s.waits.length := by omega
    have hx1 : s.waits[n]? = some s.waits[n] := List.getElem?_eq_getElem hn
    have hrow : ((s.waits.map Deed.enc).take K)[n]? = some (s.waits[n]).enc := by
      rw [List.getElem?_take_of_lt ht, List.getElem?_map, hx1]; rfl
    have hcn : can (kvs M.es) s.waits[n] := by rw [hx.2.2]; exact canAll_at hcan hx1
    have hdo := do_ok (G := G.set a M.obj) (a := a) (m := M) (g2 _) hcn
    generalize s.waits[n] = x at *
    refine w_seq (w_block (w_seq (w_run tblOk fun K' hK' => ?_)))
    simp [rv, hrow, Deed.enc]
    refine hK' _ (then_n ?_); clear hK' K'
    refine w_drawn tblOk pmixed (.take 0 <| .take 1 <| .take 2 <| .all [(3, .all [(4, .all [(5, .done)])]), (4, .all [(3, .all [(5, .done)])])]) (by kernel_rfl) (by kernel_rfl) fun K' hK' => ?_
    simp [g1, g2, -List.getElem?_set_self]
    refine callK_any hdo rfl rfl (by simp [Deed.v]) fun r G' ⟨h1, h2⟩ => ?_
    subst h1; subst h2
    simp
    refine hK' _ ?_; clear hK' K'
    refine inBlockA_normal (then_n ?_)
    refine w_run tblOk fun K' hK' => ?_
    simp
    refine hK' _ ?_; clear hK' K'
    refine ⟨(n + 1, M.do x), ⟨by simp; omega, hx.2.1.do x, by simp only [kvs_do, hx.2.2]; rw [foldF_step hx1]⟩, by simp; omega, ?_⟩
    refine Weak.slots ?_ (by simp) (by simp [rv])
    simp [rv]
    exact w64 (by omega) (by omega)
  · simp at ht
    have hnK : n = K := by omega
    subst hnK
    refine thenA_exit (thenA_exit (inBlockA_exit (then_n ?_)))
    have hKl' : n ≤ s.waits.length := hKl
    have htake : List.take s.waits.length (s.waits.map Deed.enc) = s.waits.map Deed.enc := List.take_of_length_le (by simp)
    refine w_seq (AWp.mono (Q := fun x σ' => x = .normal ∧ ∃ M2 : FM, M2.ok ∧ kvs M2.es = crashF s.last s.waits n torn ∧ Weak σ' { s := [.p (.g i) (.ref 0)] ++ List.replicate 89 .any, L := [], G := G.set a M2.obj }) ?part (fun x σ' hx => ?rest))
    case rest =>
      obtain ⟨rfl, M2, ok2, hM2, hw⟩ := hx
      refine then_n (AWp.weak hw ?_)
      have q1 : ∀ x, (G.set a M2.obj ++ [x])[i]? = some (.cells [int s.room, .p (.g a) .mp, .p (.g j) (.own g), .p (.g b) .mp, int s.armed, boo s.down, int s.deeds]) := fun x => by
        rw [List.getElem?_append_left (by simpa using hil)]; exact g1 _
      have q2 : ∀ x y, ((G.set a M2.obj ++ [x]).set i y)[i]? = some y := fun x y => by rw [List.getElem?_set_self (by simp; omega)]
      refine w_seq (w_run tblOk fun K' hK' => ?_)
      simp [g1, -List.getElem?_set_self]
      refine callK_any (clone_ok (g2 _)) rfl rfl (by simp) fun r G' ⟨h1, h2⟩ => ?_
      subst h1; subst h2
      simp [q1, q2, -List.getElem?_set_self]
      refine hK' _ (then_n ?_); clear hK' K'
      refine w_run tblOk fun K' hK' => ?_
      simp [q2, -List.getElem?_set_self]
      refine hK' _ ?_; clear hK' K'
      simp
      exact ⟨M2, ok2, hM2, rfl⟩
    refine w_seq (w_run tblOk fun K' hK' => ?_)
    simp [g1, g3, sliceA, bndA, sliceRows, hfit, hKl', htake, -List.getElem?_set_self]
    refine hK' _ (then_n ?_); clear hK' K'
    cases hw : s.waits[n]? with
    | none =>
      have hge : s.waits.length ≤ n := List.getElem?_eq_none_iff.1 hw
      have hd : List.drop n (s.waits.map Deed.enc) = [] := List.drop_eq_nil_of_le (by simpa using hge)
      have hcf : crashF s.last s.waits n torn = kvs M.es := by simp [crashF, hw, hx.2.2]
      simp only [hd]
      refine w_seq (w_run tblOk fun K' hK' => ?_)
      simp
      refine hK' _ (then_n ?_); clear hK' K'
      refine w_cond (t := false) (by simp) (fun h => by cases h) (fun _ => w_skip ?_)
      exact ⟨rfl, M, hx.2.1, hcf.symm, Weak.slots (by simp) (by simp) (by simp)⟩
    | some x =>
      have hd : List.drop n (s.waits.map Deed.enc) = x.enc :: List.drop (n + 1) (s.waits.map Deed.enc) := by
        rw [List.drop_eq_getElem?_toList_append]
        simp [hw]
      have hcx := canAll_at hcan hw
      have hpos : ∀ m : Nat, (0 : Int) < (m : Int) + 1 := fun m => by omega
      simp only [hd]
      generalize List.drop (n + 1) (s.waits.map Deed.enc) = tl
      refine w_seq (w_run tblOk fun K' hK' => ?_)
      simp [hpos, Deed.enc]
      refine hK' _ (then_n ?_); clear hK' K'
      refine w_cond (t := x.kind == 1) (by simp) (fun h1 => ?_) (fun h1 => w_skip ?_)
      · simp at h1
        have hcf : crashF s.last s.waits n torn = doF (kvs M.es) (tornD x torn) := by simp [crashF, hw, h1, hx.2.2]
        have hsz : (x.b.extract 0 (cutTo torn x.b.size).toNat).size ≤ x.b.size := by
          simp [ByteArray.size_extract]
          omega
        have hct : can (kvs M.es) (tornD x torn) := by
          rw [hx.2.2]
          refine ⟨fun _ => ?_, fun h2 => ?_⟩
          · have := hcx.1 h1
            simp only [tornD]
            omega
          · simp only [tornD] at h2; omega
        have hdo := do_ok (G := G.set a M.obj) (a := a) (m := M) (g2 _) hct
        refine w_seq (w_run tblOk fun K' hK' => ?_)
        simp [Deed.enc]
        refine hK' _ (then_n ?_); clear hK' K'
        have hc0 : 0 ≤ cutTo torn x.b.size ∧ cutTo torn x.b.size ≤ x.b.size := by simp only [cutTo]; omega
        refine w_seq (w_run tblOk fun K' hK' => ?_)
        simp [maxmin, sliceA, bndA, hc0]
        refine hK' _ (then_n ?_); clear hK' K'
        refine w_drawn tblOk pmixed (.take 0 <| .take 1 <| .take 2 <| .all [(3, .all [(4, .all [(5, .done)])]), (4, .all [(3, .all [(5, .done)])])]) (by kernel_rfl) (by kernel_rfl) fun K' hK' => ?_
        simp [g1, g2, -List.getElem?_set_self]
        refine callK_any hdo rfl rfl (by simp [Deed.v]) fun r G' ⟨h1, h2⟩ => ?_
        subst h1; subst h2
        simp
        refine hK' _ ?_; clear hK' K'
        exact ⟨rfl, M.do (tornD x torn), hx.2.1.do _, by rw [kvs_do, hcf], Weak.slots (by simp) (by simp) (by simp)⟩
      · simp at h1
        have hcf : crashF s.last s.waits n torn = kvs M.es := by simp [crashF, hw, h1, hx.2.2]
        exact ⟨rfl, M, hx.2.1, hcf.symm, Weak.slots (by simp) (by simp) (by simp)⟩
end Go.Proofs.Dev

/- A crash, of a disk; the law's own functions. -/
set_option linter.unusedVariables false
set_option linter.unusedSimpArgs false
namespace Go.Proofs.Dev
open Go.Am
set_option maxRecDepth 100000

attribute [local simp] runK callOf nextOf stepA evalV St.ev St.get St.put St.next cellsA oneA newVarA wantA okConst constA zeroA fieldA tbl shiftA obj loadA mkV TyK.agg binA binV intBin storeA splA globIf St.setObj
  intsA maxI minI pickA unA convA nilA thenA inBlockA List.range List.range.loop AVal.glob AVal.glob.globs List.replicate retE retA resA frzAll frzV frz1 dataV data1 ownA rowsA oneOrTup runL pureA okTup indexA lenA
  slotsWeak objsWeak AVal.under AVal.under.unders objsBelow AObj.underO runP runPs dryA buildSliceA pairsA rowA rowsOfA rowsFit toDat toDats ptrNil buildA fillA isNilPtr

variable {G : List AObj} {k : DK} {s : DS} {ml ms : FM}

def crashS (s : DS) (keep torn : Int) : DS :=
  { s with last := crashF s.last s.waits (cutTo keep s.waits.length).toNat torn, seen := crashF s.last s.waits (cutTo keep s.waits.length).toNat torn, waits := [], armed := 0, down := false }

theorem crash_own {j g : Nat} (h : DAt G k s ml ms) (hw : k.w = some (j, g)) (hcan : canAll s.last s.waits) (hlen : s.waits.length ≤ 1099511627776) (keep torn : Int) :
    ACall Try.prog 20 [.p (.g k.i) (.ref 0), int keep, int torn] G (fun r G' => ∃ k' M, r = .tup [] ∧ DAt G' k' (crashS s keep torn) M M ∧ Fr G k G' k') := by
  obtain ⟨i, a, b, w⟩ := k
  simp only at hw
  subst hw
  obtain ⟨ho, ha, hb, hj, hab, hl, hs, okl, oks⟩ := h
  simp only [DS.cells, wv] at ho ha hb hj hab
  have hi := (List.getElem?_eq_some_iff.1 ho).1
  have hjl := (List.getElem?_eq_some_iff.1 hj).1
  have hal := (List.getElem?_eq_some_iff.1 ha).1
  have eia : i ≠ a := fun e => by subst e; rw [ho] at ha; cases ha
  have eja : j ≠ a := fun e => by subst e; rw [hj] at ha; cases ha
  have eij : i ≠ j := fun e => by subst e; rw [ho] at hj; cases hj
  refine ACall.weak (Weak.frz (p := .g j) (size := 5) (g := g) (rows := s.waits.map Deed.enc) hj) ?_
  have hK : (((cutTo keep s.waits.length).toNat : Nat) : Int) = cutTo keep s.waits.length := by
    have : 0 ≤ cutTo keep s.waits.length := by simp only [cutTo]; omega
    omega
  have hc := crash_core (G := G.set j (.frz 5 g (s.waits.map Deed.enc))) (i := i) (a := a) (b := b) (j := j) (g := g) (s := s) (ml := ml) (keep := keep) (torn := torn)
    (by rw [List.getElem?_set_ne (Ne.symm eij)]; exact ho) (by rw [List.getElem?_set_ne eja]; exact ha) (by rw [List.getElem?_set_self hjl]) okl hl hcan hlen _ hK
  refine hc.mono fun r G' ⟨h1, M, okM, hM, hG⟩ => ?_
  subst hG
  refine ⟨⟨i, a, G.length, none⟩, M, h1, ⟨?_, ?_, ?_, rfl, by simp; omega, by simp [crashS, hM], by simp [crashS, hM], okM, okM⟩, ⟨rfl, by simp, fun j' hj' hk => ?_, fun j' hj' => ?_⟩⟩
  · simp only
    rw [List.getElem?_set_self (by simp; omega)]
    simp [DS.cells, crashS, wv]
  · simp only
    rw [List.getElem?_set_ne eia, List.getElem?_append_left (by simpa using hal), List.getElem?_set_self (by simpa using hal)]
  · simp only
    rw [List.getElem?_set_ne (by omega)]
    simp
  · simp [DK.ids] at hk
    rw [List.getElem?_set_ne (by omega), List.getElem?_append_left (by simpa using hj'), List.getElem?_set_ne (by omega), List.getElem?_set_ne (by omega)]
  · simp [DK.ids] at hj' ⊢
    omega

theorem crash_ok (h : DAt G k s ml ms) (hcan : canAll s.last s.waits) (hlen : s.waits.length ≤ 1099511627776) (keep torn : Int) :
    ACall Try.prog 20 [.p (.g k.i) (.ref 0), int keep, int torn] G (fun r G' => ∃ k' M, r = .tup [] ∧ DAt G' k' (crashS s keep torn) M M ∧ Fr G k G' k') := by
  rcases hw : k.w with _ | ⟨j, g⟩
  · obtain ⟨h1, h2, h3⟩ := h.grow hw
    exact ACall.weak (h1 _) ((crash_own (j := G.length) (g := 0) h2 rfl hcan hlen keep torn).mono fun r G' ⟨k', M, q1, q2, q3⟩ => ⟨k', M, q1, q2, h3.trans q3⟩)
  · exact crash_own h hw hcan hlen keep torn
end Go.Proofs.Dev

/- Regions whose order is drawn, in which nothing turns memory: as the text has them. -/
set_option linter.unusedVariables false
set_option linter.unusedSimpArgs false
namespace Go.Am
section
variable {P : Program} {T : Tbl} {e : Env} {σ : St} {w : World} {ops : Array Oper} {K : St → Prop}

def runA (P : Program) (T : Tbl) (ops : Array Oper) (K : St → Prop) : List Nat → St → Prop
  | [], σ => K σ
  | i :: rest, σ => match ops[i]? with
    | none => False
    | some o => match wantA σ ops o with
      | some true => match pureA T σ o.op with
        | some x => runA P T ops K rest (σ.put o.dst x)
        | none => False
      | some false => runA P T ops K rest (σ.put o.dst (.tup []))
      | none => False

def okA (ops : Array Oper) : List Nat → Array Bool → Bool
  | [], listed => (Region.ready .any ops listed).isEmpty
  | i :: rest, listed => Region.free .any ops listed i && (Region.ready .any ops listed).contains i && decide (i < ops.size) && !(listed.getD ops.size false) && okA ops rest (listed.setIfInBounds i true)

theorem runA_ok (hT : TblOk P T) (hs : Region.noSelect ops = true) : ∀ (l : List Nat) (listed : Array Bool) (σ : St), okA ops l listed = true → runA P T ops K l σ → AAnyL P ops K ops.size l.length listed σ
  | [], listed, σ, hp, h => .done (by simpa [okA] using hp) h
  | i :: rest, listed, σ, hp, h => by
    simp only [okA, Bool.and_eq_true, Bool.not_eq_true', decide_eq_true_eq] at hp
    obtain ⟨⟨⟨⟨h1, h2⟩, h3⟩, h4⟩, h5⟩ := hp
    have hwait : waitsFor .any ops ops.size i = true := by simp [waitsFor]
    unfold runA at h
    split at h
    · exact h.elim
    · rename_i o ho
      split at h
      · rename_i hw
        split at h
        · rename_i x hx
          exact .take hT ho hs h1 h2 (by omega) hwait h4 (.inl ⟨hw, hx⟩) (runA_ok hT hs rest _ _ h5 h)
        · exact h.elim
      · rename_i hw
        exact .take hT ho hs h1 h2 (by omega) hwait h4 (.inr ⟨hw, rfl⟩) (runA_ok hT hs rest _ _ h5 h)
      · exact h.elim

theorem w_pure (hT : TblOk P T) (hm : P.follows .mixedOrders = true) {id : Nat} {Q : Exit → St → Prop} (hs : Region.noSelect ops = true)
    (hp : okA ops (List.range ops.size) (Array.replicate ops.size false) = true)
    (h : ∀ K : St → Prop, (∀ σ, Q .normal σ → K σ) → runA P T ops K (List.range ops.size) σ) : AWp P (.region id ops true) Q σ := fun e a w S => by
  have hL := runA_ok hT hs (List.range ops.size) _ _ hp (h _ fun _ h => h)
  rw [List.length_range] at hL
  refine wp_region_any hm (wpAny_of_L _ _ _ _ (hL _ (fun c a w hh => hh.1) e a _ ⟨S.d, S.sz, S.s, hrel_drawn S.h⟩ fun a' w' hp => ⟨trivial, ?_⟩))
  obtain ⟨e', σ', k1, k2, k3⟩ := hp
  exact ⟨e', σ', k1, k2, evo_drawn k3⟩
end
end Go.Am

/- The law's own functions: same, read. -/
set_option linter.unusedVariables false
set_option linter.unusedSimpArgs false
namespace Go.Proofs.Dev
open Go.Am
set_option maxRecDepth 100000

attribute [local simp] runK callOf nextOf stepA evalV St.ev St.get St.put St.next cellsA oneA newVarA wantA okConst constA zeroA fieldA tbl shiftA obj loadA mkV TyK.agg binA binV intBin storeA splA globIf St.setObj
  intsA maxI minI pickA unA convA nilA thenA inBlockA List.range List.range.loop AVal.glob AVal.glob.globs List.replicate retE retA resA frzAll frzV frz1 dataV data1 ownA rowsA oneOrTup runL pureA okTup indexA lenA
  slotsWeak objsWeak AVal.under AVal.under.unders objsBelow AObj.underO runP runPs dryA buildSliceA pairsA rowA rowsOfA rowsFit toDat toDats ptrNil buildA fillA isNilPtr runA

variable {G : List AObj} {k : DK} {s : DS} {ml ms : FM}

theorem len_strRows (l : List ByteArray) : (strRows l).length = l.length := by simp [strRows]
theorem at_strRows {l : List ByteArray} {i : Nat} {x : ByteArray} (h : l[i]? = some x) : (strRows l)[i]? = some [.v (.string x)] := by simp [strRows, h]

theorem same_ok (a b : List ByteArray) : ACall Try.prog 21 [.d (.l (strRows a)), .d (.l (strRows b))] G (fun r G' => r = boo (decide (a = b)) ∧ G' = G) := by
  refine ACall.bodyW tblOk Try.func21 (c := _) rfl rfl ?_
  refine AWp.len 0 rfl fun hlen => ?_
  rw [len_strRows] at hlen
  refine w_seq (w_run tblOk fun K hK => ?_)
  simp
  refine hK _ (then_n ?_); clear hK K
  refine w_seq (w_seq (w_run tblOk fun K hK => ?_))
  simp [len_strRows]
  refine hK _ (then_n ?_); clear hK K
  refine w_cond (t := (a.length : Int) != b.length) (by simp) (fun ht => ?_) (fun ht => w_skip (then_n ?_))
  · refine w_seq (w_run tblOk fun K hK => ?_)
    simp
    refine hK _ (then_n ?_); clear hK K
    refine w_ret ?_
    have : a ≠ b := fun e => by subst e; simp at ht
    simp [this]
  · have hl : a.length = b.length := by simp at ht; omega
    refine w_seq (w_seq (w_run tblOk fun K hK => ?_))
    simp
    refine hK _ (then_n ?_); clear hK K
    refine w_block ?_
    refine AWp.loopW (fun i : Nat => { s := [.d (.l (strRows a)), .d (.l (strRows b)), .any, .any, boo false, int i] ++ List.replicate 20 .any, L := [], G := G })
      (fun i => i ≤ a.length ∧ a.take i = b.take i) (fun i => a.length - i) (fun i hi => ?step) 0 (by simp) ?start
    case start => exact Weak.slots (by simp) (by simp) (by simp)
    refine w_seq (w_seq (w_run tblOk fun K hK => ?_))
    simp [len_strRows]
    refine hK _ (then_n ?_); clear hK K
    refine w_cond (t := decide (i < a.length)) (by simp) (fun ht => w_skip (then_n ?_)) (fun ht => w_exit ?_)
    · simp at ht
      have hb : i < b.length := by omega
      have ha1 : a[i]? = some a[i] := List.getElem?_eq_getElem ht
      have hb1 : b[i]? = some b[i] := List.getElem?_eq_getElem hb
      refine w_seq (w_block (w_seq (w_pure tblOk pmixed (by kernel_rfl) (by kernel_rfl) fun K hK => ?_)))
      simp [at_strRows ha1, at_strRows hb1, strBin]
      refine hK _ (then_n ?_); clear hK K
      refine w_cond (t := !decide (a[i] = b[i])) (by simp) (fun hne => ?_) (fun hne => w_skip ?_)
      · refine w_seq (w_run tblOk fun K hK => ?_)
        simp
        refine hK _ (then_n ?_); clear hK K
        refine w_ret ?_
        simp at hne
        have : a ≠ b := fun e => by subst e; exact hne rfl
        simp [this]
      · refine inBlockA_normal (then_n ?_)
        simp at hne
        refine w_run tblOk fun K hK => ?_
        simp
        refine hK _ ?_; clear hK K
        refine ⟨i + 1, ⟨by omega, ?_⟩, by omega, ?_⟩
        · rw [List.take_add_one, List.take_add_one, hi.2, ha1, hb1, hne]
        · refine Weak.slots ?_ (by simp) (by simp)
          simp
          exact w64 (by omega) (by omega)
    · simp at ht
      refine thenA_exit (thenA_exit (inBlockA_exit (then_n ?_)))
      refine w_seq (w_run tblOk fun K hK => ?_)
      simp
      refine hK _ (then_n ?_); clear hK K
      refine w_ret ?_
      have : a = b := by
        have h1 := hi.2
        rw [List.take_of_length_le (by omega), List.take_of_length_le (by omega)] at h1
        exact h1
      simp [this]

/-- What 'read' tells. -/
def readL (s : DS) (l : List ByteArray) : List ByteArray := l.flatMap fun n => [n, if readS s n = 0 then (getF s.seen n).getD e0 else e0]

theorem readL_take {s : DS} {l : List ByteArray} {i : Nat} {n : ByteArray} (h : l[i]? = some n) : readL s (l.take (i + 1)) = readL s (l.take i) ++ [n, if readS s n = 0 then (getF s.seen n).getD e0 else e0] := by
  rw [List.take_add_one, h]
  simp [readL]

theorem len_readL (s : DS) (l : List ByteArray) : (readL s l).length = 2 * l.length := by
  induction l with
  | nil => rfl
  | cons x xs ih => simp only [readL, List.flatMap_cons, List.length_append, List.length_cons, List.length_nil] at ih ⊢; omega

theorem strRows_append (a b : List ByteArray) : strRows (a ++ b) = strRows a ++ strRows b := by simp [strRows]

theorem read_law_ok (h : DAt G k s ml ms) (kn : (s.seen.map (·.1)).Nodup) (hk : ∀ x ∈ s.seen, x.1.size ≤ 9223372036854775807) (hc : s.seen.length ≤ 1099511627776) (hv : ∀ n v, getF s.seen n = some v → v.size ≤ 9223372036854775807) :
    ACall Try.prog 17 [.p (.g k.i) (.ref 0)] G (fun r G' => ∃ l, IsSorted l (s.seen.map (·.1)) ∧ r = .d (.l (strRows (readL s l))) ∧ DAt G' k s ml ms ∧ Fr G k G' k) := by
  have hnames := names_ok h kn hk hc
  refine ACall.bodyW tblOk Try.func17 (c := _) rfl rfl ?_
  refine w_seq (w_run tblOk fun K hK => ?_)
  simp
  refine hK _ (then_n ?_); clear hK K
  refine w_seq (w_run tblOk fun K hK => ?_)
  simp
  refine hK _ (then_n ?_); clear hK K
  refine w_seq (w_run tblOk fun K hK => ?_)
  simp
  refine callK_any hnames rfl rfl (by simp) fun r G' hr => ?_
  obtain ⟨l, rfl, hsort, hD, hF⟩ := hr
  have hll : l.length = s.seen.length := by
    obtain ⟨ss, hp, rfl⟩ := hsort
    have := hp.length_eq
    simpa using this
  simp
  refine hK _ (then_n ?_); clear hK K
  refine w_seq (w_seq (w_run tblOk fun K hK => ?_))
  simp
  refine hK _ (then_n ?_); clear hK K
  refine w_block ?_
  refine AWp.weak (Weak.nilSlot 3 1 rfl) ?_
  simp only [List.set, List.length_nil, List.nil_append]
  refine AWp.loopW (fun x : Nat × Nat => { s := [.p (.g k.i) (.ref 0), .any, .any, .p (.l 0) (.own x.2), .d (.l (strRows l)), int x.1] ++ List.replicate 29 .any, L := [.arr 1 x.2 (strRows (readL s (l.take x.1)))], G := G' })
    (fun x => x.1 ≤ l.length) (fun x => l.length - x.1) (fun x hi => ?step) (0, 0) (Nat.zero_le _) ?start
  case start => exact Weak.slots (by simp) (by simp [readL, strRows]) (by simp)
  obtain ⟨i, g⟩ := x
  simp only at hi ⊢
  refine w_seq (w_seq (w_run tblOk fun K hK => ?_))
  simp [len_strRows]
  refine hK _ (then_n ?_); clear hK K
  refine w_cond (t := decide (i < l.length)) (by simp) (fun ht => w_skip (then_n ?_)) (fun ht => w_exit ?_)
  · simp at ht
    have hx : l[i]? = some l[i] := List.getElem?_eq_getElem ht
    have hread := read_ok hD l[i] (hv l[i])
    generalize l[i] = n at *
    refine w_seq (w_block (w_seq (w_run tblOk fun K hK => ?_)))
    simp [at_strRows hx]
    refine callK_any hread rfl rfl (by simp) fun r G2 ⟨h1, h2⟩ => ?_
    subst h1; subst h2
    simp
    refine hK _ (then_n ?_); clear hK K
    have hfit : ((strRows (readL s (l.take i))).length + 2) * 16 ≤ 140737488355328 := by
      rw [len_strRows, len_readL, List.length_take]; omega
    have hbytes : ∃ ints, bytesOf (if readS s n = 0 then byteRows ((getF s.seen n).getD e0) else []) = some ints ∧ strOfInts ints = if readS s n = 0 then (getF s.seen n).getD e0 else e0 := by
      split
      · exact ⟨_, bytesOf_byteRows _, strOf_bytes _⟩
      · exact ⟨[], rfl, rfl⟩
    obtain ⟨ints, hb1, hb2⟩ := hbytes
    refine w_drawn tblOk pmixed (.take 0 <| .take 1 <| .take 2 <| .take 3 <| .take 4 <| .take 5 <| .all [(6, .all [(7, .all [(8, .take 9 <| .done)])])]) (by kernel_rfl) (by kernel_rfl) fun K hK => ?_
    simp [at_strRows hx, hb1, hb2, appendA, newsA, hfit, strBytesA]
    refine hK _ ?_; clear hK K
    refine inBlockA_normal (then_n ?_)
    refine w_run tblOk fun K hK => ?_
    simp
    refine hK _ ?_; clear hK K
    refine ⟨(i + 1, g + 1), by simp; omega, by simp; omega, ?_⟩
    refine Weak.slots ?_ ?_ (by simp)
    · simp
      exact w64 (by omega) (by omega)
    · simp only [readL_take hx, strRows_append]
      simp [strRows]
  · simp at ht
    refine thenA_exit (thenA_exit (inBlockA_exit (then_n ?_)))
    have hil : i = l.length := by omega
    subst hil
    refine w_seq (w_run tblOk fun K hK => ?_)
    simp
    refine hK _ (then_n ?_); clear hK K
    refine w_ret ?_
    simp
    exact ⟨l, hsort, rfl, hD, hF⟩
end Go.Proofs.Dev

/- A call of the law. -/
set_option linter.unusedVariables false
set_option linter.unusedSimpArgs false
namespace Go.Proofs.Dev
open Go.Am
set_option maxRecDepth 100000

attribute [local simp] runK callOf nextOf stepA evalV St.ev St.get St.put St.next cellsA oneA newVarA wantA okConst constA zeroA fieldA tbl shiftA obj loadA mkV TyK.agg binA binV intBin storeA splA globIf St.setObj
  intsA maxI minI pickA unA convA nilA thenA inBlockA List.range List.range.loop AVal.glob AVal.glob.globs List.replicate retE retA resA frzAll frzV frz1 dataV data1 ownA rowsA oneOrTup runL pureA okTup indexA lenA
  slotsWeak objsWeak AVal.under AVal.under.unders objsBelow AObj.underO runP runPs dryA buildSliceA pairsA rowA rowsOfA rowsFit toDat toDats ptrNil buildA fillA isNilPtr runA

variable {G : List AObj} {k : DK} {s : DS} {ml ms : FM}

structure Act where
  kind : Int
  name : ByteArray
  to : ByteArray
  b : ByteArray
  n : Int
  k : Int

def Act.enc (x : Act) : List Dat := [.v (.int .i64 x.kind), .v (.string x.name), .v (.string x.to), .l (byteRows x.b), .v (.int .i64 x.n), .v (.int .i64 x.k)]
def Act.v (x : Act) : AVal := .agg [int x.kind, str x.name, str x.to, .d (.l (byteRows x.b)), int x.n, int x.k]

def actS (s : DS) (x : Act) : Int × DS :=
  if x.kind = 0 then makeS s x.name
  else if x.kind = 1 then appendS s x.name x.b
  else if x.kind = 2 then cutS s x.name x.n
  else if x.kind = 3 then renameS s x.name x.to
  else if x.kind = 4 then removeS s x.name
  else syncS s

theorem mayE_le (d : Bool) (l : List ByteArray) : 0 ≤ mayE d l ∧ mayE d l ≤ 6 := by unfold mayE; split <;> (try split) <;> omega
theorem doing_le (s : DS) (x : Deed) : 0 ≤ (doingS s x).1 ∧ (doingS s x).1 ≤ 6 := by unfold doingS; split <;> simp
theorem on_le (s : DS) (x : Deed) : 0 ≤ (onS s x).1 ∧ (onS s x).1 ≤ 6 := by
  unfold onS; split
  · exact doing_le s x
  · simp
theorem withMay_le {s : DS} {l : List ByteArray} {o : Int × DS} (h : 0 ≤ o.1 ∧ o.1 ≤ 6) : 0 ≤ (withMay s l o).1 ∧ (withMay s l o).1 ≤ 6 := by
  unfold withMay; split
  · exact mayE_le _ _
  · exact h

theorem actS_le (s : DS) (x : Act) : 0 ≤ (actS s x).1 ∧ (actS s x).1 ≤ 6 := by
  unfold actS
  split
  · unfold makeS; refine withMay_le ?_; split
    · simp
    · split
      · simp
      · exact doing_le _ _
  · split
    · unfold appendS; refine withMay_le ?_; split
      · simp
      · exact on_le _ _
    · split
      · unfold cutS; refine withMay_le ?_; split
        · simp
        · exact on_le _ _
      · split
        · exact withMay_le (on_le _ _)
        · split
          · exact withMay_le (on_le _ _)
          · unfold syncS; refine withMay_le ?_; split <;> simp

theorem act_ok (h : DAt G k s ml ms) (ok : s.ok) (hr : usedF s.seen ≤ s.room ∧ s.room ≤ 1073741824) (x : Act) (hk : 0 ≤ x.kind ∧ x.kind ≤ 5) :
    ACall Try.prog 16 [.p (.g k.i) (.ref 0), x.v] G (fun r G' => ∃ k' ml' ms', r = .tup [int (actS s x).1, .d (.l [])] ∧ DAt G' k' (actS s x).2 ml' ms' ∧ Fr G k G' k') := by
  have hle := actS_le s x
  have hw := w64 (n := (actS s x).1) (by omega) (by omega)
  obtain ⟨kd, nm, to, b, n, kk⟩ := x
  simp only at hk
  simp only [Act.v]
  have hmake := make_ok h ok nm
  have happ := append_ok h ok nm b hr
  have hcut := cut_ok h ok nm n
  have hren := rename_ok h ok nm to
  have hrem := remove_ok h ok nm
  have hsync := sync_ok h ok
  unfold Does at hmake happ hcut hren hrem
  refine ACall.bodyW tblOk Try.func16 (c := _) rfl rfl ?_
  refine w_seq (w_run tblOk fun K hK => ?_)
  simp
  refine hK _ (then_n ?_); clear hK K
  refine w_seq (w_seq (w_run tblOk fun K hK => ?_))
  simp
  refine hK _ (then_n ?_); clear hK K
  refine w_block ?_
  refine w_seq (w_run tblOk fun K hK => ?_)
  simp
  refine hK _ (then_n ?_); clear hK K
  refine w_cond (t := kd == 0) (by simp) (fun ht => ?_) (fun ht0 => ?_)
  · simp at ht
    subst ht
    have hsp : actS s ⟨0, nm, to, b, n, kk⟩ = makeS s nm := by simp [actS]
    rw [hsp] at hw ⊢
    refine w_seq (w_run tblOk fun K hK => ?_)
    simp
    refine callK_any hmake rfl rfl (by simp) fun r G' hr => ?_
    obtain ⟨k', ms', rfl, h2, h3⟩ := hr
    simp [hw]
    refine hK _ (then_n ?_); clear hK K
    refine w_ret ?_
    exact ⟨rfl, k', ml, ms', rfl, h2, h3⟩
  simp at ht0
  refine w_seq (w_run tblOk fun K hK => ?_)
  simp
  refine hK _ (then_n ?_); clear hK K
  refine w_cond (t := kd == 1) (by simp) (fun ht => ?_) (fun ht1 => ?_)
  · simp at ht
    subst ht
    have hsp : actS s ⟨1, nm, to, b, n, kk⟩ = appendS s nm b := by simp [actS]
    rw [hsp] at hw ⊢
    refine w_seq (w_run tblOk fun K hK => ?_)
    simp
    refine callK_any happ rfl rfl (by simp) fun r G' hr => ?_
    obtain ⟨k', ms', rfl, h2, h3⟩ := hr
    simp [hw]
    refine hK _ (then_n ?_); clear hK K
    refine w_ret ?_
    exact ⟨rfl, k', ml, ms', rfl, h2, h3⟩
  simp at ht1
  refine w_seq (w_run tblOk fun K hK => ?_)
  simp
  refine hK _ (then_n ?_); clear hK K
  refine w_cond (t := kd == 2) (by simp) (fun ht => ?_) (fun ht2 => ?_)
  · simp at ht
    subst ht
    have hsp : actS s ⟨2, nm, to, b, n, kk⟩ = cutS s nm n := by simp [actS]
    rw [hsp] at hw ⊢
    refine w_seq (w_run tblOk fun K hK => ?_)
    simp
    refine callK_any hcut rfl rfl (by simp) fun r G' hr => ?_
    obtain ⟨k', ms', rfl, h2, h3⟩ := hr
    simp [hw]
    refine hK _ (then_n ?_); clear hK K
    refine w_ret ?_
    exact ⟨rfl, k', ml, ms', rfl, h2, h3⟩
  simp at ht2
  refine w_seq (w_run tblOk fun K hK => ?_)
  simp
  refine hK _ (then_n ?_); clear hK K
  refine w_cond (t := kd == 3) (by simp) (fun ht => ?_) (fun ht3 => ?_)
  · simp at ht
    subst ht
    have hsp : actS s ⟨3, nm, to, b, n, kk⟩ = renameS s nm to := by simp [actS]
    rw [hsp] at hw ⊢
    refine w_seq (w_run tblOk fun K hK => ?_)
    simp
    refine callK_any hren rfl rfl (by simp) fun r G' hr => ?_
    obtain ⟨k', ms', rfl, h2, h3⟩ := hr
    simp [hw]
    refine hK _ (then_n ?_); clear hK K
    refine w_ret ?_
    exact ⟨rfl, k', ml, ms', rfl, h2, h3⟩
  simp at ht3
  refine w_seq (w_run tblOk fun K hK => ?_)
  simp
  refine hK _ (then_n ?_); clear hK K
  refine w_cond (t := kd == 4) (by simp) (fun ht => ?_) (fun ht4 => ?_)
  · simp at ht
    subst ht
    have hsp : actS s ⟨4, nm, to, b, n, kk⟩ = removeS s nm := by simp [actS]
    rw [hsp] at hw ⊢
    refine w_seq (w_run tblOk fun K hK => ?_)
    simp
    refine callK_any hrem rfl rfl (by simp) fun r G' hr => ?_
    obtain ⟨k', ms', rfl, h2, h3⟩ := hr
    simp [hw]
    refine hK _ (then_n ?_); clear hK K
    refine w_ret ?_
    exact ⟨rfl, k', ml, ms', rfl, h2, h3⟩
  simp at ht4
  refine w_seq (w_run tblOk fun K hK => ?_)
  simp
  refine hK _ (then_n ?_); clear hK K
  refine w_cond (t := kd == 5) (by simp) (fun ht => ?_) (fun ht5 => ?_)
  · simp at ht
    subst ht
    have hsp : actS s ⟨5, nm, to, b, n, kk⟩ = syncS s := by simp [actS]
    rw [hsp] at hw ⊢
    refine w_seq (w_run tblOk fun K hK => ?_)
    simp
    refine callK_any hsync rfl rfl (by simp) fun r G' hr => ?_
    obtain ⟨k', ml', rfl, h2, h3⟩ := hr
    simp [hw]
    refine hK _ (then_n ?_); clear hK K
    refine w_ret ?_
    exact ⟨rfl, k', ml', ms, rfl, h2, h3⟩
  simp at ht5
  exact absurd hk (by omega)

end Go.Proofs.Dev

/- Long regions: operation by operation off the list. -/
set_option linter.unusedVariables false
set_option linter.unusedSimpArgs false
namespace Go.Am
section
variable {P : Program} {T : Tbl} {e : Env} {σ : St} {w : World} {ops : Array Oper} {K : St → Prop}

def runY (P : Program) (T : Tbl) (ops : Array Oper) (K : St → Prop) : List Oper → St → Prop
  | [], σ => K σ
  | o :: rest, σ => match wantA σ ops o with
    | some true => match callOf σ o.op with
      | some (f, args) => callK P o.dst (runY P T ops K rest) f args σ
      | none => match nextOf σ o.op with
        | some l => ∀ r ∈ l, runY P T ops K rest (σ.next o.dst r)
        | none => match stepA T σ o.op with
          | some r => runY P T ops K rest (σ.next o.dst r)
          | none => False
    | some false => runY P T ops K rest (σ.put o.dst (.tup []))
    | none => False

theorem runY_ok : ∀ (l : List Nat) {σ : St}, runY P T ops K (l.filterMap (ops[·]?)) σ → runK P T ops K l σ
  | [], σ, h => h
  | i :: rest, σ, h => by
    unfold runK
    split
    · rename_i ho
      rw [List.filterMap_cons_none ho] at h
      exact runY_ok rest h
    · rename_i o ho
      rw [List.filterMap_cons_some ho] at h
      unfold runY at h
      split at h
      · rename_i hw
        simp only [hw]
        split at h
        · rename_i f args hc
          simp only [hc]
          exact callK_mono (fun σ h => runY_ok rest h) h
        · rename_i hc
          simp only [hc]
          split at h
          · rename_i l hl; simp only [hl]; exact fun r hr => runY_ok rest (h r hr)
          · rename_i hl
            simp only [hl]
            split at h
            · rename_i r hr; simp only [hr]; exact runY_ok rest h
            · exact h.elim
      · rename_i hw; simp only [hw]; exact runY_ok rest h
      · exact h.elim

theorem range_ops (ops : Array Oper) : (List.range ops.size).filterMap (ops[·]?) = ops.toList := by
  have key : ∀ (l : List Oper) (n : Nat), n ≤ l.length → (List.range n).filterMap (l[·]?) = l.take n := fun l n => by
    induction n with
    | zero => intro _; rfl
    | succ n ih =>
      intro hn
      rw [List.range_succ, List.filterMap_append, ih (by omega), List.take_add_one]
      simp [List.getElem?_eq_getElem (show n < l.length by omega)]
  have := key ops.toList ops.size (by simp)
  simp only [Array.getElem?_toList] at this
  rw [this, List.take_of_length_le (by simp)]

theorem w_long (hT : TblOk P T) {id : Nat} {l : List Oper} {Q : Exit → St → Prop} (h : ∀ K : St → Prop, (∀ σ, Q .normal σ → K σ) → runY P T l.toArray K l σ) : AWp P (.region id l.toArray false) Q σ :=
  w_run hT fun K hK => runY_ok _ (by rw [range_ops]; exact h K hK)
/-- One operation of a long region. -/
theorem y_op {o : Oper} {rest : List Oper} {r : AVal × List AObj × List AObj} {σ' : St} (hw : wantA σ ops o = some true) (hc : callOf σ o.op = none) (hx : nextOf σ o.op = none) (hs : stepA T σ o.op = some r)
    (hn : σ.next o.dst r = σ') (h : runY P T ops K rest σ') : runY P T ops K (o :: rest) σ := by
  unfold runY
  simp only [hw, hc, hx, hs, hn]
  exact h

theorem y_off {o : Oper} {rest : List Oper} {σ' : St} (hw : wantA σ ops o = some false) (hn : σ.put o.dst (.tup []) = σ') (h : runY P T ops K rest σ') : runY P T ops K (o :: rest) σ := by
  unfold runY
  simp only [hw, hn]
  exact h

end
end Go.Am

/- The walk as evaluation: an evaluator of code that is sealed, so that only its laws are used. -/
set_option linter.unusedVariables false
set_option linter.unusedSimpArgs false
namespace Go.Am
section
variable {P : Program} {T : Tbl} {e : Env} {σ : St} {w : World} {ops : Array Oper} {K : St → Prop}

/-- Operations that leave memory as it is, by their kind. -/
def pureK (T : Tbl) : Op → Bool
  | .move _ | .assign _ | .pick _ _ _ | .nilCheck _ | .fieldAddr _ _ _ | .indexAddr _ _ _ | .index _ _ _ | .field _ _ _ | .load _ _ | .binOp _ _ _ _ _ | .unOp _ _ _
  | .slice _ _ _ _ _ | .build _ _ | .extract _ _ | .makeFunc _ _ _ | .lookup _ _ _ _ | .entry _ => true
  | .convert _ d _ => match T d with
    | some te => match te.k with
      | .slice _ => false
      | _ => true
    | none => true
  | .call { callee := .builtin .len, args := _, argTypes := _ } => true
  | .call { callee := .builtin .max, args := _, argTypes := _ } => true
  | .call { callee := .builtin .min, args := _, argTypes := _ } => true
  | _ => false

theorem strBytes_none {s d : Nat} {x : AVal} {y : Operand} (h : pureK T (.convert s d y) = true) : strBytesA T s d x = none := by
  unfold strBytesA
  split
  · rename_i te de str hte hde
    simp only [pureK, hde] at h
    split
    · rename_i el hk1 hk2; simp [hk2] at h
    · rfl
  · rfl

theorem pureK_step {o : Op} {r : AVal × List AObj × List AObj} (hk : pureK T o = true) (h : stepA T σ o = some r) : pureA T σ o = some r.1 ∧ r.2 = (σ.L, σ.G) := by
  unfold stepA at h
  split at h <;> first
    | (simp [pureK] at hk; done)
    | skip
  · rename_i s d x
    rw [strBytes_none hk] at h
    simp only at h
    split at h
    · rename_i y hy; simp at h; subst h; exact ⟨by simp [pureA, evalV, hy], rfl⟩
    · cases h
  · split at h
    · rename_i y hy; simp at h; subst h; exact ⟨by simp [pureA, hy], rfl⟩
    · cases h
  · split at h
    · rename_i y hy; simp at h; subst h; exact ⟨by simp [pureA, hy], rfl⟩
    · cases h
  · split at h
    · rename_i y hy
      simp at h; subst h
      refine ⟨?_, rfl⟩
      unfold pureA
      split
      · simp [evalV] at hy
      · simp [evalV] at hy
      · exact hy
    · cases h

theorem pureK_call {o : Op} (hk : pureK T o = true) : callOf σ o = none ∧ nextOf σ o = none := by
  constructor
  · unfold callOf
    split
    · simp [pureK] at hk
    · rfl
  · unfold nextOf
    split
    · simp [pureK] at hk
    · rfl

/-! ### A region in the text's order -/
def allPure (T : Tbl) (ops : Array Oper) : List Nat → Bool
  | [] => true
  | i :: rest => (match ops[i]? with | some o => pureK T o.op | none => false) && allPure T ops rest

def initPure (T : Tbl) (ops : Array Oper) : List Nat → Bool
  | [] => true
  | [_] => true
  | i :: j :: rest => (match ops[i]? with | some o => pureK T o.op | none => false) && initPure T ops (j :: rest)

theorem runA_of : ∀ {l : List Nat} {σ : St}, allPure T ops l = true → runK P T ops K l σ → runA P T ops K l σ
  | [], σ, _, h => h
  | i :: rest, σ, hp, h => by
    simp only [allPure, Bool.and_eq_true] at hp
    unfold runK at h
    unfold runA
    split at h
    · rename_i ho; simp [ho] at hp
    · rename_i o ho
      simp only [ho] at hp ⊢
      split at h
      · rename_i hw
        simp only [hw]
        obtain ⟨hc, hx⟩ := pureK_call (σ := σ) hp.1
        simp only [hc, hx] at h
        split at h
        · rename_i r hr
          obtain ⟨h1, h2⟩ := pureK_step hp.1 hr
          obtain ⟨x, L, G⟩ := r
          simp only [Prod.mk.injEq] at h2
          obtain ⟨rfl, rfl⟩ := h2
          simp only [h1]
          exact runA_of hp.2 h
        · exact h.elim
      · rename_i hw; simp only [hw]; exact runA_of hp.2 h
      · exact h.elim

theorem runL_of : ∀ {l : List Nat} {σ : St}, initPure T ops l = true → runK P T ops K l σ → (∀ i ∈ l, (ops[i]?).isSome = true) → runL P T ops K l σ
  | [], σ, _, h, _ => h
  | [i], σ, _, h, hs => by
    have h' := h
    unfold runK at h
    unfold runL
    have hi := hs i (by simp)
    split at h
    · rename_i ho; simp [ho] at hi
    · rename_i o ho
      simp only [ho]
      split at h
      · rename_i hw; simp only [hw]; exact h'
      · rename_i hw; simp only [hw]; unfold runK at h; unfold runL; exact h
      · exact h.elim
  | i :: j :: rest, σ, hp, h, hs => by
    simp only [initPure, Bool.and_eq_true] at hp
    unfold runK at h
    unfold runL
    split at h
    · rename_i ho; simp [ho] at hp
    · rename_i o ho
      simp only [ho] at hp ⊢
      have hs' : ∀ k ∈ j :: rest, (ops[k]?).isSome = true := fun k hk => hs k (by simp at hk ⊢; exact .inr hk)
      split at h
      · rename_i hw
        simp only [hw]
        obtain ⟨hc, hx⟩ := pureK_call (σ := σ) hp.1
        simp only [hc, hx] at h
        split at h
        · rename_i r hr
          obtain ⟨h1, h2⟩ := pureK_step hp.1 hr
          obtain ⟨x, L, G⟩ := r
          simp only [Prod.mk.injEq] at h2
          obtain ⟨rfl, rfl⟩ := h2
          simp only [h1]
          exact runL_of hp.2 h hs'
        · exact h.elim
      · rename_i hw; simp only [hw]; exact runL_of hp.2 h hs'
      · exact h.elim

/-- May a region whose order is drawn be read in the text's order? -/
def textOk (T : Tbl) (ops : Array Oper) : Bool :=
  Region.noSelect ops && ((allPure T ops (List.range ops.size) && okA ops (List.range ops.size) (Array.replicate ops.size false)) ||
    (initPure T ops (List.range ops.size) && okL ops (ops.size - 1) (ops.size + 1) (List.range ops.size) (Array.replicate ops.size false)))

theorem w_textOk (hT : TblOk P T) (hm : P.follows .mixedOrders = true) {id : Nat} {Q : Exit → St → Prop} (hp : textOk T ops = true) (h : runK P T ops (Q .normal) (List.range ops.size) σ) : AWp P (.region id ops true) Q σ := by
  have hsome : ∀ i ∈ List.range ops.size, (ops[i]?).isSome = true := fun i hi => by
    simp at hi; simp [hi]
  simp only [textOk, Bool.and_eq_true, Bool.or_eq_true] at hp
  obtain ⟨hs, hp | hp⟩ := hp
  · exact w_pure hT hm hs hp.2 fun K hK => runA_of hp.1 (runK_mono (fun σ h => hK σ h) h)
  · exact w_text hT hm _ hs hp.2 fun K hK => runL_of hp.1 (runK_mono (fun σ h => hK σ h) h) hsome
end
end Go.Am

/- The walk as evaluation: an evaluator of code that is sealed, so that only its laws are used. -/
set_option linter.unusedVariables false
set_option linter.unusedSimpArgs false
namespace Go.Am

def findP (id : Nat) : List (Nat × Plan) → Option Plan
  | [] => none
  | (i, p) :: r => if i = id then some p else findP id r

/-- Which plan holds for a region: none: the text's order. -/
def planOf (pl : List (Nat × Plan)) (id : Nat) : Bool → Option Plan
  | true => findP id pl
  | false => none

def exX (P : Program) (T : Tbl) (pl : List (Nat × Plan)) : Code → (Exit → St → Prop) → St → Prop
  | .skip, Q, σ => Q .normal σ
  | .region id ops dr, Q, σ => match planOf pl id dr with
    | some p => runP P T ops (Q .normal) p σ
    | none => runY P T ops (Q .normal) ops.toList σ
  | .seq a b, Q, σ => exX P T pl a (thenA (exX P T pl b Q) Q) σ
  | .cond c t f, Q, σ => match σ.ev c with
    | .d (.v (.bool b)) => if b then exX P T pl t Q σ else exX P T pl f Q σ
    | _ => False
  | .block id c, Q, σ => exX P T pl c (inBlockA id Q) σ
  | .exit id, Q, σ => Q (.exit id) σ
  | .ret, Q, σ => Q .ret σ
  | .label _, Q, σ => Q .normal σ
  | .loop b, Q, σ => AWp P (.loop b) Q σ
  | .rangeFunc f ps asg b, Q, σ => AWp P (.rangeFunc f ps asg b) Q σ
  | _, _, _ => False

/-- May the code be read so? -/
def okX (T : Tbl) (pl : List (Nat × Plan)) : Code → Bool
  | .region id ops dr => match planOf pl id dr with
    | some p => Region.noSelect ops && Plan.ok ops (Array.replicate ops.size false) ops.size p
    | none => !dr || textOk T ops
  | .seq a b => okX T pl a && okX T pl b
  | .cond _ t f => okX T pl t && okX T pl f
  | .block _ c => okX T pl c
  | _ => true

section
variable {P : Program} {T : Tbl} {σ : St}

theorem runY_text {ops : Array Oper} {K : St → Prop} (h : runY P T ops K ops.toList σ) : runK P T ops K (List.range ops.size) σ :=
  runY_ok _ (by rw [range_ops]; exact h)

theorem exX_ok (hT : TblOk P T) (hm : P.follows .mixedOrders = true) {pl : List (Nat × Plan)} : ∀ (c : Code) {Q : Exit → St → Prop} {σ : St}, okX T pl c = true → exX P T pl c Q σ → AWp P c Q σ
  | .skip, Q, σ, _, h => w_skip h
  | .region id ops dr, Q, σ, hp, h => by
    unfold okX at hp
    unfold exX at h
    cases hq : planOf pl id dr with
    | some p =>
      simp only [hq, Bool.and_eq_true] at hp h
      have hd : dr = true := by cases dr with
        | true => rfl
        | false => simp [planOf] at hq
      subst hd
      exact ex_ok hT (.region id ops true) (AAny.region hm (runP_ok hT hp.1 p _ _ _ hp.2 h))
    | none =>
      simp only [hq, Bool.or_eq_true, Bool.not_eq_true'] at hp h
      rcases hp with rfl | hp
      · exact w_run hT fun K hK => runK_mono hK (runY_text h)
      · cases dr with
        | true => exact w_textOk hT hm hp (runY_text h)
        | false => exact w_run hT fun K hK => runK_mono hK (runY_text h)
  | .seq a b, Q, σ, hp, h => by
    simp only [okX, Bool.and_eq_true] at hp
    refine w_seq (AWp.mono (exX_ok hT hm a hp.1 h) fun x σ hx => ?_)
    cases x with
    | normal => exact exX_ok hT hm b hp.2 hx
    | _ => exact hx
  | .cond c t f, Q, σ, hp, h => by
    simp only [okX, Bool.and_eq_true] at hp
    unfold exX at h
    split at h
    case h_2 => exact h.elim
    rename_i b hb
    refine w_cond hb (fun ht => ?_) (fun hf => ?_)
    · subst ht; exact exX_ok hT hm t hp.1 h
    · subst hf; exact exX_ok hT hm f hp.2 h
  | .block id c, Q, σ, hp, h => w_block (exX_ok hT hm c hp h)
  | .exit id, Q, σ, _, h => w_exit h
  | .ret, Q, σ, _, h => w_ret h
  | .label l, Q, σ, _, h => fun e a w S => wp_label ⟨trivial, e, σ, h, S, .refl _ _ _ _⟩
  | .loop b, Q, σ, _, h => h
  | .rangeFunc f ps asg b, Q, σ, _, h => h
  | .scope _, _, _, _, h => h.elim
  | .goto _, _, _, _, h => h.elim
  | .refuse _, _, _, _, h => h.elim
end

/-! ### The seal -/
structure Ev (P : Program) (T : Tbl) where
  X : List (Nat × Plan) → Code → (Exit → St → Prop) → St → Prop
  R : Array Oper → (St → Prop) → List Oper → St → Prop
  L : Array Oper → (St → Prop) → Plan → St → Prop
  Ls : Array Oper → (St → Prop) → List (Nat × Plan) → St → Prop

structure Ev.Laws {P : Program} {T : Tbl} (E : Ev P T) : Prop where
  skip : ∀ pl Q σ, E.X pl .skip Q σ = Q .normal σ
  text : ∀ pl id ops Q σ, E.X pl (.region id ops false) Q σ = E.R ops (Q .normal) ops.toList σ
  plan : ∀ pl id ops Q σ p, findP id pl = some p → E.X pl (.region id ops true) Q σ = E.L ops (Q .normal) p σ
  draw : ∀ pl id ops Q σ, findP id pl = none → E.X pl (.region id ops true) Q σ = E.R ops (Q .normal) ops.toList σ
  seq : ∀ pl a b Q σ, E.X pl (.seq a b) Q σ = E.X pl a (thenA (E.X pl b Q) Q) σ
  condT : ∀ pl c t f Q σ, σ.ev c = .d (.v (.bool true)) → E.X pl (.cond c t f) Q σ = E.X pl t Q σ
  condF : ∀ pl c t f Q σ, σ.ev c = .d (.v (.bool false)) → E.X pl (.cond c t f) Q σ = E.X pl f Q σ
  block : ∀ pl id c Q σ, E.X pl (.block id c) Q σ = E.X pl c (inBlockA id Q) σ
  exit : ∀ pl id Q σ, E.X pl (.exit id) Q σ = Q (.exit id) σ
  ret : ∀ pl Q σ, E.X pl .ret Q σ = Q .ret σ
  label : ∀ pl l Q σ, E.X pl (.label l) Q σ = Q .normal σ
  loop : ∀ pl b Q σ, E.X pl (.loop b) Q σ = AWp P (.loop b) Q σ
  range : ∀ pl f ps asg b Q σ, E.X pl (.rangeFunc f ps asg b) Q σ = AWp P (.rangeFunc f ps asg b) Q σ
  ok : ∀ pl c Q σ, TblOk P T → P.follows .mixedOrders = true → okX T pl c = true → E.X pl c Q σ → AWp P c Q σ
  nil : ∀ ops K σ, E.R ops K [] σ = K σ
  cons : ∀ ops K o rest σ, E.R ops K (o :: rest) σ = match wantA σ ops o with
    | some true => match callOf σ o.op with
      | some (f, args) => callK P o.dst (E.R ops K rest) f args σ
      | none => match nextOf σ o.op with
        | some l => ∀ r ∈ l, E.R ops K rest (σ.next o.dst r)
        | none => match stepA T σ o.op with
          | some r => E.R ops K rest (σ.next o.dst r)
          | none => False
    | some false => E.R ops K rest (σ.put o.dst (.tup []))
    | none => False
  done : ∀ ops K σ, E.L ops K .done σ = K σ
  take : ∀ ops K i p σ, E.L ops K (.take i p) σ = match ops[i]? with
    | none => False
    | some o => match wantA σ ops o with
      | some true => if dryA T σ o.op = true then match evalV T σ o.op with
          | some x => E.L ops K p (σ.put o.dst x)
          | none => False
        else False
      | some false => E.L ops K p (σ.put o.dst (.tup []))
      | none => False
  all : ∀ ops K l σ, E.L ops K (.all l) σ = E.Ls ops K l σ
  lnil : ∀ ops K σ, E.Ls ops K [] σ = True
  lcons : ∀ ops K i p l σ, E.Ls ops K ((i, p) :: l) σ = (E.R ops (E.L ops K p) (match ops[i]? with | some o => [o] | none => []) σ ∧ E.Ls ops K l σ)

theorem runK_one {P : Program} {T : Tbl} {ops : Array Oper} {K : St → Prop} {i : Nat} {σ : St} : runK P T ops K [i] σ = runY P T ops K (match ops[i]? with | some o => [o] | none => []) σ := by
  unfold runK
  split
  · rename_i h; simp only [h]; rfl
  · rename_i o h
    simp only [h]
    conv => rhs; unfold runY
    have hn : ∀ σ, runK P T ops K [] σ = runY P T ops K [] σ := fun σ => rfl
    have hf : runK P T ops K [] = runY P T ops K [] := funext hn
    simp only [hn, hf]
    rfl

theorem ev_exists (P : Program) (T : Tbl) : ∃ E : Ev P T, E.Laws := by
  refine ⟨⟨exX P T, runY P T, runP P T, runPs P T⟩, ?_⟩
  constructor
  all_goals intros
  all_goals first
    | rfl
    | (simp only [exX, planOf]; simp [*]; done)
    | (simp only [runPs, runK_one]; done)
    | skip
  all_goals first
    | (rename_i h; unfold exX; rw [h]; rfl)
    | skip
  rename_i pl c Q σ hT hm hp h
  exact exX_ok hT hm c hp h

noncomputable def ev (P : Program) (T : Tbl) : Ev P T := Classical.choose (ev_exists P T)
theorem ev_laws (P : Program) (T : Tbl) : (ev P T).Laws := Classical.choose_spec (ev_exists P T)
noncomputable def X (P : Program) (T : Tbl) (pl : List (Nat × Plan)) (c : Code) (Q : Exit → St → Prop) (σ : St) : Prop := (ev P T).X pl c Q σ
noncomputable def R (P : Program) (T : Tbl) (ops : Array Oper) (K : St → Prop) (l : List Oper) (σ : St) : Prop := (ev P T).R ops K l σ
noncomputable def XL (P : Program) (T : Tbl) (ops : Array Oper) (K : St → Prop) (p : Plan) (σ : St) : Prop := (ev P T).L ops K p σ
noncomputable def XLs (P : Program) (T : Tbl) (ops : Array Oper) (K : St → Prop) (l : List (Nat × Plan)) (σ : St) : Prop := (ev P T).Ls ops K l σ

section
variable {P : Program} {T : Tbl} {σ : St} {pl : List (Nat × Plan)} {Q : Exit → St → Prop} {K : St → Prop} {ops : Array Oper} {id : Nat}
theorem X_skip : X P T pl .skip Q σ = Q .normal σ := (ev_laws P T).skip ..
theorem X_text : X P T pl (.region id ops false) Q σ = R P T ops (Q .normal) ops.toList σ := (ev_laws P T).text ..
theorem X_plan {p : Plan} (h : findP id pl = some p) : X P T pl (.region id ops true) Q σ = XL P T ops (Q .normal) p σ := (ev_laws P T).plan _ _ _ _ _ _ h
theorem X_draw (h : findP id pl = none) : X P T pl (.region id ops true) Q σ = R P T ops (Q .normal) ops.toList σ := (ev_laws P T).draw _ _ _ _ _ h
theorem X_seq {a b : Code} : X P T pl (.seq a b) Q σ = X P T pl a (thenA (X P T pl b Q) Q) σ := (ev_laws P T).seq ..
theorem X_condT {c : Operand} {t f : Code} (h : σ.ev c = .d (.v (.bool true))) : X P T pl (.cond c t f) Q σ = X P T pl t Q σ := (ev_laws P T).condT _ _ _ _ _ _ h
theorem X_condF {c : Operand} {t f : Code} (h : σ.ev c = .d (.v (.bool false))) : X P T pl (.cond c t f) Q σ = X P T pl f Q σ := (ev_laws P T).condF _ _ _ _ _ _ h
theorem X_block {c : Code} : X P T pl (.block id c) Q σ = X P T pl c (inBlockA id Q) σ := (ev_laws P T).block ..
theorem X_exit : X P T pl (.exit id) Q σ = Q (.exit id) σ := (ev_laws P T).exit ..
theorem X_ret : X P T pl .ret Q σ = Q .ret σ := (ev_laws P T).ret ..
theorem X_label {l : Nat} : X P T pl (.label l) Q σ = Q .normal σ := (ev_laws P T).label ..
theorem X_loop {b : Code} : X P T pl (.loop b) Q σ = AWp P (.loop b) Q σ := (ev_laws P T).loop ..
theorem X_ok (hT : TblOk P T) (hm : P.follows .mixedOrders = true) {c : Code} (hp : okX T pl c = true) (h : X P T pl c Q σ) : AWp P c Q σ := (ev_laws P T).ok _ _ _ _ hT hm hp h
theorem R_nil : R P T ops K [] σ = K σ := (ev_laws P T).nil ..
theorem R_cons {o : Oper} {rest : List Oper} : R P T ops K (o :: rest) σ = match wantA σ ops o with
    | some true => match callOf σ o.op with
      | some (f, args) => callK P o.dst (R P T ops K rest) f args σ
      | none => match nextOf σ o.op with
        | some l => ∀ r ∈ l, R P T ops K rest (σ.next o.dst r)
        | none => match stepA T σ o.op with
          | some r => R P T ops K rest (σ.next o.dst r)
          | none => False
    | some false => R P T ops K rest (σ.put o.dst (.tup []))
    | none => False := (ev_laws P T).cons ..
/-- Is a guard met? -/
def wantG (σ : St) (ops : Array Oper) (j : Nat) (want : Bool) : Option Bool :=
  match (ops[j]?).bind (·.dst) with
  | some t => match σ.get t with
    | .d (.v (.bool b)) => some (b == want)
    | .tup [] => some false
    | _ => none
  | none => some false

/-- A guarded operation, its guard known. -/
noncomputable def RG (P : Program) (T : Tbl) (w : Option Bool) (ops : Array Oper) (K : St → Prop) (o : Oper) (rest : List Oper) (σ : St) : Prop :=
  match w with
  | some true => match callOf σ o.op with
      | some (f, args) => callK P o.dst (R P T ops K rest) f args σ
      | none => match nextOf σ o.op with
        | some l => ∀ r ∈ l, R P T ops K rest (σ.next o.dst r)
        | none => match stepA T σ o.op with
          | some r => R P T ops K rest (σ.next o.dst r)
          | none => False
  | some false => R P T ops K rest (σ.put o.dst (.tup []))
  | none => False

/-- Behind a step whose outcome is known. -/
noncomputable def RS (P : Program) (T : Tbl) (ops : Array Oper) (K : St → Prop) (d : Option Nat) (rest : List Oper) (σ : St) (r : Option (AVal × List AObj × List AObj)) : Prop :=
  match r with
  | some r => R P T ops K rest (σ.next d r)
  | none => False
theorem RS_some {d : Option Nat} {rest : List Oper} {x : AVal} {L' G' : List AObj} : RS P T ops K d rest σ (some (x, L', G')) = R P T ops K rest (σ.next d (x, L', G')) := (rfl)
theorem r_known {d : Option Nat} {rest : List Oper} {r : Option (AVal × List AObj × List AObj)} {x : AVal} {L' G' : List AObj} (h : r = some (x, L', G')) (hk : R P T ops K rest (σ.next d (x, L', G'))) : RS P T ops K d rest σ r := by
  subst h; exact hk

theorem R_go {d : Option Nat} {op : Op} {ty : TypeId} {ps : String} {af : Array Edge} {rest : List Oper} : R P T ops K (⟨d, op, ty, ps, af, none⟩ :: rest) σ = match callOf σ op with
      | some (f, args) => callK P d (R P T ops K rest) f args σ
      | none => match nextOf σ op with
        | some l => ∀ r ∈ l, R P T ops K rest (σ.next d r)
        | none => RS P T ops K d rest σ (stepA T σ op) := by rw [R_cons]; rfl
theorem R_guard {d : Option Nat} {op : Op} {ty : TypeId} {ps : String} {af : Array Edge} {j : Nat} {want : Bool} {rest : List Oper} :
    R P T ops K (⟨d, op, ty, ps, af, some (j, want)⟩ :: rest) σ = RG P T (wantG σ ops j want) ops K ⟨d, op, ty, ps, af, some (j, want)⟩ rest σ := by rw [R_cons]; rfl
theorem RG_t {o : Oper} {rest : List Oper} : RG P T (some true) ops K o rest σ = match callOf σ o.op with
      | some (f, args) => callK P o.dst (R P T ops K rest) f args σ
      | none => match nextOf σ o.op with
        | some l => ∀ r ∈ l, R P T ops K rest (σ.next o.dst r)
        | none => RS P T ops K o.dst rest σ (stepA T σ o.op) := (rfl)
theorem RG_f {o : Oper} {rest : List Oper} : RG P T (some false) ops K o rest σ = R P T ops K rest (σ.put o.dst (.tup [])) := (rfl)
/-- A guard that is not known. -/
theorem r_split {o : Oper} {rest : List Oper} {b : Bool} (ht : b = true → RG P T (some true) ops K o rest σ) (hf : b = false → RG P T (some false) ops K o rest σ) : RG P T (some b) ops K o rest σ := by
  cases b with
  | true => exact ht rfl
  | false => exact hf rfl
theorem r_splitD {o : Oper} {rest : List Oper} {p : Prop} [Decidable p] (ht : p → RG P T (some true) ops K o rest σ) (hf : ¬p → RG P T (some false) ops K o rest σ) : RG P T (some (decide p)) ops K o rest σ := by
  by_cases h : p
  · simp only [h, decide_true]; exact ht h
  · simp only [h, decide_false]; exact hf h
theorem r_splitN {o : Oper} {rest : List Oper} {p : Prop} [Decidable p] (ht : ¬p → RG P T (some true) ops K o rest σ) (hf : p → RG P T (some false) ops K o rest σ) : RG P T (some (!decide p)) ops K o rest σ := by
  by_cases h : p
  · simp only [h, decide_true, Bool.not_true]; exact hf h
  · simp only [h, decide_false, Bool.not_false]; exact ht h
/-- Behind a step that goes on if its side condition is met. -/
theorem r_step {o : Oper} {rest : List Oper} {r : AVal × List AObj × List AObj} (hw : wantA σ ops o = some true) (hc : callOf σ o.op = none) (hx : nextOf σ o.op = none) (hs : stepA T σ o.op = some r)
    (h : R P T ops K rest (σ.next o.dst r)) : R P T ops K (o :: rest) σ := by rw [R_cons, hw]; simp only [hc, hx, hs]; exact h
theorem XL_done : XL P T ops K .done σ = K σ := (ev_laws P T).done ..
theorem XL_take {i : Nat} {p : Plan} : XL P T ops K (.take i p) σ = match ops[i]? with
    | none => False
    | some o => match wantA σ ops o with
      | some true => if dryA T σ o.op = true then match evalV T σ o.op with
          | some x => XL P T ops K p (σ.put o.dst x)
          | none => False
        else False
      | some false => XL P T ops K p (σ.put o.dst (.tup []))
      | none => False := (ev_laws P T).take ..
theorem XL_all {l : List (Nat × Plan)} : XL P T ops K (.all l) σ = XLs P T ops K l σ := (ev_laws P T).all ..
theorem XLs_nil : XLs P T ops K [] σ = True := (ev_laws P T).lnil ..
theorem XLs_cons {i : Nat} {p : Plan} {l : List (Nat × Plan)} : XLs P T ops K ((i, p) :: l) σ = (R P T ops (XL P T ops K p) (match ops[i]? with | some o => [o] | none => []) σ ∧ XLs P T ops K l σ) := (ev_laws P T).lcons ..

theorem X_mono {c : Code} {Q' : Exit → St → Prop} (hT : TblOk P T) (hm : P.follows .mixedOrders = true) (hp : okX T pl c = true) (h : X P T pl c Q σ) (hq : ∀ x σ, Q x σ → Q' x σ) : AWp P c Q' σ :=
  AWp.mono (X_ok hT hm hp h) hq

/-- A test. -/
theorem x_cond {c : Operand} {a b : Code} {t : Bool} (hc : σ.ev c = .d (.v (.bool t))) (ht : t = true → X P T pl a Q σ) (hf : t = false → X P T pl b Q σ) : X P T pl (.cond c a b) Q σ := by
  cases t with
  | true => rw [X_condT hc]; exact ht rfl
  | false => rw [X_condF hc]; exact hf rfl

theorem x_condD {c : Operand} {a b : Code} {p : Prop} [Decidable p] (hc : σ.ev c = .d (.v (.bool (decide p)))) (ht : p → X P T pl a Q σ) (hf : ¬p → X P T pl b Q σ) : X P T pl (.cond c a b) Q σ :=
  x_cond hc (fun h => ht (of_decide_eq_true h)) (fun h => hf (of_decide_eq_false h))
theorem x_condN {c : Operand} {a b : Code} {p : Prop} [Decidable p] (hc : σ.ev c = .d (.v (.bool (!decide p)))) (ht : ¬p → X P T pl a Q σ) (hf : p → X P T pl b Q σ) : X P T pl (.cond c a b) Q σ :=
  x_cond hc (fun h => ht (by simpa using h)) (fun h => hf (by simpa using h))

/-- A loop. -/
theorem x_loop (hT : TblOk P T) (hm : P.follows .mixedOrders = true) {ι : Type} {c : Code} (I : ι → St) (C : ι → Prop) (m : ι → Nat) (pl' : List (Nat × Plan)) (hp : okX T pl' c = true) (i0 : ι) (h0 : C i0) (hw : Weak σ (I i0))
    (h : ∀ i, C i → X P T pl' c (thenA (fun σ' => ∃ j, C j ∧ m j < m i ∧ Weak σ' (I j)) Q) (I i)) : X P T pl (.loop c) Q σ := by
  rw [X_loop]
  exact AWp.loopW I C m (fun i hi => X_ok hT hm hp (h i hi)) i0 h0 hw

theorem x_weak {c : Code} (hT : TblOk P T) (hm : P.follows .mixedOrders = true) {σ' : St} (hp : okX T pl c = true) (hw : Weak σ σ') (h : X P T pl c Q σ') : AWp P c Q σ := AWp.weak hw (X_ok hT hm hp h)

/-- A function. -/
theorem ACall.go (hT : TblOk P T) (hm : P.follows .mixedOrders = true) (pl : List (Nat × Plan)) {f : FuncId} {fn : Func} {c : Code} {args : List AVal} {G : List AObj} {Q : AVal → List AObj → Prop} (hf : P.funcs[f]? = some fn) (hb : fn.body = some c)
    (hname : (fn.name == "runtime.NumGoroutine") = false) (hp : okX T pl c = true)
    (h : X P T pl c (retE T fn Q) { s := args ++ List.replicate (fn.ntmps - args.length) .any, L := [], G := G }) : ACall P f args G Q :=
  ACall.bodyW hT hf hb hname (X_ok hT hm hp h)

/-- One of some states stands. -/
inductive There {ι : Type} (I : ι → St) (C : ι → Prop) (σ : St) : Prop
  | mk (j : ι) (hc : C j) (hw : Weak σ (I j)) : There I C σ

/-- A round more. -/
inductive Again {ι : Type} (I : ι → St) (C : ι → Prop) (m : ι → Nat) (n : Nat) (σ : St) : Prop
  | mk (j : ι) (hc : C j) (hm : m j < n) (hw : Weak σ (I j)) : Again I C m n σ

/-- A cut: behind the first part one of some states stands. -/
theorem w_cut {a b : Code} {ι : Type} (I : ι → St) (C : ι → Prop) (h1 : AWp P a (thenA (There I C) Q) σ) (h2 : ∀ j, C j → AWp P b Q (I j)) : AWp P (.seq a b) Q σ :=
  w_seq (AWp.mono h1 fun x σ' hx => by
    cases x with
    | normal => obtain ⟨j, hj, hw⟩ := hx; exact AWp.weak hw (h2 j hj)
    | _ => exact hx)

/-- A loop, its rounds' end told by a word that is not looked into. -/
theorem x_rounds (hT : TblOk P T) (hm : P.follows .mixedOrders = true) {ι : Type} {c : Code} (I : ι → St) (C : ι → Prop) (m : ι → Nat) (pl' : List (Nat × Plan)) (hp : okX T pl' c = true) (i0 : ι) (h0 : C i0) (hw : Weak σ (I i0))
    (h : ∀ i, C i → X P T pl' c (thenA (Again I C m (m i)) Q) (I i)) : X P T pl (.loop c) Q σ := by
  rw [X_loop]
  refine AWp.loopW I C m (fun i hi => AWp.mono (X_ok hT hm hp (h i hi)) fun x σ' hx => ?_) i0 h0 hw
  cases x with
  | normal => obtain ⟨j, h1, h2, h3⟩ := hx; exact ⟨j, h1, h2, h3⟩
  | _ => exact hx

/-- Own rows that will not grow any more, as data. -/
theorem Weak.data {s : List AVal} {L G : List AObj} (t : Nat) {i size g : Nat} {rows : List (List Dat)} (hs : s[t]? = some (.p (.l i) (.own g))) (hL : L[i]? = some (.arr size g rows)) :
    Weak { s := s, L := L, G := G } { s := s.set t (.d (.l rows)), L := L.set i (.frz size g rows), G := G } := fun e a w S => by
  obtain ⟨e', S', E⟩ := Weak.frz (σ := { s := s, L := L, G := G }) (p := .l i) hL e a w S
  refine ⟨e', ⟨S'.d, by rw [S'.sz]; simp, fun u x v hx hv => ?_, S'.h⟩, E⟩
  by_cases hu : u = t
  · subst hu
    rw [List.getElem?_set_self (List.getElem?_eq_some_iff.1 hs).1] at hx
    cases hx
    have := S'.s u _ v hs hv
    have hi := (List.getElem?_eq_some_iff.1 hL).1
    cases this with
    | p r =>
      simp only [St.setObj, obj, List.getElem?_set_self hi, PRel] at r
      exact .d (r.2.2 trivial)
  · rw [List.getElem?_set_ne (by omega)] at hx
    exact S'.s u x v hx hv

/-- A region whose order is drawn, its plan known. -/
noncomputable def XD (P : Program) (T : Tbl) (p : Option Plan) (ops : Array Oper) (K : St → Prop) (σ : St) : Prop :=
  match p with
  | some p => XL P T ops K p σ
  | none => R P T ops K ops.toList σ
theorem X_drawn : X P T pl (.region id ops true) Q σ = XD P T (findP id pl) ops (Q .normal) σ := by
  unfold XD
  split
  · rename_i p h; exact X_plan h
  · rename_i h; exact X_draw h
theorem XD_none : XD P T none ops K σ = R P T ops K ops.toList σ := (rfl)
theorem XD_some {p : Plan} : XD P T (some p) ops K σ = XL P T ops K p σ := (rfl)

/-! ### States -/
theorem put_mk (s : List AVal) (L G : List AObj) (t : Nat) (x : AVal) : St.put ⟨s, L, G⟩ (some t) x = ⟨s.set t x, L, G⟩ := (rfl)
theorem put_mk0 (s : List AVal) (L G : List AObj) (x : AVal) : St.put ⟨s, L, G⟩ none x = ⟨s, L, G⟩ := (rfl)
theorem next_mk (s : List AVal) (L G L' G' : List AObj) (t : Nat) (x : AVal) : St.next ⟨s, L, G⟩ (some t) (x, L', G') = ⟨s.set t x, L', G'⟩ := (rfl)
theorem next_mk0 (s : List AVal) (L G L' G' : List AObj) (x : AVal) : St.next ⟨s, L, G⟩ none (x, L', G') = ⟨s, L', G'⟩ := (rfl)
theorem get_mk (s : List AVal) (L G : List AObj) (t : Nat) : St.get ⟨s, L, G⟩ t = s.getD t .any := (rfl)

/-- A call by its contract. -/
theorem call_to {dst : Option Nat} {f : FuncId} {args args' : List AVal} {Rr : AVal → List AObj → Prop} {s' : List AVal} {L' G0 : List AObj} (hA : ACall P f args' G0 Rr) (hf : frzAll σ args = ⟨s', L', G0⟩)
    (ha : args.map (dataV ⟨s', L', G0⟩) = args') (hg : AVal.glob.globs args' = true) (h : ∀ r G', Rr r G' → K (St.next ⟨s', L', G0⟩ dst (r, L', G'))) : callK P dst K f args σ :=
  callK_any hA hf ha hg h

/-- A call that leaves what came in. -/
theorem call_v {dst : Option Nat} {f : FuncId} {args args' : List AVal} {v : AVal} {s' : List AVal} {L' G0 : List AObj} (hA : ACall P f args' G0 fun r G' => r = v ∧ G' = G0) (hf : frzAll σ args = ⟨s', L', G0⟩)
    (ha : args.map (dataV ⟨s', L', G0⟩) = args') (hg : AVal.glob.globs args' = true) (h : K (St.next ⟨s', L', G0⟩ dst (v, L', G0))) : callK P dst K f args σ :=
  callK_any hA hf ha hg fun r G' ⟨h1, h2⟩ => by subst h1; subst h2; exact h
end
end Go.Am

/- A text's bytes, written in the program: a literal that is made, then marked. -/
set_option linter.unusedVariables false
set_option linter.unusedSimpArgs false
namespace Go.Am
section
variable {P : Program} {T : Tbl} {e : Env} {σ : St} {w : World}

theorem buildSliceA_run (hT : TblOk P T) (H : HRel e σ.L σ.G w) {t len : Nat} {ps : List (Nat × AVal)} {vs : Array (Nat × Value)} {z : AVal} (hlen : ps.length = vs.size)
    (hp : ∀ (k : Nat) (x : Nat × AVal) (v : Nat × Value), ps[k]? = some x → vs[k]? = some v → x.1 = v.1 ∧ VRel e (obj σ.L σ.G) x.2 v.2) (h : buildSliceA T σ t len ps = some z) :
    ∃ (rows : List (List Dat)) (el : Nat) (ee : TyE) (l : List Value), z = .clip rows ∧ rows.length = len ∧ P.underlying t = some (.slice el) ∧ T el = some ee ∧ RowsAre e.h ee.size rows l ∧ rows.length ≤ maxLen ∧
      (Instr.buildSlice t len vs).run P w = .ok (.slice (some ⟨w.heap.size, 0, none⟩) len len) (w.alloc (.cells l.toArray el (0, 0))) := by
  unfold buildSliceA at h
  split at h
  case h_2 => cases h
  rename_i te hte
  split at h
  case h_2 => cases h
  rename_i el hk
  split at h
  case h_2 => cases h
  rename_i ee hee
  split at h
  case isFalse => cases h
  rename_i hc
  split at h
  case h_2 => cases h
  rename_i rows hrows
  simp at h; subst h
  obtain ⟨d, hd, hfit⟩ := (hT t te hte).u
  rw [hk] at hfit
  cases d <;> simp only [descFits] at hfit <;> try exact hfit.elim
  subst hfit
  rename_i el
  obtain ⟨i, zv, hi, hz, hs, hby, hzc⟩ := (hT el ee hee).i
  have hzl : zv.cells.size = ee.size := by rw [← (hT el ee hee).l, ← hzc]; simp
  have hlen' : ps.length = len := by have := congrArg List.length hc.1; simpa using this
  obtain ⟨r1, r2, r3⟩ := rowsOfA_ok (σ := σ) (vs := vs.toList.map (·.2)) (by simp [hlen]) (fun k x v hx hv => by
    rw [List.getElem?_map] at hx hv
    cases hq : ps[k]? with
    | none => rw [hq] at hx; simp at hx
    | some q =>
      cases hu : vs[k]? with
      | none => rw [Array.getElem?_toList, hu] at hv; simp at hv
      | some u =>
        rw [hq] at hx; rw [Array.getElem?_toList, hu] at hv
        simp at hx hv; subst hx; subst hv
        exact (hp k q u hq hu).2) hrows
  have hvl : vs.toList.length = len := by simp; omega
  have hfill := fill_rows (size := ee.size) vs.toList 0 [] ((Array.range (len * ee.size)).map (zv.cells[· % zv.cells.size]!)).toList (fun k q hq => by
      have hq' : vs[k]? = some q := by simpa using hq
      have hkl := (List.getElem?_eq_some_iff.1 hq).1
      have hkp : k < ps.length := by omega
      have := (hp k _ q (List.getElem?_eq_getElem hkp) hq').1
      have h2 := congrArg (fun l => l[k]?) hc.1
      simp only [List.getElem?_map, List.getElem?_eq_getElem hkp, Option.map_some, List.getElem?_range (show k < len by omega), Option.some.injEq] at h2
      omega) (fun q hq => r1 q.2 (List.mem_map.2 ⟨q, hq, rfl⟩)) (by simp) (by simp [hvl])
  rw [List.nil_append, List.nil_append] at hfill
  have hrun : (Instr.buildSlice t len vs).run P w = .ok (.slice (some ⟨w.heap.size, 0, none⟩) len len) (w.alloc (.cells (vs.toList.map fun q => q.2.cells.toList).flatten.toArray el (0, 0))) := by
    unfold Instr.buildSlice
    simp only [Sem.run_bind, run_underlying hd, Result.andThen_ok, run_sizeOf' hT hee]
    have h1 : ¬ (len * ee.size > 2 ^ 24) := by
      have := hc.2.1; omega
    by_cases h0 : len * ee.size = 0
    · have hl0 : len = 0 := by
        rcases Nat.mul_eq_zero.1 h0 with h' | h'
        · exact h'
        · omega
      subst hl0
      have hv0 : vs = #[] := Array.eq_empty_of_size_eq_zero (by omega)
      subst hv0
      simp [Instr.fill, newRow]
      congr 2
      apply Array.ext <;> simp
    · simp only [Array.toArray_toList] at hfill
      simp [h0, h1, zeroValue, typeInfo, hi, hz, newRow]
      rw [hfill]
      simp
  have hr3 : RowsAre e.h ee.size rows (vs.toList.map fun q => q.2.cells.toList).flatten := by
    rw [List.map_map] at r3; exact r3
  have hrl : rows.length = len := by rw [r2]; simpa using hvl
  have hmax : rows.length ≤ maxLen := by
    rw [hrl]
    have : len ≤ len * ee.size := Nat.le_mul_of_pos_right _ hc.2.2
    simp only [maxLen]; omega
  exact ⟨rows, el, ee, _, rfl, hrl, hd, hee, hr3, hmax, hrun⟩

theorem mark_run {w : World} {c : Array Value} {el : Nat} {len : Nat} {t : TypeId} (hu : P.underlying t = some (.slice el)) (he : P.underlying el = some (.int .u8)) :
    (convert t t (.slice (some ⟨w.heap.size, 0, none⟩) len len)).run P (w.alloc (.cells c el (0, 0))) = .ok (.slice (some ⟨w.heap.size, 0, none⟩) len len) (w.alloc (.cells c el (c.size, c.size + 1))) := by
  rw [← freeze_alloc (w := w)]
  have hsh : (w.alloc (.cells c el (0, 0))).shape? w.heap.size = some (el, c.size) := by
    unfold World.shape?
    rw [show (w.alloc (.cells c el (0, 0))).heap[w.heap.size]? = some (.cells c el (0, 0)) from heap_alloc_new' (w := w)]
  simp [convert, run_underlying hu, run_underlying he, markStringish, run_shape, hsh, run_freeze]

/-- The two operations. -/
def pairA (T : Tbl) (σ : St) (o1 o2 : Oper) : Option St :=
  match o1, o2 with
  | ⟨some d1, .buildSlice t len ps, _, _, _, none⟩, ⟨some d2, .convert s d (.tmp x), _, _, _, none⟩ =>
    if x = d1 ∧ s = t ∧ d = t ∧ d1 < σ.s.length then match buildSliceA T σ t len (pairsA σ ps), T t with
      | some (.clip rows), some te => match te.k with
        | .slice el => match (T el).map TyE.k with
          | some (.int .u8) => some ((σ.put (some d1) (.d (.l rows))).put (some d2) (.d (.l rows)))
          | _ => none
        | _ => none
      | _, _ => none
    else none
  | _, _ => none

theorem put_some (σ : St) (d : Nat) (x : AVal) : σ.put (some d) x = { σ with s := σ.s.set d x } := (rfl)

/-- A region of the text's order with such a pair in it. -/
theorem w_pair (hT : TblOk P T) {id : Nat} {ops : Array Oper} {Q : Exit → St → Prop} (pre post : List Nat) {i j : Nat} {o1 o2 : Oper} (hl : List.range ops.size = pre ++ i :: j :: post) (h1 : ops[i]? = some o1) (h2 : ops[j]? = some o2)
    (h : exOps P T ops (fun σ => ∃ σ', pairA T σ o1 o2 = some σ' ∧ exOps P T ops (Q .normal) post σ') pre σ) : AWp P (.region id ops false) Q σ := fun e a w S => by
  refine wp_region ?_
  rw [hl]
  have app : ∀ (l : List Nat) (m : List Nat) {Q' : Exit → Act → World → Prop} {a : Act} {w : World} {e : Env} {σ : St} {K : St → Prop}, SRel e σ a w → exOps P T ops K l σ →
      (∀ a' w', Post K e σ w a' w' → wpOps P ops Q' m a' w') → wpOps P ops Q' (l ++ m) a w := fun l => by
    induction l with
    | nil => intro m Q' a w e σ K S h hQ; exact hQ a w ⟨e, σ, h, S, .refl _ _ _ _⟩
    | cons i rest ih =>
      intro m Q' a w e σ K S h hQ
      unfold exOps at h
      rw [List.cons_append]
      unfold wpOps
      split at h
      · rename_i ho; simp only [ho]; exact ih m S h hQ
      · rename_i o ho
        simp only [ho]
        split at h
        · rename_i hw
          rw [wantA_ok S hw]
          simp only [if_true]
          refine .inl (Oper.wp_mono (fun a' w' hp => ?_) (exOp_ok hT S h (Q := Q')))
          obtain ⟨e', σ', k1, k2, k3⟩ := hp
          exact ih m k2 k1 (fun a2 w2 hp2 => hQ a2 w2 (hp2.trans k3))
        · rename_i hw
          rw [wantA_ok S hw]
          simp only [Bool.false_eq_true, if_false]
          refine ih m (S.skip o.dst) h (fun a2 w2 hp2 => hQ a2 w2 (hp2.trans ?_))
          rw [put_L, put_G]; exact .refl _ _ _ _
        · exact h.elim
  refine app pre _ S h fun a1 w1 hp1 => ?_
  obtain ⟨e1, σ1, ⟨σ2, hpair, hrest⟩, S1, E1⟩ := hp1
  unfold pairA at hpair
  split at hpair
  case h_2 => cases hpair
  rename_i d1 t len ps ty1 ps1 af1 d2 s d x ty2 ps2 af2
  split at hpair
  case isFalse => cases hpair
  rename_i hc
  obtain ⟨rfl, rfl, rfl, hlt⟩ := hc
  split at hpair
  case h_2 => cases hpair
  rename_i rows te hb hte
  split at hpair
  case h_2 => cases hpair
  rename_i el hk
  split at hpair
  case h_2 => cases hpair
  rename_i hel
  simp only [Option.some.injEq] at hpair
  obtain ⟨rows', el', ee, l, hz, hrl, hu, hee, hrows, hmax, hrun⟩ := buildSliceA_run hT S1.h (vs := ps.map fun (i, x) => (i, a1.eval x)) (by simp [pairsA]) (fun k x v hx hv => by
      simp only [pairsA, List.getElem?_map, Array.getElem?_toList, Array.getElem?_map] at hx hv
      cases hq : ps[k]? with
      | none => rw [hq] at hx; simp at hx
      | some q =>
        rw [hq] at hx hv
        simp at hx hv
        subst hx; subst hv
        exact ⟨rfl, ev_rel S1 q.2⟩) hb
  cases hz
  obtain ⟨dd, hd, hfit⟩ := (hT d te hte).u
  rw [hk] at hfit
  rw [hd] at hu
  cases hu
  simp only [descFits] at hfit
  subst hfit
  rw [hee] at hel
  simp at hel
  obtain ⟨d3, hd3, hf3⟩ := (hT el' ee hee).u
  rw [hel] at hf3
  cases d3 <;> simp only [descFits] at hf3 <;> try exact hf3.elim
  subst hf3
  have hmark := mark_run (w := w1) (c := l.toArray) (len := len) hd hd3
  let v : Value := .slice (some ⟨w1.heap.size, 0, none⟩) len len
  let o : Obj := .cells l.toArray el' (l.length, l.length + 1)
  obtain ⟨k1, k2, k3⟩ := hrel_frozen S1.h o
  have hrep : Rep (e1.h.add w1.heap.size o) (.l rows) v := by
    have := rep_new (b := w1.heap.size) (t := el') (fr := (l.length, l.length + 1)) (m := []) hrows (by rw [List.append_nil]; exact k2.h) (Nat.le_refl _) hmax
    rw [List.append_nil, hrl] at this
    exact this
  have hv : VRel ⟨e1.h.add w1.heap.size o, e1.lb, e1.gb⟩ (obj σ1.L σ1.G) (.d (.l rows)) v := .d hrep
  have S2 := S1.put (x := .d (.l rows)) (v := v) k1 k2 hv (some x)
  have S3 := S2.put (x := .d (.l rows)) (v := v) (L' := σ1.L) (G' := σ1.G) S2.h (.refl _ _) hv (some d2)
  have hσ : St.next (St.next σ1 (some x) (.d (.l rows), σ1.L, σ1.G)) (some d2) (.d (.l rows), σ1.L, σ1.G) = σ2 := by rw [← hpair]; rfl
  rw [hσ] at S3
  unfold wpOps
  simp only [h1]
  have hw1 : Region.wanted ⟨some x, .buildSlice d len ps, ty1, ps1, af1, none⟩ (yielded ops a1.tmps) = true := rfl
  rw [hw1]
  simp only [if_true]
  refine .inl ?_
  unfold Oper.wp
  have e1' : (execOp a1.eval ⟨some x, .buildSlice d len ps, ty1, ps1, af1, none⟩).run P w1 = .ok (.value v) (w1.alloc (.cells l.toArray el' (0, 0))) := by
    simp only [execOp, Sem.run_bind]
    erw [hrun]
    rfl
  rw [e1']
  show wpOps P ops _ (j :: post) _ _
  unfold wpOps
  simp only [h2]
  have hw2 : Region.wanted ⟨some d2, .convert d d (.tmp x), ty2, ps2, af2, none⟩ (yielded ops (a1.put (some x) v).tmps) = true := rfl
  rw [hw2]
  simp only [if_true]
  refine .inl ?_
  unfold Oper.wp
  have hget : (a1.put (some x) v).eval (.tmp x) = v := by
    have : x < a1.tmps.size := by rw [S1.sz]; exact hlt
    simp [Act.put, Act.eval, this]
  have e2' : (execOp (a1.put (some x) v).eval ⟨some d2, .convert d d (.tmp x), ty2, ps2, af2, none⟩).run P (w1.alloc (.cells l.toArray el' (0, 0))) = .ok (.value v) (w1.alloc o) := by
    simp only [execOp, Sem.run_bind, hget]
    erw [hmark]
    simp [o, v]
  rw [e2']
  show wpOps P ops _ post _ _
  refine exOps_ok hT post S3 hrest fun a' w' hp => ⟨trivial, ?_⟩
  have hL : σ2.L = σ1.L ∧ σ2.G = σ1.G := by rw [← hpair]; exact ⟨rfl, rfl⟩
  refine Post.trans E1 (Post.trans ?_ hp)
  rw [hL.1, hL.2]
  exact k3
end
end Go.Am

/- From what a law's function does with its arguments as data to the given statement. -/
set_option linter.unusedVariables false
set_option linter.unusedSimpArgs false
namespace Go.Am
open Go.ChangeShapes Go.WideShapes Go.RowKit

/-- Data of a type. -/
def DTy (T : Tbl) : Nat → Nat → List Dat → Prop
  | 0, _, _ => False
  | n + 1, t, ds => match T t with
    | some te => match te.k with
      | .int k => ∃ x, ds = [.v (.int k x)] ∧ (Lit.int k x).wf = true
      | .bool => ∃ b, ds = [.v (.bool b)]
      | .string => ∃ s : ByteArray, ds = [.v (.string s)] ∧ s.size ≤ maxLen
      | .slice e => ∃ rows, ds = [.l rows] ∧ ∀ r ∈ rows, DTy T n e r
      | .struct fs => ds.length = te.size ∧ ∀ f ∈ fs, ∃ fe, T f.1 = some fe ∧ DTy T n f.1 ((ds.drop f.2).take fe.size)
      | _ => False
    | none => False

/-- Do fields lie one behind the other? -/
def tiles (T : Tbl) : Nat → List (Nat × Nat) → Option Nat
  | o, [] => some o
  | o, (t, p) :: r => if o = p then match T t with
      | some e => tiles T (o + e.size) r
      | none => none
    else none

/-- Types whose data can be read. -/
def closedT (T : Tbl) (ts : List Nat) : Bool :=
  ts.all fun t => match T t with
    | some e => match e.k with
      | .int _ | .bool | .string => true
      | .slice el => ts.contains el
      | .struct fs => tiles T 0 fs == some e.size && fs.all fun f => ts.contains f.1
      | _ => false
    | none => false

def allH (w : World) : FHeap := fun b => w.heap[b]?

theorem allH_in (w : World) : (allH w).In w := fun _ _ h => h
theorem allH_cell {w : World} {a : Addr} {v : Value} (h : w.cell? a = some v) : (allH w).cell a = some v := by
  unfold World.cell? at h
  unfold FHeap.cell allH
  exact h

/-- Data beside cells. -/
def Reps (h : FHeap) (ds : List Dat) (cs : List Value) : Prop := ds.length = cs.length ∧ ∀ (k : Nat) (x : Dat) (v : Value), ds[k]? = some x → cs[k]? = some v → Rep h x v

theorem Reps.one {h : FHeap} {d : Dat} {v : Value} (r : Rep h d v) : Reps h [d] [v] := ⟨rfl, fun k x u hx hv => by
  cases k with
  | zero => simp at hx hv; subst hx; subst hv; exact r
  | succ k => simp at hx⟩

theorem Reps.append {h : FHeap} {ds es : List Dat} {cs fs : List Value} (a : Reps h ds cs) (b : Reps h es fs) : Reps h (ds ++ es) (cs ++ fs) := by
  refine ⟨by simp [a.1, b.1], fun k x v hx hv => ?_⟩
  by_cases hk : k < ds.length
  · rw [List.getElem?_append_left hk] at hx
    rw [List.getElem?_append_left (by have := a.1; omega)] at hv
    exact a.2 k x v hx hv
  · rw [List.getElem?_append_right (by omega)] at hx
    rw [List.getElem?_append_right (by have := a.1; omega), ← a.1] at hv
    exact b.2 _ x v hx hv

section
variable {H : Type} {enc : TypeId × Value → H} {P : Program} {T : Tbl} {w : World} {spare : Nat → Bool}

theorem cellsOf_tbl (hT : TblOk P T) {t : Nat} {e : TyE} (h : T t = some e) : P.cellsOf t = e.size := by
  obtain ⟨i, z, h1, h2, h3, h4, h5⟩ := (hT t e h).i
  simp [Program.cellsOf, h1, h3]

theorem fields_dat {ts : List Nat} (hT : TblOk P T) {n : Nat} {cs : List Value} (ih : ∀ (t : Nat) (cs : List Value) x, ts.contains t = true → DataW.trod enc P w 0 spare true n t cs = some x → ∃ ds, DTy T n t ds ∧ Reps (allH w) ds cs) :
    ∀ (gs : List Field) (o : Nat) (xs : List (DataW H × List MemPlace)), (gs.mapM fun f => DataW.trod enc P w 0 spare true n f.type ((cs.drop f.offset).take (P.cellsOf f.type))) = some xs →
      (∀ f ∈ gs, ts.contains f.type = true) → tiles T o (gs.map fun f => (f.type, f.offset)) = some cs.length → o ≤ cs.length →
      ∃ ds, Reps (allH w) ds (cs.drop o) ∧ ∀ f ∈ gs, o ≤ f.offset ∧ ∃ fe, T f.type = some fe ∧ DTy T n f.type ((ds.drop (f.offset - o)).take fe.size)
  | [], o, xs, _, _, ht, _ => by
    simp [tiles] at ht
    subst ht
    exact ⟨[], ⟨by simp, by simp⟩, by simp⟩
  | g :: gs, o, xs, hx, hc, ht, ho => by
    simp only [List.map_cons, tiles] at ht
    split at ht
    case isFalse => cases ht
    rename_i hog
    split at ht
    case h_2 => cases ht
    rename_i e he
    rw [List.mapM_cons] at hx
    cases h1 : DataW.trod enc P w 0 spare true n g.type ((cs.drop g.offset).take (P.cellsOf g.type)) with
    | none => rw [h1] at hx; simp at hx
    | some y =>
      rw [h1] at hx
      cases h2 : (gs.mapM fun f => DataW.trod enc P w 0 spare true n f.type ((cs.drop f.offset).take (P.cellsOf f.type))) with
      | none => rw [h2] at hx; simp at hx
      | some ys =>
        obtain ⟨d0, hd0, hr0⟩ := ih g.type _ y (hc g (by simp)) h1
        rw [cellsOf_tbl hT he, ← hog] at hr0
        have hle : o + e.size ≤ cs.length := by
          have : ∀ (l : List (Nat × Nat)) (a b : Nat), tiles T a l = some b → a ≤ b := fun l => by
            induction l with
            | nil => intro a b h; simp [tiles] at h; omega
            | cons p r ih' =>
              intro a b h
              obtain ⟨t', p'⟩ := p
              simp only [tiles] at h
              split at h
              · split at h
                · have := ih' _ _ h; omega
                · cases h
              · cases h
          exact this _ _ _ ht
        obtain ⟨ds, hds, hf⟩ := fields_dat hT ih gs (o + e.size) ys h2 (fun f hf => hc f (by simp [hf])) ht hle
        have hl0 : d0.length = e.size := by
          have := hr0.1
          simp at this
          omega
        refine ⟨d0 ++ ds, ?_, fun f hf' => ?_⟩
        · have := hr0.append hds
          rw [← List.drop_drop, List.take_append_drop] at this
          exact this
        · rcases List.mem_cons.1 hf' with rfl | hf'
          · refine ⟨by omega, e, he, ?_⟩
            rw [← hog, Nat.sub_self, List.drop_zero, List.take_append_of_le_length (by omega), List.take_of_length_le (by omega)]
            exact hd0
          · obtain ⟨k1, fe, k2, k3⟩ := hf f hf'
            refine ⟨by omega, fe, k2, ?_⟩
            rw [List.drop_append, List.drop_eq_nil_of_le (by omega), List.nil_append, hl0, show f.offset - o - e.size = f.offset - (o + e.size) by omega]
            exact k3

theorem trod_dat (hT : TblOk P T) {ts : List Nat} (hcl : closedT T ts = true) : ∀ (n t : Nat) (cs : List Value) (x : DataW H × List MemPlace), ts.contains t = true →
    DataW.trod enc P w 0 spare true n t cs = some x → ∃ ds, DTy T n t ds ∧ Reps (allH w) ds cs
  | 0, t, cs, x, _, h => by simp [DataW.trod] at h
  | n + 1, t, cs, x, ht, h => by
    have hc := hcl
    simp only [closedT, List.all_eq_true] at hc
    have hct := hc t (by simpa using ht)
    cases hte : T t with
    | none => rw [hte] at hct; cases hct
    | some te =>
      rw [hte] at hct
      simp only at hct
      obtain ⟨d, hu, hfit⟩ := (hT t te hte).u
      unfold DataW.trod at h
      rw [hu] at h
      unfold DTy
      simp only [hte]
      cases hk : te.k with
      | int k =>
        rw [hk] at hfit
        cases d <;> simp only [descFits] at hfit <;> try exact hfit.elim
        subst hfit
        rcases cs with _ | ⟨c, _ | ⟨c2, cs⟩⟩ <;> try (simp at h; done)
        cases c <;> try (simp at h; done)
        rename_i k' nn
        simp only at h
        split at h
        · rename_i hkk
          obtain ⟨rfl, hw⟩ := hkk
          exact ⟨_, ⟨_, rfl, hw⟩, .one (.v rfl)⟩
        · cases h
      | bool =>
        rw [hk] at hfit
        cases d <;> simp only [descFits] at hfit <;> try exact hfit.elim
        rcases cs with _ | ⟨c, _ | ⟨c2, cs⟩⟩ <;> try (simp at h; done)
        cases c <;> try (simp at h; done)
        exact ⟨_, ⟨_, rfl⟩, .one (.v rfl)⟩
      | string =>
        rw [hk] at hfit
        cases d <;> simp only [descFits] at hfit <;> try exact hfit.elim
        rcases cs with _ | ⟨c, _ | ⟨c2, cs⟩⟩ <;> try (simp at h; done)
        cases c <;> try (simp at h; done)
        simp only at h
        split at h
        · rename_i hs
          exact ⟨_, ⟨_, rfl, hs⟩, .one (.v rfl)⟩
        · cases h
      | slice e =>
        rw [hk] at hfit
        simp only [hk] at hct
        cases d <;> simp only [descFits] at hfit <;> try exact hfit.elim
        subst hfit
        rename_i e
        have hce := hc e (by simpa using hct)
        cases hee : T e with
        | none => rw [hee] at hce; cases hce
        | some ee =>
        have hsz := cellsOf_tbl hT hee
        rcases cs with _ | ⟨c, _ | ⟨c2, cs⟩⟩ <;> try (simp at h; done)
        cases c <;> try (simp at h; done)
        rename_i a len cap
        cases a with
        | none =>
          have h0 : len = 0 ∧ cap = 0 := by
            cases len <;> cases cap <;> simp at h ⊢
          obtain ⟨rfl, rfl⟩ := h0
          exact ⟨_, ⟨[], rfl, by simp⟩, .one (.l 0 (fun _ => undef) (by simp) (Nat.le_refl _) (Nat.zero_le _) (by simp) (by simp))⟩
        | some a =>
          have h' := h
          simp only at h
          split at h
          case isFalse => cases h
          rename_i hb
          cases hm : ((List.range len).mapM fun i => (w.cells? 0 (a.add (i * P.cellsOf e)) (P.cellsOf e)).bind (DataW.trod enc P w 0 spare true n e)) with
          | none => rw [hm] at h; simp at h
          | some elems =>
            have hl := mapM_some_length hm
            simp at hl
            have each : ∀ i, i < len → ∃ r vs, w.cells? 0 (a.add (i * ee.size)) ee.size = some vs ∧ DTy T n e r ∧ Reps (allH w) r vs := fun i hi => by
              have := mapM_some_get hm i i (by simp [hi])
              rw [List.getElem?_eq_getElem (by omega)] at this
              rw [hsz] at this
              cases hv : w.cells? 0 (a.add (i * ee.size)) ee.size with
              | none => rw [hv] at this; simp at this
              | some vs =>
                rw [hv] at this
                simp only [Option.bind_some] at this
                obtain ⟨r, h1, h2⟩ := trod_dat hT hcl n e vs _ hct this
                exact ⟨r, vs, rfl, h1, h2⟩
            classical
            let rowOf : Nat → List Dat := fun i => if hi : i < len then Classical.choose (each i hi) else []
            have hrow : ∀ i, i < len → ∃ vs, w.cells? 0 (a.add (i * ee.size)) ee.size = some vs ∧ DTy T n e (rowOf i) ∧ Reps (allH w) (rowOf i) vs := fun i hi => by
              simp only [rowOf, dif_pos hi]
              exact Classical.choose_spec (each i hi)
            have hrl : ∀ i, i < len → (rowOf i).length = ee.size := fun i hi => by
              obtain ⟨vs, h1, _, h3⟩ := hrow i hi
              have := (World.cells?_some h1).2.1
              rw [h3.1, this]
            have hat : ∀ (i : Nat) (r : List Dat), ((List.range len).map rowOf)[i]? = some r → i < len ∧ r = rowOf i := fun i r hr => by
              rw [List.getElem?_map] at hr
              by_cases hi : i < len
              · simp [hi] at hr; exact ⟨hi, hr.symm⟩
              · simp [hi] at hr
            refine ⟨_, ⟨(List.range len).map rowOf, rfl, fun r hr => ?_⟩, .one ?_⟩
            · obtain ⟨i, hi, rfl⟩ := List.mem_map.1 hr
              obtain ⟨vs, _, h2, _⟩ := hrow i (by simpa using hi)
              exact h2
            · have hcell : ∀ j, j < len * ee.size → ∃ v, w.cell? (a.add j) = some v := fun j hj => by
                have hpos : 0 < ee.size := by
                  rcases Nat.eq_zero_or_pos ee.size with h0 | h0
                  · rw [h0] at hj; simp at hj
                  · exact h0
                have hi : j / ee.size < len := Nat.div_lt_of_lt_mul (by rw [Nat.mul_comm]; exact hj)
                obtain ⟨vs, h1, _, _⟩ := hrow _ hi
                have h2 := World.cells?_some h1
                have := h2.2.2 (j % ee.size) (Nat.mod_lt _ hpos)
                rw [List.getElem?_eq_getElem (by rw [h2.2.1]; exact Nat.mod_lt _ hpos)] at this
                have he : j / ee.size * ee.size + j % ee.size = j := by rw [Nat.mul_comm]; exact Nat.div_add_mod j ee.size
                rw [addr_add_add] at this
                simp only [he] at this
                exact ⟨_, this⟩
              have hrep : Rep (allH w) (.l ((List.range len).map rowOf)) (.slice (some a) ((List.range len).map rowOf).length cap) := by
                refine .l ee.size (fun j => (w.cell? (a.add j)).getD undef) (fun r hr => ?_) (by simpa using hb.2.1) hb.2.2 (fun _ => ⟨a, rfl, fun i hi => ?_⟩) (fun j r k d hj hk => ?_)
                · obtain ⟨i, hi, rfl⟩ := List.mem_map.1 hr
                  exact hrl i (by simpa using hi)
                · obtain ⟨v, hv⟩ := hcell i (by simpa using hi)
                  rw [hv]; exact allH_cell hv
                · obtain ⟨hjl, rfl⟩ := hat j r hj
                  obtain ⟨vs, h1, _, h3⟩ := hrow j hjl
                  have hkl := (List.getElem?_eq_some_iff.1 hk).1
                  have h2 := World.cells?_some h1
                  have hks : k < ee.size := by rw [← hrl j hjl]; exact hkl
                  have hv := h2.2.2 k hks
                  rw [addr_add_add] at hv
                  rw [hv, List.getElem?_eq_getElem (by rw [h2.2.1]; exact hks)]
                  exact h3.2 k d _ hk (List.getElem?_eq_getElem (by rw [h2.2.1]; exact hks))
              simpa using hrep
      | struct fs =>
        rw [hk] at hfit
        simp only [hk, Bool.and_eq_true, beq_iff_eq, List.all_eq_true] at hct
        cases d <;> simp only [descFits] at hfit <;> try exact hfit.elim
        rename_i gs
        have hlen : P.cellsOf t = te.size := cellsOf_tbl hT hte
        have h2 : (if cs.length = P.cellsOf t then (gs.toList.mapM fun f => DataW.trod enc P w 0 spare true n f.type ((cs.drop f.offset).take (P.cellsOf f.type))).map fun xs => (DataW.agg (xs.map (·.1)), xs.flatMap (·.2)) else none) = some x := by
          rw [← h]
        split at h2
        case isFalse => cases h2
        rename_i hcl'
        cases hm : (gs.toList.mapM fun f => DataW.trod enc P w 0 spare true n f.type ((cs.drop f.offset).take (P.cellsOf f.type))) with
        | none => rw [hm] at h2; simp at h2
        | some xs =>
          have hcs : cs.length = te.size := by rw [hcl', hlen]
          obtain ⟨ds, hds, hf⟩ := fields_dat (ts := ts) hT (fun t cs x h1 h2 => trod_dat hT hcl n t cs x h1 h2) gs.toList 0 xs hm (fun f hf => hct.2 (f.type, f.offset) (by rw [← hfit]; exact List.mem_map.2 ⟨f, hf, rfl⟩)) (by rw [hfit, hct.1, hcs]) (Nat.zero_le _)
          rw [List.drop_zero] at hds
          refine ⟨ds, ⟨by rw [hds.1, hcs], fun f hf' => ?_⟩, hds⟩
          rw [← hfit] at hf'
          obtain ⟨g, hg, rfl⟩ := List.mem_map.1 hf'
          obtain ⟨_, fe, h1, h2⟩ := hf g hg
          exact ⟨fe, h1, by simpa using h2⟩
      | array | ptr | map | func => simp only [hk] at hct; cases hct
end
end Go.Am

/- From what a law's function does with its arguments as data to the given statement: the contract. -/
set_option linter.unusedVariables false
set_option linter.unusedSimpArgs false
namespace Go.Am
open Go.ChangeShapes Go.WideShapes Go.RowKit

def DTys (T : Tbl) : List Nat → List (List Dat) → Prop
  | [], [] => True
  | t :: ts, d :: ds => (∃ n, DTy T n t d) ∧ DTys T ts ds
  | _, _ => False

def oneD : List Dat → AVal
  | [x] => .d x
  | _ => .any

def argA (T : Tbl) (t : Nat) (ds : List Dat) : AVal :=
  match T t with
  | some e => if e.k.agg = true then .agg (ds.map .d) else oneD ds
  | none => .any

def argsA (T : Tbl) : List Nat → List (List Dat) → List AVal
  | t :: ts, d :: ds => argA T t d :: argsA T ts ds
  | _, _ => []

section
variable {H : Type} {enc : TypeId × Value → H} {P : Program} {T : Tbl} {w : World} {spare : Nat → Bool}

theorem dty_one {n t : Nat} {ds : List Dat} {e : TyE} (h : DTy T n t ds) (ht : T t = some e) (ha : e.k.agg = false) : ∃ x, ds = [x] := by
  cases n with
  | zero => exact h.elim
  | succ n =>
    unfold DTy at h
    simp only [ht] at h
    split at h
    · obtain ⟨x, h, _⟩ := h; exact ⟨_, h⟩
    · obtain ⟨x, h⟩ := h; exact ⟨_, h⟩
    · obtain ⟨x, h, _⟩ := h; exact ⟨_, h⟩
    · obtain ⟨x, h, _⟩ := h; exact ⟨_, h⟩
    · rename_i fs hk; rw [hk] at ha; cases ha
    · exact h.elim

theorem arg_rel (hT : TblOk P T) {ts : List Nat} (hcl : closedT T ts = true) {t : Nat} (hin : ts.contains t = true) {r : Reach} {b0 : Nat} {v : Value} {d : DataW H} {ps : List MemPlace} (hval : Value.okWide P w r b0 t v) (hd : DataW.Trod enc P w 0 spare true t v d ps) {ob : Loc → Option AObj} :
    ∃ ds n, DTy T n t ds ∧ VRel ⟨allH w, [], []⟩ ob (argA T t ds) v := by
  obtain ⟨n, hf⟩ := hd
  obtain ⟨ds, h1, h2⟩ := trod_dat hT hcl n t _ _ hin hf
  refine ⟨ds, n, h1, ?_⟩
  have hc := hcl
  simp only [closedT, List.all_eq_true] at hc
  have hct := hc t (by simpa using hin)
  cases hte : T t with
  | none => rw [hte] at hct; cases hct
  | some te =>
    simp only [hte] at hct
    obtain ⟨dd, hu, hfit⟩ := (hT t te hte).u
    unfold argA
    simp only [hte]
    have scal : v.cells = #[v] → te.k.agg = false → VRel ⟨allH w, [], []⟩ ob (if te.k.agg = true then .agg (ds.map .d) else oneD ds) v := fun hv ha => by
      obtain ⟨x, rfl⟩ := dty_one h1 hte ha
      rw [if_neg (by rw [ha]; simp)]
      exact .d (h2.2 0 x v rfl (by rw [hv]; rfl))
    cases hk : te.k with
    | int k =>
      rw [hk] at hfit scal
      cases dd <;> simp only [descFits] at hfit <;> try exact hfit.elim
      obtain ⟨x, rfl⟩ := okWide_int hu hval
      exact scal rfl rfl
    | bool =>
      rw [hk] at hfit scal
      cases dd <;> simp only [descFits] at hfit <;> try exact hfit.elim
      obtain ⟨x, rfl⟩ := okWide_bool hu hval
      exact scal rfl rfl
    | string =>
      rw [hk] at hfit scal
      cases dd <;> simp only [descFits] at hfit <;> try exact hfit.elim
      obtain ⟨x, rfl⟩ := okWide_string hu hval
      exact scal rfl rfl
    | slice e =>
      rw [hk] at hfit scal
      cases dd <;> simp only [descFits] at hfit <;> try exact hfit.elim
      obtain ⟨x, y, z, rfl⟩ := okWide_slice hu hval
      exact scal rfl rfl
    | struct fs =>
      rw [hk] at hfit
      cases dd <;> simp only [descFits] at hfit <;> try exact hfit.elim
      obtain ⟨cs, rfl, hs⟩ := okWide_struct hu hval
      rw [if_pos (show (TyK.struct fs).agg = true from rfl)]
      have hcs : (Value.agg cs).cells = cs := rfl
      rw [hcs] at h2
      refine .agg (by have := h2.1; simp at this ⊢; omega) fun k x v hx hv => ?_
      rw [List.getElem?_map] at hx
      cases hq : ds[k]? with
      | none => rw [hq] at hx; simp at hx
      | some q =>
        rw [hq] at hx; simp at hx; subst hx
        exact .d (h2.2 k q v hq (by simpa using hv))
    | array | ptr | map | func => simp only [hk] at hct; cases hct

theorem args_rel (hT : TblOk P T) {ts : List Nat} (hcl : closedT T ts = true) {r : Reach} {b0 : Nat} {ob : Loc → Option AObj} : ∀ {params : List Nat} {vs : List Value} {ds : List (DataW H)} {ps : List MemPlace}, (∀ t ∈ params, ts.contains t = true) →
    (∀ (j : Nat) t v, params[j]? = some t → vs[j]? = some v → Value.okWide P w r b0 t v) → DataW.TrodAll enc P w 0 spare true params vs ds ps →
    ∃ dss, DTys T params dss ∧ (argsA T params dss).length = vs.length ∧ ∀ (k : Nat) (x : AVal) (v : Value), (argsA T params dss)[k]? = some x → vs[k]? = some v → VRel ⟨allH w, [], []⟩ ob x v
  | [], vs, ds, ps, _, _, h => by
    obtain ⟨rfl, _, _⟩ := trodAll_nil h
    exact ⟨[], trivial, rfl, by simp [argsA]⟩
  | t :: params, vs, ds, ps, hin, hval, h => by
    obtain ⟨v, vs', d, ds', p, q, rfl, rfl, rfl, h1, h2⟩ := trodAll_cons h
    obtain ⟨d0, n, k1, k2⟩ := arg_rel (ob := ob) hT hcl (hin t (by simp)) (hval 0 t v rfl rfl) h1
    obtain ⟨dss, m1, m2, m3⟩ := args_rel (r := r) (b0 := b0) (ob := ob) hT hcl (fun t ht => hin t (by simp [ht])) (fun j t v ht hv => hval (j + 1) t v (by simpa using ht) (by simpa using hv)) h2
    refine ⟨d0 :: dss, ⟨⟨n, k1⟩, m1⟩, by simp [argsA, m2], fun k x u hx hu => ?_⟩
    cases k with
    | zero => simp [argsA] at hx hu; subst hx; subst hu; exact k2
    | succ k => exact m3 k x u (by simpa [argsA] using hx) (by simpa using hu)

theorem back_all (hl : laidOutB P = true) {W W' : World} (hb : Below W.heap.size W W') : ∀ {params : List Nat} {vs : List Value} {ds : List (DataW H)} {ps : List MemPlace}, (∀ t ∈ params, P.readableRec t = true ∧ t < P.types.size) →
    DataW.TrodAll enc P W 0 (fun _ => true) true params vs ds ps → ∃ ps', DataW.TrodAll enc P W' 0 (fun b => decide (b < W.heap.size)) true params vs ds ps'
  | [], vs, ds, ps, _, h => by
    obtain ⟨rfl, rfl, rfl⟩ := trodAll_nil h
    exact ⟨[], trodAll_mk0⟩
  | t :: params, vs, ds, ps, hin, h => by
    obtain ⟨v, vs', d, ds', p, q, rfl, rfl, rfl, h1, h2⟩ := trodAll_cons h
    obtain ⟨ps', h3⟩ := back_all hl hb (fun t ht => hin t (by simp [ht])) h2
    have hlt : ∀ x ∈ p, x.block < W.heap.size := by obtain ⟨m, hm⟩ := h1; exact DataW.trod_lt m _ _ _ hm
    exact ⟨_, trodAll_cons_mk (Below.trod hl (hin t (by simp)).1 (hin t (by simp)).2 h1 hb hlt) h3⟩

theorem trodAll_length : ∀ {params : List Nat} {vs : List Value} {ds : List (DataW H)} {ps : List MemPlace}, DataW.TrodAll enc P w 0 spare true params vs ds ps → ds.length = params.length
  | [], vs, ds, ps, h => by
    obtain ⟨_, rfl, _⟩ := trodAll_nil h
    rfl
  | t :: params, vs, ds, ps, h => by
    obtain ⟨v, vs', d, ds', p, q, rfl, rfl, rfl, h1, h2⟩ := trodAll_cons h
    simp [trodAll_length h2]

/-- The contract of a law's row. -/
theorem law_contract (hT : TblOk P T) (hl : laidOutB P = true) {ts : List Nat} (hcl : closedT T ts = true) {f : FuncId} {fn : Func} {params : List Nat} (hp : fn.params.toList = params) (hin : params.all ts.contains = true)
    (hrd : params.all (fun t => P.readableRec t && decide (t < P.types.size)) = true) {rt : Nat} (hrt : fn.resultTypes = #[rt]) (hbool : P.underlying rt = some .bool) {s : ChangeSpec} (hv : s.vars = [])
    (hs : ∀ ds : List (DataW H), ds.length = params.length → s.fn H ds = { results := [.lit (.bool true)], args := ds, vars := [] })
    (h : ∀ dss, DTys T params dss → ACall P f (argsA T params dss) [] fun r _ => r = .d (.v (.bool true)))
    (W : World) (base : Nat) (args : Array Value) (ds gs : List (DataW H)) (before : List MemPlace)
    (hval : ∀ (j : Nat) t v, fn.params[j]? = some t → args[j]? = some v → Value.okWide P W .any base t v)
    (hW : DataW.Whole enc P fn.params.toList s.vars false W args.toList ds gs before) :
    Calls P f args W fun e W' => ∃ v, e = .returned v ∧ s.post enc P fn false true false false W args v W' := by
  have hW' := hW
  obtain ⟨p, q, hA0, hV, rfl, hfz, hnd⟩ := hW
  rw [hv] at hV
  obtain ⟨rfl, rfl⟩ := trodVars_none hV
  rw [hp] at hA0
  simp only [List.all_eq_true, Bool.and_eq_true, decide_eq_true_eq] at hrd hin
  obtain ⟨dss, h1, h2, h3⟩ := args_rel (ob := obj [] []) hT hcl hin (fun j t v ht hv => hval j t v (by rw [← hp, Array.getElem?_toList] at ht; exact ht) (by rw [Array.getElem?_toList] at hv; exact hv)) hA0
  have hc := (h dss h1).2 ⟨allH W, [], []⟩ W args rfl ⟨allH_in W, rfl, rfl, fun p x hx => by cases p <;> simp [obj] at hx, fun p x b c hx => by cases p <;> simp [obj] at hx, fun p q x y b c d hx => by cases p <;> simp [obj] at hx, by simp⟩
    ⟨by rw [h2]; simp, fun k x v hx hv => h3 k x v hx (by rw [Array.getElem?_toList]; exact hv)⟩
  refine hc.mono fun en W' ⟨e', G', r, v, hen, hlb, hH, hr, hg, hE, hq⟩ => ?_
  subst hen; subst hq
  have hvb : v = .bool true := by
    cases hr with
    | d rr => cases rr with
    | v _ => rfl
  subst hvb
  have bel : Below W.heap.size W W' := ⟨hE.os, hE.tape, hE.output, hE.size, fun k hk => (hE.old k hk (by
    rintro ⟨p, x, c, hx, _⟩
    cases p <;> simp [obj] at hx)).1⟩
  obtain ⟨pa, hback⟩ := back_all hl bel hrd hA0
  have hds := hs (ds ++ []) (by rw [List.append_nil]; exact trodAll_length hA0)
  refine ⟨_, rfl, ds, [], _, [], pa, [], hW', ?_, ?_, ?_, bel.frame _, fun h => by cases h⟩
  · rw [hds, hrt]
    exact trodAll_mk1 (shut_bool hbool _)
  · rw [hds, List.append_nil, hp]; exact hback
  · rw [hds, hv]; rfl
end
end Go.Am

/- The laws that the evaluation runs by. -/
namespace Go.Am
theorem int_beq (a b : Int) : (a == b) = decide (a = b) := by by_cases h : a = b <;> simp [h]
theorem int_bne (a b : Int) : (a != b) = !decide (a = b) := by by_cases h : a = b <;> simp [h]
attribute [simp] int_beq int_bne X_skip X_text X_drawn XD_none XD_some X_seq X_condT X_condF X_block X_exit X_ret X_label R_nil RS_some R_go R_guard RG_t RG_f wantG XL_done XL_take XL_all XLs_nil XLs_cons findP put_mk put_mk0 next_mk next_mk0 get_mk
  callOf nextOf stepA evalV St.ev cellsA oneA newVarA wantA okConst constA zeroA fieldA shiftA obj loadA mkV TyK.agg binA binV intBin storeA splA globIf St.setObj
  List.range List.range.loop strBytesA intsA pickA unA convA nilA thenA inBlockA AVal.glob AVal.glob.globs List.replicate retE retA resA frzAll frzV frz1 dataV data1 ownA rowsA oneOrTup pureA okTup indexA lenA
  slotsWeak objsWeak AVal.under AVal.under.unders objsBelow AObj.underO dryA buildSliceA pairsA rowA rowsOfA toDat toDats ptrNil buildA fillA isNilPtr
end Go.Am

/- What is too far. -/
set_option linter.unusedVariables false
set_option linter.unusedSimpArgs false
namespace Go.Proofs.Dev
open Go.Am
set_option maxRecDepth 100000
attribute [local simp] tbl

variable {G : List AObj}

def Act.far (x : Act) : Bool := decide (200 < x.b.size) || decide (60 < x.name.size) || decide (60 < x.to.size) || decide (x.kind < 0) || decide (8 < x.kind)
def actRows (l : List Act) : List (List Dat) := l.map Act.enc
def farL (l : List Act) : Bool := decide (60 < l.length) || l.any Act.far

theorem len_actRows (l : List Act) : (actRows l).length = l.length := by simp [actRows]
theorem at_actRows {l : List Act} {i : Nat} {x : Act} (h : l[i]? = some x) : (actRows l)[i]? = some x.enc := by simp [actRows, h]

theorem far_ok (l : List Act) : ACall Try.prog 14 [.d (.l (actRows l))] G (fun r G' => r = boo (farL l) ∧ G' = G) := by
  refine ACall.go tblOk pmixed [] Try.func14 (c := _) rfl rfl (by kernel_rfl) ?_
  simp [len_actRows]
  refine x_condD rfl (fun h => ?_) (fun h => ?_)
  · simp [farL]; omega
  simp
  refine x_loop tblOk pmixed (fun i : Nat => { s := [.d (.l (actRows l)), .any, boo false, int i] ++ List.replicate 50 .any, L := [], G := G })
    (fun i => i ≤ l.length ∧ (l.take i).any Act.far = false) (fun i => l.length - i) [] (by kernel_rfl) 0 (by simp) (Weak.slots (by simp) (by simp) (by simp)) (fun i hi => ?_)
  simp [len_actRows]
  refine x_condD rfl (fun ht => ?_) (fun ht => ?_)
  · replace ht : i < l.length := by omega
    have hx : l[i]? = some l[i] := List.getElem?_eq_getElem ht
    generalize l[i] = x at *
    have key : x.far = true → farL l = true := fun h => by simp [farL, List.any_eq_true.2 ⟨x, List.mem_of_getElem? hx, h⟩]
    simp [at_actRows hx, Act.enc, len_byteRows]
    refine r_splitN (fun h1 => ?_) (fun h1 => ?_)
    case refine_2 => simp [h1, len_byteRows]; exact key (by simp [Act.far]; omega)
    simp [h1, len_byteRows, at_actRows hx, Act.enc]
    refine r_splitN (fun h2 => ?_) (fun h2 => ?_)
    case refine_2 => simp [h2]; exact key (by simp [Act.far]; omega)
    simp [h2, at_actRows hx, Act.enc]
    refine r_splitN (fun h3 => ?_) (fun h3 => ?_)
    case refine_2 => simp [h3]; exact key (by simp [Act.far]; omega)
    simp [h3, at_actRows hx, Act.enc]
    refine r_splitN (fun h4 => ?_) (fun h4 => ?_)
    case refine_2 => simp [h4]; exact key (by simp [Act.far]; omega)
    simp [h4, at_actRows hx, Act.enc]
    refine x_condD rfl (fun h5 => ?_) (fun h5 => ?_)
    · simp; exact key (by simp [Act.far]; omega)
    simp
    refine ⟨i + 1, ⟨by omega, ?_⟩, by omega, Weak.slots ?_ (by simp) (by simp)⟩
    · have : x.far = false := by simp [Act.far]; omega
      have h0 := hi.2
      rw [List.take_add_one, hx]
      simp at h0 ⊢
      rintro y (hy | rfl)
      · exact h0 y hy
      · exact this
    · simp
      exact w64 (by omega) (by omega)
  · simp
    have h1 := hi.2
    rw [List.take_of_length_le (by omega)] at h1
    simp only [farL, h1]
    simp; omega
end Go.Proofs.Dev
