/- Part 4 of the proof: lemmas on an abstract reading of the machine, and the functions that the law reaches. -/
import Derived.Test.YtbglgpplnapceaaA3
/- The chapter's example. -/
set_option linter.unusedVariables false
set_option linter.unusedSimpArgs false
namespace Go.Proofs.Dev
open Go.Am
set_option maxRecDepth 100000
attribute [local simp] tbl

abbrev sA : ByteArray := ⟨#[97]⟩
abbrev sX : ByteArray := ⟨#[120]⟩
abbrev sXY : ByteArray := ⟨#[120, 121]⟩
def s1 : DS := ⟨9, [], [dk 0 sA e0 e0 0], [(sA, e0)], 0, false, 1⟩
def s2 : DS := ⟨9, [], [dk 0 sA e0 e0 0, dk 1 sA e0 sXY 0], [(sA, sXY)], 0, false, 2⟩
def s3 : DS := ⟨9, [(sA, sX)], [], [(sA, sX)], 0, false, 2⟩
theorem s0ok : (newS 9).ok := ⟨by decide, by decide, by decide⟩
theorem s1ok : s1.ok := ⟨by decide, by decide, by decide⟩
theorem s2ok : s2.ok := ⟨by decide, by decide, by decide⟩
theorem s3ok : s3.ok := ⟨by decide, by decide, by decide⟩
theorem s1v : makeS (newS 9) sA = (0, s1) := by kernel_rfl
theorem s2v : appendS s1 sA sXY = (0, s2) := by kernel_rfl
theorem s3v : crashS s2 1 1 = s3 := by kernel_rfl
theorem s3m : makeS s3 sA = (6, s3) := by kernel_rfl
theorem s3r : readS s3 sA = 0 := by kernel_rfl
theorem s3g : (getF s3.seen sA).getD e0 = sX := by kernel_rfl
theorem s2can : canAll s2.last s2.waits := by
  refine ⟨can_of _ _ (by decide) (by decide), ⟨fun _ => ?_, fun h => absurd h (by decide)⟩, trivial⟩
  decide +kernel

theorem ext_of {G G1 G2 : List AObj} {k k' : DK} (h : ∀ j, j < G.length → G1[j]? = G[j]?) (hl : G.length ≤ G1.length) (hk : ∀ j ∈ k.ids, G.length ≤ j) (f : Fr G1 k G2 k') :
    (∀ j, j < G.length → G2[j]? = G[j]?) ∧ G.length ≤ G2.length ∧ (∀ j ∈ k'.ids, G.length ≤ j) :=
  ⟨fun j hj => by rw [f.keep j (by omega) (fun hm => by have := hk j hm; omega), h j hj], Nat.le_trans hl f.len, fun j hj => by
    rcases f.ids j hj with h1 | h1
    · exact hk j h1
    · omega⟩

/-- A new disk. -/
theorem new_ok' {G : List AObj} (room : Int) (h : 0 ≤ room ∧ room ≤ 1073741824) :
    ACall Try.prog 15 [int room] G (fun r G' => ∃ k, r = .tup [.p (.g k.i) (.ref 0), u8 0] ∧ DAt G' k (newS room) ⟨[], 0⟩ ⟨[], 0⟩ ∧ (∀ j, j < G.length → G'[j]? = G[j]?) ∧ G.length ≤ G'.length ∧ (∀ j ∈ k.ids, G.length ≤ j) ∧ (∀ j ∈ k.ids, j < G'.length)) :=
  (new_ok room h).mono fun r G' ⟨h1, h2, h3, h4⟩ => ⟨_, h1, h2, h3, by omega, by simp [DK.ids], by simp [DK.ids, h4]⟩

theorem alive_ok {G : List AObj} : ACall Try.prog 13 [] G (fun r G' => r = boo true ∧ (∀ j, j < G.length → G'[j]? = G[j]?) ∧ G.length ≤ G'.length) := by
  refine ACall.bodyW tblOk Try.func13 (c := _) rfl rfl ?_
  refine w_seq (X_ok (pl := []) tblOk pmixed rfl ?_)
  simp
  refine w_seq (X_ok (pl := []) tblOk pmixed rfl ?_)
  simp
  refine call_to (new_ok' 9 (by omega)) rfl rfl rfl fun r G1 ⟨k1, h1, d1, x1, l1, y1, _⟩ => ?_
  subst h1
  simp
  refine w_seq (X_ok (pl := []) tblOk pmixed rfl ?_)
  simp
  have m1 := make_ok d1 s0ok sA
  unfold Does at m1
  rw [s1v] at m1
  refine call_to m1 rfl rfl rfl fun r G2 ⟨k2, ms2, h1, d2, f2⟩ => ?_
  subst h1
  have e2 := ext_of x1 l1 y1 f2
  rw [← f2.i]
  simp
  have m2 := append_ok d2 s1ok sA sXY ⟨by decide +kernel, by decide⟩
  unfold Does at m2
  rw [s2v] at m2
  refine w_seq (w_pair tblOk [0] [3, 4] (i := 1) (j := 2) rfl rfl rfl ?_)
  refine runK_ok ?_
  simp [runK, wantA]
  refine ⟨_, rfl, runK_ok ?_⟩
  simp [runK, wantA]
  refine call_to m2 rfl rfl rfl fun r G3 ⟨k3, ms3, h1, d3, f3⟩ => ?_
  subst h1
  have e3 := ext_of e2.1 e2.2.1 e2.2.2 f3
  rw [← f3.i]
  simp [runK, wantA]
  refine w_seq (X_ok (pl := []) tblOk pmixed rfl ?_)
  simp
  have m3 := crash_ok d3 s2can (by decide) 1 1
  rw [s3v] at m3
  refine call_to m3 rfl rfl rfl fun r G4 ⟨k4, ms4, h1, d4, f4⟩ => ?_
  subst h1
  have e4 := ext_of e3.1 e3.2.1 e3.2.2 f4
  rw [← f4.i]
  simp
  refine X_ok (pl := []) tblOk pmixed (by kernel_rfl) ?_
  simp
  have m4 := read_ok d4 sA (fun v hv => by
    have : v = sX := by
      have h : getF s3.seen sA = some sX := by kernel_rfl
      rw [h] at hv; exact (Option.some.inj hv).symm
    subst this; decide)
  rw [s3r, s3g] at m4
  refine call_v m4 rfl rfl rfl ?_
  simp
  have m5 := make_ok d4 s3ok sA
  unfold Does at m5
  rw [s3m] at m5
  have hw0 : IntKind.i64.wrap 0 = 0 := by decide
  have hw6 : IntKind.i64.wrap 6 = 6 := by decide
  simp [hw0, hw6, bytesOf_byteRows, strOf_bytes, strBin]
  have hs : strOfInts [120] = { data := #[120] } := by kernel_rfl
  simp [hs, hw6]
  refine call_to m5 rfl rfl rfl fun r G6 ⟨k6, ms6, h1, d6, f6⟩ => ?_
  subst h1
  have e6 := ext_of e4.1 e4.2.1 e4.2.2 f6
  simp [hw6]
  exact ⟨e6.1, e6.2.1⟩
end Go.Proofs.Dev

/- No disk. -/
set_option linter.unusedVariables false
set_option linter.unusedSimpArgs false
namespace Go.Proofs.Dev
open Go.Am
set_option maxRecDepth 100000
attribute [local simp] tbl
variable {G : List AObj}
abbrev nil0 : AVal := .d (.v (.pointer none))

theorem arm_nil (n : Int) : ACall Try.prog 24 [nil0, int n] G (fun r G' => r = .tup [] ∧ G' = G) := by
  refine ACall.go tblOk pmixed [] Try.func24 (c := _) rfl rfl (by kernel_rfl) ?_
  simp

theorem crash_nil (n m : Int) : ACall Try.prog 20 [nil0, int n, int m] G (fun r G' => r = .tup [] ∧ G' = G) := by
  refine ACall.go tblOk pmixed [(5, .take 0 <| .take 1 <| .take 2 <| .all [(3, .all [(4, .all [(5, .done)])]), (4, .all [(3, .all [(5, .done)])])]), (11, .take 0 <| .take 1 <| .take 2 <| .all [(3, .all [(4, .all [(5, .done)])]), (4, .all [(3, .all [(5, .done)])])])] Try.func20 (c := _) rfl rfl (by kernel_rfl) ?_
  simp

theorem up_nil : ACall Try.prog 25 [nil0] G (fun r G' => r = boo false ∧ G' = G) := by
  refine ACall.go tblOk pmixed [] Try.func25 (c := _) rfl rfl (by kernel_rfl) ?_
  simp

theorem used_nil : ACall Try.prog 23 [nil0] G (fun r G' => r = int 0 ∧ G' = G) := by
  refine ACall.go tblOk pmixed [] Try.func23 (c := _) rfl rfl (by kernel_rfl) ?_
  simp

theorem waits_nil : ACall Try.prog 18 [nil0] G (fun r G' => r = int 0 ∧ G' = G) := by
  refine ACall.go tblOk pmixed [] Try.func18 (c := _) rfl rfl (by kernel_rfl) ?_
  simp

theorem deeds_nil : ACall Try.prog 19 [nil0] G (fun r G' => r = int 0 ∧ G' = G) := by
  refine ACall.go tblOk pmixed [] Try.func19 (c := _) rfl rfl (by kernel_rfl) ?_
  simp

theorem names_nil : ACall Try.prog 32 [nil0] G (fun r G' => r = .d (.l []) ∧ G' = G) := by
  refine ACall.go tblOk pmixed [] Try.func32 (c := _) rfl rfl (by kernel_rfl) ?_
  simp

theorem make_nil (n : ByteArray) : ACall Try.prog 27 [nil0, str n] G (fun r G' => r = u8 2 ∧ G' = G) := by
  refine ACall.go tblOk pmixed [] Try.func27 (c := _) rfl rfl (by kernel_rfl) ?_
  simp
  refine call_v (may_nil [n]) rfl rfl rfl ?_
  simp

theorem append_nil (n : ByteArray) : ACall Try.prog 28 [nil0, str n, .d (.l [])] G (fun r G' => r = u8 2 ∧ G' = G) := by
  refine ACall.go tblOk pmixed [(5, .take 0 <| .take 1 <| .take 2 <| .take 3 <| .take 4 <| .take 5 <| .take 6 <| .take 8 <| .all [(7, .all [(9, .all [(10, .all [(11, .take 12 <| .done)])])]), (9, .all [(7, .all [(10, .all [(11, .take 12 <| .done)])])])])] Try.func28 (c := _) rfl rfl (by kernel_rfl) ?_
  simp
  refine call_v (may_nil [n]) rfl rfl rfl ?_
  simp

theorem cut_nil (n : ByteArray) : ACall Try.prog 29 [nil0, str n, int 0] G (fun r G' => r = u8 2 ∧ G' = G) := by
  refine ACall.go tblOk pmixed [] Try.func29 (c := _) rfl rfl (by kernel_rfl) ?_
  simp
  refine call_v (may_nil [n]) rfl rfl rfl ?_
  simp

theorem rename_nil (n m : ByteArray) : ACall Try.prog 30 [nil0, str n, str m] G (fun r G' => r = u8 2 ∧ G' = G) := by
  refine ACall.go tblOk pmixed [] Try.func30 (c := _) rfl rfl (by kernel_rfl) ?_
  simp
  refine call_v (may_nil [n, m]) rfl rfl rfl ?_
  simp

theorem remove_nil (n : ByteArray) : ACall Try.prog 31 [nil0, str n] G (fun r G' => r = u8 2 ∧ G' = G) := by
  refine ACall.go tblOk pmixed [] Try.func31 (c := _) rfl rfl (by kernel_rfl) ?_
  simp
  refine call_v (may_nil [n]) rfl rfl rfl ?_
  simp

theorem sync_nil : ACall Try.prog 22 [nil0] G (fun r G' => r = u8 2 ∧ G' = G) := by
  refine ACall.go tblOk pmixed [] Try.func22 (c := _) rfl rfl (by kernel_rfl) ?_
  simp
  refine call_v (may_nil []) rfl rfl rfl ?_
  simp

theorem read_nil (n : ByteArray) : ACall Try.prog 26 [nil0, str n] G (fun r G' => r = .tup [.d (.l []), u8 2] ∧ G' = G) := by
  refine ACall.go tblOk pmixed [] Try.func26 (c := _) rfl rfl (by kernel_rfl) ?_
  simp
  refine call_v (may_nil [n]) rfl rfl rfl ?_
  simp
end Go.Proofs.Dev

/- Plain facts on files and deeds. -/
set_option linter.unusedVariables false
set_option linter.unusedSimpArgs false
namespace Go.Proofs.Dev
open Go.Am
set_option maxRecDepth 100000

def keys (f : Fs) : List ByteArray := f.map (·.1)

theorem getF_some_iff (f : Fs) (k : ByteArray) : (getF f k).isSome = true ↔ k ∈ keys f := by
  induction f with
  | nil => simp [getF, keys]
  | cons p r ih =>
    obtain ⟨a, v⟩ := p
    simp only [getF, keys, List.map_cons, List.mem_cons]
    split
    · rename_i h; simp [h]
    · rename_i h
      rw [ih]
      simp [keys, h]

theorem getF_none_iff (f : Fs) (k : ByteArray) : getF f k = none ↔ k ∉ keys f := by
  have := getF_some_iff f k
  cases h : getF f k <;> simp [h] at this ⊢ <;> exact this

theorem keys_put (f : Fs) (k v : ByteArray) : keys (putF f k v) = if (getF f k).isSome = true then keys f else keys f ++ [k] := by
  induction f with
  | nil => simp [putF, keys, getF]
  | cons p r ih =>
    obtain ⟨a, x⟩ := p
    simp only [putF, getF]
    split
    · rename_i h; subst h; simp [keys]
    · rename_i h
      simp only [keys, List.map_cons] at ih ⊢
      rw [ih]
      split <;> simp

theorem keys_del (f : Fs) (k : ByteArray) : (keys (delF f k)).Sublist (keys f) := by
  induction f with
  | nil => simp [delF, keys]
  | cons p r ih =>
    obtain ⟨a, x⟩ := p
    simp only [delF]
    split
    · simp [keys]
    · simp only [keys, List.map_cons] at ih ⊢
      exact ih.cons_cons _

theorem len_keys (f : Fs) : (keys f).length = f.length := by simp [keys]

theorem getF_put (f : Fs) (k v n : ByteArray) : getF (putF f k v) n = if n = k then some v else getF f n := by
  induction f with
  | nil => simp [putF, getF]
  | cons p r ih =>
    obtain ⟨a, x⟩ := p
    simp only [putF]
    split
    · rename_i h; subst h
      simp only [getF]
      split <;> rfl
    · rename_i h
      simp only [getF, ih]
      by_cases hn : n = k
      · subst hn; simp [h]
      · simp [hn]

theorem put_same {f : Fs} {k v : ByteArray} (h : getF f k = some v) : putF f k v = f := by
  induction f with
  | nil => simp [getF] at h
  | cons p r ih =>
    obtain ⟨a, x⟩ := p
    simp only [getF] at h
    simp only [putF]
    split at h
    · rename_i hk; subst hk; simp at h; simp [h]
    · rename_i hk; simp [hk, ih h]

theorem e0z : (e0 : ByteArray).size = 0 := rfl
def szF (f : Fs) (k : ByteArray) : Int := ((getF f k).getD e0).size

theorem used_put (f : Fs) (k v : ByteArray) : usedF (putF f k v) = usedF f - szF f k + v.size := by
  induction f with
  | nil => simp [putF, usedF, szF, getF, e0z]
  | cons p r ih =>
    obtain ⟨a, x⟩ := p
    simp only [putF]
    split
    · rename_i h; subst h
      simp [usedF, szF, getF]; omega
    · rename_i h
      simp only [usedF, List.map_cons, List.sum_cons, szF, getF, h, if_false] at ih ⊢
      omega

theorem used_del (f : Fs) (k : ByteArray) : usedF (delF f k) = usedF f - szF f k := by
  induction f with
  | nil => simp [delF, usedF, szF, getF, e0z]
  | cons p r ih =>
    obtain ⟨a, x⟩ := p
    simp only [delF]
    split
    · rename_i h; subst h
      simp [usedF, szF, getF]; omega
    · rename_i h
      simp only [usedF, List.map_cons, List.sum_cons, szF, getF, h, if_false] at ih ⊢
      omega

theorem szF_nn (f : Fs) (k : ByteArray) : 0 ≤ szF f k := by unfold szF; omega
theorem szF_le (f : Fs) (k : ByteArray) : szF f k ≤ usedF f := by
  unfold szF
  cases h : getF f k with
  | none => simp; exact usedF_nn f
  | some v => exact size_le_used h

/-- Files as they may be. -/
structure Good (f : Fs) : Prop where
  nd : (keys f).Nodup
  nm : ∀ k ∈ keys f, badName k = false
  le : f.length ≤ 64

theorem good_nil : Good [] := ⟨by simp [keys], by simp [keys], by simp⟩

theorem Good.put {f : Fs} (h : Good f) {k v : ByteArray} (hk : badName k = false) (hl : (getF f k).isSome = true ∨ f.length < 64) : Good (putF f k v) := by
  have e := keys_put f k v
  by_cases hm : (getF f k).isSome = true
  · rw [if_pos hm] at e
    refine ⟨by rw [e]; exact h.nd, by rw [e]; exact h.nm, ?_⟩
    rw [← len_keys, e, len_keys]; exact h.le
  · rw [if_neg hm] at e
    have hl' : f.length < 64 := by
      rcases hl with h1 | h1
      · exact absurd h1 hm
      · exact h1
    refine ⟨?_, fun n hn => ?_, ?_⟩
    · rw [e, List.nodup_append]
      exact ⟨h.nd, by simp, fun a ha b hb => by simp at hb; subst hb; exact fun e => hm ((getF_some_iff f b).2 (e ▸ ha))⟩
    · rw [e] at hn
      simp at hn
      rcases hn with hn | rfl
      · exact h.nm n hn
      · exact hk
    · rw [← len_keys, e, List.length_append, len_keys]; simp; omega

theorem Good.del {f : Fs} (h : Good f) (k : ByteArray) : Good (delF f k) := by
  have e := keys_del f k
  refine ⟨h.nd.sublist e, fun n hn => h.nm n (e.subset hn), ?_⟩
  have := e.length_le
  rw [len_keys, len_keys] at this
  have := h.le
  omega

theorem del_len {f : Fs} {k : ByteArray} (h : (getF f k).isSome = true) : (delF f k).length + 1 = f.length := by
  induction f with
  | nil => simp [getF] at h
  | cons p r ih =>
    obtain ⟨a, x⟩ := p
    simp only [getF] at h
    simp only [delF]
    split
    · simp
    · rename_i hk
      simp only [hk, if_false] at h
      simp [ih h]

/-! ### Deeds of calls -/
def namesOf (x : Act) : List ByteArray := if x.kind = 3 then [x.name, x.to] else [x.name]

def errF (room : Int) (f : Fs) (x : Act) : Int :=
  if (namesOf x).any badName then 1
  else if x.kind = 0 then (if (getF f x.name).isSome then 6 else if 64 ≤ f.length then 4 else 0)
  else if x.kind = 1 ∧ (getF f x.name).isSome = true ∧ room - usedF f < x.b.size then 4
  else if x.kind = 2 ∧ (x.n < 0 ∨ ((getF f x.name).isSome = true ∧ (((getF f x.name).getD e0).size : Int) < x.n)) then 1
  else if (getF f x.name).isSome then 0 else 5

def deedOf (x : Act) : Deed :=
  if x.kind = 0 then dk 0 x.name e0 e0 0 else if x.kind = 1 then dk 1 x.name e0 x.b 0 else if x.kind = 2 then dk 2 x.name e0 e0 x.n
  else if x.kind = 3 then dk 3 x.name x.to e0 0 else dk 4 x.name e0 e0 0

theorem act_down {s : DS} {x : Act} (h : s.down = true) (hk : 0 ≤ x.kind ∧ x.kind ≤ 5) : actS s x = (3, s) := by
  unfold actS makeS appendS cutS renameS removeS syncS withMay mayE
  simp only [h, if_true]
  simp

theorem act_eq {s : DS} {x : Act} (h : s.down = false) (hk : 0 ≤ x.kind ∧ x.kind ≤ 4) : actS s x = if errF s.room s.seen x ≠ 0 then (errF s.room s.seen x, s) else doingS s (deedOf x) := by
  obtain ⟨kd, nm, to, b, n, kk⟩ := x
  simp only at hk
  have hc : kd = 0 ∨ kd = 1 ∨ kd = 2 ∨ kd = 3 ∨ kd = 4 := by omega
  unfold actS makeS appendS cutS renameS removeS withMay mayE errF deedOf namesOf onS
  simp only [h]
  rcases hc with rfl | rfl | rfl | rfl | rfl <;> simp
  · cases hb : badName nm <;> simp
    cases hg : (getF s.seen nm).isSome <;> simp
    by_cases hl : 64 ≤ s.seen.length <;> simp [hl]
    intro hx; omega
  · cases hb : badName nm <;> simp
    cases hg : (getF s.seen nm).isSome <;> simp
    by_cases hl : s.room - usedF s.seen < (b.size : Int) <;> simp [hl]
    intro hx; omega
  · cases hb : badName nm <;> simp
    split
    · simp
    · cases hg : (getF s.seen nm).isSome <;> simp
  · cases hb : badName nm <;> simp
    cases hb2 : badName to <;> simp
    cases hg : (getF s.seen nm).isSome <;> simp
    · intro hx; exact absurd (by simpa using hg) hx
    · intro hx; rw [hx] at hg; cases hg
  · cases hb : badName nm <;> simp
    cases hg : (getF s.seen nm).isSome <;> simp
    · intro hx; exact absurd (by simpa using hg) hx
    · intro hx; rw [hx] at hg; cases hg

/-- A deed that fits. -/
structure Fit (room : Int) (f : Fs) (d : Deed) : Prop where
  can : can f d
  good : Good (doF f d)
  used : usedF (doF f d) ≤ room
  old : d.kind = 1 → (getF f d.name).isSome = true

theorem fit_of {room : Int} {f : Fs} {x : Act} (h : errF room f x = 0) (hg : Good f) (hu : usedF f ≤ room) (hr : room ≤ 1073741824) (hk : 0 ≤ x.kind ∧ x.kind ≤ 4) : Fit room f (deedOf x) := by
  obtain ⟨kd, nm, to, b, n, kk⟩ := x
  simp only at hk
  have hc : kd = 0 ∨ kd = 1 ∨ kd = 2 ∨ kd = 3 ∨ kd = 4 := by omega
  have hn := szF_nn f nm
  have hle := szF_le f nm
  unfold errF namesOf at h
  rcases hc with rfl | rfl | rfl | rfl | rfl <;> simp [deedOf] at h ⊢
  · cases hb : badName nm <;> simp [hb] at h
    cases hgs : (getF f nm).isSome <;> simp [hgs] at h
    refine ⟨can_of _ _ (by simp) (by simp), ?_, ?_, fun h => absurd h (by simp)⟩
    · simp only [doF, if_true]; exact hg.put hb (.inr (by omega))
    · simp only [doF, if_true, used_put]
      have : (((⟨#[]⟩ : ByteArray).size : Nat) : Int) = 0 := rfl
      omega
  · cases hb : badName nm <;> simp [hb] at h
    cases hgs : (getF f nm).isSome <;> simp [hgs] at h
    have hsz : ((getF f nm).getD e0 ++ b).size = ((getF f nm).getD e0).size + b.size := ByteArray.size_append
    refine ⟨⟨fun _ => ?_, fun h => absurd h (by simp)⟩, ?_, ?_, fun _ => hgs⟩
    · simp only [szF] at hle hn
      show ((getF f nm).getD e0).size + b.size ≤ _
      omega
    · show Good (putF f nm _); exact hg.put hb (.inl hgs)
    · show usedF (putF f nm _) ≤ _
      rw [used_put]
      simp only [szF] at hle hn ⊢
      rw [hsz]
      omega
  · cases hb : badName nm <;> simp [hb] at h
    split at h
    · cases h
    · rename_i hx
      cases hgs : (getF f nm).isSome <;> simp [hgs] at h hx
      refine ⟨⟨fun h => absurd h (by simp), fun _ => ⟨hx.1, ?_⟩⟩, ?_, ?_, fun h => absurd h (by simp)⟩
      · show n ≤ (((getF f nm).getD e0).size : Int); omega
      · show Good (putF f nm _); exact hg.put hb (.inl hgs)
      · show usedF (putF f nm _) ≤ _
        rw [used_put]
        have : (((getF f nm).getD ⟨#[]⟩).extract 0 n.toNat).size ≤ ((getF f nm).getD e0).size := by simp [ByteArray.size_extract]; omega
        simp only [szF] at hle hn ⊢
        omega
  · cases hb : badName nm <;> simp [hb] at h
    cases hb2 : badName to <;> simp [hb2] at h
    have hgs : (getF f nm).isSome = true := by cases h' : getF f nm <;> simp_all
    refine ⟨can_of _ _ (show (3 : Int) ≠ 1 by decide) (show (3 : Int) ≠ 2 by decide), ?_, ?_, fun h => absurd h (show (3 : Int) ≠ 1 by decide)⟩
    · show Good (putF (delF f nm) to _)
      refine (hg.del nm).put hb2 (.inr ?_)
      have := del_len hgs
      have := hg.le
      omega
    · show usedF (putF (delF f nm) to ((getF f nm).getD e0)) ≤ _
      rw [used_put, used_del]
      have h1 := szF_nn (delF f nm) to
      simp only [szF] at hle hn h1 ⊢
      omega
  · cases hb : badName nm <;> simp [hb] at h
    have hgs : (getF f nm).isSome = true := by cases h' : getF f nm <;> simp_all
    refine ⟨can_of _ _ (show (4 : Int) ≠ 1 by decide) (show (4 : Int) ≠ 2 by decide), ?_, ?_, fun h => absurd h (show (4 : Int) ≠ 1 by decide)⟩
    · show Good (delF f nm); exact hg.del nm
    · show usedF (delF f nm) ≤ _
      rw [used_del]; omega

theorem canAll_snoc {f : Fs} {l : List Deed} {d : Deed} (h : canAll f l) (hc : can (foldF f l) d) : canAll f (l ++ [d]) := by
  induction l generalizing f with
  | nil => exact ⟨hc, trivial⟩
  | cons x xs ih => exact ⟨h.1, ih h.2 hc⟩

theorem foldF_snoc (f : Fs) (l : List Deed) (d : Deed) : foldF f (l ++ [d]) = doF (foldF f l) d := by simp [foldF]
theorem canAll_take {f : Fs} {l : List Deed} (n : Nat) (h : canAll f l) : canAll f (l.take n) := by
  induction l generalizing f n with
  | nil => simpa using h
  | cons x xs ih =>
    cases n with
    | zero => trivial
    | succ n => exact ⟨h.1, ih n h.2⟩

/-! ### Names, sorted -/
theorem sorted_mem {l ks : List ByteArray} (h : IsSorted l ks) (n : ByteArray) : n ∈ l ↔ n ∈ ks := by
  obtain ⟨ss, hp, rfl⟩ := h
  have hbs : ∀ k : ByteArray, bs k.data.toList = k := fun k => by simp [bs]
  constructor
  · intro hn
    obtain ⟨x, hx, rfl⟩ := List.mem_map.1 hn
    have hx' := hp.mem_iff.1 ((List.mergeSort_perm ss _).mem_iff.1 hx)
    obtain ⟨k, hk, rfl⟩ := List.mem_map.1 hx'
    rw [hbs]; exact hk
  · intro hn
    refine List.mem_map.2 ⟨n.data.toList, (List.mergeSort_perm ss _).mem_iff.2 (hp.mem_iff.2 (List.mem_map.2 ⟨n, hn, rfl⟩)), hbs n⟩

theorem eq_of_perm_le : ∀ {a b : List (List UInt8)}, a.Perm b → a.Pairwise (· ≤ ·) → b.Pairwise (· ≤ ·) → a = b
  | [], b, h, _, _ => (List.nil_perm.1 h).symm
  | x :: xs, b, h, ha, hb => by
    cases b with
    | nil => exact absurd h.symm (by simp)
    | cons y ys =>
      have hxy : x = y := by
        have h1 : x ∈ y :: ys := h.mem_iff.1 (by simp)
        have h2 : y ∈ x :: xs := h.mem_iff.2 (by simp)
        rcases List.mem_cons.1 h1 with e | h1
        · exact e
        rcases List.mem_cons.1 h2 with e | h2
        · exact e.symm
        have h3 := List.rel_of_pairwise_cons ha h2
        have h4 := List.rel_of_pairwise_cons hb h1
        exact List.le_antisymm h3 h4
      subst hxy
      rw [eq_of_perm_le h.cons_inv (List.Pairwise.of_cons ha) (List.Pairwise.of_cons hb)]

theorem sorted_unique {l l' ks ks' : List ByteArray} (h : IsSorted l ks) (h' : IsSorted l' ks') (hp : ks.Perm ks') : l = l' := by
  obtain ⟨ss, p1, rfl⟩ := h
  obtain ⟨ss', p2, rfl⟩ := h'
  congr 1
  have hs : ∀ s : List (List UInt8), (s.mergeSort (fun x y => decide (x ≤ y))).Pairwise (· ≤ ·) := fun s => by
    have := List.pairwise_mergeSort (le := fun x y : List UInt8 => decide (x ≤ y)) (fun a b c h1 h2 => by simp at h1 h2 ⊢; exact List.le_trans h1 h2) (fun a b => by simp; exact List.le_total a b) s
    exact this.imp fun h => by simpa using h
  refine eq_of_perm_le ?_ (hs _) (hs _)
  exact (List.mergeSort_perm ss _).trans ((p1.trans ((hp.map _).trans p2.symm)).trans (List.mergeSort_perm ss' _).symm)

/-- What is read of files. -/
def readOf (f : Fs) (l : List ByteArray) : List ByteArray := l.flatMap fun n => [n, (getF f n).getD e0]

theorem readL_eq {s : DS} {l : List ByteArray} (hd : s.down = false) (hg : Good s.seen) (hs : IsSorted l (keys s.seen)) : readL s l = readOf s.seen l := by
  unfold readL readOf
  have key : ∀ m : List ByteArray, (∀ n ∈ m, n ∈ keys s.seen) → (m.flatMap fun n => [n, if readS s n = 0 then (getF s.seen n).getD e0 else e0]) = m.flatMap fun n => [n, (getF s.seen n).getD e0] := fun m => by
    induction m with
    | nil => simp
    | cons n m ih =>
      intro hm
      have hn := hm n (by simp)
      have h1 : readS s n = 0 := by
        have h2 := hg.nm n hn
        have h3 := (getF_some_iff s.seen n).2 hn
        simp [readS, mayE, hd, h2, h3]
      simp only [List.flatMap_cons, h1, if_true]
      rw [ih fun k hk => hm k (by simp [hk])]
  exact key l fun n hn => (sorted_mem hs n).1 hn
end Go.Proofs.Dev

/- Disks without arms; two disks apart; calls as arguments. -/
set_option linter.unusedVariables false
set_option linter.unusedSimpArgs false
namespace Go.Proofs.Dev
open Go.Am
set_option maxRecDepth 100000

/-- A disk that is up, whose arm is off. -/
structure SA (s : DS) (f : Fs) (n : Nat) : Prop where
  room : s.room = 1048576
  seen : s.seen = f
  fold : foldF s.last s.waits = f
  can : canAll s.last s.waits
  armed : s.armed = 0
  down : s.down = false
  deeds : 0 ≤ s.deeds ∧ s.deeds ≤ n
  waits : s.waits.length ≤ n
  good : Good f
  used : usedF f ≤ 1048576

theorem SA.new : SA (newS 1048576) [] 0 := ⟨rfl, rfl, rfl, trivial, rfl, rfl, by simp [newS], by simp [newS], good_nil, by simp [usedF]⟩

theorem SA.ok {s : DS} {f : Fs} {n : Nat} (h : SA s f n) (hn : n ≤ 1000) : s.ok :=
  ⟨by rw [h.armed]; omega, by have := h.deeds; omega, by have := h.waits; omega⟩

theorem SA.mono {s : DS} {f : Fs} {n m : Nat} (h : SA s f n) (hn : n ≤ m) : SA s f m :=
  ⟨h.room, h.seen, h.fold, h.can, h.armed, h.down, by have := h.deeds; omega, by have := h.waits; omega, h.good, h.used⟩

theorem SA.act {s : DS} {f : Fs} {n : Nat} (h : SA s f n) (x : Act) (hk : 0 ≤ x.kind ∧ x.kind ≤ 4) :
    ∃ s', actS s x = (errF 1048576 f x, s') ∧ SA s' (if errF 1048576 f x = 0 then doF f (deedOf x) else f) (n + 1) ∧ s'.waits = (if errF 1048576 f x = 0 then s.waits ++ [deedOf x] else s.waits) ∧
      s'.deeds = s.deeds + (if errF 1048576 f x = 0 then 1 else 0) ∧ s'.last = s.last := by
  have he := act_eq (x := x) h.down hk
  rw [h.room, h.seen] at he
  by_cases h0 : errF 1048576 f x = 0
  · have hf := fit_of h0 h.good h.used (by omega) hk
    rw [if_neg (by simp [h0])] at he
    have hd : doingS s (deedOf x) = (0, { s with armed := 0, deeds := s.deeds + 1, waits := s.waits ++ [deedOf x], seen := doF s.seen (deedOf x) }) := by
      unfold doingS
      rw [if_neg (by rw [h.armed]; decide), h.armed]
      rfl
    rw [hd] at he
    refine ⟨{ s with armed := 0, deeds := s.deeds + 1, waits := s.waits ++ [deedOf x], seen := doF s.seen (deedOf x) }, by rw [he, h0], ?_, by simp [h0], by simp [h0], rfl⟩
    simp only [h0, if_true]
    refine ⟨h.room, by simp [h.seen], ?_, ?_, rfl, h.down, ?_, ?_, hf.good, hf.used⟩
    · show foldF s.last (s.waits ++ [deedOf x]) = _
      rw [foldF_snoc, h.fold]
    · exact canAll_snoc h.can (by rw [h.fold]; exact hf.can)
    · have := h.deeds; show 0 ≤ s.deeds + 1 ∧ s.deeds + 1 ≤ _; omega
    · have := h.waits; simp; omega
  · rw [if_pos h0] at he
    refine ⟨s, he, ?_, by simp [h0], by simp [h0], rfl⟩
    simp only [h0, if_false]
    exact h.mono (by omega)

theorem SA.sync {s : DS} {f : Fs} {n : Nat} (h : SA s f n) : syncS s = (0, { s with armed := 0, deeds := s.deeds + 1, last := f, waits := [] }) ∧ SA { s with armed := 0, deeds := s.deeds + 1, last := f, waits := [] } f (n + 1) := by
  constructor
  · unfold syncS withMay mayE
    simp [h.down, h.armed, h.seen]
    decide
  · exact ⟨h.room, h.seen, rfl, trivial, rfl, h.down, by have := h.deeds; show 0 ≤ s.deeds + 1 ∧ s.deeds + 1 ≤ _; omega, by simp, h.good, h.used⟩

theorem SA.crash {s : DS} {f : Fs} {n : Nat} (h : SA s f n) (keep torn : Int) (hw : s.waits = []) : SA (crashS s keep torn) f n ∧ (crashS s keep torn).waits = [] ∧ (crashS s keep torn).deeds = s.deeds := by
  have hl : s.last = f := by have := h.fold; rw [hw] at this; exact this
  have hc : crashF s.last s.waits (cutTo keep s.waits.length).toNat torn = f := by
    simp [crashF, hw, hl, foldF]
  refine ⟨⟨h.room, hc, ?_, trivial, rfl, rfl, h.deeds, by simp [crashS], h.good, h.used⟩, rfl, rfl⟩
  show foldF (crashF _ _ _ _) [] = f
  rw [hc]; rfl

section
variable {G G' : List AObj} {k k' k2 : DK} {s s2 : DS} {ml ms ml2 ms2 : FM}

theorem DAt.ids_lt (h : DAt G k s ml ms) : ∀ j ∈ k.ids, j < G.length := fun j hj => by
  unfold DK.ids at hj
  simp only [List.mem_cons] at hj
  rcases hj with rfl | rfl | rfl | hj
  · exact (List.getElem?_eq_some_iff.1 h.o).1
  · exact (List.getElem?_eq_some_iff.1 h.a).1
  · exact (List.getElem?_eq_some_iff.1 h.b).1
  · have hw := h.w
    rcases hk : k.w with _ | ⟨i, g⟩
    · rw [hk] at hj; cases hj
    · rw [hk] at hj hw
      simp at hj; subst hj
      exact (List.getElem?_eq_some_iff.1 hw).1

theorem DAt.keep (h : DAt G k s ml ms) (hk : ∀ j ∈ k.ids, G'[j]? = G[j]?) : DAt G' k s ml ms := by
  refine ⟨by rw [hk k.i (by simp [DK.ids])]; exact h.o, by rw [hk k.a (by simp [DK.ids])]; exact h.a, by rw [hk k.b (by simp [DK.ids])]; exact h.b, ?_, h.ab, h.last, h.seen, h.okl, h.oks⟩
  have hw := h.w
  rcases hw' : k.w with _ | ⟨i, g⟩
  · rw [hw'] at hw; exact hw
  · rw [hw'] at hw
    simp only at hw ⊢
    rw [hk i (by simp [DK.ids, hw'])]; exact hw

theorem sep_step (h2 : DAt G k2 s2 ml2 ms2) (dis : ∀ j ∈ k.ids, j ∉ k2.ids) (f : Fr G k G' k') : DAt G' k2 s2 ml2 ms2 ∧ (∀ j ∈ k'.ids, j ∉ k2.ids) :=
  ⟨h2.keep fun j hj => f.keep j (h2.ids_lt j hj) fun hm => dis j hm hj, fun j hj hm => by
    rcases f.ids j hj with h1 | h1
    · exact dis j h1 hm
    · have := h2.ids_lt j hm; omega⟩
end

theorem SA.sizes {s : DS} {f : Fs} {n : Nat} (h : SA s f n) : (s.seen.map (·.1)).Nodup ∧ (∀ x ∈ s.seen, x.1.size ≤ 9223372036854775807) ∧ s.seen.length ≤ 1099511627776 ∧ (∀ n v, getF s.seen n = some v → v.size ≤ 9223372036854775807) := by
  rw [h.seen]
  refine ⟨h.good.nd, fun x hx => ?_, by have := h.good.le; omega, fun n v hv => ?_⟩
  · have := h.good.nm x.1 (List.mem_map.2 ⟨x, hx, rfl⟩)
    simp [badName] at this
    omega
  · have := size_le_used hv
    have := h.used
    omega

/-! ### Arguments -/
theorem wf_u8 {n : Int} (h : (Lit.int .u8 n).wf = true) : 0 ≤ n ∧ n ≤ 255 := by
  simpa [Lit.wf, IntKind.min, IntKind.max, IntKind.signed, IntKind.bits] using h
theorem wf_i64 {n : Int} (h : (Lit.int .i64 n).wf = true) : -9223372036854775808 ≤ n ∧ n ≤ 9223372036854775807 := by
  simpa [Lit.wf, IntKind.min, IntKind.max, IntKind.signed, IntKind.bits] using h

theorem bytes_of_rows : ∀ (rows : List (List Dat)), (∀ r ∈ rows, ∃ n : Int, r = [.v (.int .u8 n)] ∧ 0 ≤ n ∧ n ≤ 255) → ∃ B : ByteArray, rows = byteRows B
  | [], _ => ⟨⟨#[]⟩, rfl⟩
  | r :: rows, h => by
    obtain ⟨n, rfl, h1, h2⟩ := h r (by simp)
    obtain ⟨B, rfl⟩ := bytes_of_rows rows fun r hr => h r (by simp [hr])
    refine ⟨⟨(UInt8.ofNat n.toNat :: B.data.toList).toArray⟩, ?_⟩
    have : (n.toNat % 256 : Nat) = n.toNat := Nat.mod_eq_of_lt (by omega)
    simp [byteRows, UInt8.toNat_ofNat, this]
    omega

theorem dty_act {n : Nat} {r : List Dat} (h : DTy tbl n 32 r) : ∃ x : Act, r = x.enc := by
  cases n with
  | zero => exact h.elim
  | succ n =>
    simp only [DTy, tbl] at h
    obtain ⟨hl, hf⟩ := h
    cases n with
    | zero =>
      obtain ⟨fe, h1, h2⟩ := hf (3, 0) (by simp)
      exact h2.elim
    | succ n =>
      have f0 := hf (3, 0) (by simp)
      have f1 := hf (9, 1) (by simp)
      have f2 := hf (9, 2) (by simp)
      have f3 := hf (30, 3) (by simp)
      have f4 := hf (3, 4) (by simp)
      have f5 := hf (3, 5) (by simp)
      rcases r with _ | ⟨a, _ | ⟨b, _ | ⟨c, _ | ⟨d, _ | ⟨e, _ | ⟨f, _ | ⟨g, r⟩⟩⟩⟩⟩⟩⟩ <;> simp at hl
      simp [DTy] at f0 f1 f2 f3 f4 f5
      obtain ⟨x0, rfl, w0⟩ := f0
      obtain ⟨x1, rfl, w1⟩ := f1
      obtain ⟨x2, rfl, w2⟩ := f2
      obtain ⟨x3, rfl, w3⟩ := f3
      obtain ⟨x4, rfl, w4⟩ := f4
      obtain ⟨x5, rfl, w5⟩ := f5
      obtain ⟨B, rfl⟩ := bytes_of_rows x3 fun r hr => by
        have := w3 r hr
        cases n with
        | zero => exact this.elim
        | succ n =>
          simp only [DTy] at this
          obtain ⟨x, rfl, hw⟩ := this
          exact ⟨x, rfl, wf_u8 hw⟩
      exact ⟨⟨x0, x1, x2, B, x4, x5⟩, rfl⟩

theorem dty_acts {n : Nat} {ds : List Dat} (h : DTy tbl n 22 ds) : ∃ l : List Act, ds = [.l (actRows l)] := by
  cases n with
  | zero => exact h.elim
  | succ n =>
    simp only [DTy, tbl] at h
    obtain ⟨rows, rfl, hr⟩ := h
    have key : ∀ rows : List (List Dat), (∀ r ∈ rows, DTy tbl n 32 r) → ∃ l : List Act, rows = actRows l := fun rows => by
      induction rows with
      | nil => intro _; exact ⟨[], rfl⟩
      | cons r rows ih =>
        intro h
        obtain ⟨x, rfl⟩ := dty_act (h r (by simp))
        obtain ⟨l, rfl⟩ := ih fun r hr => h r (by simp [hr])
        exact ⟨x :: l, rfl⟩
    obtain ⟨l, rfl⟩ := key rows hr
    exact ⟨l, rfl⟩

theorem dty_u8 {n : Nat} {ds : List Dat} (h : DTy tbl n 5 ds) : ∃ x : Int, ds = [.v (.int .u8 x)] ∧ 0 ≤ x ∧ x ≤ 255 := by
  cases n with
  | zero => exact h.elim
  | succ n =>
    simp only [DTy, tbl] at h
    obtain ⟨x, rfl, hw⟩ := h
    exact ⟨x, rfl, wf_u8 hw⟩

theorem dty_i64 {n : Nat} {ds : List Dat} (h : DTy tbl n 3 ds) : ∃ x : Int, ds = [.v (.int .i64 x)] ∧ -9223372036854775808 ≤ x ∧ x ≤ 9223372036854775807 := by
  cases n with
  | zero => exact h.elim
  | succ n =>
    simp only [DTy, tbl] at h
    obtain ⟨x, rfl, hw⟩ := h
    exact ⟨x, rfl, wf_i64 hw⟩

theorem far_small {l : List Act} (h : farL l = false) : ∀ x ∈ l, x.b.size ≤ 200 := by
  simp [farL] at h
  intro x hx
  have := h.2 x hx
  simp [Act.far] at this
  omega

theorem far_false {l : List Act} (h : farL l = false) : l.length ≤ 60 ∧ ∀ x ∈ l, 0 ≤ x.kind ∧ x.kind ≤ 8 := by
  simp [farL] at h
  refine ⟨h.1, fun x hx => ?_⟩
  have := h.2 x hx
  simp [Act.far] at this
  omega
end Go.Proofs.Dev

/- Two disks. -/
set_option linter.unusedVariables false
set_option linter.unusedSimpArgs false
namespace Go.Proofs.Dev
open Go.Am
set_option maxRecDepth 100000
attribute [local simp] tbl

/-- Both disks, as they stand. -/
structure Two (G : List AObj) (a b : DK) (s t : DS) (f : Fs) (n : Nat) : Prop where
  da : ∃ ml ms, DAt G a s ml ms
  db : ∃ ml ms, DAt G b t ml ms
  dis : ∀ j ∈ a.ids, j ∉ b.ids
  sa : SA s f n
  sb : SA t f (2 * n)
  waits : t.waits.length ≤ s.waits.length
  deeds : s.deeds ≤ t.deeds

def TwoI (l : List Act) (a b : DK) (i : Nat) (G : List AObj) : Prop := i ≤ l.length ∧ ∃ a' b' s t f, a'.i = a.i ∧ b'.i = b.i ∧ Two G a' b' s t f i

theorem two_law (l : List Act) (every : Int) (he : 0 ≤ every ∧ every ≤ 255) : ACall Try.prog 4 [.d (.l (actRows l)), u8 every] [] (fun r _ => r = boo true) := by
  refine ACall.go tblOk pmixed [] Try.func4 (c := _) rfl rfl (by kernel_rfl) ?_
  simp
  refine call_to alive_ok rfl rfl rfl fun r G1 ⟨h1, _⟩ => ?_
  subst h1
  simp
  refine call_v (far_ok l) rfl rfl rfl ?_
  simp
  refine x_cond rfl (fun h => ?_) (fun h => ?_)
  · simp
  obtain ⟨hlen, hkind⟩ := far_false h
  simp
  refine call_to (new_ok' 1048576 (by omega)) rfl rfl rfl fun r G2 ⟨a, h1, da, x1, l1, y1, z1⟩ => ?_
  subst h1
  simp
  refine call_to (new_ok' 1048576 (by omega)) rfl rfl rfl fun r G3 ⟨b, h1, db, x2, l2, y2, z2⟩ => ?_
  subst h1
  simp
  have T0 : Two G3 a b (newS 1048576) (newS 1048576) [] 0 :=
    ⟨⟨_, _, da.keep fun j hj => x2 j (z1 j hj)⟩, ⟨_, _, db⟩, fun j hj hm => by have := z1 j hj; have := y2 j hm; omega, SA.new, SA.new, by simp [newS], by simp [newS]⟩
  refine x_loop tblOk pmixed (fun x : Nat × List AObj => { s := [.d (.l (actRows l)), u8 every, .any, .any, boo false, .p (.g a.i) (.ref 0), .any, .p (.g b.i) (.ref 0), .any, int x.1] ++ List.replicate 88 .any, L := [], G := x.2 })
    (fun x => TwoI l a b x.1 x.2) (fun x => l.length - x.1) [] (by kernel_rfl) (0, G3) ⟨Nat.zero_le _, a, b, _, _, _, rfl, rfl, T0⟩ (Weak.slots (by simp) (by simp) (by simp)) (fun x hx => ?_)
  obtain ⟨i, G⟩ := x
  obtain ⟨hi, a', b', s, t, f, ea, eb, T⟩ := hx
  simp only at hi T ⊢
  simp [len_actRows]
  refine x_condD rfl (fun ht => ?_) (fun ht => ?_)
  · replace ht : i < l.length := by omega
    have hx : l[i]? = some l[i] := List.getElem?_eq_getElem ht
    have hkx := hkind l[i] (List.getElem_mem ht)
    generalize l[i] = x at *
    simp [at_actRows hx, Act.enc]
    refine x_condD rfl (fun h4 => ?_) (fun h4 => ?_)
    · simp
      refine ⟨i + 1, G, ⟨by omega, a', b', s, t, f, ea, eb, T.da, T.db, T.dis, T.sa.mono (by omega), T.sb.mono (by omega), T.waits, T.deeds⟩, by omega, Weak.slots ?_ (by simp) (by simp)⟩
      simp
      exact w64 (by omega) (by omega)
    · obtain ⟨mla, msa, da⟩ := T.da
      obtain ⟨s', as', sa', wa, dea, _⟩ := T.sa.act x (by omega)
      obtain ⟨t', at', sb', wb, deb, _⟩ := T.sb.act x (by omega)
      have ma := act_ok da (T.sa.ok (by omega)) ⟨by rw [T.sa.seen, T.sa.room]; exact T.sa.used, by rw [T.sa.room]; omega⟩ x (by omega)
      rw [as'] at ma
      simp [at_actRows hx, Act.enc]
      rw [← ea]
      refine call_to ma rfl rfl rfl fun r G' ⟨ka, mla', msa', h1, da', fa⟩ => ?_
      subst h1
      obtain ⟨mlb, msb, db⟩ := T.db
      have sp := sep_step db T.dis fa
      have mb := act_ok sp.1 (T.sb.ok (by omega)) ⟨by rw [T.sb.seen, T.sb.room]; exact T.sb.used, by rw [T.sb.room]; omega⟩ x (by omega)
      rw [at'] at mb
      simp [at_actRows hx, Act.enc]
      rw [← eb]
      refine call_to mb rfl rfl rfl fun r G'' ⟨kb, mlb', msb', h1, db', fb⟩ => ?_
      subst h1
      have sp2 := sep_step da' (fun j hj hm => sp.2 j hm hj) fb
      simp
      have T2 : Two G'' ka kb s' t' (if errF 1048576 f x = 0 then doF f (deedOf x) else f) (i + 1) :=
        ⟨⟨_, _, sp2.1⟩, ⟨_, _, db'⟩, fun j hj hm => sp2.2 j hm hj, sa', sb'.mono (by omega), by rw [wa, wb]; have := T.waits; split <;> simp <;> omega, by rw [dea, deb]; have := T.deeds; omega⟩
      have hv : IntKind.i64.wrap every = every := w64 (by omega) (by omega)
      have hm0 : 0 ≤ every.tmod 5 := Int.tmod_nonneg 5 he.1
      have hm5 : every.tmod 5 < 5 := Int.tmod_lt_of_pos every (by omega)
      have hd : IntKind.i64.wrap (1 + every.tmod 5) = 1 + every.tmod 5 := w64 (by omega) (by omega)
      have hn : ¬ (1 + every.tmod 5 = 0) := by omega
      simp [hv, hd, hn]
      refine x_cond rfl (fun hc => ?_) (fun hc => ?_)
      · simp
        obtain ⟨es, ss⟩ := sb'.sync
        have ms := sync_ok db' (T2.sb.ok (by omega))
        rw [es] at ms
        rw [← fb.i]
        refine call_to ms rfl rfl rfl fun r G3' ⟨kc, mlc, h1, dc, fc⟩ => ?_
        subst h1
        have hw0 : IntKind.i64.wrap 0 = 0 := by decide
        simp [hw0]
        have sp3 := sep_step sp2.1 sp2.2 fc
        have mc := crash_ok dc ss.can (show ([] : List Deed).length ≤ _ by simp) 0 0
        rw [← fc.i]
        refine call_to mc rfl rfl rfl fun r G4 ⟨kd, mld, h1, dd, fd⟩ => ?_
        subst h1
        simp
        have sp4 := sep_step sp3.1 sp3.2 fd
        obtain ⟨sc, wc, dec⟩ := ss.crash 0 0 rfl
        refine ⟨i + 1, G4, ⟨by omega, ka, kd, s', _, _, by rw [fa.i, ea], by rw [fd.i, fc.i, fb.i, eb], ⟨_, _, sp4.1⟩, ⟨_, _, dd⟩, fun j hj hm => sp4.2 j hm hj, T2.sa, sc.mono (by omega), by rw [wc]; simp, by rw [dec]; have := T2.deeds; show s'.deeds ≤ t'.deeds + 1; omega⟩, by omega, Weak.slots ?_ (by simp) (by simp)⟩
        simp
        exact w64 (by omega) (by omega)
      · simp
        refine ⟨i + 1, G'', ⟨by omega, ka, kb, s', t', _, by rw [fa.i, ea], by rw [fb.i, eb], T2⟩, by omega, Weak.slots ?_ (by simp) (by simp)⟩
        simp
        exact w64 (by omega) (by omega)
  · simp
    obtain ⟨mla, msa, da⟩ := T.da
    obtain ⟨mlb, msb, db⟩ := T.db
    obtain ⟨z1, z2, z3, z4⟩ := T.sa.sizes
    obtain ⟨y1, y2, y3, y4⟩ := T.sb.sizes
    rw [← ea, ← eb]
    refine call_to (read_law_ok da z1 z2 z3 z4) rfl rfl rfl fun r G' ⟨la, hsa, h1, da', fa⟩ => ?_
    subst h1
    have sp := sep_step db T.dis fa
    simp
    refine call_to (read_law_ok sp.1 y1 y2 y3 y4) rfl rfl rfl fun r G'' ⟨lb, hsb, h1, db', fb⟩ => ?_
    subst h1
    have sp2 := sep_step da' (fun j hj hm => sp.2 j hm hj) fb
    have hl : la = lb := sorted_unique hsa hsb (by rw [T.sa.seen, T.sb.seen])
    have hr : readL s la = readL t lb := by
      rw [readL_eq T.sa.down (by rw [T.sa.seen]; exact T.sa.good) hsa, readL_eq T.sb.down (by rw [T.sb.seen]; exact T.sb.good) hsb, T.sa.seen, T.sb.seen, hl]
    simp
    refine call_v (same_ok _ _) rfl rfl rfl ?_
    simp [hr]
    have hua : usedF s.seen ≤ 9223372036854775807 := by rw [T.sa.seen]; have := T.sa.used; omega
    have hub : usedF t.seen ≤ 9223372036854775807 := by rw [T.sb.seen]; have := T.sb.used; omega
    refine call_v (used_ok sp2.1 hua) rfl rfl rfl ?_
    simp [hr]
    refine call_v (used_ok db' hub) rfl rfl rfl ?_
    simp [hr, T.sa.seen, T.sb.seen]
    refine call_v (waits_ok db') rfl rfl rfl ?_
    simp [hr, T.sa.seen, T.sb.seen]
    refine call_v (waits_ok sp2.1) rfl rfl rfl ?_
    have hwl := T.waits
    simp [hr, T.sa.seen, T.sb.seen, hwl]
    refine call_v (deeds_ok db') rfl rfl rfl ?_
    simp [hr, T.sa.seen, T.sb.seen, hwl]
    refine call_v (deeds_ok sp2.1) rfl rfl rfl ?_
    simp [T.deeds]
end Go.Proofs.Dev

/- A disk with an arm. -/
set_option linter.unusedVariables false
set_option linter.unusedSimpArgs false
namespace Go.Proofs.Dev
open Go.Am
set_option maxRecDepth 100000
attribute [local simp] tbl

structure SB (s : DS) (rm A : Int) (n : Nat) : Prop where
  room : s.room = rm
  fold : foldF s.last s.waits = s.seen
  can : canAll s.last s.waits
  armed : 1 ≤ s.armed ∧ s.armed + s.deeds = A
  deeds : 0 ≤ s.deeds
  waits : s.waits.length ≤ n
  good : Good s.seen
  used : usedF s.seen ≤ rm

theorem SB.mono {s : DS} {room A : Int} {n m : Nat} (h : SB s room A n) (hn : n ≤ m) : SB s room A m :=
  ⟨h.room, h.fold, h.can, h.armed, h.deeds, by have := h.waits; omega, h.good, h.used⟩

theorem SB.ok {s : DS} {room A : Int} {n : Nat} (h : SB s room A n) (hn : n ≤ 1000) (hA : A ≤ 1000) : s.ok :=
  ⟨by have := h.armed; have := h.deeds; omega, by have := h.armed; have := h.deeds; omega, by have := h.waits; omega⟩

theorem SB.act {s : DS} {room A : Int} {n : Nat} (h : SB s room A n) (hr : room ≤ 1073741824) (x : Act) (hk : 0 ≤ x.kind ∧ x.kind ≤ 5) :
    SB (actS s x).2 room A (n + 1) ∧ ((actS s x).1 ≠ 0 → usedF (actS s x).2.seen = usedF s.seen ∧ (actS s x).2.deeds = s.deeds) ∧ (s.down = true → (actS s x).1 = 3) := by
  have ha := h.armed
  have hd0 := h.deeds
  cases hd : s.down with
  | true =>
    rw [act_down hd hk]
    exact ⟨h.mono (by omega), fun _ => ⟨rfl, rfl⟩, fun _ => rfl⟩
  | false =>
    by_cases h5 : x.kind = 5
    · have he : actS s x = syncS s := by simp [actS, h5]
      rw [he]
      unfold syncS withMay mayE
      simp only [hd]
      by_cases h1 : s.armed = 1
      · simp [h1]
        exact ⟨h.room, h.fold, h.can, by simpa [h1] using h.armed, h.deeds, by have := h.waits; simp; omega, h.good, h.used⟩
      · simp [h1]
        have hm : max (s.armed - 1) 0 = s.armed - 1 := by omega
        rw [hm]
        refine ⟨h.room, rfl, trivial, ?_, ?_, by simp, h.good, h.used⟩
        · show 1 ≤ s.armed - 1 ∧ s.armed - 1 + (s.deeds + 1) = A; omega
        · show 0 ≤ s.deeds + 1; omega
    · have he := act_eq (x := x) hd (by omega)
      rw [he]
      by_cases h0 : errF s.room s.seen x = 0
      · rw [if_neg (by simp [h0])]
        unfold doingS
        by_cases h1 : s.armed = 1
        · rw [if_pos h1]
          refine ⟨⟨h.room, h.fold, h.can, h.armed, h.deeds, by have := h.waits; simp; omega, h.good, h.used⟩, fun _ => ⟨rfl, rfl⟩, fun hx => ?_⟩
          rfl
        · rw [if_neg h1]
          have hf := fit_of h0 h.good (by rw [h.room]; exact h.used) (by rw [h.room]; exact hr) (by omega)
          rw [h.room] at hf
          have hm : max (s.armed - 1) 0 = s.armed - 1 := by omega
          rw [hm]
          refine ⟨⟨h.room, ?_, ?_, ?_, ?_, ?_, hf.good, hf.used⟩, fun hx => absurd rfl hx, fun hx => ?_⟩
          · show foldF s.last (s.waits ++ [deedOf x]) = _
            rw [foldF_snoc, h.fold]
          · exact canAll_snoc h.can (by rw [h.fold]; exact hf.can)
          · show 1 ≤ s.armed - 1 ∧ s.armed - 1 + (s.deeds + 1) = A; omega
          · show 0 ≤ s.deeds + 1; omega
          · have := h.waits; simp; omega
          · cases hx
      · rw [if_pos h0]
        refine ⟨h.mono (by omega), fun _ => ⟨rfl, rfl⟩, fun hx => ?_⟩
        cases hx

theorem SB.new {room A : Int} (h : 1 ≤ A) (hr : 0 ≤ room) : SB { newS room with armed := A } room A 0 :=
  ⟨rfl, rfl, trivial, ⟨h, by simp [newS]⟩, by simp [newS], by simp [newS], good_nil, by simp [newS, usedF]; exact hr⟩

def ArmI (l : List Act) (room A : Int) (k0 : DK) (i : Nat) (G : List AObj) : Prop := i ≤ l.length ∧ ∃ k ml ms s, k.i = k0.i ∧ DAt G k s ml ms ∧ SB s room A i

set_option maxHeartbeats 2000000 in
theorem arms_law (l : List Act) (room n : Int) (hr : 0 ≤ room ∧ room ≤ 255) (hn : 0 ≤ n ∧ n ≤ 255) : ACall Try.prog 5 [u8 room, .d (.l (actRows l)), u8 n] [] (fun r _ => r = boo true) := by
  have wr : IntKind.i64.wrap room = room := w64 (by omega) (by omega)
  have wn : IntKind.i64.wrap n = n := w64 (by omega) (by omega)
  have hm0 : 0 ≤ n.tmod 20 := Int.tmod_nonneg 20 hn.1
  have hm5 : n.tmod 20 < 20 := Int.tmod_lt_of_pos n (by omega)
  have wA : IntKind.i64.wrap (1 + n.tmod 20) = 1 + n.tmod 20 := w64 (by omega) (by omega)
  have hw0 : IntKind.i64.wrap 0 = 0 := by decide
  have hw2 : IntKind.i64.wrap 2 = 2 := by decide
  refine ACall.go tblOk pmixed [] Try.func5 (c := _) rfl rfl (by kernel_rfl) ?_
  simp
  refine call_to alive_ok rfl rfl rfl fun r G1 ⟨h1, _⟩ => ?_
  subst h1
  simp
  refine call_v (far_ok l) rfl rfl rfl ?_
  simp
  refine x_cond rfl (fun h => ?_) (fun h => ?_)
  · simp
  obtain ⟨hlen, hkind⟩ := far_false h
  simp [wr]
  refine call_to (new_ok' room (by omega)) rfl rfl rfl fun r G2 ⟨k0, h1, d0, x1, l1, y1, z1⟩ => ?_
  subst h1
  simp [wn, wA]
  refine call_to (arm_ok d0 (1 + n.tmod 20) (by omega)) rfl rfl rfl fun r G3 ⟨h1, d1, f1⟩ => ?_
  subst h1
  simp
  have S0 : SB { newS room with armed := 1 + n.tmod 20 } room (1 + n.tmod 20) 0 := SB.new (by omega) hr.1
  refine x_loop tblOk pmixed (fun x : Nat × List AObj => { s := [u8 room, .d (.l (actRows l)), u8 n, .any, .any, .any, boo false, .p (.g k0.i) (.ref 0), .any, int x.1] ++ List.replicate 162 .any, L := [], G := x.2 })
    (fun x => ArmI l room (1 + n.tmod 20) k0 x.1 x.2) (fun x => l.length - x.1) [] (by kernel_rfl) (0, G3) ⟨Nat.zero_le _, k0, _, _, _, rfl, d1, S0⟩ (Weak.slots (by simp) (by simp) (by simp)) (fun x hx => ?_)
  obtain ⟨i, G⟩ := x
  obtain ⟨hi, k, ml, ms, s, ek, d, S⟩ := hx
  simp only at hi ⊢
  simp [len_actRows]
  refine x_condD rfl (fun ht => ?_) (fun ht => ?_)
  · replace ht : i < l.length := by omega
    have hx : l[i]? = some l[i] := List.getElem?_eq_getElem ht
    have hkx := hkind l[i] (List.getElem_mem ht)
    generalize l[i] = x at *
    simp [at_actRows hx, Act.enc]
    refine x_condD rfl (fun h4 => ?_) (fun h4 => ?_)
    · simp
      refine ⟨i + 1, G, ⟨by omega, k, ml, ms, s, ek, d, S.mono (by omega)⟩, by omega, Weak.slots ?_ (by simp) (by simp)⟩
      simp
      exact w64 (by omega) (by omega)
    · have hu0 : usedF s.seen ≤ 9223372036854775807 := by have := S.used; omega
      obtain ⟨S', hne, hdn⟩ := S.act (by omega) x (by omega)
      have ma := act_ok d (S.ok (by omega) (by omega)) ⟨by rw [S.room]; exact S.used, by rw [S.room]; omega⟩ x (by omega)
      generalize actS s x = o at *
      obtain ⟨e, s'⟩ := o
      simp only at S' hne hdn ma
      have hu1 : usedF s'.seen ≤ 9223372036854775807 := by have := S'.used; omega
      have hroom := S'.used
      have hdeeds : s'.deeds ≤ n.tmod 20 := by have := S'.armed; omega
      simp
      rw [← ek]
      refine call_v (used_ok d hu0) rfl rfl rfl ?_
      simp
      refine call_v (deeds_ok d) rfl rfl rfl ?_
      simp
      refine call_v (up_ok d) rfl rfl rfl ?_
      simp [at_actRows hx, Act.enc]
      refine call_to ma rfl rfl rfl fun r G' ⟨k', ml', ms', h1, d', f'⟩ => ?_
      subst h1
      rw [← f'.i]
      have fin : ArmI l room (1 + n.tmod 20) k0 (i + 1) G' := ⟨by omega, k', ml', ms', s', by rw [f'.i, ek], d', S'⟩
      have r1 : ¬ room < usedF s'.seen := by omega
      have r2 : ¬ n.tmod 20 < s'.deeds := by omega
      have nx : IntKind.i64.wrap (i + 1) = ((i + 1 : Nat) : Int) := w64 (by omega) (by omega)
      by_cases he : e = 0
      · subst he
        have hdn' : s.down = false := by
          cases hd : s.down with
          | false => rfl
          | true => have := hdn hd; cases this
        simp [hdn']
        refine call_v (used_ok d' hu1) rfl rfl rfl ?_
        simp [hdn', wr, r1]
        refine call_v (deeds_ok d') rfl rfl rfl ?_
        simp [hdn', wr, r1, wn, r2]
        refine ⟨i + 1, G', fin, by omega, Weak.slots ?_ (by simp) (by simp)⟩
        simp [nx]
        try rw [f'.i, ek]
      · obtain ⟨q1, q2⟩ := hne he
        simp [he]
        refine call_v (used_ok d' hu1) rfl rfl rfl ?_
        simp [he, q1]
        refine call_v (deeds_ok d') rfl rfl rfl ?_
        by_cases hd : s.down = true
        · have he3 := hdn hd
          subst he3
          simp [q1, q2, hd]
          refine call_v (used_ok d' hu1) rfl rfl rfl ?_
          simp [wr, r1]
          refine call_v (deeds_ok d') rfl rfl rfl ?_
          simp [wr, r1, wn, r2]
          refine ⟨i + 1, G', fin, by omega, Weak.slots ?_ (by simp) (by simp)⟩
          simp [nx]
          try rw [f'.i, ek]
        · have hd : s.down = false := by simpa using hd
          simp [he, q1, q2, hd]
          refine call_v (used_ok d' hu1) rfl rfl rfl ?_
          simp [wr, r1]
          refine call_v (deeds_ok d') rfl rfl rfl ?_
          simp [wr, r1, wn, r2]
          refine ⟨i + 1, G', fin, by omega, Weak.slots ?_ (by simp) (by simp)⟩
          simp [nx]
          try rw [f'.i, ek]
  · simp
    rw [← ek]
    refine call_to (crash_ok d S.can (by have := S.waits; omega) 0 0) rfl rfl rfl fun r G' ⟨k', M, h1, d', f'⟩ => ?_
    subst h1
    rw [← f'.i]
    simp
    refine call_v (arm_nil 1) rfl rfl rfl ?_
    simp
    refine call_v (crash_nil 1 1) rfl rfl rfl ?_
    simp
    refine call_v (read_nil sA) rfl rfl rfl ?_
    simp
    refine call_v (up_ok d') rfl rfl rfl ?_
    have hup : (crashS s 0 0).down = false := rfl
    simp [hup, hw2]
    refine call_v (make_nil sA) rfl rfl rfl ?_
    simp [hw2]
    refine call_v (append_nil sA) rfl rfl rfl ?_
    simp [hw2]
    refine call_v (cut_nil sA) rfl rfl rfl ?_
    simp [hw2]
    refine call_v (rename_nil sA ⟨#[98]⟩) rfl rfl rfl ?_
    simp [hw2]
    refine call_v (remove_nil sA) rfl rfl rfl ?_
    simp [hw2]
    refine call_v sync_nil rfl rfl rfl ?_
    simp [hw2]
    refine call_v up_nil rfl rfl rfl ?_
    simp [hw2]
    refine call_v used_nil rfl rfl rfl ?_
    simp [hw2]
    refine call_v waits_nil rfl rfl rfl ?_
    simp [hw2, hw0]
    refine call_v deeds_nil rfl rfl rfl ?_
    simp [hw2, hw0]
    refine call_v names_nil rfl rfl rfl ?_
    simp [hw2, hw0]
end Go.Proofs.Dev

/- A crash keeps deeds in order. -/
set_option linter.unusedVariables false
set_option linter.unusedSimpArgs false
namespace Go.Proofs.Dev
open Go.Am
set_option maxRecDepth 100000
attribute [local simp] tbl

def allRows (al : List (List ByteArray)) : List (List Dat) := al.map fun x => [.l (strRows x)]
theorem len_allRows (al : List (List ByteArray)) : (allRows al).length = al.length := by simp [allRows]
theorem at_allRows {al : List (List ByteArray)} {i : Nat} {x : List ByteArray} (h : al[i]? = some x) : (allRows al)[i]? = some [.l (strRows x)] := by simp [allRows, h]
theorem allRows_snoc (al : List (List ByteArray)) (x : List ByteArray) : allRows al ++ [[.l (strRows x)]] = allRows (al ++ [x]) := by simp [allRows]
theorem actRows_snoc (l : List Act) (x : Act) : actRows l ++ [x.enc] = actRows (l ++ [x]) := by simp [actRows]

def FA (nx : List Act) (j : Nat) : Fs := foldF [] ((nx.map deedOf).take j)

structure OI (l : List Act) (k0 : DK) (i : Nat) (G : List AObj) (nx : List Act) (al : List (List ByteArray)) : Prop where
  il : i ≤ l.length
  d : ∃ k ml ms s, k.i = k0.i ∧ DAt G k s ml ms ∧ SA s (FA nx nx.length) i ∧ s.last = [] ∧ s.waits = nx.map deedOf ∧ s.deeds = nx.length
  n : nx.length ≤ i
  len : al.length = nx.length + 1
  snap : ∀ j, j ≤ nx.length → ∃ lj, IsSorted lj (keys (FA nx j)) ∧ al[j]? = some (readOf (FA nx j) lj)
  good : ∀ j, j ≤ nx.length → Good (FA nx j) ∧ usedF (FA nx j) ≤ 1048576
  old : ∀ j x, nx[j]? = some x → x.kind = 1 → (getF (FA nx j) x.name).isSome = true
  sub : ∀ x ∈ nx, x ∈ l
  kd : ∀ x ∈ nx, 0 ≤ x.kind ∧ x.kind ≤ 4

theorem FA_snoc {nx : List Act} {x : Act} {j : Nat} (h : j ≤ nx.length) : FA (nx ++ [x]) j = FA nx j := by
  simp [FA, List.take_append_of_le_length, h]
theorem FA_last (nx : List Act) (x : Act) : FA (nx ++ [x]) (nx ++ [x]).length = doF (FA nx nx.length) (deedOf x) := by
  have h1 : ((nx ++ [x]).map deedOf).take (nx ++ [x]).length = nx.map deedOf ++ [deedOf x] := by
    rw [List.take_of_length_le (by simp)]; simp
  have h2 : (nx.map deedOf).take nx.length = nx.map deedOf := List.take_of_length_le (by simp)
  unfold FA
  rw [h1, h2, foldF_snoc]

theorem OI.start (l : List Act) {k0 : DK} {G : List AObj} {ml ms : FM} (d : DAt G k0 (newS 1048576) ml ms) : OI l k0 0 G [] [[]] :=
  ⟨Nat.zero_le _, ⟨k0, ml, ms, newS 1048576, rfl, d, SA.new, rfl, rfl, rfl⟩, by simp, rfl, fun j hj => by
    have : j = 0 := by simpa using hj
    subst this
    exact ⟨[], ⟨[], by simp [FA, foldF, keys], by simp⟩, by simp [readOf]⟩, fun j hj => ⟨by simpa [FA, foldF] using good_nil, by simp [FA, foldF, usedF]⟩, fun j x hx => by simp at hx, by simp, by simp⟩

theorem OI.skip {l : List Act} {k0 : DK} {i : Nat} {G : List AObj} {nx : List Act} {al : List (List ByteArray)} (h : OI l k0 i G nx al) (hi : i < l.length) : OI l k0 (i + 1) G nx al := by
  obtain ⟨k, ml, ms, s, e, d, S, h1, h2, h3⟩ := h.d
  exact ⟨by omega, ⟨k, ml, ms, s, e, d, S.mono (by omega), h1, h2, h3⟩, by have := h.n; omega, h.len, h.snap, h.good, h.old, h.sub, h.kd⟩

theorem OI.step {l : List Act} {k0 : DK} {i : Nat} {G G' : List AObj} {nx : List Act} {al : List (List ByteArray)} {x : Act} {lx : List ByteArray} (h : OI l k0 i G nx al) (hx : l[i]? = some x)
    (hd : ∃ k ml ms s, k.i = k0.i ∧ DAt G' k s ml ms ∧ SA s (doF (FA nx nx.length) (deedOf x)) (i + 1) ∧ s.last = [] ∧ s.waits = nx.map deedOf ++ [deedOf x] ∧ s.deeds = nx.length + 1)
    (he : errF 1048576 (FA nx nx.length) x = 0) (hk : 0 ≤ x.kind ∧ x.kind ≤ 4) (hs : IsSorted lx (keys (doF (FA nx nx.length) (deedOf x)))) : OI l k0 (i + 1) G' (nx ++ [x]) (al ++ [readOf (doF (FA nx nx.length) (deedOf x)) lx]) := by
  have hg := h.good nx.length (Nat.le_refl _)
  have hf := fit_of he hg.1 hg.2 (by omega) hk
  have hi := (List.getElem?_eq_some_iff.1 hx).1
  obtain ⟨k, ml, ms, s, e, d, S, h1, h2, h3⟩ := hd
  have hcase : ∀ j, j ≤ (nx ++ [x]).length → (j ≤ nx.length ∧ FA (nx ++ [x]) j = FA nx j) ∨ (j = nx.length + 1 ∧ FA (nx ++ [x]) j = doF (FA nx nx.length) (deedOf x)) := fun j hj => by
    simp at hj
    by_cases hjl : j ≤ nx.length
    · exact .inl ⟨hjl, FA_snoc hjl⟩
    · have : j = nx.length + 1 := by omega
      exact .inr ⟨this, by rw [this]; have := FA_last nx x; simpa using this⟩
  refine ⟨by omega, ⟨k, ml, ms, s, e, d, by rw [FA_last]; exact S, h1, by rw [h2]; simp, by rw [h3]; simp⟩, by have := h.n; simp; omega, by simp [h.len], fun j hj => ?_, fun j hj => ?_, fun j y hy hky => ?_, fun y hy => ?_, fun y hy => ?_⟩
  · rcases hcase j hj with ⟨h4, h5⟩ | ⟨h4, h5⟩
    · obtain ⟨lj, h6, h7⟩ := h.snap j h4
      refine ⟨lj, by rw [h5]; exact h6, ?_⟩
      rw [List.getElem?_append_left (by have := h.len; omega), h5]; exact h7
    · refine ⟨lx, by rw [h5]; exact hs, ?_⟩
      rw [h5, h4, List.getElem?_append_right (by have := h.len; omega), h.len]; simp
  · rcases hcase j hj with ⟨h4, h5⟩ | ⟨h4, h5⟩
    · rw [h5]; exact h.good j h4
    · rw [h5]; exact ⟨hf.good, hf.used⟩
  · by_cases hjl : j < nx.length
    · rw [List.getElem?_append_left hjl] at hy
      rw [FA_snoc (by omega)]; exact h.old j y hy hky
    · have hj := (List.getElem?_eq_some_iff.1 hy).1
      simp at hj
      have hjn : j = nx.length := by omega
      subst hjn
      simp at hy; subst hy
      rw [FA_snoc (Nat.le_refl _)]
      have h8 : (deedOf x).kind = 1 := by simp [deedOf, hky]
      have h9 : (deedOf x).name = x.name := by simp [deedOf, hky]
      have := hf.old h8
      rwa [h9] at this
  · simp at hy
    rcases hy with hy | rfl
    · exact h.sub y hy
    · exact List.mem_of_getElem? hx
  · simp at hy
    rcases hy with hy | rfl
    · exact h.kd y hy
    · exact hk
end Go.Proofs.Dev

/- A crash keeps deeds in order: the walk. -/
set_option linter.unusedVariables false
set_option linter.unusedSimpArgs false
namespace Go.Proofs.Dev
open Go.Am
set_option maxRecDepth 100000
attribute [local simp] tbl

theorem sizes_of {f : Fs} (hg : Good f) (hu : usedF f ≤ 2147483648) : (f.map (·.1)).Nodup ∧ (∀ x ∈ f, x.1.size ≤ 9223372036854775807) ∧ f.length ≤ 1099511627776 ∧ (∀ n v, getF f n = some v → v.size ≤ 9223372036854775807) := by
  refine ⟨hg.nd, fun x hx => ?_, by have := hg.le; omega, fun n v hv => ?_⟩
  · have := hg.nm x.1 (List.mem_map.2 ⟨x, hx, rfl⟩)
    simp [badName] at this
    omega
  · have := size_le_used hv
    omega

theorem put_app_nil {f : Fs} {n : ByteArray} (h : (getF f n).isSome = true) : putF f n ((getF f n).getD e0 ++ e0) = f := by
  cases hv : getF f n with
  | none => rw [hv] at h; cases h
  | some v =>
    have : v ++ e0 = v := ByteArray.append_empty
    simp only [Option.getD_some, this]
    exact put_same hv

/-- Behind a crash, where the deed that is torn leaves nothing. -/
theorem crash_exact {nx : List Act} {K : Nat} {torn : Int} (hold : ∀ j x, nx[j]? = some x → x.kind = 1 → (getF (FA nx j) x.name).isSome = true)
    (h : nx.length ≤ K ∨ (∃ x, nx[K]? = some x ∧ (x.kind ≠ 1 ∨ torn ≤ 0))) (hk : ∀ x ∈ nx, 0 ≤ x.kind ∧ x.kind ≤ 4) : crashF [] (nx.map deedOf) K torn = FA nx K := by
  unfold crashF
  rcases h with h | ⟨x, hx, h⟩
  · rw [List.getElem?_eq_none (by simpa using h)]; rfl
  · rw [List.getElem?_map, hx]
    simp only [Option.map_some]
    have hd : (deedOf x).kind = x.kind := by
      have := hk x (List.mem_of_getElem? hx)
      unfold deedOf
      split
      · rename_i h; rw [h]
      · split
        · rename_i h; rw [h]
        · split
          · rename_i h; rw [h]
          · split
            · rename_i h; rw [h]
            · show (4 : Int) = _; omega
    rw [hd]
    by_cases h1 : x.kind = 1
    · rw [if_pos h1]
      have ht : torn ≤ 0 := by rcases h with h | h; exact absurd h1 h; exact h
      have hn : (deedOf x).name = x.name := by simp [deedOf, h1]
      have hb : (tornD (deedOf x) torn).b = e0 := by
        have : cutTo torn ((deedOf x).b.size) = 0 := by unfold cutTo; omega
        simp [tornD, this]; rfl
      have hkk : (tornD (deedOf x) torn).kind = 1 := by simp [tornD, hd, h1]
      have hnn : (tornD (deedOf x) torn).name = x.name := by simp [tornD, hn]
      unfold doF
      rw [if_neg (by rw [hkk]; decide), if_pos hkk, hb, hnn]
      exact put_app_nil (hold K x hx h1)
    · rw [if_neg h1]; rfl

/-- Behind a crash that tears what was appended. -/
theorem crash_torn {nx : List Act} {K : Nat} {torn : Int} {x : Act} (hx : nx[K]? = some x) (h1 : x.kind = 1) (ht : 0 < torn) :
    crashF [] (nx.map deedOf) K torn = putF (FA nx K) x.name (((getF (FA nx K) x.name).getD e0) ++ x.b.extract 0 (min torn x.b.size).toNat) := by
  unfold crashF
  rw [List.getElem?_map, hx]
  simp only [Option.map_some]
  have hd : deedOf x = dk 1 x.name e0 x.b 0 := by simp [deedOf, h1]
  rw [hd]
  have hc : cutTo torn x.b.size = min torn x.b.size := by unfold cutTo; omega
  show doF _ (tornD (dk 1 x.name e0 x.b 0) torn) = _
  unfold tornD doF
  simp [hc]
  rfl

theorem at_readOf {f : Fs} : ∀ {l : List ByteArray} {j : Nat} {n : ByteArray}, l[j]? = some n → (readOf f l)[2 * j]? = some n ∧ (readOf f l)[2 * j + 1]? = some ((getF f n).getD e0)
  | a :: l, 0, n, h => by simp at h; subst h; simp [readOf]
  | a :: l, j + 1, n, h => by
    have ih := at_readOf (f := f) (l := l) (j := j) (n := n) (by simpa using h)
    have e : readOf f (a :: l) = a :: (getF f a).getD e0 :: readOf f l := by simp [readOf]
    rw [e, show 2 * (j + 1) = 2 * j + 1 + 1 by omega]
    simpa using ih

theorem len_readOf (f : Fs) (l : List ByteArray) : (readOf f l).length = 2 * l.length := by
  induction l with
  | nil => rfl
  | cons a l ih => simp [readOf] at ih ⊢; omega

theorem fit_byteRows (B : ByteArray) : rowsFit 1 (byteRows B) = true := by
  unfold rowsFit byteRows
  rw [List.all_eq_true]
  intro r hr
  obtain ⟨b, _, rfl⟩ := List.mem_map.1 hr
  rfl
theorem take_byteRows (B : ByteArray) (n : Nat) : (byteRows B).take n = byteRows (B.extract 0 n) := by
  have : (B.extract 0 n).data.toList = B.data.toList.take n := by
    rw [ByteArray.data_extract]; simp
  simp [byteRows, this]

theorem strOf_take (B : ByteArray) (n : Nat) : strOfInts (List.take n (List.map (fun b => (b.toNat : Int)) B.data.toList)) = B.extract 0 n := by
  have : (B.extract 0 n).data.toList = B.data.toList.take n := by
    rw [ByteArray.data_extract]; simp
  rw [← List.map_take, ← this]
  exact strOf_bytes _

set_option maxHeartbeats 4000000 in
theorem order_law (l : List Act) (keep torn : Int) (hkp : -9223372036854775808 ≤ keep ∧ keep ≤ 9223372036854775807) : ACall Try.prog 3 [.d (.l (actRows l)), int keep, int torn] [] (fun r _ => r = boo true) := by
  refine ACall.bodyW tblOk Try.func3 (c := _) rfl rfl ?_
  refine w_seq (X_ok (pl := []) tblOk pmixed rfl ?_)
  simp
  refine w_seq (X_ok (pl := []) tblOk pmixed rfl ?_)
  simp
  refine call_to alive_ok rfl rfl rfl fun r G1 ⟨h1, _⟩ => ?_
  subst h1
  simp
  refine w_seq (X_ok (pl := []) tblOk pmixed rfl ?_)
  simp
  refine call_v (far_ok l) rfl rfl rfl ?_
  simp
  refine x_cond rfl (fun h => ?_) (fun h => ?_)
  · simp
  obtain ⟨hlen, hkind⟩ := far_false h
  have hsmall := far_small h
  simp
  refine w_seq (X_ok (pl := []) tblOk pmixed rfl ?_)
  simp
  refine call_to (new_ok' 1048576 (by omega)) rfl rfl rfl fun r G2 ⟨k0, h1, d0, x1, l1, y1, z1⟩ => ?_
  subst h1
  simp
  refine w_seq (X_ok (pl := []) tblOk pmixed rfl ?_)
  simp
  refine w_seq (X_ok (pl := []) tblOk pmixed rfl ?_)
  simp [appendA, newsA, clipA, isLit, rowsFit]
  refine w_seq (X_ok (pl := []) tblOk pmixed rfl ?_)
  simp
  refine w_cut (fun x : List AObj × List Act × List (List ByteArray) => { s := [.d (.l (actRows l)), int keep, int torn, .any, .any, .any, boo false, .p (.g k0.i) (.ref 0), .any, .d (.l (allRows x.2.2)), .d (.l (actRows x.2.1))] ++ List.replicate 178 .any, L := [], G := x.1 })
    (fun x => OI l k0 l.length x.1 x.2.1 x.2.2) (X_ok (pl := []) tblOk pmixed rfl ?_) (fun x hx => ?_)
  · simp
    refine x_rounds tblOk pmixed (fun x : Nat × List AObj × List Act × List (List ByteArray) × Nat × Nat => { s := [.d (.l (actRows l)), int keep, int torn, .any, .any, .any, boo false, .p (.g k0.i) (.ref 0), .any, .p (.l 0) (.own x.2.2.2.2.1), .p (.l 1) (.own x.2.2.2.2.2), int x.1] ++ List.replicate 177 .any, L := [.arr 1 x.2.2.2.2.1 (allRows x.2.2.2.1), .arr 6 x.2.2.2.2.2 (actRows x.2.2.1)], G := x.2.1 })
      (fun x => OI l k0 x.1 x.2.1 x.2.2.1 x.2.2.2.1) (fun x => l.length - x.1) [] (by kernel_rfl) (0, G2, [], [[]], 0, 0) (OI.start l d0) ((Weak.nilSlot 10 6 rfl).trans (Weak.slots (by simp) (by simp [allRows, strRows, actRows]) (by simp))) (fun x hx => ?_)
    obtain ⟨i, G, nx, al, g1, g2⟩ := x
    simp only at hx ⊢
    have hil := hx.il
    simp [len_actRows]
    refine x_condD rfl (fun ht => ?_) (fun ht => ?_)
    · replace ht : i < l.length := by omega
      have hxi : l[i]? = some l[i] := List.getElem?_eq_getElem ht
      have hkx := hkind l[i] (List.getElem_mem ht)
      generalize l[i] = x at *
      simp [at_actRows hxi, Act.enc]
      refine x_condD rfl (fun h4 => ?_) (fun h4 => ?_)
      · simp
        refine .mk (i + 1, G, nx, al, g1, g2) (hx.skip ht) (by simp; omega) (Weak.slots ?_ (by simp) (by simp))
        simp
        exact w64 (by omega) (by omega)
      · obtain ⟨k, ml, ms, s, ek, d, S, e1, e2, e3⟩ := hx.d
        obtain ⟨s', as', sa', wa, dea, la⟩ := S.act x (by omega)
        have ma := act_ok d (S.ok (by omega)) ⟨by rw [S.seen, S.room]; exact S.used, by rw [S.room]; omega⟩ x (by omega)
        rw [as'] at ma
        simp [at_actRows hxi, Act.enc]
        rw [← ek]
        refine call_to ma rfl rfl rfl fun r G' ⟨k', ml', ms', h1, d', f'⟩ => ?_
        subst h1
        rw [← f'.i]
        simp
        refine x_condD rfl (fun he => ?_) (fun he => ?_)
        · rw [if_pos he] at sa' wa dea
          obtain ⟨z1, z2, z3, z4⟩ := sa'.sizes
          simp
          refine call_to (read_law_ok d' z1 z2 z3 z4) rfl rfl rfl fun r G'' ⟨lx, hs, h1, d'', f''⟩ => ?_
          subst h1
          have hr : readL s' lx = readOf (doF (FA nx nx.length) (deedOf x)) lx := by
            rw [readL_eq sa'.down (by rw [sa'.seen]; exact sa'.good) hs, sa'.seen]
          have hb1 : (al.length + 1) * 24 ≤ 140737488355328 := by have := hx.len; have := hx.n; omega
          have hb2 : (nx.length + 1) * 80 ≤ 140737488355328 := by have := hx.n; omega
          have hstep := hx.step (G' := G'') hxi ⟨k', _, _, s', by rw [f'.i, ek], d'', sa', by rw [la, e1], by rw [wa, e2], by rw [dea, e3]⟩ he (by omega) (by rw [sa'.seen] at hs; exact hs)
          simp [appendA, newsA, len_allRows, len_actRows, hb1, hb2, rowsFit, at_actRows hxi, Act.enc]
          refine .mk (i + 1, G'', nx ++ [x], al ++ [readOf (doF (FA nx nx.length) (deedOf x)) lx], g1 + 1, g2 + 1) hstep (by simp; omega) (Weak.slots ?_ ?_ (by simp))
          · simp
            exact w64 (by omega) (by omega)
          · simp only [hr, allRows_snoc]
            simp [← actRows_snoc, Act.enc]
        · simp
          rw [if_neg he] at sa' wa dea
          have hn : OI l k0 (i + 1) G' nx al := ⟨by omega, ⟨k', _, _, s', by rw [f'.i, ek], d', sa', by rw [la, e1], by rw [wa, e2], by rw [dea, e3]; simp⟩, by have := hx.n; omega, hx.len, hx.snap, hx.good, hx.old, hx.sub, hx.kd⟩
          refine .mk (i + 1, G', nx, al, g1, g2) hn (by simp; omega) (Weak.slots ?_ (by simp) (by simp))
          simp
          exact w64 (by omega) (by omega)
    · simp
      have hil' : i = l.length := by omega
      subst hil'
      refine .mk (G, nx, al) hx ((Weak.data 9 rfl rfl).trans ((Weak.data 10 rfl rfl).trans (Weak.slots (by simp) (by simp) (by simp))))
  · obtain ⟨G, nx, al⟩ := x
    simp only at hx ⊢
    obtain ⟨k, ml, ms, s, ek, d, S, e1, e2, e3⟩ := hx.d
    rw [← ek]
    refine w_seq (X_ok (pl := []) tblOk pmixed (by kernel_rfl) ?_)
    simp
    refine call_v (waits_ok d) rfl rfl rfl ?_
    simp [e2, len_actRows]
    refine call_v (deeds_ok d) rfl rfl rfl ?_
    simp [e3, len_actRows]
    have hcan : canAll s.last s.waits := S.can
    refine w_seq (X_ok (pl := []) tblOk pmixed (by kernel_rfl) ?_)
    simp
    refine call_to (crash_ok d S.can (by have := S.waits; omega) keep torn) rfl rfl rfl fun r G' ⟨k', M, h1, d', f'⟩ => ?_
    subst h1
    rw [← f'.i]
    simp
    refine w_seq (X_ok (pl := []) tblOk pmixed (by kernel_rfl) ?_)
    simp
    have hK : ∃ K : Nat, (K : Int) = cutTo keep nx.length ∧ K ≤ nx.length := ⟨(cutTo keep nx.length).toNat, by unfold cutTo; omega, by unfold cutTo; omega⟩
    obtain ⟨K, hK1, hK2⟩ := hK
    refine w_cut (fun x : Unit => { s := [.d (.l (actRows l)), int keep, int torn, .any, .any, .any, boo false, .p (.g k'.i) (.ref 0), .any, .d (.l (allRows al)), .d (.l (actRows nx)), .any, .any, .any, int (max keep 0)] ++ List.replicate 174 .any, L := [], G := G' })
      (fun _ => True) (X_ok (pl := []) tblOk pmixed (by kernel_rfl) ?_) (fun _ _ => ?_)
    · simp
      refine x_condD rfl (fun h => ?_) (fun h => ?_)
      · simp
        refine .mk () trivial (Weak.slots ?_ (by simp) (by simp))
        simp; omega
      · simp
        refine .mk () trivial (Weak.slots ?_ (by simp) (by simp))
        simp; omega
    refine w_cut (fun x : Unit => { s := [.d (.l (actRows l)), int keep, int torn, .any, .any, .any, boo false, .p (.g k'.i) (.ref 0), .any, .d (.l (allRows al)), .d (.l (actRows nx)), .any, .any, .any, int K] ++ List.replicate 174 .any, L := [], G := G' })
      (fun _ => True) (X_ok (pl := []) tblOk pmixed (by kernel_rfl) ?_) (fun _ _ => ?_)
    · simp [len_actRows]
      have hKe : (K : Int) = min (max keep 0) nx.length := by rw [hK1]; unfold cutTo; omega
      refine x_condD rfl (fun h => ?_) (fun h => ?_)
      · simp [len_actRows]
        refine .mk () trivial (Weak.slots ?_ (by simp) (by simp))
        simp; omega
      · simp
        refine .mk () trivial (Weak.slots ?_ (by simp) (by simp))
        simp; omega
    have hKt : (cutTo keep s.waits.length).toNat = K := by rw [e2]; simp; omega
    have hseen : (crashS s keep torn).seen = crashF [] (nx.map deedOf) K torn := by
      show crashF s.last s.waits _ torn = _
      rw [e1, hKt, e2]
    have hdown : (crashS s keep torn).down = false := rfl
    obtain ⟨lk, hlk, halk⟩ := hx.snap K hK2
    have hgK := hx.good K hK2
    let kd : Int := (nx[K]?.map (·.kind)).getD 1
    refine w_seq (w_cut (fun x : Unit => { s := [.d (.l (actRows l)), int keep, int torn, .any, .any, .any, boo false, .p (.g k'.i) (.ref 0), .any, .d (.l (allRows al)), .d (.l (actRows nx)), .any, .any, .any, int K] ++ List.replicate 91 .any ++ [boo (decide (K = nx.length) || !decide (kd = 1) || decide (torn ≤ 0))] ++ List.replicate 82 .any, L := [], G := G' })
      (fun _ => True) (X_ok (pl := []) tblOk pmixed (by kernel_rfl) ?_) (fun _ _ => X_ok (pl := [(26, .take 0 <| .take 2 <| .take 3 <| .take 4 <| .take 5 <| .all [(1, .all [(6, .take 7 <| .done)])])]) tblOk pmixed (by kernel_rfl) ?_))
    · simp [len_actRows]
      by_cases hKl : K = nx.length
      · subst hKl
        simp
        exact .mk () trivial (Weak.slots (by simp) (by simp) (by simp))
      · have hlt : K < nx.length := by omega
        have hxK : nx[K]? = some nx[K] := List.getElem?_eq_getElem hlt
        have hkd : kd = nx[K].kind := by simp [kd, hxK]
        rw [hkd]
        generalize nx[K] = x at *
        have hKi : ¬ ((K : Int) = nx.length) := by omega
        simp [hKi, at_actRows hxK, Act.enc]
        refine r_splitD (fun h1 => ?_) (fun h1 => ?_)
        · simp [h1, hKi]
          exact .mk () trivial (Weak.slots (by simp [hKl, hKi, h1]) (by simp) (by simp))
        · simp [h1, hKi]
          exact .mk () trivial (Weak.slots (by simp [hKl, hKi, h1]) (by simp) (by simp))
    · have rd : ∀ (hs : Good (crashS s keep torn).seen) (hu : usedF (crashS s keep torn).seen ≤ 2147483648), ACall Try.prog 17 [.p (.g k'.i) (.ref 0)] G' (fun r G'' => ∃ l', IsSorted l' (keys (crashS s keep torn).seen) ∧ r = .d (.l (strRows (readOf (crashS s keep torn).seen l'))) ∧ DAt G'' k' (crashS s keep torn) M M ∧ Fr G' k' G'' k') := fun hs hu => by
        obtain ⟨z1, z2, z3, z4⟩ := sizes_of hs hu
        refine (read_law_ok d' z1 z2 z3 z4).mono fun r G'' ⟨l', q1, q2, q3, q4⟩ => ⟨l', q1, ?_, q3, q4⟩
        rw [q2, readL_eq hdown hs q1]
      refine x_cond rfl (fun hex => ?_) (fun hex => ?_)
      · have hexact : nx.length ≤ K ∨ (∃ x, nx[K]? = some x ∧ (x.kind ≠ 1 ∨ torn ≤ 0)) := by
          by_cases hKl : K = nx.length
          · exact .inl (by omega)
          · have hxK : nx[K]? = some nx[K] := List.getElem?_eq_getElem (by omega)
            refine .inr ⟨_, hxK, ?_⟩
            have hkd : kd = nx[K].kind := by simp [kd, hxK]
            rw [hkd] at hex
            simpa [hKl] using hex
        have hce := crash_exact hx.old hexact hx.kd
        rw [hce] at hseen
        have rd' := rd (by rw [hseen]; exact hgK.1) (by rw [hseen]; have := hgK.2; omega)
        rw [hseen] at rd'
        simp [at_allRows halk, len_allRows]
        refine call_to rd' rfl rfl rfl fun r G'' ⟨l', q1, q2, _, _⟩ => ?_
        subst q2
        simp
        refine call_v (same_ok _ _) rfl rfl rfl ?_
        have hl' : l' = lk := sorted_unique q1 hlk (List.Perm.refl _)
        simp [hl']
      · simp
        simp at hex
        obtain ⟨⟨hKl, hkd1⟩, htn⟩ := hex
        have hxK : nx[K]? = some nx[K] := List.getElem?_eq_getElem (by omega)
        have hxm : nx[K] ∈ nx := List.getElem_mem (by omega)
        have hk1 : nx[K].kind = 1 := by simpa [kd, hxK] using hkd1
        have hold := hx.old K _ hxK hk1
        have hbs := hsmall _ (hx.sub _ hxm)
        generalize nx[K] = x at *
        have hct := crash_torn hxK hk1 (by omega : 0 < torn)
        let n : Nat := (min torn (x.b.size : Int)).toNat
        have hn : (n : Int) = min torn (x.b.size : Int) := by show (((min torn (x.b.size : Int)).toNat : Nat) : Int) = _; omega
        have hnl : n ≤ x.b.size := by omega
        rw [hct] at hseen
        have hsf := szF_le (FA nx K) x.name
        have hsf0 := szF_nn (FA nx K) x.name
        have hxs : (x.b.extract 0 n).size ≤ 200 := by simp [ByteArray.size_extract]; omega
        have hgood : Good (crashS s keep torn).seen := by
          rw [hseen]; exact hgK.1.put (hgK.1.nm _ ((getF_some_iff _ _).1 hold)) (.inl hold)
        have husd : usedF (crashS s keep torn).seen ≤ 2147483648 := by
          rw [hseen, used_put, ByteArray.size_append]
          have := hgK.2
          simp only [szF] at hsf hsf0 ⊢
          show usedF (FA nx K) - _ + ((((getF (FA nx K) x.name).getD e0).size + (x.b.extract 0 n).size : Nat) : Int) ≤ _
          omega
        have rd' := rd hgood husd
        have hkeys : keys (crashS s keep torn).seen = keys (FA nx K) := by rw [hseen, keys_put, if_pos hold]
        rw [hkeys, hseen] at rd'
        refine w_seq (X_ok (pl := [(27, .take 0 <| .take 1 <| .take 2 <| .take 3 <| .take 4 <| .all [(5, .take 6 <| .take 7 <| .done)])]) tblOk pmixed (by kernel_rfl) ?_)
        simp [at_allRows halk, len_allRows]
        refine call_to rd' rfl rfl rfl fun r G'' ⟨l', q1, q2, _, _⟩ => ?_
        subst q2
        simp
        have hl' : l' = lk := sorted_unique q1 hlk (List.Perm.refl _)
        subst hl'
        let F' := putF (FA nx K) x.name (((getF (FA nx K) x.name).getD e0) ++ x.b.extract 0 n)
        have hF' : putF (FA nx K) x.name (((getF (FA nx K) x.name).getD e0) ++ x.b.extract 0 (min torn (x.b.size : Int)).toNat) = F' := rfl
        rw [hF']
        refine w_seq (X_ok (pl := []) tblOk pmixed (by kernel_rfl) ?_)
        simp [len_strRows, len_readOf]
        refine w_seq (X_ok (pl := []) tblOk pmixed (by kernel_rfl) ?_)
        simp
        refine w_cut (fun y : Unit => { s := [.d (.l (actRows l)), int keep, int torn, .any, .any, .any, boo false, .p (.g k'.i) (.ref 0), .any, .d (.l (allRows al)), .d (.l (actRows nx)), .any, .any, .any, int K, .d (.l (strRows (readOf (FA nx K) l'))), .d (.l (strRows (readOf F' l'))), int n] ++ List.replicate 171 .any, L := [], G := G'' })
          (fun _ => True) (X_ok (pl := []) tblOk pmixed (by kernel_rfl) ?_) (fun _ _ => X_ok (pl := []) tblOk pmixed (by kernel_rfl) ?_)
        · simp [at_actRows hxK, len_actRows, Act.enc, len_byteRows]
          refine x_condD rfl (fun h => ?_) (fun h => ?_)
          · simp [at_actRows hxK, len_actRows, Act.enc, len_byteRows]
            refine .mk () trivial (Weak.slots ?_ (by simp) (by simp))
            simp; omega
          · simp
            refine .mk () trivial (Weak.slots ?_ (by simp) (by simp))
            simp; omega
        · simp
          have hll : l'.length ≤ 64 := by
            obtain ⟨ss, hp, hl⟩ := hlk
            have h1 := hp.length_eq
            rw [hl]
            simp [len_keys] at h1 ⊢
            have := hgK.1.le
            omega
          refine x_rounds tblOk pmixed (fun m : Nat => { s := [.d (.l (actRows l)), int keep, int torn, .any, .any, .any, boo false, .p (.g k'.i) (.ref 0), .any, .d (.l (allRows al)), .d (.l (actRows nx)), .any, .any, .any, int K, .d (.l (strRows (readOf (FA nx K) l'))), .d (.l (strRows (readOf F' l'))), int n, int m] ++ List.replicate 170 .any, L := [], G := G'' })
            (fun m => ∃ j, m = 2 * j ∧ j ≤ l'.length) (fun m => 2 * l'.length - m) [] (by kernel_rfl) 0 ⟨0, rfl, Nat.zero_le _⟩ (Weak.slots (by simp) (by simp) (by simp)) (fun m hm => ?_)
          obtain ⟨j, hm, hj⟩ := hm
          simp [len_strRows, len_readOf]
          refine x_condD rfl (fun ht => ?_) (fun ht => ?_)
          · have hjl : j < l'.length := by omega
            have hnm : l'[j]? = some l'[j] := List.getElem?_eq_getElem hjl
            have hin := (sorted_mem hlk l'[j]).1 (List.getElem_mem hjl)
            generalize l'[j] = nm at *
            have hX := at_readOf (f := FA nx K) hnm
            have hY := at_readOf (f := F') hnm
            rw [← hm] at hX hY
            have x0 := at_strRows hX.1
            have x1 := at_strRows hX.2
            have y0 := at_strRows hY.1
            have y1 := at_strRows hY.2
            have wm : IntKind.i64.wrap ((m : Int) + 1) = ((m + 1 : Nat) : Int) := w64 (by omega) (by omega)
            have hb0 : (m : Int) + 1 < 2 * (l'.length : Int) := by omega
            have hmm : (m : Int) < 2 * (l'.length : Int) := by omega
            have hm1 : (0 : Int) ≤ (m : Int) + 1 := by omega
            have hv0 : ((getF (FA nx K) nm).getD e0).size ≤ 2147483648 := by
              cases hg : getF (FA nx K) nm with
              | none => simp [e0z]
              | some v => have := size_le_used hg; have := hgK.2; simp; omega
            have hF : getF F' nm = if nm = x.name then some (((getF (FA nx K) x.name).getD e0) ++ x.b.extract 0 n) else getF (FA nx K) nm := getF_put _ _ _ _
            have fin : ∀ (a b c : AVal), True := fun _ _ _ => trivial
            have wm2 : IntKind.i64.wrap ((m : Int) + 2) = ((m + 2 : Nat) : Int) := w64 (by omega) (by omega)
            have hn0 : (0 : Int) ≤ n := by omega
            simp [wm, x1, len_strRows, len_readOf, hb0, hm1, x0, at_actRows hxK, len_actRows, Act.enc, hKl, strBin]
            refine x_condD rfl (fun hnn => ?_) (fun hnn => ?_)
            · rw [if_pos hnn] at hF
              subst hnn
              have hsum : ((getF (FA nx K) x.name).getD e0).size + (x.b.extract 0 n).size ≤ 9223372036854775807 := by omega
              have hsum2 : ((getF (FA nx K) x.name).getD e0).size + n ≤ 9223372036854775807 := by omega
              rw [hF] at hY y1
              simp [hsum2, at_actRows hxK, len_actRows, Act.enc, len_byteRows, sliceA, bndA, sliceRows, hn0, hnl, fit_byteRows, take_byteRows, bytesOf_byteRows, strOf_bytes, strOf_take, strBin, hsum, x0, x1, y0, y1, wm, hm1, hKl]
              refine .mk (m + 2) ⟨j + 1, by omega, by omega⟩ (by omega) (Weak.slots ?_ (by simp) (by simp))
              simp [wm2]
            · rw [if_neg hnn] at hF
              rw [hF] at hY y1
              simp [x0, x1, y0, y1, wm, hm1, strBin]
              refine .mk (m + 2) ⟨j + 1, by omega, by omega⟩ (by omega) (Weak.slots ?_ (by simp) (by simp))
              simp [wm2]
          · simp
end Go.Proofs.Dev
