/- Part 4 of the proof: lemmas on an abstract reading of the machine, and the functions that the law reaches. -/
import Derived.Test.YtbglgpplnapceaaA3
/- Plain facts on files and deeds. -/
set_option linter.unusedVariables false
set_option linter.unusedSimpArgs false
namespace Go.Proofs.Dev
open Go.Am
set_option maxRecDepth 100000

def keys (f : Fs) : List ByteArray := f.map (·.1)

theorem getF_some_iff (f : Fs) (k : ByteArray) : (getF f k).isSome = true ↔ k ∈ keys f := by
  induction f with
  | nil => simp [getF, keys]
  | cons p r ih =>
    obtain ⟨a, v⟩ := p
    simp only [getF, keys, List.map_cons, List.mem_cons]
    split
    · rename_i h; simp [h]
    · rename_i h
      rw [ih]
      simp [keys, h]

theorem getF_none_iff (f : Fs) (k : ByteArray) : getF f k = none ↔ k ∉ keys f := by
  have := getF_some_iff f k
  cases h : getF f k <;> simp [h] at this ⊢ <;> exact this

theorem keys_put (f : Fs) (k v : ByteArray) : keys (putF f k v) = if (getF f k).isSome = true then keys f else keys f ++ [k] := by
  induction f with
  | nil => simp [putF, keys, getF]
  | cons p r ih =>
    obtain ⟨a, x⟩ := p
    simp only [putF, getF]
    split
    · rename_i h; subst h; simp [keys]
    · rename_i h
      simp only [keys, List.map_cons] at ih ⊢
      rw [ih]
      split <;> simp

theorem keys_del (f : Fs) (k : ByteArray) : (keys (delF f k)).Sublist (keys f) := by
  induction f with
  | nil => simp [delF, keys]
  | cons p r ih =>
    obtain ⟨a, x⟩ := p
    simp only [delF]
    split
    · simp [keys]
    · simp only [keys, List.map_cons] at ih ⊢
      exact ih.cons_cons _

theorem len_keys (f : Fs) : (keys f).length = f.length := by simp [keys]

theorem getF_put (f : Fs) (k v n : ByteArray) : getF (putF f k v) n = if n = k then some v else getF f n := by
  induction f with
  | nil => simp [putF, getF]
  | cons p r ih =>
    obtain ⟨a, x⟩ := p
    simp only [putF]
    split
    · rename_i h; subst h
      simp only [getF]
      split <;> rfl
    · rename_i h
      simp only [getF, ih]
      by_cases hn : n = k
      · subst hn; simp [h]
      · simp [hn]

theorem put_same {f : Fs} {k v : ByteArray} (h : getF f k = some v) : putF f k v = f := by
  induction f with
  | nil => simp [getF] at h
  | cons p r ih =>
    obtain ⟨a, x⟩ := p
    simp only [getF] at h
    simp only [putF]
    split at h
    · rename_i hk; subst hk; simp at h; simp [h]
    · rename_i hk; simp [hk, ih h]

theorem e0z : (e0 : ByteArray).size = 0 := rfl
def szF (f : Fs) (k : ByteArray) : Int := ((getF f k).getD e0).size

theorem used_put (f : Fs) (k v : ByteArray) : usedF (putF f k v) = usedF f - szF f k + v.size := by
  induction f with
  | nil => simp [putF, usedF, szF, getF, e0z]
  | cons p r ih =>
    obtain ⟨a, x⟩ := p
    simp only [putF]
    split
    · rename_i h; subst h
      simp [usedF, szF, getF]; omega
    · rename_i h
      simp only [usedF, List.map_cons, List.sum_cons, szF, getF, h, if_false] at ih ⊢
      omega

theorem used_del (f : Fs) (k : ByteArray) : usedF (delF f k) = usedF f - szF f k := by
  induction f with
  | nil => simp [delF, usedF, szF, getF, e0z]
  | cons p r ih =>
    obtain ⟨a, x⟩ := p
    simp only [delF]
    split
    · rename_i h; subst h
      simp [usedF, szF, getF]; omega
    · rename_i h
      simp only [usedF, List.map_cons, List.sum_cons, szF, getF, h, if_false] at ih ⊢
      omega

theorem szF_nn (f : Fs) (k : ByteArray) : 0 ≤ szF f k := by unfold szF; omega
theorem szF_le (f : Fs) (k : ByteArray) : szF f k ≤ usedF f := by
  unfold szF
  cases h : getF f k with
  | none => simp; exact usedF_nn f
  | some v => exact size_le_used h

/-- Files as they may be. -/
structure Good (f : Fs) : Prop where
  nd : (keys f).Nodup
  nm : ∀ k ∈ keys f, badName k = false
  le : f.length ≤ 64

theorem good_nil : Good [] := ⟨by simp [keys], by simp [keys], by simp⟩

theorem Good.put {f : Fs} (h : Good f) {k v : ByteArray} (hk : badName k = false) (hl : (getF f k).isSome = true ∨ f.length < 64) : Good (putF f k v) := by
  have e := keys_put f k v
  by_cases hm : (getF f k).isSome = true
  · rw [if_pos hm] at e
    refine ⟨by rw [e]; exact h.nd, by rw [e]; exact h.nm, ?_⟩
    rw [← len_keys, e, len_keys]; exact h.le
  · rw [if_neg hm] at e
    have hl' : f.length < 64 := by
      rcases hl with h1 | h1
      · exact absurd h1 hm
      · exact h1
    refine ⟨?_, fun n hn => ?_, ?_⟩
    · rw [e, List.nodup_append]
      exact ⟨h.nd, by simp, fun a ha b hb => by simp at hb; subst hb; exact fun e => hm ((getF_some_iff f b).2 (e ▸ ha))⟩
    · rw [e] at hn
      simp at hn
      rcases hn with hn | rfl
      · exact h.nm n hn
      · exact hk
    · rw [← len_keys, e, List.length_append, len_keys]; simp; omega

theorem Good.del {f : Fs} (h : Good f) (k : ByteArray) : Good (delF f k) := by
  have e := keys_del f k
  refine ⟨h.nd.sublist e, fun n hn => h.nm n (e.subset hn), ?_⟩
  have := e.length_le
  rw [len_keys, len_keys] at this
  have := h.le
  omega

theorem del_len {f : Fs} {k : ByteArray} (h : (getF f k).isSome = true) : (delF f k).length + 1 = f.length := by
  induction f with
  | nil => simp [getF] at h
  | cons p r ih =>
    obtain ⟨a, x⟩ := p
    simp only [getF] at h
    simp only [delF]
    split
    · simp
    · rename_i hk
      simp only [hk, if_false] at h
      simp [ih h]

/-! ### Deeds of calls -/
def namesOf (x : Act) : List ByteArray := if x.kind = 3 then [x.name, x.to] else [x.name]

def errF (room : Int) (f : Fs) (x : Act) : Int :=
  if (namesOf x).any badName then 1
  else if x.kind = 0 then (if (getF f x.name).isSome then 6 else if 64 ≤ f.length then 4 else 0)
  else if x.kind = 1 ∧ (getF f x.name).isSome = true ∧ room - usedF f < x.b.size then 4
  else if x.kind = 2 ∧ (x.n < 0 ∨ ((getF f x.name).isSome = true ∧ (((getF f x.name).getD e0).size : Int) < x.n)) then 1
  else if (getF f x.name).isSome then 0 else 5

def deedOf (x : Act) : Deed :=
  if x.kind = 0 then dk 0 x.name e0 e0 0 else if x.kind = 1 then dk 1 x.name e0 x.b 0 else if x.kind = 2 then dk 2 x.name e0 e0 x.n
  else if x.kind = 3 then dk 3 x.name x.to e0 0 else dk 4 x.name e0 e0 0

theorem act_down {s : DS} {x : Act} (h : s.down = true) (hk : 0 ≤ x.kind ∧ x.kind ≤ 5) : actS s x = (3, s) := by
  unfold actS makeS appendS cutS renameS removeS syncS withMay mayE
  simp only [h, if_true]
  simp

theorem act_eq {s : DS} {x : Act} (h : s.down = false) (hk : 0 ≤ x.kind ∧ x.kind ≤ 4) : actS s x = if errF s.room s.seen x ≠ 0 then (errF s.room s.seen x, s) else doingS s (deedOf x) := by
  obtain ⟨kd, nm, to, b, n, kk⟩ := x
  simp only at hk
  have hc : kd = 0 ∨ kd = 1 ∨ kd = 2 ∨ kd = 3 ∨ kd = 4 := by omega
  unfold actS makeS appendS cutS renameS removeS withMay mayE errF deedOf namesOf onS
  simp only [h]
  rcases hc with rfl | rfl | rfl | rfl | rfl <;> simp
  · cases hb : badName nm <;> simp
    cases hg : (getF s.seen nm).isSome <;> simp
    by_cases hl : 64 ≤ s.seen.length <;> simp [hl]
    intro hx; omega
  · cases hb : badName nm <;> simp
    cases hg : (getF s.seen nm).isSome <;> simp
    by_cases hl : s.room - usedF s.seen < (b.size : Int) <;> simp [hl]
    intro hx; omega
  · cases hb : badName nm <;> simp
    split
    · simp
    · cases hg : (getF s.seen nm).isSome <;> simp
  · cases hb : badName nm <;> simp
    cases hb2 : badName to <;> simp
    cases hg : (getF s.seen nm).isSome <;> simp
    · intro hx; exact absurd (by simpa using hg) hx
    · intro hx; rw [hx] at hg; cases hg
  · cases hb : badName nm <;> simp
    cases hg : (getF s.seen nm).isSome <;> simp
    · intro hx; exact absurd (by simpa using hg) hx
    · intro hx; rw [hx] at hg; cases hg

/-- A deed that fits. -/
structure Fit (room : Int) (f : Fs) (d : Deed) : Prop where
  can : can f d
  good : Good (doF f d)
  used : usedF (doF f d) ≤ room
  old : d.kind = 1 → (getF f d.name).isSome = true

theorem fit_of {room : Int} {f : Fs} {x : Act} (h : errF room f x = 0) (hg : Good f) (hu : usedF f ≤ room) (hr : room ≤ 1073741824) (hk : 0 ≤ x.kind ∧ x.kind ≤ 4) : Fit room f (deedOf x) := by
  obtain ⟨kd, nm, to, b, n, kk⟩ := x
  simp only at hk
  have hc : kd = 0 ∨ kd = 1 ∨ kd = 2 ∨ kd = 3 ∨ kd = 4 := by omega
  have hn := szF_nn f nm
  have hle := szF_le f nm
  unfold errF namesOf at h
  rcases hc with rfl | rfl | rfl | rfl | rfl <;> simp [deedOf] at h ⊢
  · cases hb : badName nm <;> simp [hb] at h
    cases hgs : (getF f nm).isSome <;> simp [hgs] at h
    refine ⟨can_of _ _ (by simp) (by simp), ?_, ?_, fun h => absurd h (by simp)⟩
    · simp only [doF, if_true]; exact hg.put hb (.inr (by omega))
    · simp only [doF, if_true, used_put]
      have : (((⟨#[]⟩ : ByteArray).size : Nat) : Int) = 0 := rfl
      omega
  · cases hb : badName nm <;> simp [hb] at h
    cases hgs : (getF f nm).isSome <;> simp [hgs] at h
    have hsz : ((getF f nm).getD e0 ++ b).size = ((getF f nm).getD e0).size + b.size := ByteArray.size_append
    refine ⟨⟨fun _ => ?_, fun h => absurd h (by simp)⟩, ?_, ?_, fun _ => hgs⟩
    · simp only [szF] at hle hn
      show ((getF f nm).getD e0).size + b.size ≤ _
      omega
    · show Good (putF f nm _); exact hg.put hb (.inl hgs)
    · show usedF (putF f nm _) ≤ _
      rw [used_put]
      simp only [szF] at hle hn ⊢
      rw [hsz]
      omega
  · cases hb : badName nm <;> simp [hb] at h
    split at h
    · cases h
    · rename_i hx
      cases hgs : (getF f nm).isSome <;> simp [hgs] at h hx
      refine ⟨⟨fun h => absurd h (by simp), fun _ => ⟨hx.1, ?_⟩⟩, ?_, ?_, fun h => absurd h (by simp)⟩
      · show n ≤ (((getF f nm).getD e0).size : Int); omega
      · show Good (putF f nm _); exact hg.put hb (.inl hgs)
      · show usedF (putF f nm _) ≤ _
        rw [used_put]
        have : (((getF f nm).getD ⟨#[]⟩).extract 0 n.toNat).size ≤ ((getF f nm).getD e0).size := by simp [ByteArray.size_extract]; omega
        simp only [szF] at hle hn ⊢
        omega
  · cases hb : badName nm <;> simp [hb] at h
    cases hb2 : badName to <;> simp [hb2] at h
    have hgs : (getF f nm).isSome = true := by cases h' : getF f nm <;> simp_all
    refine ⟨can_of _ _ (show (3 : Int) ≠ 1 by decide) (show (3 : Int) ≠ 2 by decide), ?_, ?_, fun h => absurd h (show (3 : Int) ≠ 1 by decide)⟩
    · show Good (putF (delF f nm) to _)
      refine (hg.del nm).put hb2 (.inr ?_)
      have := del_len hgs
      have := hg.le
      omega
    · show usedF (putF (delF f nm) to ((getF f nm).getD e0)) ≤ _
      rw [used_put, used_del]
      have h1 := szF_nn (delF f nm) to
      simp only [szF] at hle hn h1 ⊢
      omega
  · cases hb : badName nm <;> simp [hb] at h
    have hgs : (getF f nm).isSome = true := by cases h' : getF f nm <;> simp_all
    refine ⟨can_of _ _ (show (4 : Int) ≠ 1 by decide) (show (4 : Int) ≠ 2 by decide), ?_, ?_, fun h => absurd h (show (4 : Int) ≠ 1 by decide)⟩
    · show Good (delF f nm); exact hg.del nm
    · show usedF (delF f nm) ≤ _
      rw [used_del]; omega

theorem canAll_snoc {f : Fs} {l : List Deed} {d : Deed} (h : canAll f l) (hc : can (foldF f l) d) : canAll f (l ++ [d]) := by
  induction l generalizing f with
  | nil => exact ⟨hc, trivial⟩
  | cons x xs ih => exact ⟨h.1, ih h.2 hc⟩

theorem foldF_snoc (f : Fs) (l : List Deed) (d : Deed) : foldF f (l ++ [d]) = doF (foldF f l) d := by simp [foldF]
theorem canAll_take {f : Fs} {l : List Deed} (n : Nat) (h : canAll f l) : canAll f (l.take n) := by
  induction l generalizing f n with
  | nil => simpa using h
  | cons x xs ih =>
    cases n with
    | zero => trivial
    | succ n => exact ⟨h.1, ih n h.2⟩

/-! ### Names, sorted -/
theorem sorted_mem {l ks : List ByteArray} (h : IsSorted l ks) (n : ByteArray) : n ∈ l ↔ n ∈ ks := by
  obtain ⟨ss, hp, rfl⟩ := h
  have hbs : ∀ k : ByteArray, bs k.data.toList = k := fun k => by simp [bs]
  constructor
  · intro hn
    obtain ⟨x, hx, rfl⟩ := List.mem_map.1 hn
    have hx' := hp.mem_iff.1 ((List.mergeSort_perm ss _).mem_iff.1 hx)
    obtain ⟨k, hk, rfl⟩ := List.mem_map.1 hx'
    rw [hbs]; exact hk
  · intro hn
    refine List.mem_map.2 ⟨n.data.toList, (List.mergeSort_perm ss _).mem_iff.2 (hp.mem_iff.2 (List.mem_map.2 ⟨n, hn, rfl⟩)), hbs n⟩

theorem eq_of_perm_le : ∀ {a b : List (List UInt8)}, a.Perm b → a.Pairwise (· ≤ ·) → b.Pairwise (· ≤ ·) → a = b
  | [], b, h, _, _ => (List.nil_perm.1 h).symm
  | x :: xs, b, h, ha, hb => by
    cases b with
    | nil => exact absurd h.symm (by simp)
    | cons y ys =>
      have hxy : x = y := by
        have h1 : x ∈ y :: ys := h.mem_iff.1 (by simp)
        have h2 : y ∈ x :: xs := h.mem_iff.2 (by simp)
        rcases List.mem_cons.1 h1 with e | h1
        · exact e
        rcases List.mem_cons.1 h2 with e | h2
        · exact e.symm
        have h3 := List.rel_of_pairwise_cons ha h2
        have h4 := List.rel_of_pairwise_cons hb h1
        exact List.le_antisymm h3 h4
      subst hxy
      rw [eq_of_perm_le h.cons_inv (List.Pairwise.of_cons ha) (List.Pairwise.of_cons hb)]

theorem sorted_unique {l l' ks ks' : List ByteArray} (h : IsSorted l ks) (h' : IsSorted l' ks') (hp : ks.Perm ks') : l = l' := by
  obtain ⟨ss, p1, rfl⟩ := h
  obtain ⟨ss', p2, rfl⟩ := h'
  congr 1
  have hs : ∀ s : List (List UInt8), (s.mergeSort (fun x y => decide (x ≤ y))).Pairwise (· ≤ ·) := fun s => by
    have := List.pairwise_mergeSort (le := fun x y : List UInt8 => decide (x ≤ y)) (fun a b c h1 h2 => by simp at h1 h2 ⊢; exact List.le_trans h1 h2) (fun a b => by simp; exact List.le_total a b) s
    exact this.imp fun h => by simpa using h
  refine eq_of_perm_le ?_ (hs _) (hs _)
  exact (List.mergeSort_perm ss _).trans ((p1.trans ((hp.map _).trans p2.symm)).trans (List.mergeSort_perm ss' _).symm)

/-- What is read of files. -/
def readOf (f : Fs) (l : List ByteArray) : List ByteArray := l.flatMap fun n => [n, (getF f n).getD e0]

theorem readL_eq {s : DS} {l : List ByteArray} (hd : s.down = false) (hg : Good s.seen) (hs : IsSorted l (keys s.seen)) : readL s l = readOf s.seen l := by
  unfold readL readOf
  have key : ∀ m : List ByteArray, (∀ n ∈ m, n ∈ keys s.seen) → (m.flatMap fun n => [n, if readS s n = 0 then (getF s.seen n).getD e0 else e0]) = m.flatMap fun n => [n, (getF s.seen n).getD e0] := fun m => by
    induction m with
    | nil => simp
    | cons n m ih =>
      intro hm
      have hn := hm n (by simp)
      have h1 : readS s n = 0 := by
        have h2 := hg.nm n hn
        have h3 := (getF_some_iff s.seen n).2 hn
        simp [readS, mayE, hd, h2, h3]
      simp only [List.flatMap_cons, h1, if_true]
      rw [ih fun k hk => hm k (by simp [hk])]
  exact key l fun n hn => (sorted_mem hs n).1 hn
end Go.Proofs.Dev

/- Disks without arms; two disks apart; calls as arguments. -/
set_option linter.unusedVariables false
set_option linter.unusedSimpArgs false
namespace Go.Proofs.Dev
open Go.Am
set_option maxRecDepth 100000

/-- A disk that is up, whose arm is off. -/
structure SA (s : DS) (f : Fs) (n : Nat) : Prop where
  room : s.room = 1048576
  seen : s.seen = f
  fold : foldF s.last s.waits = f
  can : canAll s.last s.waits
  armed : s.armed = 0
  down : s.down = false
  deeds : 0 ≤ s.deeds ∧ s.deeds ≤ n
  waits : s.waits.length ≤ n
  good : Good f
  used : usedF f ≤ 1048576

theorem SA.new : SA (newS 1048576) [] 0 := ⟨rfl, rfl, rfl, trivial, rfl, rfl, by simp [newS], by simp [newS], good_nil, by simp [usedF]⟩

theorem SA.ok {s : DS} {f : Fs} {n : Nat} (h : SA s f n) (hn : n ≤ 1000) : s.ok :=
  ⟨by rw [h.armed]; omega, by have := h.deeds; omega, by have := h.waits; omega⟩

theorem SA.mono {s : DS} {f : Fs} {n m : Nat} (h : SA s f n) (hn : n ≤ m) : SA s f m :=
  ⟨h.room, h.seen, h.fold, h.can, h.armed, h.down, by have := h.deeds; omega, by have := h.waits; omega, h.good, h.used⟩

theorem SA.act {s : DS} {f : Fs} {n : Nat} (h : SA s f n) (x : Act) (hk : 0 ≤ x.kind ∧ x.kind ≤ 4) :
    ∃ s', actS s x = (errF 1048576 f x, s') ∧ SA s' (if errF 1048576 f x = 0 then doF f (deedOf x) else f) (n + 1) ∧ s'.waits = (if errF 1048576 f x = 0 then s.waits ++ [deedOf x] else s.waits) ∧
      s'.deeds = s.deeds + (if errF 1048576 f x = 0 then 1 else 0) ∧ s'.last = s.last := by
  have he := act_eq (x := x) h.down hk
  rw [h.room, h.seen] at he
  by_cases h0 : errF 1048576 f x = 0
  · have hf := fit_of h0 h.good h.used (by omega) hk
    rw [if_neg (by simp [h0])] at he
    have hd : doingS s (deedOf x) = (0, { s with armed := 0, deeds := s.deeds + 1, waits := s.waits ++ [deedOf x], seen := doF s.seen (deedOf x) }) := by
      unfold doingS
      rw [if_neg (by rw [h.armed]; decide), h.armed]
      rfl
    rw [hd] at he
    refine ⟨{ s with armed := 0, deeds := s.deeds + 1, waits := s.waits ++ [deedOf x], seen := doF s.seen (deedOf x) }, by rw [he, h0], ?_, by simp [h0], by simp [h0], rfl⟩
    simp only [h0, if_true]
    refine ⟨h.room, by simp [h.seen], ?_, ?_, rfl, h.down, ?_, ?_, hf.good, hf.used⟩
    · show foldF s.last (s.waits ++ [deedOf x]) = _
      rw [foldF_snoc, h.fold]
    · exact canAll_snoc h.can (by rw [h.fold]; exact hf.can)
    · have := h.deeds; show 0 ≤ s.deeds + 1 ∧ s.deeds + 1 ≤ _; omega
    · have := h.waits; simp; omega
  · rw [if_pos h0] at he
    refine ⟨s, he, ?_, by simp [h0], by simp [h0], rfl⟩
    simp only [h0, if_false]
    exact h.mono (by omega)

theorem SA.sync {s : DS} {f : Fs} {n : Nat} (h : SA s f n) : syncS s = (0, { s with armed := 0, deeds := s.deeds + 1, last := f, waits := [] }) ∧ SA { s with armed := 0, deeds := s.deeds + 1, last := f, waits := [] } f (n + 1) := by
  constructor
  · unfold syncS withMay mayE
    simp [h.down, h.armed, h.seen]
    decide
  · exact ⟨h.room, h.seen, rfl, trivial, rfl, h.down, by have := h.deeds; show 0 ≤ s.deeds + 1 ∧ s.deeds + 1 ≤ _; omega, by simp, h.good, h.used⟩

theorem SA.crash {s : DS} {f : Fs} {n : Nat} (h : SA s f n) (keep torn : Int) (hw : s.waits = []) : SA (crashS s keep torn) f n ∧ (crashS s keep torn).waits = [] ∧ (crashS s keep torn).deeds = s.deeds := by
  have hl : s.last = f := by have := h.fold; rw [hw] at this; exact this
  have hc : crashF s.last s.waits (cutTo keep s.waits.length).toNat torn = f := by
    simp [crashF, hw, hl, foldF]
  refine ⟨⟨h.room, hc, ?_, trivial, rfl, rfl, h.deeds, by simp [crashS], h.good, h.used⟩, rfl, rfl⟩
  show foldF (crashF _ _ _ _) [] = f
  rw [hc]; rfl

section
variable {G G' : List AObj} {k k' k2 : DK} {s s2 : DS} {ml ms ml2 ms2 : FM}

theorem DAt.ids_lt (h : DAt G k s ml ms) : ∀ j ∈ k.ids, j < G.length := fun j hj => by
  unfold DK.ids at hj
  simp only [List.mem_cons] at hj
  rcases hj with rfl | rfl | rfl | hj
  · exact (List.getElem?_eq_some_iff.1 h.o).1
  · exact (List.getElem?_eq_some_iff.1 h.a).1
  · exact (List.getElem?_eq_some_iff.1 h.b).1
  · have hw := h.w
    rcases hk : k.w with _ | ⟨i, g⟩
    · rw [hk] at hj; cases hj
    · rw [hk] at hj hw
      simp at hj; subst hj
      exact (List.getElem?_eq_some_iff.1 hw).1

theorem DAt.keep (h : DAt G k s ml ms) (hk : ∀ j ∈ k.ids, G'[j]? = G[j]?) : DAt G' k s ml ms := by
  refine ⟨by rw [hk k.i (by simp [DK.ids])]; exact h.o, by rw [hk k.a (by simp [DK.ids])]; exact h.a, by rw [hk k.b (by simp [DK.ids])]; exact h.b, ?_, h.ab, h.last, h.seen, h.okl, h.oks⟩
  have hw := h.w
  rcases hw' : k.w with _ | ⟨i, g⟩
  · rw [hw'] at hw; exact hw
  · rw [hw'] at hw
    simp only at hw ⊢
    rw [hk i (by simp [DK.ids, hw'])]; exact hw

theorem sep_step (h2 : DAt G k2 s2 ml2 ms2) (dis : ∀ j ∈ k.ids, j ∉ k2.ids) (f : Fr G k G' k') : DAt G' k2 s2 ml2 ms2 ∧ (∀ j ∈ k'.ids, j ∉ k2.ids) :=
  ⟨h2.keep fun j hj => f.keep j (h2.ids_lt j hj) fun hm => dis j hm hj, fun j hj hm => by
    rcases f.ids j hj with h1 | h1
    · exact dis j h1 hm
    · have := h2.ids_lt j hm; omega⟩
end

theorem SA.sizes {s : DS} {f : Fs} {n : Nat} (h : SA s f n) : (s.seen.map (·.1)).Nodup ∧ (∀ x ∈ s.seen, x.1.size ≤ 9223372036854775807) ∧ s.seen.length ≤ 1099511627776 ∧ (∀ n v, getF s.seen n = some v → v.size ≤ 9223372036854775807) := by
  rw [h.seen]
  refine ⟨h.good.nd, fun x hx => ?_, by have := h.good.le; omega, fun n v hv => ?_⟩
  · have := h.good.nm x.1 (List.mem_map.2 ⟨x, hx, rfl⟩)
    simp [badName] at this
    omega
  · have := size_le_used hv
    have := h.used
    omega

/-! ### Arguments -/
theorem wf_u8 {n : Int} (h : (Lit.int .u8 n).wf = true) : 0 ≤ n ∧ n ≤ 255 := by
  simpa [Lit.wf, IntKind.min, IntKind.max, IntKind.signed, IntKind.bits] using h
theorem wf_i64 {n : Int} (h : (Lit.int .i64 n).wf = true) : -9223372036854775808 ≤ n ∧ n ≤ 9223372036854775807 := by
  simpa [Lit.wf, IntKind.min, IntKind.max, IntKind.signed, IntKind.bits] using h

theorem bytes_of_rows : ∀ (rows : List (List Dat)), (∀ r ∈ rows, ∃ n : Int, r = [.v (.int .u8 n)] ∧ 0 ≤ n ∧ n ≤ 255) → ∃ B : ByteArray, rows = byteRows B
  | [], _ => ⟨⟨#[]⟩, rfl⟩
  | r :: rows, h => by
    obtain ⟨n, rfl, h1, h2⟩ := h r (by simp)
    obtain ⟨B, rfl⟩ := bytes_of_rows rows fun r hr => h r (by simp [hr])
    refine ⟨⟨(UInt8.ofNat n.toNat :: B.data.toList).toArray⟩, ?_⟩
    have : (n.toNat % 256 : Nat) = n.toNat := Nat.mod_eq_of_lt (by omega)
    simp [byteRows, UInt8.toNat_ofNat, this]
    omega

theorem dty_act {n : Nat} {r : List Dat} (h : DTy tbl n 32 r) : ∃ x : Act, r = x.enc := by
  cases n with
  | zero => exact h.elim
  | succ n =>
    simp only [DTy, tbl] at h
    obtain ⟨hl, hf⟩ := h
    cases n with
    | zero =>
      obtain ⟨fe, h1, h2⟩ := hf (3, 0) (by simp)
      exact h2.elim
    | succ n =>
      have f0 := hf (3, 0) (by simp)
      have f1 := hf (9, 1) (by simp)
      have f2 := hf (9, 2) (by simp)
      have f3 := hf (30, 3) (by simp)
      have f4 := hf (3, 4) (by simp)
      have f5 := hf (3, 5) (by simp)
      rcases r with _ | ⟨a, _ | ⟨b, _ | ⟨c, _ | ⟨d, _ | ⟨e, _ | ⟨f, _ | ⟨g, r⟩⟩⟩⟩⟩⟩⟩ <;> simp at hl
      simp [DTy] at f0 f1 f2 f3 f4 f5
      obtain ⟨x0, rfl, w0⟩ := f0
      obtain ⟨x1, rfl, w1⟩ := f1
      obtain ⟨x2, rfl, w2⟩ := f2
      obtain ⟨x3, rfl, w3⟩ := f3
      obtain ⟨x4, rfl, w4⟩ := f4
      obtain ⟨x5, rfl, w5⟩ := f5
      obtain ⟨B, rfl⟩ := bytes_of_rows x3 fun r hr => by
        have := w3 r hr
        cases n with
        | zero => exact this.elim
        | succ n =>
          simp only [DTy] at this
          obtain ⟨x, rfl, hw⟩ := this
          exact ⟨x, rfl, wf_u8 hw⟩
      exact ⟨⟨x0, x1, x2, B, x4, x5⟩, rfl⟩

theorem dty_acts {n : Nat} {ds : List Dat} (h : DTy tbl n 22 ds) : ∃ l : List Act, ds = [.l (actRows l)] := by
  cases n with
  | zero => exact h.elim
  | succ n =>
    simp only [DTy, tbl] at h
    obtain ⟨rows, rfl, hr⟩ := h
    have key : ∀ rows : List (List Dat), (∀ r ∈ rows, DTy tbl n 32 r) → ∃ l : List Act, rows = actRows l := fun rows => by
      induction rows with
      | nil => intro _; exact ⟨[], rfl⟩
      | cons r rows ih =>
        intro h
        obtain ⟨x, rfl⟩ := dty_act (h r (by simp))
        obtain ⟨l, rfl⟩ := ih fun r hr => h r (by simp [hr])
        exact ⟨x :: l, rfl⟩
    obtain ⟨l, rfl⟩ := key rows hr
    exact ⟨l, rfl⟩

theorem dty_u8 {n : Nat} {ds : List Dat} (h : DTy tbl n 5 ds) : ∃ x : Int, ds = [.v (.int .u8 x)] ∧ 0 ≤ x ∧ x ≤ 255 := by
  cases n with
  | zero => exact h.elim
  | succ n =>
    simp only [DTy, tbl] at h
    obtain ⟨x, rfl, hw⟩ := h
    exact ⟨x, rfl, wf_u8 hw⟩

theorem dty_i64 {n : Nat} {ds : List Dat} (h : DTy tbl n 3 ds) : ∃ x : Int, ds = [.v (.int .i64 x)] ∧ -9223372036854775808 ≤ x ∧ x ≤ 9223372036854775807 := by
  cases n with
  | zero => exact h.elim
  | succ n =>
    simp only [DTy, tbl] at h
    obtain ⟨x, rfl, hw⟩ := h
    exact ⟨x, rfl, wf_i64 hw⟩

theorem far_false {l : List Act} (h : farL l = false) : l.length ≤ 60 ∧ ∀ x ∈ l, 0 ≤ x.kind ∧ x.kind ≤ 8 := by
  simp [farL] at h
  refine ⟨h.1, fun x hx => ?_⟩
  have := h.2 x hx
  simp [Act.far] at this
  omega
end Go.Proofs.Dev

/- Two disks. -/
set_option linter.unusedVariables false
set_option linter.unusedSimpArgs false
namespace Go.Proofs.Dev
open Go.Am
set_option maxRecDepth 100000
attribute [local simp] tbl

/-- Both disks, as they stand. -/
structure Two (G : List AObj) (a b : DK) (s t : DS) (f : Fs) (n : Nat) : Prop where
  da : ∃ ml ms, DAt G a s ml ms
  db : ∃ ml ms, DAt G b t ml ms
  dis : ∀ j ∈ a.ids, j ∉ b.ids
  sa : SA s f n
  sb : SA t f (2 * n)
  waits : t.waits.length ≤ s.waits.length
  deeds : s.deeds ≤ t.deeds

def TwoI (l : List Act) (a b : DK) (i : Nat) (G : List AObj) : Prop := i ≤ l.length ∧ ∃ a' b' s t f, a'.i = a.i ∧ b'.i = b.i ∧ Two G a' b' s t f i

theorem two_law (l : List Act) (every : Int) (he : 0 ≤ every ∧ every ≤ 255) : ACall Try.prog 4 [.d (.l (actRows l)), u8 every] [] (fun r _ => r = boo true) := by
  refine ACall.go tblOk pmixed [] Try.func4 (c := _) rfl rfl (by kernel_rfl) ?_
  simp
  refine call_to alive_ok rfl rfl rfl fun r G1 ⟨h1, _⟩ => ?_
  subst h1
  simp
  refine call_v (far_ok l) rfl rfl rfl ?_
  simp
  refine x_cond rfl (fun h => ?_) (fun h => ?_)
  · simp
  obtain ⟨hlen, hkind⟩ := far_false h
  simp
  refine call_to (new_ok' 1048576 (by omega)) rfl rfl rfl fun r G2 ⟨a, h1, da, x1, l1, y1, z1⟩ => ?_
  subst h1
  simp
  refine call_to (new_ok' 1048576 (by omega)) rfl rfl rfl fun r G3 ⟨b, h1, db, x2, l2, y2, z2⟩ => ?_
  subst h1
  simp
  have T0 : Two G3 a b (newS 1048576) (newS 1048576) [] 0 :=
    ⟨⟨_, _, da.keep fun j hj => x2 j (z1 j hj)⟩, ⟨_, _, db⟩, fun j hj hm => by have := z1 j hj; have := y2 j hm; omega, SA.new, SA.new, by simp [newS], by simp [newS]⟩
  refine x_loop tblOk pmixed (fun x : Nat × List AObj => { s := [.d (.l (actRows l)), u8 every, .any, .any, boo false, .p (.g a.i) (.ref 0), .any, .p (.g b.i) (.ref 0), .any, int x.1] ++ List.replicate 88 .any, L := [], G := x.2 })
    (fun x => TwoI l a b x.1 x.2) (fun x => l.length - x.1) [] (by kernel_rfl) (0, G3) ⟨Nat.zero_le _, a, b, _, _, _, rfl, rfl, T0⟩ (Weak.slots (by simp) (by simp) (by simp)) (fun x hx => ?_)
  obtain ⟨i, G⟩ := x
  obtain ⟨hi, a', b', s, t, f, ea, eb, T⟩ := hx
  simp only at hi T ⊢
  simp [len_actRows]
  refine x_condD rfl (fun ht => ?_) (fun ht => ?_)
  · replace ht : i < l.length := by omega
    have hx : l[i]? = some l[i] := List.getElem?_eq_getElem ht
    have hkx := hkind l[i] (List.getElem_mem ht)
    generalize l[i] = x at *
    simp [at_actRows hx, Act.enc]
    refine x_condD rfl (fun h4 => ?_) (fun h4 => ?_)
    · simp
      refine ⟨i + 1, G, ⟨by omega, a', b', s, t, f, ea, eb, T.da, T.db, T.dis, T.sa.mono (by omega), T.sb.mono (by omega), T.waits, T.deeds⟩, by omega, Weak.slots ?_ (by simp) (by simp)⟩
      simp
      exact w64 (by omega) (by omega)
    · obtain ⟨mla, msa, da⟩ := T.da
      obtain ⟨s', as', sa', wa, dea, _⟩ := T.sa.act x (by omega)
      obtain ⟨t', at', sb', wb, deb, _⟩ := T.sb.act x (by omega)
      have ma := act_ok da (T.sa.ok (by omega)) ⟨by rw [T.sa.seen, T.sa.room]; exact T.sa.used, by rw [T.sa.room]; omega⟩ x (by omega)
      rw [as'] at ma
      simp [at_actRows hx, Act.enc]
      rw [← ea]
      refine call_to ma rfl rfl rfl fun r G' ⟨ka, mla', msa', h1, da', fa⟩ => ?_
      subst h1
      obtain ⟨mlb, msb, db⟩ := T.db
      have sp := sep_step db T.dis fa
      have mb := act_ok sp.1 (T.sb.ok (by omega)) ⟨by rw [T.sb.seen, T.sb.room]; exact T.sb.used, by rw [T.sb.room]; omega⟩ x (by omega)
      rw [at'] at mb
      simp [at_actRows hx, Act.enc]
      rw [← eb]
      refine call_to mb rfl rfl rfl fun r G'' ⟨kb, mlb', msb', h1, db', fb⟩ => ?_
      subst h1
      have sp2 := sep_step da' (fun j hj hm => sp.2 j hm hj) fb
      simp
      have T2 : Two G'' ka kb s' t' (if errF 1048576 f x = 0 then doF f (deedOf x) else f) (i + 1) :=
        ⟨⟨_, _, sp2.1⟩, ⟨_, _, db'⟩, fun j hj hm => sp2.2 j hm hj, sa', sb'.mono (by omega), by rw [wa, wb]; have := T.waits; split <;> simp <;> omega, by rw [dea, deb]; have := T.deeds; omega⟩
      have hv : IntKind.i64.wrap every = every := w64 (by omega) (by omega)
      have hm0 : 0 ≤ every.tmod 5 := Int.tmod_nonneg 5 he.1
      have hm5 : every.tmod 5 < 5 := Int.tmod_lt_of_pos every (by omega)
      have hd : IntKind.i64.wrap (1 + every.tmod 5) = 1 + every.tmod 5 := w64 (by omega) (by omega)
      have hn : ¬ (1 + every.tmod 5 = 0) := by omega
      simp [hv, hd, hn]
      refine x_cond rfl (fun hc => ?_) (fun hc => ?_)
      · simp
        obtain ⟨es, ss⟩ := sb'.sync
        have ms := sync_ok db' (T2.sb.ok (by omega))
        rw [es] at ms
        rw [← fb.i]
        refine call_to ms rfl rfl rfl fun r G3' ⟨kc, mlc, h1, dc, fc⟩ => ?_
        subst h1
        have hw0 : IntKind.i64.wrap 0 = 0 := by decide
        simp [hw0]
        have sp3 := sep_step sp2.1 sp2.2 fc
        have mc := crash_ok dc ss.can (show ([] : List Deed).length ≤ _ by simp) 0 0
        rw [← fc.i]
        refine call_to mc rfl rfl rfl fun r G4 ⟨kd, mld, h1, dd, fd⟩ => ?_
        subst h1
        simp
        have sp4 := sep_step sp3.1 sp3.2 fd
        obtain ⟨sc, wc, dec⟩ := ss.crash 0 0 rfl
        refine ⟨i + 1, G4, ⟨by omega, ka, kd, s', _, _, by rw [fa.i, ea], by rw [fd.i, fc.i, fb.i, eb], ⟨_, _, sp4.1⟩, ⟨_, _, dd⟩, fun j hj hm => sp4.2 j hm hj, T2.sa, sc.mono (by omega), by rw [wc]; simp, by rw [dec]; have := T2.deeds; show s'.deeds ≤ t'.deeds + 1; omega⟩, by omega, Weak.slots ?_ (by simp) (by simp)⟩
        simp
        exact w64 (by omega) (by omega)
      · simp
        refine ⟨i + 1, G'', ⟨by omega, ka, kb, s', t', _, by rw [fa.i, ea], by rw [fb.i, eb], T2⟩, by omega, Weak.slots ?_ (by simp) (by simp)⟩
        simp
        exact w64 (by omega) (by omega)
  · simp
    obtain ⟨mla, msa, da⟩ := T.da
    obtain ⟨mlb, msb, db⟩ := T.db
    obtain ⟨z1, z2, z3, z4⟩ := T.sa.sizes
    obtain ⟨y1, y2, y3, y4⟩ := T.sb.sizes
    rw [← ea, ← eb]
    refine call_to (read_law_ok da z1 z2 z3 z4) rfl rfl rfl fun r G' ⟨la, hsa, h1, da', fa⟩ => ?_
    subst h1
    have sp := sep_step db T.dis fa
    simp
    refine call_to (read_law_ok sp.1 y1 y2 y3 y4) rfl rfl rfl fun r G'' ⟨lb, hsb, h1, db', fb⟩ => ?_
    subst h1
    have sp2 := sep_step da' (fun j hj hm => sp.2 j hm hj) fb
    have hl : la = lb := sorted_unique hsa hsb (by rw [T.sa.seen, T.sb.seen])
    have hr : readL s la = readL t lb := by
      rw [readL_eq T.sa.down (by rw [T.sa.seen]; exact T.sa.good) hsa, readL_eq T.sb.down (by rw [T.sb.seen]; exact T.sb.good) hsb, T.sa.seen, T.sb.seen, hl]
    simp
    refine call_v (same_ok _ _) rfl rfl rfl ?_
    simp [hr]
    have hua : usedF s.seen ≤ 9223372036854775807 := by rw [T.sa.seen]; have := T.sa.used; omega
    have hub : usedF t.seen ≤ 9223372036854775807 := by rw [T.sb.seen]; have := T.sb.used; omega
    refine call_v (used_ok sp2.1 hua) rfl rfl rfl ?_
    simp [hr]
    refine call_v (used_ok db' hub) rfl rfl rfl ?_
    simp [hr, T.sa.seen, T.sb.seen]
    refine call_v (waits_ok db') rfl rfl rfl ?_
    simp [hr, T.sa.seen, T.sb.seen]
    refine call_v (waits_ok sp2.1) rfl rfl rfl ?_
    have hwl := T.waits
    simp [hr, T.sa.seen, T.sb.seen, hwl]
    refine call_v (deeds_ok db') rfl rfl rfl ?_
    simp [hr, T.sa.seen, T.sb.seen, hwl]
    refine call_v (deeds_ok sp2.1) rfl rfl rfl ?_
    simp [T.deeds]
end Go.Proofs.Dev
