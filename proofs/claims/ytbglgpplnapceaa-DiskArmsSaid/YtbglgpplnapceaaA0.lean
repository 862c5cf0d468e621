/- Part 0 of the proof: lemmas on an abstract reading of the machine, and the functions that the law reaches. -/
import Derived.Calls
import Derived.Orders
import Derived.Laws.Sem
import Derived.Laws.World
import Derived.Laws.Cells
import Derived.Laws.Entries
import Derived.Laws.Slices
import Derived.Laws.AppendOwn
import Derived.Laws.BytesString
import Derived.Laws.Strings
import Derived.Laws.Tables
import Derived.Laws.CopyRow
/- The values, objects and relations of an abstract reading of the machine's memory, and how they last while the memory grows. -/
namespace Go.Am

/-- A datum that never changes any more: one cell. -/
inductive Dat where
  | v (x : Value)
  | l (rows : List (List Dat))
deriving Inhabited

abbrev FHeap := Nat → Option Obj

def FHeap.In (h : FHeap) (w : World) : Prop := ∀ b o, h b = some o → w.heap[b]? = some o

def FHeap.cell (h : FHeap) (a : Addr) : Option Value :=
  match h a.block with
  | some (.cells c _ _) => if a.spot.isSome then none else c[a.off]?
  | _ => none

theorem FHeap.In.cell {h : FHeap} {w : World} (hw : h.In w) {a : Addr} {x : Value} (hx : h.cell a = some x) : w.cell? a = some x := by
  unfold FHeap.cell at hx
  unfold World.cell?
  split at hx
  · rename_i c e f hb
    rw [hw _ _ hb]; exact hx
  · cases hx

def FHeap.le (h h' : FHeap) : Prop := ∀ b o, h b = some o → h' b = some o
theorem FHeap.le.refl (h : FHeap) : h.le h := fun _ _ x => x
theorem FHeap.le.trans {a b c : FHeap} (x : a.le b) (y : b.le c) : a.le c := fun _ _ z => y _ _ (x _ _ z)
theorem FHeap.le.cell {h h' : FHeap} (l : h.le h') {a : Addr} {x : Value} (hx : h.cell a = some x) : h'.cell a = some x := by
  unfold FHeap.cell at *
  split at hx
  · rename_i c e f hb
    rw [l _ _ hb]; exact hx
  · cases hx

inductive Rep (h : FHeap) : Dat → Value → Prop
  | v {x : Value} (hx : x.oneCell' = true) : Rep h (.v x) x
  | l {rows : List (List Dat)} {a : Option Addr} {c : Nat} (size : Nat) (cs : Nat → Value)
      (hrow : ∀ r ∈ rows, r.length = size) (hcap : rows.length ≤ c) (hmax : c ≤ maxLen)
      (hcell : 0 < rows.length → ∃ ad, a = some ad ∧ ∀ i, i < rows.length * size → h.cell (ad.add i) = some (cs i))
      (hrep : ∀ (j : Nat) (r : List Dat) (k : Nat) (d : Dat), rows[j]? = some r → r[k]? = some d → Rep h d (cs (j * size + k))) :
      Rep h (.l rows) (.slice a rows.length c)

theorem Rep.mono {h h' : FHeap} (l : h.le h') {d : Dat} {x : Value} (r : Rep h d x) : Rep h' d x := by
  induction r with
  | v hx => exact .v hx
  | l size cs hrow hcap hmax hcell _ ih =>
    refine .l size cs hrow hcap hmax (fun hp => ?_) ih
    obtain ⟨ad, ha, hc⟩ := hcell hp
    exact ⟨ad, ha, fun i hi => l.cell (hc i hi)⟩

theorem Rep.oneCell {h : FHeap} {d : Dat} {x : Value} (r : Rep h d x) : x.oneCell' = true := by
  cases r with
  | v hx => exact hx
  | l => rfl

/-- An object's place: one of the call's own, or one that came in. -/
inductive Loc where
  | l (i : Nat)
  | g (i : Nat)
deriving DecidableEq

/-- How a value leads to an object. -/
inductive PK where
  | own (gen : Nat)
  | ref (off : Nat)
  | aref (gen row off : Nat)
  | mp
deriving DecidableEq

inductive AVal where
  | any
  | nils
  | d (x : Dat)
  | clip (rows : List (List Dat))
  | p (p : Loc) (k : PK)
  | elem (ds : List Dat)
  | clo (fn : Fn) (first caps : List AVal)
  | agg (cs : List AVal)
  | tup (vs : List AVal)
deriving Inhabited

/-- An entry of a map, and when it was born. -/
structure MEnt where
  k : Value
  v : AVal
  b : Nat
deriving Inhabited

inductive AObj where
  | dead
  | cells (cs : List AVal)
  | arr (size gen : Nat) (rows : List (List Dat))
  | frz (size gen : Nat) (rows : List (List Dat))
  | map (es : List MEnt) (clock : Nat)
  | iter (m : AVal) (since : Nat) (seen : List Nat) (last : Nat)

def AObj.live : AObj → Bool
  | .dead | .frz .. => false
  | _ => true

structure Env where
  h : FHeap
  lb : List (Option (Nat × Nat))
  gb : List (Option (Nat × Nat))

def Env.blk (e : Env) : Loc → Option (Nat × Nat)
  | .l i => (e.lb[i]?).join
  | .g i => (e.gb[i]?).join

def obj (L G : List AObj) : Loc → Option AObj
  | .l i => L[i]?
  | .g i => G[i]?

def hdr (b : Option (Nat × Nat)) (n : Nat) : Value :=
  match b with
  | none => .slice none 0 0
  | some (b, cap) => .slice (some ⟨b, 0, none⟩) n cap

/-- What a value that leads to an object is. A header that is no longer the newest one says nothing. -/
def PRel (h : FHeap) (blk : Option (Nat × Nat)) (o : Option AObj) (k : PK) (v : Value) : Prop :=
  match o with
  | none => False
  | some .dead => v.oneCell' = true
  | some (.cells _) => match k with
    | .ref off => ∃ b c, blk = some (b, c) ∧ v = .pointer (some ⟨b, off, none⟩)
    | _ => False
  | some (.map _ _) => match k with
    | .mp => ∃ b c, blk = some (b, c) ∧ v = .map (some b)
    | _ => False
  | some (.arr size g' rows) => match k with
    | .own g => v.oneCell' = true ∧ g ≤ g' ∧ (g = g' → v = hdr blk rows.length)
    | .aref g row off => v.oneCell' = true ∧ g ≤ g' ∧ (g = g' → ∃ b c, blk = some (b, c) ∧ v = .pointer (some ⟨b, row * size + off, none⟩))
    | _ => False
  | some (.frz _ g' rows) => match k with
    | .own g => v.oneCell' = true ∧ g ≤ g' ∧ (g = g' → Rep h (.l rows) v)
    | _ => v.oneCell' = true
  | some (.iter ..) => match k with
    | .ref 0 => ∃ b c, blk = some (b, c) ∧ v = .pointer (some ⟨b, 0, none⟩)
    | _ => False

inductive VRel (e : Env) (ob : Loc → Option AObj) : AVal → Value → Prop
  | any {v : Value} : VRel e ob .any v
  | nils : VRel e ob .nils (.slice none 0 0)
  | d {x : Dat} {v : Value} (r : Rep e.h x v) : VRel e ob (.d x) v
  | clip {rows : List (List Dat)} {a : Option Addr} {n : Nat} (r : Rep e.h (.l rows) (.slice a n n)) : VRel e ob (.clip rows) (.slice a n n)
  | p {p : Loc} {k : PK} {v : Value} (r : PRel e.h (e.blk p) (ob p) k v) : VRel e ob (.p p k) v
  | elem {ds : List Dat} {a : Addr} (cs : Nat → Value) (hc : ∀ k, k < ds.length → e.h.cell (a.add k) = some (cs k))
      (hr : ∀ (k : Nat) (x : Dat), ds[k]? = some x → Rep e.h x (cs k)) : VRel e ob (.elem ds) (.pointer (some a))
  | clo {fn : Fn} {first caps : List AVal} {fs cs : Array Value} (h1 : fs.size = first.length) (h2 : cs.size = caps.length)
      (r1 : ∀ (k : Nat) (x : AVal) (v : Value), first[k]? = some x → fs[k]? = some v → VRel e ob x v)
      (r2 : ∀ (k : Nat) (x : AVal) (v : Value), caps[k]? = some x → cs[k]? = some v → VRel e ob x v) : VRel e ob (.clo fn first caps) (.func fn fs cs)
  | agg {cs : List AVal} {vs : Array Value} (h1 : vs.size = cs.length)
      (r1 : ∀ (k : Nat) (x : AVal) (v : Value), cs[k]? = some x → vs[k]? = some v → VRel e ob x v) : VRel e ob (.agg cs) (.agg vs)
  | tup {cs : List AVal} {vs : Array Value} (h1 : vs.size = cs.length)
      (r1 : ∀ (k : Nat) (x : AVal) (v : Value), cs[k]? = some x → vs[k]? = some v → VRel e ob x v) : VRel e ob (.tup cs) (.tuple vs)

/-- Values last. -/
structure EMono (e e' : Env) (ob ob' : Loc → Option AObj) : Prop where
  h : e.h.le e'.h
  p : ∀ p k v, PRel e.h (e.blk p) (ob p) k v → PRel e'.h (e'.blk p) (ob' p) k v

theorem VRel.mono {e e' : Env} {ob ob' : Loc → Option AObj} (m : EMono e e' ob ob') {x : AVal} {v : Value} (r : VRel e ob x v) : VRel e' ob' x v := by
  induction r with
  | any => exact .any
  | nils => exact .nils
  | d r => exact .d (r.mono m.h)
  | clip r => exact .clip (r.mono m.h)
  | p r => exact .p (m.p _ _ _ r)
  | elem cs hc hr => exact .elem cs (fun k hk => m.h.cell (hc k hk)) (fun k x hx => (hr k x hx).mono m.h)
  | clo h1 h2 _ _ ih1 ih2 => exact .clo h1 h2 ih1 ih2
  | agg h1 _ ih => exact .agg h1 ih
  | tup h1 _ ih => exact .tup h1 ih

/-- A value that names none of the call's own objects. -/
def AVal.glob : AVal → Bool
  | .p (.l _) _ => false
  | .clo _ f c => globs f && globs c
  | .agg cs => globs cs
  | .tup cs => globs cs
  | _ => true
where globs : List AVal → Bool
  | [] => true
  | x :: xs => x.glob && globs xs

theorem globs_at : ∀ {l : List AVal} {k : Nat} {x : AVal}, AVal.glob.globs l = true → l[k]? = some x → x.glob = true
  | y :: ys, 0, x, h, hx => by simp [AVal.glob.globs] at h hx; rw [← hx]; exact h.1
  | y :: ys, k + 1, x, h, hx => by
    simp only [AVal.glob.globs, Bool.and_eq_true] at h
    exact globs_at h.2 (by simpa using hx)

/-- What came in lasts. -/
structure GMono (e e' : Env) (G G' : List AObj) : Prop where
  h : e.h.le e'.h
  p : ∀ i k v, PRel e.h (e.blk (.g i)) G[i]? k v → PRel e'.h (e'.blk (.g i)) G'[i]? k v

theorem GMono.refl (e : Env) (G : List AObj) : GMono e e G G := ⟨.refl _, fun _ _ _ h => h⟩
theorem GMono.trans {a b c : Env} {F G H : List AObj} (x : GMono a b F G) (y : GMono b c G H) : GMono a c F H :=
  ⟨x.h.trans y.h, fun i k v h => y.p i k v (x.p i k v h)⟩

theorem VRel.gmono {e e' : Env} {L L' G G' : List AObj} (m : GMono e e' G G') {x : AVal} {v : Value} (r : VRel e (obj L G) x v) (hg : x.glob = true) :
    VRel e' (obj L' G') x v := by
  induction r with
  | any => exact .any
  | nils => exact .nils
  | d r => exact .d (r.mono m.h)
  | clip r => exact .clip (r.mono m.h)
  | @p p k v r =>
    cases p with
    | l i => simp [AVal.glob] at hg
    | g i => exact .p (m.p i k v r)
  | elem cs hc hr => exact .elem cs (fun k hk => m.h.cell (hc k hk)) (fun k x hx => (hr k x hx).mono m.h)
  | clo h1 h2 _ _ ih1 ih2 =>
    simp only [AVal.glob, Bool.and_eq_true] at hg
    exact .clo h1 h2 (fun k x v hx hv => ih1 k x v hx hv (globs_at hg.1 hx)) (fun k x v hx hv => ih2 k x v hx hv (globs_at hg.2 hx))
  | agg h1 _ ih => simp only [AVal.glob] at hg; exact .agg h1 (fun k x v hx hv => ih k x v hx hv (globs_at hg hx))
  | tup h1 _ ih => simp only [AVal.glob] at hg; exact .tup h1 (fun k x v hx hv => ih k x v hx hv (globs_at hg hx))

def RowsRel (h : FHeap) (size : Nat) (rows : List (List Dat)) (cs : Nat → Option Value) : Prop :=
  (∀ r ∈ rows, r.length = size) ∧
  ∀ (j : Nat) (r : List Dat) (k : Nat) (d : Dat), rows[j]? = some r → r[k]? = some d → ∃ x, cs (j * size + k) = some x ∧ Rep h d x

/-- What lies in memory for an object. -/
def ORel (e : Env) (ob : Loc → Option AObj) (w : World) (blk : Option (Nat × Nat)) : AObj → Prop
  | .dead => True
  | .frz .. => True
  | .cells cs => ∃ b c vs t, blk = some (b, c) ∧ w.heap[b]? = some (.cells vs t (0, 0)) ∧ vs.size = cs.length ∧
      ∀ (k : Nat) (x : AVal) (v : Value), cs[k]? = some x → vs[k]? = some v → VRel e ob x v ∧ v.oneCell' = true
  | .arr size _ rows => match blk with
    | none => rows = []
    | some (b, cap) => ∃ vs t, w.heap[b]? = some (.cells vs t (0, 0)) ∧ vs.size = cap * size ∧ rows.length ≤ cap ∧ cap ≤ maxLen ∧ RowsRel e.h size rows (fun i => vs[i]?)
  | .map es clock => ∃ b c ens, blk = some (b, c) ∧ w.heap[b]? = some (.map ens clock) ∧ ens.size = es.length ∧
      (∀ (i : Nat) (kv : MEnt) (en : MapEntry), es[i]? = some kv → ens[i]? = some en → en.key = kv.k ∧ VRel e ob kv.v en.val ∧ en.born = kv.b)
  | .iter m since seen last => ∃ b c mv sn, blk = some (b, c) ∧ w.heap[b]? = some (.mapIter mv since sn last) ∧ sn.toList = seen ∧ VRel e ob m (.map mv)

/-- An object that names none of the call's own objects. -/
def AObj.globO : AObj → Bool
  | .cells cs => AVal.glob.globs cs
  | .map es _ => AVal.glob.globs (es.map (·.v))
  | .iter m _ _ _ => m.glob
  | _ => true

/-- The abstract heap stands for the world. -/
structure HRel (e : Env) (L G : List AObj) (w : World) : Prop where
  hin : e.h.In w
  ll : e.lb.length = L.length
  gl : e.gb.length = G.length
  o : ∀ p x, obj L G p = some x → ORel e (obj L G) w (e.blk p) x
  free : ∀ p x b c, obj L G p = some x → x.live = true → e.blk p = some (b, c) → e.h b = none ∧ b < w.heap.size
  inj : ∀ p q x y b c d, obj L G p = some x → obj L G q = some y → x.live = true → y.live = true → e.blk p = some (b, c) → e.blk q = some (b, d) → p = q
  gg : ∀ x ∈ G, x.globO = true

structure St where
  s : List AVal
  L : List AObj
  G : List AObj

def St.get (σ : St) (t : Nat) : AVal := σ.s.getD t .any
def St.put (σ : St) (d : Option Nat) (x : AVal) : St := match d with | some t => { σ with s := σ.s.set t x } | none => σ

structure SRel (e : Env) (σ : St) (a : Act) (w : World) : Prop where
  d : a.defers = []
  sz : a.tmps.size = σ.s.length
  s : ∀ (t : Nat) (x : AVal) (v : Value), σ.s[t]? = some x → a.tmps[t]? = some v → VRel e (obj σ.L σ.G) x v
  h : HRel e σ.L σ.G w

/-- Is a block one of the objects'? -/
def Env.has (e : Env) (L G : List AObj) (b : Nat) : Prop := ∃ p x c, obj L G p = some x ∧ x.live = true ∧ e.blk p = some (b, c)

/-- What a piece of code may do to memory. -/
structure Evo (e : Env) (L G : List AObj) (w : World) (e' : Env) (L' G' : List AObj) (w' : World) : Prop where
  os : w'.os = w.os
  tape : w'.tape = w.tape
  output : w'.output = w.output
  size : w.heap.size ≤ w'.heap.size
  old : ∀ b, b < w.heap.size → ¬ e.has L G b → w'.heap[b]? = w.heap[b]? ∧ e'.h b = e.h b
  has : ∀ b, e'.has L' G' b → b < w.heap.size → e.has L G b
  m : GMono e e' G G'

theorem Evo.refl (e : Env) (L G : List AObj) (w : World) : Evo e L G w e L G w :=
  ⟨rfl, rfl, rfl, Nat.le_refl _, fun _ _ _ => ⟨rfl, rfl⟩, fun _ h _ => h, .refl _ _⟩

theorem Evo.trans {e1 e2 e3 : Env} {L1 L2 L3 G1 G2 G3 : List AObj} {w1 w2 w3 : World} (x : Evo e1 L1 G1 w1 e2 L2 G2 w2) (y : Evo e2 L2 G2 w2 e3 L3 G3 w3) :
    Evo e1 L1 G1 w1 e3 L3 G3 w3 where
  os := y.os.trans x.os
  tape := y.tape.trans x.tape
  output := y.output.trans x.output
  size := Nat.le_trans x.size y.size
  old := fun b hb hn => by
    have h1 := x.old b hb hn
    have h2 := y.old b (Nat.lt_of_lt_of_le hb x.size) (fun h => hn (x.has b h hb))
    exact ⟨h2.1.trans h1.1, h2.2.trans h1.2⟩
  has := fun b h hb => x.has b (y.has b h (Nat.lt_of_lt_of_le hb x.size)) hb
  m := x.m.trans y.m

end Go.Am

/- How the abstract heap follows the world: a draw, a new frozen block, a new variable, stores into a variable. -/
namespace Go.Am

theorem ORel.step {e e' : Env} {ob ob' : Loc → Option AObj} {w w' : World} {blk : Option (Nat × Nat)} {x : AObj} (m : EMono e e' ob ob')
    (hh : x.live = true → ∀ b c, blk = some (b, c) → w'.heap[b]? = w.heap[b]?) (r : ORel e ob w blk x) : ORel e' ob' w' blk x := by
  cases x with
  | dead => trivial
  | frz => trivial
  | cells cs =>
    obtain ⟨b, c, vs, t, hb, hw, hs, hr⟩ := r
    exact ⟨b, c, vs, t, hb, by rw [hh rfl b c hb]; exact hw, hs, fun k x v hx hv => ⟨(hr k x v hx hv).1.mono m, (hr k x v hx hv).2⟩⟩
  | arr size g rows =>
    cases blk with
    | none => exact r
    | some bc =>
      obtain ⟨b, cap⟩ := bc
      obtain ⟨vs, t, hw, hs, hl, hm, hr1, hr2⟩ := r
      refine ⟨vs, t, by rw [hh rfl b cap rfl]; exact hw, hs, hl, hm, hr1, fun j r k d hj hk => ?_⟩
      obtain ⟨x, hx, hd⟩ := hr2 j r k d hj hk
      exact ⟨x, hx, hd.mono m.h⟩
  | map es =>
    obtain ⟨b, c, ens, hb, hw, hs, hr⟩ := r
    exact ⟨b, c, ens, hb, by rw [hh rfl b c hb]; exact hw, hs, fun i kv en hx hv => ⟨(hr i kv en hx hv).1, (hr i kv en hx hv).2.1.mono m, (hr i kv en hx hv).2.2⟩⟩
  | iter mm since seen last =>
    obtain ⟨b, c, mv, sn, hb, hw, hs, hr⟩ := r
    exact ⟨b, c, mv, sn, hb, by rw [hh rfl b c hb]; exact hw, hs, hr.mono m⟩

theorem obj_append_l {L G : List AObj} {x : AObj} (p : Loc) : obj (L ++ [x]) G p = if p = .l L.length then some x else obj L G p := by
  cases p with
  | g i => simp [obj]
  | l i =>
    simp only [obj, Loc.l.injEq]
    by_cases h : i < L.length
    · rw [List.getElem?_append_left h, if_neg (by omega)]
    · rw [List.getElem?_append_right (by omega)]
      by_cases h2 : i = L.length
      · subst h2; simp
      · rw [if_neg h2, List.getElem?_eq_none (by simp; omega), List.getElem?_eq_none (by omega)]

theorem blk_append_l {e : Env} {n : Nat} (hn : e.lb.length = n) {x : Option (Nat × Nat)} (p : Loc) :
    (Env.mk e.h (e.lb ++ [x]) e.gb).blk p = if p = .l n then x else e.blk p := by
  cases p with
  | g i => simp [Env.blk]
  | l i =>
    simp only [Env.blk, Loc.l.injEq]
    by_cases h : i < n
    · rw [List.getElem?_append_left (by omega), if_neg (by omega)]
    · rw [List.getElem?_append_right (by omega)]
      by_cases h2 : i = n
      · subst h2; simp [hn]
      · rw [if_neg h2, List.getElem?_eq_none (by simp; omega), List.getElem?_eq_none (by omega)]

theorem obj_l_lt {L G : List AObj} {p : Loc} {x : AObj} (h : obj L G p = some x) : p ≠ .l L.length := by
  rintro rfl
  simp [obj] at h

/-- The general step: each object is as it was, or stands anew. -/
theorem hrel_upd {e e' : Env} {L L' G G' : List AObj} {w w' : World} (H : HRel e L G w) (m : EMono e e' (obj L G) (obj L' G'))
    (hin : e'.h.In w') (ll : e'.lb.length = L'.length) (gl : e'.gb.length = G'.length)
    (ho : ∀ p x, obj L' G' p = some x → (obj L G p = some x ∧ e'.blk p = e.blk p ∧ (x.live = true → ∀ b c, e.blk p = some (b, c) → w'.heap[b]? = w.heap[b]?)) ∨
      ORel e' (obj L' G') w' (e'.blk p) x)
    (free : ∀ p x b c, obj L' G' p = some x → x.live = true → e'.blk p = some (b, c) → e'.h b = none ∧ b < w'.heap.size)
    (inj : ∀ p q x y b c d, obj L' G' p = some x → obj L' G' q = some y → x.live = true → y.live = true → e'.blk p = some (b, c) → e'.blk q = some (b, d) → p = q)
    (gg : ∀ x ∈ G', x.globO = true) : HRel e' L' G' w' where
  hin := hin
  ll := ll
  gl := gl
  o := fun p x hx => by
    rcases ho p x hx with ⟨h1, h2, h3⟩ | h
    · rw [h2]; exact ORel.step m h3 (H.o p x h1)
    · exact h
  free := free
  inj := inj
  gg := gg

theorem HRel.heap {e : Env} {L G : List AObj} {w w' : World} (H : HRel e L G w) (hw : w'.heap = w.heap) : HRel e L G w' where
  hin := fun b o h => by rw [hw]; exact H.hin b o h
  ll := H.ll
  gl := H.gl
  o := fun p x hx => ORel.step ⟨.refl _, fun _ _ _ h => h⟩ (fun _ b c _ => by rw [hw]) (H.o p x hx)
  free := fun p x b c h1 h2 h3 => by rw [hw]; exact H.free p x b c h1 h2 h3
  inj := H.inj
  gg := H.gg

theorem Evo.drew {e : Env} {L G : List AObj} {w : World} : Evo e L G w e L G w.drew :=
  ⟨rfl, rfl, rfl, Nat.le_refl _, fun _ _ _ => ⟨rfl, rfl⟩, fun _ h _ => h, .refl _ _⟩

theorem EMono.refl (e : Env) (ob : Loc → Option AObj) : EMono e e ob ob := ⟨.refl _, fun _ _ _ h => h⟩
theorem EMono.trans {a b c : Env} {x y z : Loc → Option AObj} (h : EMono a b x y) (k : EMono b c y z) : EMono a c x z :=
  ⟨h.h.trans k.h, fun p q v r => k.p p q v (h.p p q v r)⟩

/-- The frozen memory with one block more. -/
def FHeap.add (h : FHeap) (b : Nat) (o : Obj) : FHeap := fun b' => if b' = b then some o else h b'

theorem FHeap.In.lt {h : FHeap} {w : World} (hw : h.In w) {b : Nat} {o : Obj} (hb : h b = some o) : b < w.heap.size :=
  (Array.getElem?_eq_some_iff.1 (hw b o hb)).1

theorem FHeap.le_add {h : FHeap} {w : World} (hw : h.In w) {b : Nat} (hb : w.heap.size ≤ b) (o : Obj) : h.le (h.add b o) := fun b' o' h' => by
  have := hw.lt h'
  unfold FHeap.add
  rw [if_neg (by omega)]; exact h'

theorem heap_alloc_old {w : World} {o : Obj} {b : Nat} (h : b < w.heap.size) : (w.alloc o).heap[b]? = w.heap[b]? := by
  show (w.heap.push o)[b]? = _
  rw [Array.getElem?_push, if_neg (by omega)]

theorem heap_alloc_new' {w : World} {o : Obj} : (w.alloc o).heap[w.heap.size]? = some o := by
  show (w.heap.push o)[w.heap.size]? = _
  rw [Array.getElem?_push, if_pos rfl]

theorem emono_h {e : Env} {h' : FHeap} (l : e.h.le h') (ob : Loc → Option AObj) : EMono e ⟨h', e.lb, e.gb⟩ ob ob := ⟨l, fun p k v r => by
    unfold PRel at *
    have hb : (Env.mk h' e.lb e.gb).blk p = e.blk p := by cases p <;> rfl
    rw [hb]
    split at r
    · exact r
    · exact r
    · exact r
    · exact r
    · exact r
    · split at r
      · exact ⟨r.1, r.2.1, fun h => (r.2.2 h).mono l⟩
      · exact r
    · exact r⟩

/-- A new frozen block. -/
theorem hrel_frozen {e : Env} {L G : List AObj} {w : World} (H : HRel e L G w) (o : Obj) :
    HRel ⟨e.h.add w.heap.size o, e.lb, e.gb⟩ L G (w.alloc o) ∧ EMono e ⟨e.h.add w.heap.size o, e.lb, e.gb⟩ (obj L G) (obj L G) ∧
      Evo e L G w ⟨e.h.add w.heap.size o, e.lb, e.gb⟩ L G (w.alloc o) := by
  have hl := FHeap.le_add H.hin (Nat.le_refl w.heap.size) o
  have m := emono_h hl (obj L G)
  have hb : ∀ p, (Env.mk (e.h.add w.heap.size o) e.lb e.gb).blk p = e.blk p := fun p => by cases p <;> rfl
  have hin : (e.h.add w.heap.size o).In (w.alloc o) := fun b o' h => by
    unfold FHeap.add at h
    split at h
    · rename_i hbb; subst hbb; cases h; exact heap_alloc_new'
    · rw [heap_alloc_old (H.hin.lt h)]; exact H.hin b o' h
  refine ⟨hrel_upd H m hin H.ll H.gl (fun p x hx => .inl ⟨hx, hb p, fun hlv b c hbc => heap_alloc_old (H.free p x b c hx hlv hbc).2⟩) (fun p x b c hx hlv hbc => ?_) (fun p q x y b c d h1 h2 h3 h4 h5 h6 => ?_) H.gg, m, ?_⟩
  · rw [hb] at hbc
    have h1 := H.free p x b c hx hlv hbc
    refine ⟨?_, by simp; omega⟩
    show FHeap.add e.h w.heap.size o b = none
    unfold FHeap.add
    rw [if_neg (by omega)]; exact h1.1
  · rw [hb] at h5 h6; exact H.inj p q x y b c d h1 h2 h3 h4 h5 h6
  · refine ⟨rfl, rfl, rfl, by simp, fun b hbl _ => ⟨heap_alloc_old hbl, ?_⟩, fun b h _ => ?_, ⟨hl, fun i k v r => m.p (.g i) k v r⟩⟩
    · show FHeap.add e.h w.heap.size o b = _
      unfold FHeap.add
      rw [if_neg (by omega)]
    · obtain ⟨p, x, c, h1, h2, h3⟩ := h
      exact ⟨p, x, c, h1, h2, by rw [hb] at h3; exact h3⟩

/-- A new object of the call's own in a new block. -/
theorem hrel_new {e : Env} {L G : List AObj} {w : World} (H : HRel e L G w) (x : AObj) (o : Obj) (c : Nat)
    (hx : ∀ e', EMono e e' (obj L G) (obj (L ++ [x]) G) → ORel e' (obj (L ++ [x]) G) (w.alloc o) (some (w.heap.size, c)) x) :
    HRel ⟨e.h, e.lb ++ [some (w.heap.size, c)], e.gb⟩ (L ++ [x]) G (w.alloc o) ∧
      EMono e ⟨e.h, e.lb ++ [some (w.heap.size, c)], e.gb⟩ (obj L G) (obj (L ++ [x]) G) ∧
      Evo e L G w ⟨e.h, e.lb ++ [some (w.heap.size, c)], e.gb⟩ (L ++ [x]) G (w.alloc o) := by
  have hb := @blk_append_l e L.length H.ll (some (w.heap.size, c))
  have ho := @obj_append_l L G x
  have m : EMono e ⟨e.h, e.lb ++ [some (w.heap.size, c)], e.gb⟩ (obj L G) (obj (L ++ [x]) G) := ⟨.refl _, fun p k v r => by
    cases hp : obj L G p with
    | none => rw [hp] at r; simp [PRel] at r
    | some y =>
      rw [ho, hb, if_neg (obj_l_lt hp), if_neg (obj_l_lt hp)]; exact r⟩
  have hold : ∀ p y b d, obj L G p = some y → y.live = true → e.blk p = some (b, d) → b < w.heap.size := fun p y b d h1 h2 h3 => (H.free p y b d h1 h2 h3).2
  refine ⟨hrel_upd H m (fun b o' h => ?_) (by simp [H.ll]) H.gl (fun p y hy => ?_) (fun p y b d hy hlv hbd => ?_) (fun p q y z b d d' h1 h2 h3 h4 h5 h6 => ?_) H.gg, m, ?_⟩
  · rw [heap_alloc_old (H.hin.lt h)]; exact H.hin b o' h
  · rw [ho] at hy
    by_cases hp : p = .l L.length
    · rw [if_pos hp] at hy; cases hy
      refine .inr ?_
      rw [hb, if_pos hp]
      exact hx _ m
    · rw [if_neg hp] at hy
      refine .inl ⟨hy, by rw [hb, if_neg hp], fun hlv b d hbd => heap_alloc_old (hold p y b d hy hlv hbd)⟩
  · rw [ho] at hy; rw [hb] at hbd
    by_cases hp : p = .l L.length
    · rw [if_pos hp] at hbd; cases hbd
      refine ⟨?_, by simp⟩
      cases hh : e.h w.heap.size with
      | none => rfl
      | some o' => have := H.hin.lt hh; omega
    · rw [if_neg hp] at hy hbd
      have := H.free p y b d hy hlv hbd
      exact ⟨this.1, by simp; omega⟩
  · rw [ho] at h1 h2; rw [hb] at h5 h6
    by_cases hp : p = .l L.length <;> by_cases hq : q = .l L.length
    · rw [hp, hq]
    · rw [if_pos hp] at h5; rw [if_neg hq] at h2 h6; cases h5
      have := hold q z _ _ h2 h4 h6; omega
    · rw [if_neg hp] at h1 h5; rw [if_pos hq] at h6; cases h6
      have := hold p y _ _ h1 h3 h5; omega
    · rw [if_neg hp] at h1 h5; rw [if_neg hq] at h2 h6
      exact H.inj p q y z b d d' h1 h2 h3 h4 h5 h6
  · refine ⟨rfl, rfl, rfl, by simp, fun b hbl _ => ⟨heap_alloc_old hbl, rfl⟩, fun b h hbl => ?_, ⟨.refl _, fun i k v r => r⟩⟩
    obtain ⟨p, y, d, h1, h2, h3⟩ := h
    rw [ho] at h1; rw [hb] at h3
    by_cases hp : p = .l L.length
    · rw [if_pos hp] at h3; cases h3; omega
    · rw [if_neg hp] at h1 h3; exact ⟨p, y, d, h1, h2, h3⟩

/-! ### Stores -/

def St.setObj (L G : List AObj) (p : Loc) (x : AObj) : List AObj × List AObj :=
  match p with
  | .l i => (L.set i x, G)
  | .g i => (L, G.set i x)

theorem obj_setObj {L G : List AObj} {p : Loc} {x y : AObj} (h : obj L G p = some y) (q : Loc) :
    obj (St.setObj L G p x).1 (St.setObj L G p x).2 q = if q = p then some x else obj L G q := by
  cases p with
  | l i =>
    have hi : i < L.length := by simp only [obj] at h; exact (List.getElem?_eq_some_iff.1 h).1
    cases q with
    | l j =>
      simp only [St.setObj, obj, Loc.l.injEq]
      by_cases hj : j = i
      · subst hj; simp [hi]
      · rw [if_neg hj, List.getElem?_set_ne (by omega)]
    | g j => simp [St.setObj, obj]
  | g i =>
    have hi : i < G.length := by simp only [obj] at h; exact (List.getElem?_eq_some_iff.1 h).1
    cases q with
    | g j =>
      simp only [St.setObj, obj, Loc.g.injEq]
      by_cases hj : j = i
      · subst hj; simp [hi]
      · rw [if_neg hj, List.getElem?_set_ne (by omega)]
    | l j => simp [St.setObj, obj]

theorem len_setObj {L G : List AObj} {p : Loc} {x : AObj} : (St.setObj L G p x).1.length = L.length ∧ (St.setObj L G p x).2.length = G.length := by
  cases p <;> simp [St.setObj]

theorem gg_setObj {L G : List AObj} (h : ∀ x ∈ G, x.globO = true) {p : Loc} {x : AObj} (hx : ∀ i, p = .g i → x.globO = true) : ∀ y ∈ (St.setObj L G p x).2, y.globO = true := by
  cases p with
  | l i => exact h
  | g i =>
    intro y hy
    rcases List.mem_or_eq_of_mem_set hy with h' | h'
    · exact h y h'
    · rw [h']; exact hx i rfl

/-- The world with a block turned. -/
def setBlk (w : World) (b : Nat) (o : Obj) : World := { w with heap := w.heap.setIfInBounds b o }

theorem heap_setBlk_ne {w : World} {b b' : Nat} {o : Obj} (h : b' ≠ b) : (setBlk w b o).heap[b']? = w.heap[b']? := by
  simp only [setBlk, Array.getElem?_setIfInBounds]
  rw [if_neg (by omega)]

theorem heap_setBlk_eq {w : World} {b : Nat} {o : Obj} (h : b < w.heap.size) : (setBlk w b o).heap[b]? = some o := by
  simp only [setBlk, Array.getElem?_setIfInBounds]
  simp [h]

@[simp] theorem size_setBlk (w : World) (b : Nat) (o : Obj) : (setBlk w b o).heap.size = w.heap.size := by simp [setBlk]

/-- An object turns, in its own block: what its readers saw they still see. -/
theorem hrel_set {e : Env} {L G : List AObj} {w : World} (H : HRel e L G w) {p : Loc} {y x : AObj} {b c : Nat} {o : Obj}
    (hp : obj L G p = some y) (hly : y.live = true) (hb : e.blk p = some (b, c))
    (hk : ∀ k v, PRel e.h (e.blk p) (some y) k v → PRel e.h (e.blk p) (some x) k v)
    (hx : ORel e (obj (St.setObj L G p x).1 (St.setObj L G p x).2) (setBlk w b o) (some (b, c)) x)
    (hgl : ∀ i, p = .g i → x.globO = true) :
    HRel e (St.setObj L G p x).1 (St.setObj L G p x).2 (setBlk w b o) ∧
      EMono e e (obj L G) (obj (St.setObj L G p x).1 (St.setObj L G p x).2) ∧
      Evo e L G w e (St.setObj L G p x).1 (St.setObj L G p x).2 (setBlk w b o) := by
  have ho := fun q => @obj_setObj L G p x y hp q
  have hl := @len_setObj L G p x
  have m : EMono e e (obj L G) (obj (St.setObj L G p x).1 (St.setObj L G p x).2) := ⟨.refl _, fun q k v r => by
    rw [ho]
    by_cases hq : q = p
    · rw [if_pos hq]; subst hq; rw [hp] at r; exact hk k v r
    · rw [if_neg hq]; exact r⟩
  have hfree := H.free p y b c hp hly hb
  have hne : ∀ q z b' d, q ≠ p → obj L G q = some z → z.live = true → e.blk q = some (b', d) → b' ≠ b := fun q z b' d hq h1 h2 h3 hbb => by
    subst hbb; exact hq (H.inj q p z y b' d c h1 hp h2 hly h3 hb)
  refine ⟨hrel_upd H m (fun b' o' h => ?_) (by rw [hl.1]; exact H.ll) (by rw [hl.2]; exact H.gl) (fun q z hz => ?_) (fun q z b' d hz hlv hbd => ?_) (fun q r z z' b' d d' h1 h2 h3 h4 h5 h6 => ?_) (gg_setObj H.gg hgl), m, ?_⟩
  · have : b' ≠ b := by rintro rfl; rw [hfree.1] at h; cases h
    rw [heap_setBlk_ne this]; exact H.hin b' o' h
  · rw [ho] at hz
    by_cases hq : q = p
    · rw [if_pos hq] at hz; cases hz; subst hq; right; rw [hb]; exact hx
    · rw [if_neg hq] at hz
      exact .inl ⟨hz, rfl, fun hlv b' d hbd => heap_setBlk_ne (hne q z b' d hq hz hlv hbd)⟩
  · rw [ho] at hz
    by_cases hq : q = p
    · subst hq; rw [hb] at hbd; cases hbd; exact ⟨hfree.1, by simp; exact hfree.2⟩
    · rw [if_neg hq] at hz
      have := H.free q z b' d hz hlv hbd
      exact ⟨this.1, by simp; exact this.2⟩
  · rw [ho] at h1 h2
    by_cases hq : q = p <;> by_cases hr : r = p
    · rw [hq, hr]
    · subst hq; rw [hb] at h5; cases h5; rw [if_neg hr] at h2; exact absurd rfl (hne r z' _ d' hr h2 h4 h6)
    · subst hr; rw [hb] at h6; cases h6; rw [if_neg hq] at h1; exact absurd rfl (hne q z _ d hq h1 h3 h5)
    · rw [if_neg hq] at h1; rw [if_neg hr] at h2; exact H.inj q r z z' b' d d' h1 h2 h3 h4 h5 h6
  · refine ⟨rfl, rfl, rfl, by simp, fun b' _ hn => ⟨heap_setBlk_ne ?_, rfl⟩, fun b' h _ => ?_, ⟨.refl _, fun i k v r => m.p (.g i) k v r⟩⟩
    · rintro rfl; exact hn ⟨p, y, c, hp, hly, hb⟩
    · obtain ⟨q, z, d, h1, h2, h3⟩ := h
      rw [ho] at h1
      by_cases hq : q = p
      · subst hq; exact ⟨q, y, d, hp, hly, h3⟩
      · rw [if_neg hq] at h1; exact ⟨q, z, d, h1, h2, h3⟩

end Go.Am

/- What the operations that leave memory alone yield, and that they do. -/
namespace Go.Am

inductive TyK where
  | int (k : IntKind) | bool | string | slice (e : Nat) | struct (fs : List (Nat × Nat)) | array (n e : Nat) | ptr (e : Nat) | map (k v : Nat) | func
deriving DecidableEq

structure TyE where
  k : TyK
  size : Nat
  bytes : Nat
  zero : List Value

def TyK.agg : TyK → Bool
  | .struct _ | .array _ _ => true
  | _ => false

def descFits : TypeDesc → TyK → Prop
  | .int k, .int k' => k = k'
  | .bool, .bool => True
  | .string, .string => True
  | .slice e, .slice e' => e = e'
  | .struct fs, .struct gs => fs.toList.map (fun f => (f.type, f.offset)) = gs
  | .array n e, .array n' e' => n = n' ∧ e = e'
  | .pointer e, .ptr e' => e = e'
  | .map k v, .map k' v' => k = k' ∧ v = v'
  | .func _ _ _, .func => True
  | _, _ => False

structure TyOk (P : Program) (t : Nat) (e : TyE) : Prop where
  u : ∃ d, P.underlying t = some d ∧ descFits d e.k
  i : ∃ i z, P.info? t = some i ∧ i.zero = some z ∧ i.size = e.size ∧ i.bytes = e.bytes ∧ z.cells.toList = e.zero
  z : e.zero.all (·.oneCell') = true
  l : e.zero.length = e.size
  one : e.k.agg = false → e.size = 1
  za : ∀ i z, P.info? t = some i → i.zero = some z → (e.k.agg = true → ∃ cs, z = .agg cs) ∧ (e.k.agg = false → z.oneCell' = true)

/-- Is it of cells, is it one? -/
def zShape : Value → Option Bool
  | .agg _ => some true
  | .tuple _ => none
  | _ => some false

abbrev Tbl := Nat → Option TyE
def TblOk (P : Program) (T : Tbl) : Prop := ∀ t e, T t = some e → TyOk P t e

def zeroA : Value → AVal
  | .slice none 0 0 => .nils
  | x => .d (.v x)

theorem zeroA_rel {e : Env} {ob : Loc → Option AObj} {v : Value} (h : v.oneCell' = true) : VRel e ob (zeroA v) v := by
  unfold zeroA
  split
  · exact .nils
  · exact .d (.v h)

def constA : Value → AVal
  | .agg cs => .agg (cs.toList.map zeroA)
  | .tuple _ => .any
  | x => zeroA x

theorem constA_rel {e : Env} {ob : Loc → Option AObj} {v : Value} (h : ∀ cs, v = .agg cs → cs.all (·.oneCell') = true) : VRel e ob (constA v) v := by
  unfold constA
  split
  · rename_i cs
    refine .agg (by simp) fun k x v hx hv => ?_
    simp only [List.getElem?_map, Array.getElem?_toList] at hx
    rw [hv] at hx
    simp at hx
    subst hx
    have := h cs rfl
    rw [Array.all_eq_true] at this
    obtain ⟨hk, he⟩ := Array.getElem?_eq_some_iff.1 hv
    exact zeroA_rel (by rw [← he]; exact this k hk)
  · exact .any
  · rename_i h1 h2
    refine zeroA_rel ?_
    cases v <;> first | rfl | (exact absurd rfl (h1 _)) | (exact absurd rfl (h2 _))

/-- Operands' constants that can be told. -/
def okConst : Operand → Bool
  | .const (.agg cs) => cs.all (·.oneCell')
  | _ => true

def St.ev (σ : St) : Operand → AVal
  | .tmp t => σ.get t
  | .const v => if okConst (.const v) then constA v else .any
  | .global g => .d (.v (.pointer (some ⟨g, 0, none⟩)))
  | .func f => .clo (.func f) [] []

theorem ev_rel {e : Env} {σ : St} {a : Act} {w : World} (S : SRel e σ a w) (x : Operand) : VRel e (obj σ.L σ.G) (σ.ev x) (a.eval x) := by
  cases x with
  | tmp t =>
    simp only [St.ev, Act.eval, St.get]
    by_cases ht : t < σ.s.length
    · have h2 : t < a.tmps.size := by rw [S.sz]; exact ht
      have := S.s t σ.s[t] a.tmps[t] (List.getElem?_eq_getElem ht) (Array.getElem?_eq_getElem h2)
      simpa [List.getD, ht, Array.getD, h2] using this
    · rw [show σ.s.getD t .any = .any by simp [List.getD, List.getElem?_eq_none (Nat.le_of_not_lt ht)]]
      exact .any
  | const v =>
    simp only [St.ev, Act.eval]
    split
    · rename_i h
      exact constA_rel fun cs hc => by subst hc; exact h
    · exact .any
  | global g => exact .d (.v rfl)
  | func f => exact .clo rfl rfl (by simp) (by simp)

/-! ### Addresses -/
theorem addr_add (b o n : Nat) : (⟨b, o, none⟩ : Addr).add n = ⟨b, o + n, none⟩ := by
  unfold Addr.add; split <;> simp_all

theorem addr_add_add (a : Addr) (m n : Nat) : (a.add m).add n = a.add (m + n) := by
  unfold Addr.add
  by_cases hm : m = 0 <;> by_cases hn : n = 0 <;> simp_all [Nat.add_assoc]

/-! ### Types -/
section
variable {P : Program} {T : Tbl}
theorem run_sizeOf' (h : TblOk P T) {t : Nat} {e : TyE} (he : T t = some e) (w : World) : (sizeOf t).run P w = .ok e.size w := by
  obtain ⟨i, z, hi, _, hs, _⟩ := (h t e he).i
  simp [sizeOf, typeInfo, hi, hs]
theorem run_isAgg' (h : TblOk P T) {t : Nat} {e : TyE} (he : T t = some e) (w : World) : (isAgg t).run P w = .ok e.k.agg w := by
  obtain ⟨d, hd, hf⟩ := (h t e he).u
  simp only [isAgg, Sem.run_bind, run_underlying hd, Result.andThen_ok]
  cases d <;> cases hk : e.k <;> rw [hk] at hf <;> first | exact hf.elim | rfl
end

/-! ### Loads -/
def mkV (agg : Bool) (cs : List AVal) : Option AVal := if agg then some (.agg cs) else match cs with | [c] => some c | _ => none

def loadA (T : Tbl) (σ : St) (t : Nat) (x : AVal) : Option AVal :=
  match T t with
  | none => none
  | some e => match x with
    | .p p (.ref off) => match obj σ.L σ.G p with
      | some (.cells cs) => if off + e.size ≤ cs.length then mkV e.k.agg ((cs.drop off).take e.size) else none
      | _ => none
    | .elem ds => if e.size ≤ ds.length then mkV e.k.agg ((ds.take e.size).map .d) else none
    | .p p (.aref g row off) => match obj σ.L σ.G p with
      | some (.arr size g' rows) => if g = g' then match rows[row]? with
          | some r => if off + e.size ≤ r.length ∧ r.length = size then mkV e.k.agg (((r.drop off).take e.size).map .d) else none
          | none => none
        else none
      | _ => none
    | _ => none

/-- Cells that are read, one by one. -/
theorem run_loadVar_cells {P : Program} {T : Tbl} (hT : TblOk P T) {t : Nat} {te : TyE} (ht : T t = some te) {w : World} {e : Env} {ob : Loc → Option AObj} {a : Addr}
    {cs : List AVal} {x : AVal} (hl : cs.length = te.size) (hx : mkV te.k.agg cs = some x)
    (hc : ∀ k y, cs[k]? = some y → ∃ v, w.cell? (a.add k) = some v ∧ VRel e ob y v) :
    ∃ v, (loadVar t a).run P w = .ok v w ∧ VRel e ob x v := by
  unfold loadVar
  simp only [Sem.run_bind, run_isAgg' hT ht, Result.andThen_ok]
  unfold mkV at hx
  cases hagg : te.k.agg with
  | true =>
    rw [hagg] at hx; simp only [if_true, Option.some.injEq] at hx; subst hx
    have hcell : ∀ j, j < te.size → w.cell? (a.add j) = some ((w.cell? (a.add j)).getD undef) := fun j hj => by
      obtain ⟨v, hv, _⟩ := hc j _ (List.getElem?_eq_getElem (by omega))
      rw [hv]; rfl
    simp only [if_true, Sem.run_bind, run_sizeOf' hT ht, Result.andThen_ok, run_loadCells w a te.size _ hcell, Sem.run_pure]
    refine ⟨_, rfl, .agg (by simp [hl]) fun k y v hy hv => ?_⟩
    have hk : k < te.size := by
      have := (List.getElem?_eq_some_iff.1 hy).1; omega
    obtain ⟨v', hv', hr⟩ := hc k y hy
    simp [hk] at hv
    rw [hv'] at hv
    simp at hv; subst hv; exact hr
  | false =>
    rw [hagg] at hx
    simp only [Bool.false_eq_true, if_false] at hx
    split at hx
    · rename_i c
      simp at hx; subst hx
      obtain ⟨v, hv, hr⟩ := hc 0 c rfl
      have : a.add 0 = a := by simp [Addr.add]
      rw [this] at hv
      refine ⟨v, ?_, hr⟩
      simp [hv]
    · cases hx

theorem loadA_ok {P : Program} {T : Tbl} (hT : TblOk P T) {e : Env} {σ : St} {w : World} (H : HRel e σ.L σ.G w) {t : Nat} {x y : AVal} {v : Value}
    (hx : VRel e (obj σ.L σ.G) x v) (h : loadA T σ t x = some y) : ∃ u, (Instr.loadAt t v).run P w = .ok u w ∧ VRel e (obj σ.L σ.G) y u := by
  unfold loadA at h
  split at h
  · cases h
  rename_i te ht
  split at h
  · rename_i p off
    split at h
    · rename_i cs hp
      split at h
      · rename_i hle
        cases hx with
        | p r =>
        simp only [PRel, hp] at r
        obtain ⟨b, c, hb, rfl⟩ := r
        obtain ⟨b', c', vs, ty, hb', hw, hs, hr⟩ := H.o p _ hp
        rw [hb] at hb'; cases hb'
        have := run_loadVar_cells (P := P) hT ht (w := w) (a := ⟨b, off, none⟩) (by simp; omega) h (fun k y hy => by
          have hk : k < te.size := by have := (List.getElem?_eq_some_iff.1 hy).1; simp at this; omega
          have hy' : cs[off + k]? = some y := by
            rw [List.getElem?_take_of_lt hk, List.getElem?_drop] at hy; exact hy
          have hk2 : off + k < vs.size := by have := (List.getElem?_eq_some_iff.1 hy').1; omega
          refine ⟨vs[off + k], ?_, (hr _ _ _ hy' (Array.getElem?_eq_getElem hk2)).1⟩
          rw [addr_add]
          simp [World.cell?, hw, hk2])
        obtain ⟨u, hu, hru⟩ := this
        exact ⟨u, by simp [Instr.loadAt, Instr.sureAddr, hu], hru⟩
      · cases h
    · cases h
  · rename_i ds
    split at h
    · rename_i hle
      cases hx with
      | elem cs hc hr =>
      rename_i a
      have := run_loadVar_cells (P := P) hT ht (w := w) (e := e) (ob := obj σ.L σ.G) (a := a) (by simp; omega) h (fun k y hy => by
        have hk : k < te.size := by have := (List.getElem?_eq_some_iff.1 hy).1; simp at this; omega
        rw [List.getElem?_map, List.getElem?_take_of_lt hk] at hy
        cases hd : ds[k]? with
        | none => rw [hd] at hy; simp at hy
        | some d =>
          rw [hd] at hy; simp at hy; subst hy
          exact ⟨cs k, H.hin.cell (hc k (by omega)), .d (hr k d hd)⟩)
      obtain ⟨u, hu, hru⟩ := this
      exact ⟨u, by simp [Instr.loadAt, Instr.sureAddr, hu], hru⟩
    · cases h
  · rename_i p g row off
    split at h
    · rename_i size g' rows hp
      split at h
      · rename_i hg
        subst hg
        split at h
        · rename_i r hrow
          split at h
          · rename_i hle
            cases hx with
            | p rr =>
            simp only [PRel, hp] at rr
            obtain ⟨b, c, hb, rfl⟩ := rr.2.2 (by trivial)
            have ho := H.o p _ hp
            rw [hb] at ho
            obtain ⟨vs, ty, hw, hs, hl, hm, hr1, hr2⟩ := ho
            have := run_loadVar_cells (P := P) hT ht (w := w) (e := e) (ob := obj σ.L σ.G) (a := ⟨b, row * size + off, none⟩) (by simp; omega) h (fun k y hy => by
              have hk : k < te.size := by have := (List.getElem?_eq_some_iff.1 hy).1; simp at this; omega
              rw [List.getElem?_map, List.getElem?_take_of_lt hk, List.getElem?_drop] at hy
              cases hd : r[off + k]? with
              | none => rw [hd] at hy; simp at hy
              | some d =>
                rw [hd] at hy; simp at hy; subst hy
                obtain ⟨x, hx, hxr⟩ := hr2 row r (off + k) d hrow hd
                refine ⟨x, ?_, .d hxr⟩
                rw [addr_add]
                simp only [World.cell?, hw]
                rw [show row * size + off + k = row * size + (off + k) by omega]
                simpa using hx)
            obtain ⟨u, hu, hru⟩ := this
            exact ⟨u, by simp [Instr.loadAt, Instr.sureAddr, hu], hru⟩
          · cases h
        · cases h
      · cases h
    · cases h
  · cases h

end Go.Am

/- More operations that leave memory alone: fields, elements, arithmetic, conversions, pieces of slices, structs, tuples. -/
namespace Go.Am
section
variable {P : Program} {T : Tbl} {e : Env} {σ : St} {w : World}

/-! ### Fields' addresses -/
def shiftA (σ : St) (n : Nat) : AVal → Option AVal
  | .p p (.ref o) => match obj σ.L σ.G p with
    | some (.cells _) => some (.p p (.ref (o + n)))
    | _ => none
  | .elem ds => if n ≤ ds.length then some (.elem (ds.drop n)) else none
  | .p p (.aref g r o) => match obj σ.L σ.G p with
    | some (.arr _ g' _) => if g = g' then some (.p p (.aref g r (o + n))) else none
    | _ => none
  | _ => none

theorem shiftA_ok {n : Nat} {x y : AVal} {v : Value} (hx : VRel e (obj σ.L σ.G) x v) (h : shiftA σ n x = some y) :
    ∃ a, v = .pointer (some a) ∧ VRel e (obj σ.L σ.G) y (.pointer (some (a.add n))) := by
  unfold shiftA at h
  split at h
  · rename_i p o
    split at h
    · rename_i cs hp
      simp at h; subst h
      cases hx with
      | p r =>
      simp only [PRel, hp] at r
      obtain ⟨b, c, hb, rfl⟩ := r
      exact ⟨_, rfl, .p (by simp only [PRel, hp]; exact ⟨b, c, hb, by rw [addr_add]⟩)⟩
    · cases h
  · rename_i ds
    split at h
    · rename_i hle
      simp at h; subst h
      cases hx with
      | elem cs hc hr =>
      exact ⟨_, rfl, .elem (fun k => cs (n + k)) (fun k hk => by rw [addr_add_add]; exact hc _ (by simp at hk; omega)) (fun k x hk => hr _ _ (by rw [List.getElem?_drop] at hk; exact hk))⟩
    · cases h
  · rename_i p g r o
    split at h
    · rename_i sz g' rows hp
      split at h
      · rename_i hg
        subst hg
        simp at h; subst h
        cases hx with
        | p rr =>
        simp only [PRel, hp] at rr
        obtain ⟨b, c, hb, rfl⟩ := rr.2.2 (by trivial)
        exact ⟨_, rfl, .p (by simp only [PRel, hp]; exact ⟨rfl, Nat.le_refl _, fun _ => ⟨b, c, hb, by rw [addr_add]; simp [Nat.add_assoc]⟩⟩)⟩
      · cases h
    · cases h
  · cases h

def fieldA (T : Tbl) (σ : St) (s : Nat) (x : AVal) (f : Nat) : Option AVal :=
  match T s with
  | some te => match te.k with
    | .struct fs => match fs[f]? with
      | some (ft, off) => match T ft with
        | some fe => if fe.size = 0 then none else shiftA σ off x
        | none => none
      | none => none
    | _ => none
  | none => none

theorem fieldA_ok (hT : TblOk P T) {s f : Nat} {x y : AVal} {v : Value} (hx : VRel e (obj σ.L σ.G) x v) (h : fieldA T σ s x f = some y) :
    ∃ u, (∀ w, (Instr.fieldAt s v f).run P w = .ok u w) ∧ VRel e (obj σ.L σ.G) y u := by
  unfold fieldA at h
  split at h
  case h_2 => cases h
  rename_i te hte
  split at h
  case h_2 => cases h
  rename_i fs hk
  split at h
  case h_2 => cases h
  rename_i ft off hf
  split at h
  case h_2 => cases h
  rename_i fe hfe
  split at h
  · cases h
  rename_i hsz
  obtain ⟨a, rfl, hr⟩ := shiftA_ok hx h
  obtain ⟨d, hd, hfit⟩ := (hT s te hte).u
  rw [hk] at hfit
  cases d <;> simp only [descFits] at hfit <;> try exact hfit.elim
  rename_i fields
  rw [← hfit] at hf
  rw [List.getElem?_map, Array.getElem?_toList] at hf
  cases hfl : fields[f]? with
  | none => rw [hfl] at hf; simp at hf
  | some fd =>
    rw [hfl] at hf
    simp at hf
    refine ⟨_, fun w => ?_, hr⟩
    simp [Instr.fieldAt, run_underlying hd, hfl, Instr.sureAddr, fieldPlace, hf.1, run_sizeOf' hT hfe, hsz, hf.2]

/-! ### Elements -/
def rowsA (σ : St) : AVal → Option (List (List Dat))
  | .d (.l rows) => some rows
  | .clip rows => some rows
  | .nils => some []
  | .p p (.own g) => match obj σ.L σ.G p with
    | some (.frz _ g' rows) => if g = g' then some rows else none
    | _ => none
  | _ => none

theorem rowsA_ok {x : AVal} {v : Value} {rows : List (List Dat)} (hx : VRel e (obj σ.L σ.G) x v) (h : rowsA σ x = some rows) : Rep e.h (.l rows) v := by
  unfold rowsA at h
  split at h
  · simp at h; subst h; cases hx with | d r => exact r
  · simp at h; subst h; cases hx with | clip r => exact r
  · simp at h; subst h; cases hx with
    | nils => exact .l (rows := []) (c := 0) 0 (fun _ => undef) (by simp) (Nat.zero_le _) (Nat.zero_le _) (by simp) (by simp)
  · rename_i p g
    split at h
    · rename_i sz g' rows' hp
      split at h
      · rename_i hg; subst hg
        simp at h; subst h
        cases hx with
        | p r =>
        simp only [PRel, hp] at r
        exact r.2.2 (by trivial)
      · cases h
    · cases h
  · cases h

/-- An own row that is the newest. -/
def ownA (σ : St) : AVal → Option (Loc × Nat × Nat × List (List Dat))
  | .p p (.own g) => match obj σ.L σ.G p with
    | some (.arr size g' rows) => if g = g' then some (p, size, g, rows) else none
    | _ => none
  | _ => none

theorem ownA_ok (H : HRel e σ.L σ.G w) {x : AVal} {v : Value} {p : Loc} {size g : Nat} {rows : List (List Dat)} (hx : VRel e (obj σ.L σ.G) x v) (h : ownA σ x = some (p, size, g, rows)) :
    x = .p p (.own g) ∧ obj σ.L σ.G p = some (.arr size g rows) ∧ v = hdr (e.blk p) rows.length ∧ ORel e (obj σ.L σ.G) w (e.blk p) (.arr size g rows) := by
  unfold ownA at h
  split at h
  · rename_i q g0
    split at h
    · rename_i sz g' rows' hp
      split at h
      · rename_i hg; subst hg
        simp at h
        obtain ⟨rfl, rfl, rfl, rfl⟩ := h
        cases hx with
        | p r =>
        simp only [PRel, hp] at r
        exact ⟨rfl, hp, r.2.2 (by trivial), H.o _ _ hp⟩
      · cases h
    · cases h
  · cases h

def indexA (T : Tbl) (σ : St) (t : Nat) (x i : AVal) : Option AVal :=
  match T t, i with
  | some te, .d (.v (.int _ n)) => match te.k with
    | .slice el => match T el with
      | some ee => match rowsA σ x with
        | some rows => match (if 0 ≤ n then rows[n.toNat]? else none) with
          | some r => if r.length = ee.size then some (.elem r) else none
          | none => none
        | none => match ownA σ x with
          | some (p, size, g, rows) => if size = ee.size ∧ 0 ≤ n ∧ n.toNat < rows.length then some (.p p (.aref g n.toNat 0)) else none
          | none => none
      | none => none
    | .array len el => match T el with
      | some ee => if 0 ≤ n ∧ n < len then shiftA σ (n.toNat * ee.size) x else none
      | none => none
    | _ => none
  | _, _ => none

theorem indexA_ok (hT : TblOk P T) (H : HRel e σ.L σ.G w) {t : Nat} {x i y : AVal} {v iv : Value} (hx : VRel e (obj σ.L σ.G) x v) (hi : VRel e (obj σ.L σ.G) i iv)
    (h : indexA T σ t x i = some y) : ∃ u, (∀ w, (Instr.indexAt t v iv).run P w = .ok u w) ∧ VRel e (obj σ.L σ.G) y u := by
  unfold indexA at h
  split at h
  case h_2 => cases h
  rename_i te k n hte
  cases hi with
  | d r =>
  cases r with
  | v _ =>
  split at h
  · rename_i el hk
    split at h
    case h_2 => cases h
    rename_i ee hee
    obtain ⟨d, hd, hfit⟩ := (hT t te hte).u
    rw [hk] at hfit
    cases d <;> simp only [descFits] at hfit <;> try exact hfit.elim
    subst hfit
    split at h
    · rename_i rows hrows
      have hrep := rowsA_ok hx hrows
      split at h
      case h_2 => cases h
      rename_i r hr
      split at hr
      case isFalse => cases hr
      rename_i h0
      split at h
      case isFalse => cases h
      rename_i hlen
      simp at h; subst h
      have hlt := (List.getElem?_eq_some_iff.1 hr).1
      have hrow' := (List.getElem?_eq_some_iff.1 hr).2
      cases hrep with
      | @l _ a c size cs hrow hcap hmax hcell hrp =>
      obtain ⟨ad, rfl, hc⟩ := hcell (by omega)
      have hsz : size = ee.size := by
        rw [← hlen, ← hrow']; exact (hrow _ (List.getElem_mem _)).symm
      refine ⟨.pointer (some (ad.add (n.toNat * ee.size))), fun w => ?_, .elem (fun k => cs (n.toNat * ee.size + k)) (fun k hk => ?_) (fun k x hk => ?_)⟩
      · simp [Instr.indexAt, asIntOf, run_underlying hd, run_sizeOf' hT hee, h0, show n < (rows.length : Int) by omega]
      · rw [addr_add_add]
        refine hc _ ?_
        rw [hsz]
        have : (n.toNat + 1) * ee.size ≤ rows.length * ee.size := Nat.mul_le_mul_right _ hlt
        rw [Nat.add_mul] at this
        omega
      · rw [← hsz]; exact hrp _ _ _ _ hr hk
    · split at h
      case h_2 => cases h
      rename_i p size g rows hown
      split at h
      case isFalse => cases h
      rename_i hc
      simp at h; subst h
      obtain ⟨rfl, hp, rfl, ho⟩ := ownA_ok H hx hown
      cases hb : e.blk p with
      | none => rw [hb] at ho; simp only [ORel] at ho; subst ho; simp at hc
      | some bc =>
        obtain ⟨b, cap⟩ := bc
        refine ⟨.pointer (some ⟨b, n.toNat * ee.size, none⟩), fun w => ?_, .p (by simp only [PRel, hp]; exact ⟨rfl, Nat.le_refl _, fun _ => ⟨b, cap, hb, by rw [hc.1]; simp⟩⟩)⟩
        simp [hdr, Instr.indexAt, asIntOf, run_underlying hd, run_sizeOf' hT hee, hc.2.1, show n < (rows.length : Int) by omega, addr_add]
  · rename_i len el hk
    split at h
    case h_2 => cases h
    rename_i ee hee
    split at h
    case isFalse => cases h
    rename_i hc
    obtain ⟨d, hd, hfit⟩ := (hT t te hte).u
    rw [hk] at hfit
    cases d <;> simp only [descFits] at hfit <;> try exact hfit.elim
    obtain ⟨rfl, rfl⟩ := hfit
    obtain ⟨a, rfl, hr⟩ := shiftA_ok hx h
    refine ⟨_, fun w => ?_, hr⟩
    simp [Instr.indexAt, asIntOf, run_underlying hd, run_sizeOf' hT hee, Instr.sureAddr, hc.1, hc.2]
  · cases h

/-- A cell of a struct or array that is a value. -/
def partA (T : Tbl) (t : Nat) (cs : List AVal) (off : Nat) : Option AVal :=
  match T t with
  | some te => if off + te.size ≤ cs.length then mkV te.k.agg ((cs.drop off).take te.size) else none
  | none => none

theorem partA_ok (hT : TblOk P T) {t off : Nat} {cs : List AVal} {vs : Array Value} {y : AVal} (h1 : vs.size = cs.length)
    (hr : ∀ (k : Nat) (x : AVal) (v : Value), cs[k]? = some x → vs[k]? = some v → VRel e (obj σ.L σ.G) x v) (h : partA T t cs off = some y) :
    ∃ u, (part t vs off).run P w = .ok u w ∧ VRel e (obj σ.L σ.G) y u := by
  unfold partA at h
  split at h
  case h_2 => cases h
  rename_i te hte
  split at h
  case isFalse => cases h
  rename_i hle
  unfold mkV at h
  unfold part
  simp only [Sem.run_bind, run_isAgg' hT hte, Result.andThen_ok]
  cases hagg : te.k.agg with
  | true =>
    rw [hagg] at h; simp at h; subst h
    refine ⟨.agg (vs.extract off (off + te.size)), by simp [run_sizeOf' hT hte], .agg (by simp; omega) fun k x v hx hv => ?_⟩
    have hk : k < te.size := by have := (List.getElem?_eq_some_iff.1 hx).1; simp at this; omega
    refine hr (off + k) x v ?_ ?_
    · rw [List.getElem?_take_of_lt hk, List.getElem?_drop] at hx; exact hx
    · rw [Array.getElem?_extract] at hv
      split at hv
      · exact hv
      · cases hv
  | false =>
    rw [hagg] at h
    simp only [Bool.false_eq_true, if_false] at h ⊢
    have h1s := (hT t te hte).one hagg
    split at h
    case h_2 => cases h
    rename_i c hc
    simp at h; subst h
    have hlt : off < vs.size := by omega
    have hcs : cs[off]? = some c := by
      have : ((cs.drop off).take te.size)[0]? = some c := by rw [hc]; rfl
      rw [List.getElem?_take_of_lt (by omega), List.getElem?_drop] at this
      simpa using this
    refine ⟨vs[off], by simp [hlt], hr off c _ hcs (Array.getElem?_eq_getElem hlt)⟩

def valFieldA (T : Tbl) (t : Nat) (x : AVal) (f : Nat) : Option AVal :=
  match T t, x with
  | some te, .agg cs => match te.k with
    | .struct fs => match fs[f]? with
      | some (ft, off) => partA T ft cs off
      | none => none
    | _ => none
  | _, _ => none

theorem valFieldA_ok (hT : TblOk P T) {t f : Nat} {x y : AVal} {v : Value} (hx : VRel e (obj σ.L σ.G) x v) (h : valFieldA T t x f = some y) :
    ∃ u, (Instr.field t v f).run P w = .ok u w ∧ VRel e (obj σ.L σ.G) y u := by
  unfold valFieldA at h
  split at h
  case h_2 => cases h
  rename_i te cs hte
  split at h
  case h_2 => cases h
  rename_i fs hk
  split at h
  case h_2 => cases h
  rename_i ft off hf
  cases hx with
  | @agg _ vs h1 hr =>
  obtain ⟨d, hd, hfit⟩ := (hT t te hte).u
  rw [hk] at hfit
  cases d <;> simp only [descFits] at hfit <;> try exact hfit.elim
  rename_i fields
  rw [← hfit, List.getElem?_map, Array.getElem?_toList] at hf
  cases hfl : fields[f]? with
  | none => rw [hfl] at hf; simp at hf
  | some fd =>
    rw [hfl] at hf
    simp at hf
    obtain ⟨u, hu, hru⟩ := partA_ok (w := w) hT h1 hr h
    refine ⟨u, ?_, hru⟩
    simp [Instr.field, run_underlying hd, hfl, asAgg, hf.1, hf.2, hu]

def valIndexA (T : Tbl) (t : Nat) (x i : AVal) : Option AVal :=
  match T t, x, i with
  | some te, .d (.v (.string s)), .d (.v (.int _ n)) => match te.k with
    | .string => match (if 0 ≤ n then s[n.toNat]? else none) with
      | some b => some (.d (.v (.int .u8 b.toNat)))
      | none => none
    | _ => none
  | some te, .agg cs, .d (.v (.int _ n)) => match te.k with
    | .array len el => match T el with
      | some ee => if 0 ≤ n ∧ n < len then partA T el cs (n.toNat * ee.size) else none
      | none => none
    | _ => none
  | _, _, _ => none

theorem valIndexA_ok (hT : TblOk P T) {t : Nat} {x i y : AVal} {v iv : Value} (hx : VRel e (obj σ.L σ.G) x v) (hi : VRel e (obj σ.L σ.G) i iv) (h : valIndexA T t x i = some y) :
    ∃ u, (Instr.index t v iv).run P w = .ok u w ∧ VRel e (obj σ.L σ.G) y u := by
  unfold valIndexA at h
  split at h
  · rename_i te s k n hte
    cases hi with
    | d ri => cases ri with
    | v _ =>
    cases hx with
    | d rx => cases rx with
    | v _ =>
    split at h
    case h_2 => cases h
    rename_i hk
    split at h
    case h_2 => cases h
    rename_i b hb
    simp at h; subst h
    obtain ⟨d, hd, hfit⟩ := (hT t te hte).u
    rw [hk] at hfit
    cases d <;> simp only [descFits] at hfit <;> try exact hfit.elim
    exact ⟨.int .u8 b.toNat, by simp [Instr.index, asIntOf, run_underlying hd, hb], .d (.v rfl)⟩
  · rename_i te cs k n hte
    cases hi with
    | d ri => cases ri with
    | v _ =>
    cases hx with
    | @agg _ vs h1 hr =>
    split at h
    case h_2 => cases h
    rename_i len el hk
    split at h
    case h_2 => cases h
    rename_i ee hee
    split at h
    case isFalse => cases h
    rename_i hc
    obtain ⟨d, hd, hfit⟩ := (hT t te hte).u
    rw [hk] at hfit
    cases d <;> simp only [descFits] at hfit <;> try exact hfit.elim
    obtain ⟨rfl, rfl⟩ := hfit
    obtain ⟨u, hu, hru⟩ := partA_ok (w := w) hT h1 hr h
    exact ⟨u, by simp [Instr.index, asIntOf, run_underlying hd, hc.1, hc.2, run_sizeOf' hT hee, hu], hru⟩
  · cases h

/-! ### A nil check -/
def nilA (σ : St) : AVal → Option AVal
  | .p p (.ref o) => match obj σ.L σ.G p with
    | some (.cells _) => some (.p p (.ref o))
    | _ => none
  | .elem ds => some (.elem ds)
  | .p p (.aref g r o) => match obj σ.L σ.G p with
    | some (.arr _ g' _) => if g = g' then some (.p p (.aref g r o)) else none
    | _ => none
  | .clo (.func f) a b => some (.clo (.func f) a b)
  | _ => none

theorem nilA_ok {x y : AVal} {v : Value} (hx : VRel e (obj σ.L σ.G) x v) (h : nilA σ x = some y) :
    x = y ∧ ((∃ a, v = .pointer (some a)) ∨ ∃ f a b, v = .func (.func f) a b) := by
  unfold nilA at h
  split at h
  · rename_i p o
    split at h
    · rename_i cs hp
      simp at h; subst h
      cases hx with
      | p r => simp only [PRel, hp] at r; obtain ⟨b, c, _, rfl⟩ := r; exact ⟨rfl, .inl ⟨_, rfl⟩⟩
    · cases h
  · simp at h; subst h; cases hx with | elem => exact ⟨rfl, .inl ⟨_, rfl⟩⟩
  · rename_i p g r o
    split at h
    · rename_i sz g' rows hp
      split at h
      · rename_i hg; subst hg
        simp at h; subst h
        cases hx with
        | p rr => simp only [PRel, hp] at rr; obtain ⟨b, c, _, rfl⟩ := rr.2.2 (by trivial); exact ⟨rfl, .inl ⟨_, rfl⟩⟩
      · cases h
    · cases h
  · simp at h; subst h; cases hx with | clo => exact ⟨rfl, .inr ⟨_, _, _, rfl⟩⟩
  · cases h

end
end Go.Am

/- Arithmetic, conversions, pieces of slices, structs out of parts, lengths. -/
namespace Go.Am
section
variable {P : Program} {T : Tbl} {e : Env} {σ : St} {w : World}

/-! ### Arithmetic -/
def intBin (op : BinOp) (k : IntKind) (a b : Int) : Option Value :=
  match op with
  | .add => some (.int k (k.wrap (a + b)))
  | .sub => some (.int k (k.wrap (a - b)))
  | .mul => some (.int k (k.wrap (a * b)))
  | .quo => if b = 0 then none else some (.int k (k.wrap (a.tdiv b)))
  | .rem => if b = 0 then none else some (.int k (a.tmod b))
  | .and => some (.int k (k.wrap (BitVec.ofInt k.bits a &&& BitVec.ofInt k.bits b).toNat))
  | .or => some (.int k (k.wrap (BitVec.ofInt k.bits a ||| BitVec.ofInt k.bits b).toNat))
  | .xor => some (.int k (k.wrap (BitVec.ofInt k.bits a ^^^ BitVec.ofInt k.bits b).toNat))
  | .andNot => some (.int k (k.wrap (BitVec.ofInt k.bits a &&& ~~~ BitVec.ofInt k.bits b).toNat))
  | .eql => some (.bool (a == b))
  | .neq => some (.bool (a != b))
  | .lss => some (.bool (decide (a < b)))
  | .leq => some (.bool (decide (a ≤ b)))
  | .gtr => some (.bool (decide (a > b)))
  | .geq => some (.bool (decide (a ≥ b)))
  | _ => none

def strBin (op : BinOp) (x y : ByteArray) : Option Value :=
  match op with
  | .add => if x.size + y.size ≤ 9223372036854775807 then some (.string (x ++ y)) else none
  | .eql => some (.bool (decide (x = y)))
  | .neq => some (.bool (!decide (x = y)))
  | .lss => some (.bool (Op.bytesLess x.toList y.toList))
  | .leq => some (.bool (Op.bytesLess x.toList y.toList || x.toList == y.toList))
  | .gtr => some (.bool (!(Op.bytesLess x.toList y.toList || x.toList == y.toList)))
  | .geq => some (.bool (!Op.bytesLess x.toList y.toList))
  | _ => none

def binV (T : Tbl) (op : BinOp) (t : Nat) (a b : Value) : Option Value :=
  match a, b with
  | .int k x, .int k' y => match op with
    | .shl => if y < 0 then none else some (.int k (k.wrap (x * 2 ^ min y.toNat k.bits)))
    | .shr => if y < 0 then none else some (.int k (x.fdiv (2 ^ min y.toNat k.bits)))
    | op => if k = k' then intBin op k x y else none
  | .string x, .string y => strBin op x y
  | .bool x, .bool y => match (T t).map TyE.k, op with
    | some .bool, .eql => some (.bool (x == y))
    | some .bool, .neq => some (.bool (!(x == y)))
    | _, _ => none
  | .pointer x, .pointer none => match (T t).map TyE.k, op with
    | some (.ptr _), .eql => some (.bool x.isNone)
    | some (.ptr _), .neq => some (.bool (!x.isNone))
    | _, _ => none
  | _, _ => none

theorem run_equal_bool {t : Nat} (hd : P.underlying t = some .bool) (x y : Bool) : (Op.equal t (.bool x) (.bool y)).run P w = .ok (x == y) w := by
  have h : ∀ d, (Op.equalIn (d + 1) t (.bool x) (.bool y)).run P w = .ok (x == y) w := fun d => by
    simp only [Op.equalIn, Sem.run_bind, run_underlying hd, Result.andThen_ok, Sem.run_pure]
  exact h 9999

theorem run_equal_ptr {t el : Nat} (hd : P.underlying t = some (.pointer el)) (a : Option Addr) : (Op.equal t (.pointer a) (.pointer none)).run P w = .ok a.isNone w := by
  have h : ∀ d, (Op.equalIn (d + 1) t (.pointer a) (.pointer none)).run P w = .ok a.isNone w := fun d => by
    cases a <;> simp only [Op.equalIn, Sem.run_bind, run_underlying hd, Result.andThen_ok, Sem.run_pure] <;> rfl
  exact h 9999

theorem binV_ok (hT : TblOk P T) {op : BinOp} {t : Nat} {x y : Operand} {a b r : Value} (h : binV T op t a b = some r) :
    (do eqGuard op t x y a b; binOp op t a b : Sem Value).run P w = .ok r w ∧ r.oneCell' = true := by
  have hg : ∀ (a b : Value), (a matches .nilIface) = false → (a matches .agg _) = false → (eqGuard op t x y a b).run P w = .ok () w := fun a b h1 h2 => by
    cases op <;> cases a <;> first | rfl | (simp at h1; done) | (simp at h2; done)
  unfold binV at h
  split at h
  · rename_i k x' k' y'
    rw [Sem.run_bind, hg _ _ rfl rfl]
    simp only [Result.andThen_ok]
    split at h
    · split at h
      · cases h
      · rename_i hy; simp at h; subst h; exact ⟨by simp [binOp, Op.shift, hy], rfl⟩
    · split at h
      · cases h
      · rename_i hy; simp at h; subst h; exact ⟨by simp [binOp, Op.shift, hy], rfl⟩
    · split at h
      · rename_i hk; subst hk
        cases op <;> simp only [intBin] at h <;> (try contradiction) <;>
          first
            | (split at h
               · cases h
               · rename_i hb; simp at h; subst h; exact ⟨by simp [binOp, Op.intDiv, hb], rfl⟩)
            | (simp only [Option.some.injEq] at h; subst h; exact ⟨by simp [binOp, Op.intArith, Op.intBits, Op.intCmp], rfl⟩)
      · cases h
  · rename_i x' y'
    rw [Sem.run_bind, hg _ _ rfl rfl]
    simp only [Result.andThen_ok]
    have hdec : (x'.toList == y'.toList) = decide (x' = y') := by
      rw [Bool.eq_iff_iff, beq_iff_eq, decide_eq_true_iff, ByteArray.toList_eq, ByteArray.toList_eq]
      exact ⟨fun h => by cases x'; cases y'; simpa using h, fun h => by rw [h]⟩
    cases op <;> simp only [strBin] at h <;> (try contradiction)
    case add =>
      split at h
      · rename_i hs
        simp at h; subst h
        refine ⟨?_, rfl⟩
        have : ¬ (((x'.size + y'.size : Nat) : Int) > IntKind.i64.max) := by
          have : IntKind.i64.max = 9223372036854775807 := by decide
          omega
        simp only [binOp, Op.stringOp]
        rw [if_neg this]; rfl
      · cases h
    case eql => simp only [Option.some.injEq] at h; subst h; exact ⟨by simp only [binOp, Op.stringOp]; first | (rw [hdec]; rfl) | (simp [hdec]), rfl⟩
    case neq => simp only [Option.some.injEq] at h; subst h; exact ⟨by simp only [binOp, Op.stringOp]; first | (rw [hdec]; rfl) | (simp [hdec]), rfl⟩
    all_goals (simp only [Option.some.injEq] at h; subst h; exact ⟨by simp [binOp, Op.stringOp], rfl⟩)
  · rename_i x' y'
    rw [Sem.run_bind, hg _ _ rfl rfl]
    simp only [Result.andThen_ok]
    split at h
    · rename_i hk
      cases ht : T t with
      | none => rw [ht] at hk; simp at hk
      | some te =>
        rw [ht] at hk; simp at hk
        obtain ⟨d, hd, hf⟩ := (hT t te ht).u
        rw [hk] at hf
        cases d <;> simp only [descFits] at hf <;> try exact hf.elim
        simp at h; subst h
        exact ⟨by simp only [binOp, Sem.run_bind, run_equal_bool hd, Result.andThen_ok, Sem.run_pure], rfl⟩
    · rename_i hk
      cases ht : T t with
      | none => rw [ht] at hk; simp at hk
      | some te =>
        rw [ht] at hk; simp at hk
        obtain ⟨d, hd, hf⟩ := (hT t te ht).u
        rw [hk] at hf
        cases d <;> simp only [descFits] at hf <;> try exact hf.elim
        simp at h; subst h
        exact ⟨by simp only [binOp, Sem.run_bind, run_equal_bool hd, Result.andThen_ok, Sem.run_pure], rfl⟩
    · cases h
  · rename_i x'
    rw [Sem.run_bind, hg _ _ rfl rfl]
    simp only [Result.andThen_ok]
    split at h
    · rename_i el hk
      cases ht : T t with
      | none => rw [ht] at hk; simp at hk
      | some te =>
        rw [ht] at hk; simp at hk
        obtain ⟨d, hd, hf⟩ := (hT t te ht).u
        rw [hk] at hf
        cases d <;> simp only [descFits] at hf <;> try exact hf.elim
        simp at h; subst h
        exact ⟨by simp only [binOp, Sem.run_bind, run_equal_ptr hd, Result.andThen_ok, Sem.run_pure], rfl⟩
    · rename_i el hk
      cases ht : T t with
      | none => rw [ht] at hk; simp at hk
      | some te =>
        rw [ht] at hk; simp at hk
        obtain ⟨d, hd, hf⟩ := (hT t te ht).u
        rw [hk] at hf
        cases d <;> simp only [descFits] at hf <;> try exact hf.elim
        simp at h; subst h
        exact ⟨by simp only [binOp, Sem.run_bind, run_equal_ptr hd, Result.andThen_ok, Sem.run_pure]; cases x' <;> rfl, rfl⟩
    · cases h
  · cases h

/-- A pointer against nil. -/
def ptrNil (σ : St) : AVal → Option Bool
  | .p p (.ref _) => match obj σ.L σ.G p with
    | some (.cells _) => some false
    | _ => none
  | .elem _ => some false
  | .d (.v (.pointer none)) => some true
  | _ => none

theorem ptrNil_ok {x : AVal} {v : Value} {b : Bool} (hx : VRel e (obj σ.L σ.G) x v) (h : ptrNil σ x = some b) : ∃ a, v = .pointer a ∧ a.isNone = b := by
  unfold ptrNil at h
  split at h
  · rename_i p o
    split at h
    · rename_i cs hp
      simp at h; subst h
      cases hx with
      | p r => simp only [PRel, hp] at r; obtain ⟨b, c, _, rfl⟩ := r; exact ⟨_, rfl, rfl⟩
    · cases h
  · simp at h; subst h; cases hx with | elem => exact ⟨_, rfl, rfl⟩
  · simp at h; subst h; cases hx with | d r => cases r with | v _ => exact ⟨_, rfl, rfl⟩
  · cases h

def isNilPtr : AVal → Bool
  | .d (.v (.pointer none)) => true
  | _ => false

theorem isNilPtr_eq {y : AVal} (h : isNilPtr y = true) : y = .d (.v (.pointer none)) := by
  unfold isNilPtr at h
  split at h
  · rfl
  · cases h

def binA (T : Tbl) (σ : St) (op : BinOp) (t : Nat) (x y : AVal) : Option AVal :=
  match x, y with
  | .d (.v a), .d (.v b) => match binV T op t a b with
    | some r => some (.d (.v r))
    | none => none
  | x, y => if isNilPtr y then match (T t).map TyE.k, ptrNil σ x, op with
      | some (.ptr _), some b, .eql => some (.d (.v (.bool b)))
      | some (.ptr _), some b, .neq => some (.d (.v (.bool (!b))))
      | _, _, _ => none
    else none

theorem binA_ok (hT : TblOk P T) {op : BinOp} {t : Nat} {o1 o2 : Operand} {x y z : AVal} {a b : Value} (hx : VRel e (obj σ.L σ.G) x a) (hy : VRel e (obj σ.L σ.G) y b)
    (h : binA T σ op t x y = some z) : ∃ u, (do eqGuard op t o1 o2 a b; binOp op t a b : Sem Value).run P w = .ok u w ∧ VRel e (obj σ.L σ.G) z u := by
  unfold binA at h
  split at h
  · cases hx with
    | d rx => cases rx with
    | v _ =>
    cases hy with
    | d ry => cases ry with
    | v _ =>
    split at h
    · rename_i r hr
      simp at h; subst h
      have := binV_ok (w := w) hT (x := o1) (y := o2) hr
      exact ⟨r, this.1, .d (.v this.2)⟩
    · cases h
  · split at h
    case isFalse => cases h
    rename_i hn
    have hyy := isNilPtr_eq hn
    rw [hyy] at hy
    cases hy with
    | d ry => cases ry with
    | v _ =>
    cases ht : T t with
    | none => rw [ht] at h; simp at h
    | some te =>
      obtain ⟨d, hd, hf⟩ := (hT t te ht).u
      split at h
      case h_3 => cases h
      all_goals
        rename_i el bb hk hp
        rw [ht] at hk; simp at hk
        rw [hk] at hf
        cases d <;> simp only [descFits] at hf <;> try exact hf.elim
        simp at h; subst h
        obtain ⟨ao, rfl, hb⟩ := ptrNil_ok hx hp
        refine ⟨_, ?_, .d (.v rfl)⟩
        simp only [eqGuard, binOp, Sem.run_bind, run_equal_ptr hd, Result.andThen_ok, Sem.run_pure, hb]
        rfl

def unA (op : UnOp) : AVal → Option AVal
  | .d (.v (.bool b)) => match op with
    | .not => some (.d (.v (.bool (!b))))
    | _ => none
  | .d (.v (.int k n)) => match op with
    | .neg => some (.d (.v (.int k (k.wrap (0 - n)))))
    | .xor => some (.d (.v (.int k (k.wrap (BitVec.ofInt k.bits (if k.signed then -1 else k.max) ^^^ BitVec.ofInt k.bits n).toNat))))
    | _ => none
  | _ => none

theorem unA_ok {op : UnOp} {x z : AVal} {a : Value} (hx : VRel e (obj σ.L σ.G) x a) (h : unA op x = some z) :
    ∃ u, (Op.unary op a).run P w = .ok u w ∧ VRel e (obj σ.L σ.G) z u := by
  unfold unA at h
  split at h
  · cases hx with
    | d rx => cases rx with
    | v _ =>
    split at h
    · simp at h; subst h; exact ⟨.bool _, by simp only [Op.unary, Sem.run_pure], .d (.v rfl)⟩
    · cases h
  · cases hx with
    | d rx => cases rx with
    | v _ =>
    split at h
    · simp only [Option.some.injEq] at h; subst h; exact ⟨_, rfl, .d (.v rfl)⟩
    · simp only [Option.some.injEq] at h; subst h; exact ⟨_, rfl, .d (.v rfl)⟩
    · cases h
  · cases h

/-! ### Conversions -/
/-- Bytes as a text. -/
def bytesOf : List (List Dat) → Option (List Int)
  | [] => some []
  | [.v (.int .u8 n)] :: rest => (bytesOf rest).map (n :: ·)
  | _ => none

def strOfInts (l : List Int) : ByteArray := l.foldl (fun r n => r.push (UInt8.ofNat n.toNat)) ByteArray.empty

theorem bytesOf_get : ∀ {rows : List (List Dat)} {l : List Int}, bytesOf rows = some l → rows = l.map fun n => [.v (.int .u8 n)]
  | [], l, h => by simp [bytesOf] at h; subst h; rfl
  | r :: rest, l, h => by
    unfold bytesOf at h
    split at h
    · cases l <;> simp_all
    · rename_i n rest' heq
      simp at heq
      obtain ⟨rfl, rfl⟩ := heq
      cases hb : bytesOf rest with
      | none => rw [hb] at h; simp at h
      | some l' =>
        rw [hb] at h
        simp at h; subst h
        simp [bytesOf_get hb]
    · cases h

def convA (T : Tbl) (σ : St) (s d : Nat) (x : AVal) : Option AVal :=
  match T s, T d with
  | some te, some de => match te.k, de.k, x with
    | .int _, .int k, .d (.v (.int _ n)) => some (.d (.v (.int k (k.wrap n))))
    | .string, .string, .d (.v (.string s)) => some (.d (.v (.string s)))
    | .slice el, .string, x => match (T el).map TyE.k, rowsA σ x with
      | some (.int .u8), some rows => match bytesOf rows with
        | some l => some (.d (.v (.string (strOfInts l))))
        | none => none
      | _, _ => none
    | _, _, _ => none
  | _, _ => none

theorem Rep.v_inv {h : FHeap} {x v : Value} (r : Rep h (.v x) v) : v = x := by
  generalize hd : Dat.v x = d at r
  cases r with
  | v _ => cases hd; rfl
  | l => cases hd

theorem convA_ok (hT : TblOk P T) (H : HRel e σ.L σ.G w) {s d : Nat} {x z : AVal} {a : Value} (hx : VRel e (obj σ.L σ.G) x a) (h : convA T σ s d x = some z) :
    ∃ u, (convert s d a).run P w = .ok u w ∧ VRel e (obj σ.L σ.G) z u := by
  unfold convA at h
  split at h
  case h_2 => cases h
  rename_i te de hte hde
  obtain ⟨d1, hd1, hf1⟩ := (hT s te hte).u
  obtain ⟨d2, hd2, hf2⟩ := (hT d de hde).u
  split at h
  · rename_i k1 k n hk1 hk2
    rw [hk1] at hf1; rw [hk2] at hf2
    cases d1 <;> simp only [descFits] at hf1 <;> try exact hf1.elim
    cases d2 <;> simp only [descFits] at hf2 <;> try exact hf2.elim
    simp at h; subst h; subst hf2
    cases hx with
    | d rx => cases rx with
    | v _ => exact ⟨.int _ _, by simp [convert, run_underlying hd1, run_underlying hd2, Conv.intToInt], .d (.v rfl)⟩
  · rename_i str hk1 hk2
    rw [hk1] at hf1; rw [hk2] at hf2
    cases d1 <;> simp only [descFits] at hf1 <;> try exact hf1.elim
    cases d2 <;> simp only [descFits] at hf2 <;> try exact hf2.elim
    simp at h; subst h
    cases hx with
    | d rx => cases rx with
    | v _ => exact ⟨.string _, by simp [convert, run_underlying hd1, run_underlying hd2], .d (.v rfl)⟩
  · rename_i el hk1 hk2
    rw [hk1] at hf1; rw [hk2] at hf2
    cases d1 <;> simp only [descFits] at hf1 <;> try exact hf1.elim
    cases d2 <;> simp only [descFits] at hf2 <;> try exact hf2.elim
    subst hf1
    rename_i el
    split at h
    case h_2 => cases h
    rename_i rows hel hrows
    split at h
    case h_2 => cases h
    rename_i l hl
    simp at h; subst h
    cases hee : T el with
    | none => rw [hee] at hel; simp at hel
    | some ee =>
      rw [hee] at hel; simp at hel
      obtain ⟨d3, hd3, hf3⟩ := (hT el ee hee).u
      rw [hel] at hf3
      cases d3 <;> simp only [descFits] at hf3 <;> try exact hf3.elim
      subst hf3
      have hrep := rowsA_ok hx hrows
      have hrl := bytesOf_get hl
      have hget : ∀ j (h : j < l.length), rows[j]? = some [.v (.int .u8 l[j])] := fun j h => by rw [hrl]; simp [h]
      cases hrep with
      | @l _ ao c size cs hrow hcap hmax hcell hrp =>
      have hn : rows.length = l.length := by rw [hrl]; simp
      by_cases h0 : rows.length = 0
      · have hl0 : l = [] := List.eq_nil_of_length_eq_zero (by omega)
        subst hl0
        cases ao with
        | none => exact ⟨.string .empty, by simp [convert, run_underlying hd1, run_underlying hd2, run_underlying hd3, Conv.bytesToString], .d (.v rfl)⟩
        | some ad =>
          refine ⟨.string .empty, ?_, .d (.v rfl)⟩
          have := run_bytesToString (P := P) w ad 0 c [] (by simp [loadCells, loadCellsFrom])
          simp [convert, run_underlying hd1, run_underlying hd2, run_underlying hd3, h0, this]
      · obtain ⟨ad, rfl, hc⟩ := hcell (by omega)
        have hs : size = 1 := by
          have : rows[0]? = some (rows[0]'(by omega)) := List.getElem?_eq_getElem (by omega)
          have h1 := hrow _ (List.mem_of_getElem? this)
          have h2 := hget 0 (by omega)
          rw [h2] at this
          rw [← h1, ← Option.some.inj this]; rfl
        subst hs
        have hld : (loadCells ad rows.length).run P w = .ok (l.map (Value.int .u8)).toArray w := by
          have := run_loadCells_list (P := P) w ad (l.map (Value.int .u8)) (fun j v hj => by
            have hjl : j < l.length := by have := (List.getElem?_eq_some_iff.1 hj).1; simpa using this
            have h1 := hc j (by omega)
            have h2 := hget j hjl
            have h3 := hrp j _ 0 _ h2 rfl
            simp only [Nat.mul_one, Nat.add_zero] at h3
            have h4 : cs j = .int .u8 l[j] := Rep.v_inv h3
            rw [h4] at h1
            simp [hjl] at hj
            rw [← hj]
            exact H.hin.cell h1)
          simpa [hn] using this
        refine ⟨.string (strOfInts l), ?_, .d (.v rfl)⟩
        have := run_bytesToString (P := P) w ad rows.length c l hld
        simp [convert, run_underlying hd1, run_underlying hd2, run_underlying hd3, this, strOfInts]
  · cases h

end
end Go.Am

/- Pieces of slices and texts; cells of values; structs out of parts. -/
set_option linter.unusedVariables false
set_option linter.unusedSimpArgs false
namespace Go.Am
section
variable {P : Program} {T : Tbl} {e : Env} {σ : St} {w : World}

/-! ### Pieces -/
def bndA (σ : St) : Option Operand → Option (Option Int)
  | none => some none
  | some o => match σ.ev o with
    | .d (.v (.int _ n)) => some (some n)
    | _ => none

def rowsFit (n : Nat) (rows : List (List Dat)) : Bool := rows.all fun r => r.length == n

def sliceRows (rows : List (List Dat)) (lo hi mx : Option Int) : Option AVal :=
  let h := hi.getD rows.length
  let l := lo.getD 0
  match mx with
  | none => if 0 ≤ l ∧ l ≤ h ∧ h ≤ rows.length then some (.d (.l ((rows.take h.toNat).drop l.toNat))) else none
  | some m => if hi.isSome ∧ 0 ≤ l ∧ l ≤ h ∧ h ≤ m ∧ m ≤ rows.length then
      (if m = h then some (.clip ((rows.take h.toNat).drop l.toNat)) else some (.d (.l ((rows.take h.toNat).drop l.toNat)))) else none

def sliceA (T : Tbl) (σ : St) (t : Nat) (x : AVal) (lo hi mx : Option Operand) : Option AVal :=
  match T t, bndA σ lo, bndA σ hi, bndA σ mx with
  | some te, some lo, some hi, some mx => match te.k with
    | .string => match x, mx with
      | .d (.v (.string s)), none => if 0 ≤ lo.getD 0 ∧ lo.getD 0 ≤ hi.getD s.size ∧ hi.getD s.size ≤ s.size then
          some (.d (.v (.string (s.extract (lo.getD 0).toNat (hi.getD s.size).toNat)))) else none
      | _, _ => none
    | .slice el => match T el, rowsA σ x with
      | some ee, some rows => if rowsFit ee.size rows then sliceRows rows lo hi mx else none
      | _, _ => none
    | _ => none
  | _, _, _, _ => none

theorem bndA_ok {a : Act} (S : SRel e σ a w) {o : Option Operand} {r : Option Int} (h : bndA σ o = some r) :
    (o = none ∧ r = none) ∨ ∃ x k n, o = some x ∧ r = some n ∧ a.eval x = .int k n := by
  unfold bndA at h
  split at h
  · simp at h; exact .inl ⟨rfl, h.symm⟩
  · rename_i x
    split at h
    · rename_i k n hx
      simp at h
      have hr := ev_rel S x
      rw [hx] at hr
      refine .inr ⟨x, k, n, rfl, h.symm, ?_⟩
      generalize a.eval x = v at hr
      cases hr with
      | d r => cases r with
      | v _ => rfl
    · cases h

theorem run_sliceBounds_ok (isSlice : Bool) (len cap : Nat) (hl : len ≤ cap) {a : Act} {lo hi mx : Option Operand} {l h m : Option Int}
    (hlo : (lo = none ∧ l = none) ∨ ∃ x k n, lo = some x ∧ l = some n ∧ a.eval x = .int k n)
    (hhi : (hi = none ∧ h = none) ∨ ∃ x k n, hi = some x ∧ h = some n ∧ a.eval x = .int k n)
    (hmx : (mx = none ∧ m = none) ∨ ∃ x k n, mx = some x ∧ m = some n ∧ a.eval x = .int k n)
    (h1 : 0 ≤ l.getD 0) (h2 : l.getD 0 ≤ h.getD len) (h3 : h.getD len ≤ m.getD cap) (h4 : m.getD cap ≤ cap) (h5 : m.isSome → h.isSome) :
    (Instr.sliceBounds isSlice len cap (lo.map a.eval) (hi.map a.eval) (mx.map a.eval)).run P w = .ok ((l.getD 0).toNat, (h.getD len).toNat, (m.getD cap).toNat) w := by
  have A : ∀ (y : Nat) code k (n : Int), 0 ≤ n → n ≤ y → (Instr.sliceBound (.int k n) y code).run P w = .ok n.toNat w := fun y code k n h0 h1 => by
    simp [Instr.sliceBound, asIntOf, h0, h1]
  unfold Instr.sliceBounds
  rcases hmx with ⟨rfl, rfl⟩ | ⟨xm, km, nm, rfl, rfl, em⟩ <;> rcases hhi with ⟨rfl, rfl⟩ | ⟨xh, kh, nh, rfl, rfl, eh⟩ <;> rcases hlo with ⟨rfl, rfl⟩ | ⟨xl, kl, nl, rfl, rfl, el⟩ <;>
    simp only [Option.getD_none, Option.getD_some, Option.isSome_none, Option.isSome_some] at h1 h2 h3 h4 h5 <;>
    first
      | (simp at h5; done)
      | (simp (disch := omega) only [Option.map_none, Option.map_some, Sem.run_bind, Sem.run_pure, Result.andThen_ok, em, eh, el, A, Option.getD_none, Option.getD_some, Int.toNat_natCast, Int.toNat_zero]; done)
      | (simp (disch := omega) only [Option.map_none, Option.map_some, Sem.run_bind, Sem.run_pure, Result.andThen_ok, em, eh, A, Option.getD_none, Option.getD_some, Int.toNat_natCast, Int.toNat_zero]; done)
      | (simp (disch := omega) only [Option.map_none, Option.map_some, Sem.run_bind, Sem.run_pure, Result.andThen_ok, eh, el, A, Option.getD_none, Option.getD_some, Int.toNat_natCast, Int.toNat_zero]; done)
      | (simp (disch := omega) only [Option.map_none, Option.map_some, Sem.run_bind, Sem.run_pure, Result.andThen_ok, eh, A, Option.getD_none, Option.getD_some, Int.toNat_natCast, Int.toNat_zero]; done)
      | (simp (disch := omega) only [Option.map_none, Option.map_some, Sem.run_bind, Sem.run_pure, Result.andThen_ok, el, A, Option.getD_none, Option.getD_some, Int.toNat_natCast, Int.toNat_zero]; done)
      | (simp only [Option.map_none, Option.map_some, Sem.run_bind, Sem.run_pure, Result.andThen_ok, Option.getD_none, Option.getD_some, Int.toNat_natCast, Int.toNat_zero]; done)

theorem Rep.piece {h : FHeap} {rows : List (List Dat)} {a : Option Addr} {n c : Nat} {ee : Nat} (r : Rep h (.l rows) (.slice a n c)) (hf : rowsFit ee rows = true)
    {l hh m : Nat} (h1 : l ≤ hh) (h2 : hh ≤ rows.length) (h3 : hh ≤ m) (h4 : m ≤ c) :
    Rep h (.l ((rows.take hh).drop l)) (.slice (if m = l then a else a.map (·.add (l * ee))) (hh - l) (m - l)) := by
  have hlen : ((rows.take hh).drop l).length = hh - l := by simp; omega
  rw [← hlen]
  generalize hv : Value.slice a n c = v at r
  cases r with
  | @l _ a' c' size cs hrow hcap hmax hcell hrep =>
    injection hv with ha hn hc
    subst ha hn hc
    have hsz : 0 < rows.length → size = ee := fun hp => by
      have h0 := hrow rows[0] (List.getElem_mem _)
      unfold rowsFit at hf
      rw [List.all_eq_true] at hf
      have := hf rows[0] (List.getElem_mem _)
      simp at this
      omega
    refine .l size (fun i => cs (l * size + i)) (fun r hr => hrow r (List.mem_of_mem_take (List.mem_of_mem_drop hr))) (by rw [hlen]; omega) (by omega) (fun hp => ?_) (fun j r k d hj hk => ?_)
    · rw [hlen] at hp
      obtain ⟨ad, rfl, hc⟩ := hcell (by omega)
      rw [if_neg (by omega)]
      refine ⟨ad.add (l * ee), rfl, fun i hi => ?_⟩
      rw [hlen] at hi
      rw [addr_add_add, ← hsz (by omega)]
      refine hc _ ?_
      have : (hh - l) * size + l * size = hh * size := by rw [← Nat.add_mul]; congr 1; omega
      have h5 : hh * size ≤ rows.length * size := Nat.mul_le_mul_right _ h2
      omega
    · rw [List.getElem?_drop] at hj
      have hjl : l + j < hh := by
        have := (List.getElem?_eq_some_iff.1 hj).1
        simp at this; omega
      rw [List.getElem?_take_of_lt hjl] at hj
      have := hrep (l + j) r k d hj hk
      rw [Nat.add_mul] at this
      rw [← Nat.add_assoc]; exact this

theorem sliceA_ok (hT : TblOk P T) {a : Act} (S : SRel e σ a w) {t : Nat} {x z : AVal} {v : Value} {lo hi mx : Option Operand} (hx : VRel e (obj σ.L σ.G) x v)
    (h : sliceA T σ t x lo hi mx = some z) : ∃ u, (Instr.sliceAt t v (lo.map a.eval) (hi.map a.eval) (mx.map a.eval)).run P w = .ok u w ∧ VRel e (obj σ.L σ.G) z u := by
  unfold sliceA at h
  split at h
  case h_2 => cases h
  rename_i te l hh m hte hlo hhi hmx
  have blo := bndA_ok S hlo
  have bhi := bndA_ok S hhi
  have bmx := bndA_ok S hmx
  obtain ⟨d, hd, hfit⟩ := (hT t te hte).u
  split at h
  · rename_i hk
    rw [hk] at hfit
    cases d <;> simp only [descFits] at hfit <;> try exact hfit.elim
    split at h
    case h_2 => cases h
    rename_i mx0 s
    split at h
    case isFalse => cases h
    rename_i hc
    simp at h; subst h
    cases hx with
    | d rx => cases rx with
    | v _ =>
    rcases bmx with ⟨rfl, _⟩ | ⟨_, _, _, _, hcon, _⟩
    case inr => cases hcon
    have := run_sliceBounds_ok (P := P) (w := w) false s.size s.size (Nat.le_refl _) blo bhi (.inl ⟨rfl, rfl⟩ : (none : Option Operand) = none ∧ (none : Option Int) = none ∨ _) hc.1 hc.2.1 (by simpa using hc.2.2) (by simp) (by simp)
    refine ⟨_, ?_, .d (.v rfl)⟩
    simp only [Option.map_none] at this
    simp [Instr.sliceAt, run_underlying hd, Instr.slice, this]
  · rename_i el hk
    rw [hk] at hfit
    cases d <;> simp only [descFits] at hfit <;> try exact hfit.elim
    subst hfit
    split at h
    case h_2 => cases h
    rename_i ee rows hee hrows
    split at h
    case isFalse => cases h
    rename_i hfitr
    have hrep := rowsA_ok hx hrows
    have hshape : ∃ a c, v = .slice a rows.length c ∧ rows.length ≤ c := by
      cases hrep with
      | l size cs hrow hcap => exact ⟨_, _, rfl, hcap⟩
    obtain ⟨ad, c, rfl, hcap⟩ := hshape
    unfold sliceRows at h
    simp only at h
    split at h
    · split at h
      case isFalse => cases h
      rename_i hc
      simp at h; subst h
      have := run_sliceBounds_ok (P := P) (w := w) true rows.length c hcap blo bhi bmx hc.1 hc.2.1 (by simp; omega) (by simp) (by simp)
      refine ⟨_, ?_, .d (Rep.piece (l := (l.getD 0).toNat) (hh := (hh.getD rows.length).toNat) (m := c) hrep hfitr (by omega) (by omega) (by omega) (Nat.le_refl _))⟩
      simp [Instr.sliceAt, run_underlying hd, Instr.slice, this, run_sizeOf' hT hee]
    · rename_i mm
      split at h
      case isFalse => cases h
      rename_i hc
      have := run_sliceBounds_ok (P := P) (w := w) true rows.length c hcap blo bhi bmx hc.2.1 hc.2.2.1 (by simpa using hc.2.2.2.1) (by simp; omega) (fun _ => hc.1)
      have hp := Rep.piece (l := (l.getD 0).toNat) (hh := (hh.getD rows.length).toNat) (m := mm.toNat) hrep hfitr (by omega) (by omega) (by omega) (by omega)
      simp only [Option.getD_some] at this
      split at h
      · rename_i hm
        simp at h; subst h
        refine ⟨_, by simp [Instr.sliceAt, run_underlying hd, Instr.slice, this, run_sizeOf' hT hee]; rfl, ?_⟩
        rw [hm] at hp ⊢
        exact .clip hp
      · simp at h; subst h
        exact ⟨_, by simp [Instr.sliceAt, run_underlying hd, Instr.slice, this, run_sizeOf' hT hee], .d hp⟩
  · cases h

end
end Go.Am

/- Cells of values, structs out of parts, lengths; and all operations that leave memory alone, together. -/
set_option linter.unusedVariables false
set_option linter.unusedSimpArgs false
namespace Go.Am
section
variable {P : Program} {T : Tbl} {e : Env} {σ : St} {w : World}

def All2 (R : AVal → Value → Prop) (l : List AVal) (m : List Value) : Prop :=
  l.length = m.length ∧ ∀ (k : Nat) (x : AVal) (v : Value), l[k]? = some x → m[k]? = some v → R x v

theorem All2.splice {R : AVal → Value → Prop} {l l' : List AVal} {m m' : List Value} (a : All2 R l m) (b : All2 R l' m') (off : Nat) :
    All2 R (l.take off ++ l' ++ l.drop (off + l'.length)) (m.take off ++ m' ++ m.drop (off + m'.length)) := by
  refine ⟨by simp [a.1, b.1], fun k x v hx hv => ?_⟩
  have hlen : (l.take off ++ l').length = (m.take off ++ m').length := by simp [a.1, b.1]
  by_cases h1 : k < (l.take off ++ l').length
  · rw [List.getElem?_append_left h1] at hx
    rw [List.getElem?_append_left (by omega)] at hv
    by_cases h2 : k < (l.take off).length
    · have h2' : k < (m.take off).length := by simp [a.1] at h2 ⊢; omega
      rw [List.getElem?_append_left h2] at hx
      rw [List.getElem?_append_left h2'] at hv
      have hk : k < off := by simp at h2; omega
      rw [List.getElem?_take_of_lt hk] at hx hv
      exact a.2 k x v hx hv
    · have h2' : ¬ k < (m.take off).length := by simp [a.1] at h2 ⊢; omega
      rw [List.getElem?_append_right (by omega)] at hx
      rw [List.getElem?_append_right (by omega)] at hv
      have : (l.take off).length = (m.take off).length := by simp [a.1]
      rw [this] at hx
      exact b.2 _ x v hx hv
  · rw [List.getElem?_append_right (by omega)] at hx
    rw [List.getElem?_append_right (by omega)] at hv
    rw [List.getElem?_drop] at hx hv
    rw [hlen, b.1] at hx
    exact a.2 _ x v hx hv

/-- A value of one cell. -/
def oneA : AVal → Bool
  | .any | .agg _ | .tup _ => false
  | _ => true

theorem oneA_ok {ob : Loc → Option AObj} {x : AVal} {v : Value} (r : VRel e ob x v) (h : oneA x = true) : v.oneCell' = true := by
  cases r with
  | any => cases h
  | nils => rfl
  | d r => exact r.oneCell
  | clip r => rfl
  | @p p k v r =>
    unfold PRel at r
    split at r
    · exact r.elim
    · exact r
    · split at r
      · obtain ⟨_, _, _, rfl⟩ := r; rfl
      · exact r.elim
    · split at r
      · obtain ⟨_, _, _, rfl⟩ := r; rfl
      · exact r.elim
    · split at r
      · exact r.1
      · exact r.1
      · exact r.elim
    · split at r
      · exact r.1
      · exact r
    · split at r
      · obtain ⟨_, _, _, rfl⟩ := r; rfl
      · exact r.elim
  | elem => rfl
  | clo => rfl
  | agg => cases h
  | tup => cases h

def cellsA : AVal → Option (List AVal)
  | .agg cs => if cs.all oneA then some cs else none
  | x => if oneA x then some [x] else none

def Cell (e : Env) (ob : Loc → Option AObj) (x : AVal) (v : Value) : Prop := VRel e ob x v ∧ v.oneCell' = true

theorem cellsA_ok {ob : Loc → Option AObj} {x : AVal} {v : Value} {cs : List AVal} (r : VRel e ob x v) (h : cellsA x = some cs) : All2 (Cell e ob) cs v.cells.toList := by
  unfold cellsA at h
  split at h
  · rename_i cs'
    split at h
    · rename_i hall
      simp at h; subst h
      cases r with
      | @agg _ vs h1 hr =>
      refine ⟨by simp [Value.cells, h1], fun k x v hx hv => ?_⟩
      have hv' : vs[k]? = some v := by simpa [Value.cells] using hv
      have h0 := hr k x v hx hv'
      exact ⟨h0, oneA_ok h0 (List.all_eq_true.1 hall x (List.mem_of_getElem? hx))⟩
    · cases h
  · split at h
    · rename_i hx
      simp at h; subst h
      have h1 := oneA_ok r hx
      have hc : v.cells = #[v] := by cases v <;> first | rfl | (simp [Value.oneCell'] at h1)
      rw [hc]
      refine ⟨rfl, fun k y u hy hu => ?_⟩
      cases k with
      | zero => simp at hy hu; subst hy; subst hu; exact ⟨r, h1⟩
      | succ k => simp at hy
    · cases h

/-! ### Structs out of parts -/
def splA (cs : List AVal) (off : Nat) (xs : List AVal) : List AVal := cs.take off ++ xs ++ cs.drop (off + xs.length)
def splV (cs : List Value) (off : Nat) (xs : List Value) : List Value := cs.take off ++ xs ++ cs.drop (off + xs.length)

def fillA (place : Nat → Option (Nat × Nat)) (cells : List AVal) : List (Nat × AVal) → Option (List AVal)
  | [] => some cells
  | (i, x) :: rest => match place i, cellsA x with
    | some (off, size), some cs => if cs.length = size ∧ off + size ≤ cells.length then fillA place (splA cells off cs) rest else none
    | _, _ => none

theorem splV_get (cs xs : List Value) (off k : Nat) (h : off + xs.length ≤ cs.length) :
    (splV cs off xs)[k]? = if k < off then cs[k]? else if k < off + xs.length then xs[k - off]? else cs[k]? := by
  unfold splV
  have hl : (cs.take off).length = off := by simp; omega
  by_cases h1 : k < off
  · rw [if_pos h1, List.append_assoc, List.getElem?_append_left (by omega), List.getElem?_take_of_lt h1]
  · rw [if_neg h1, List.append_assoc, List.getElem?_append_right (by omega), hl]
    by_cases h2 : k < off + xs.length
    · rw [if_pos h2, List.getElem?_append_left (by omega)]
    · rw [if_neg h2, List.getElem?_append_right (by omega), List.getElem?_drop]
      congr 1; omega

theorem foldset : ∀ (l : List Value) (off j : Nat) (cells : Array Value), off + j + l.length ≤ cells.size →
    (l.zipIdx j).foldl (fun (cs : Array Value) (p : Value × Nat) => cs.setIfInBounds (off + p.2) p.1) cells = (splV cells.toList (off + j) l).toArray
  | [], off, j, cells, h => by simp [splV]
  | v :: rest, off, j, cells, h => by
    simp only [List.length_cons] at h
    simp only [List.zipIdx_cons, List.foldl_cons]
    rw [foldset rest off (j + 1) _ (by simp; omega)]
    apply Array.ext'
    apply List.ext_getElem?
    intro k
    simp only [Array.toList_setIfInBounds]
    rw [splV_get _ _ _ _ (by simp; omega), splV_get _ _ _ _ (by simp; omega)]
    rw [List.getElem?_set]
    simp only [List.length_cons, Array.length_toList]
    by_cases h1 : k < off + j
    · rw [if_pos (show k < off + (j + 1) by omega), if_pos h1, if_neg (by omega)]
    · by_cases h2 : k = off + j
      · subst h2
        have e1 : off + j < cells.size := by omega
        have e2 : off + j < off + (j + 1) := by omega
        have e3 : off + j < off + j + (rest.length + 1) := by omega
        simp [e1, e2, e3]
      · rw [if_neg (show ¬ k < off + (j + 1) by omega), if_neg h1]
        by_cases h3 : k < off + j + (rest.length + 1)
        · rw [if_pos (by omega), if_pos h3]
          obtain ⟨q, hq⟩ : ∃ q, k - (off + j) = q + 1 := ⟨k - (off + j) - 1, by omega⟩
          rw [hq, List.getElem?_cons_succ]
          congr 1; omega
        · rw [if_neg (by omega), if_neg h3, if_neg (by omega)]

theorem size_splV {cs xs : List Value} {off : Nat} (h : off + xs.length ≤ cs.length) : (splV cs off xs).length = cs.length := by
  unfold splV; simp; omega

theorem fillA_ok {ob : Loc → Option AObj} {place : Nat → Option (Nat × Nat)} : ∀ {ps : List (Nat × AVal)} {vs : List (Nat × Value)} {cells : List AVal} {vcells : Array Value} {r : List AVal},
    ps.length = vs.length → (∀ (k : Nat) (x : Nat × AVal) (v : Nat × Value), ps[k]? = some x → vs[k]? = some v → x.1 = v.1 ∧ VRel e ob x.2 v.2) →
    All2 (Cell e ob) cells vcells.toList → fillA place cells ps = some r →
    ∃ vr, Instr.fill place vcells vs = some vr ∧ All2 (Cell e ob) r vr.toList
  | [], vs, cells, vcells, r, hl, _, ha, h => by
    simp [fillA] at h; subst h
    cases vs with
    | nil => exact ⟨vcells, rfl, ha⟩
    | cons => simp at hl
  | (i, x) :: rest, vs, cells, vcells, r, hl, hp, ha, h => by
    cases vs with
    | nil => simp at hl
    | cons v vrest =>
      obtain ⟨j, v⟩ := v
      have h0 := hp 0 (i, x) (j, v) rfl rfl
      obtain ⟨rfl, hxv⟩ := h0
      unfold fillA at h
      split at h
      case h_2 => cases h
      rename_i off size cs hpl hcs
      split at h
      case isFalse => cases h
      rename_i hc
      have hcell := cellsA_ok hxv hcs
      have hsz : v.cells.size = cs.length := by have := hcell.1; simp at this; omega
      have hvc : vcells.size = cells.length := by have := ha.1; simp at this; omega
      have ha' : All2 (Cell e ob) (splA cells off cs) (splV vcells.toList off v.cells.toList) := ha.splice hcell off
      obtain ⟨vr, hvr, hall⟩ := fillA_ok (ps := rest) (vs := vrest) (vcells := (splV vcells.toList off v.cells.toList).toArray) (by simpa using hl) (fun k x v hx hv => hp (k + 1) x v hx hv) (by simpa using ha') h
      refine ⟨vr, ?_, hall⟩
      unfold Instr.fill
      simp only [hpl]
      rw [if_neg (by simp; omega)]
      have hf := foldset v.cells.toList off 0 vcells (by simp; omega)
      rw [Nat.add_zero] at hf
      rw [← hf] at hvr
      rw [← hvr]
      congr 1
      rw [← Array.foldl_toList]
      simp [Array.toList_zipIdx]

def placesA (T : Tbl) (fs : List (Nat × Nat)) : Option (List (Nat × Nat)) := fs.mapM fun f => (T f.1).map fun fe => (f.2, fe.size)

def buildA (T : Tbl) (σ : St) (t : Nat) (parts : List (Nat × AVal)) : Option AVal :=
  match T t with
  | some te => match te.k with
    | .struct fs => match placesA T fs with
      | some places => match fillA (fun i => places[i]?) (te.zero.map zeroA) parts with
        | some cs => some (.agg cs)
        | none => none
      | none => none
    | .array _ el => match T el with
      | some ee => match fillA (fun i => some (i * ee.size, ee.size)) (te.zero.map zeroA) parts with
        | some cs => some (.agg cs)
        | none => none
      | none => none
    | _ => none
  | none => none

theorem zero_all2 {ob : Loc → Option AObj} {l : List Value} (h : l.all (·.oneCell') = true) : All2 (Cell e ob) (l.map zeroA) l := by
  refine ⟨by simp, fun k x v hx hv => ?_⟩
  rw [List.getElem?_map, hv] at hx
  simp at hx; subst hx
  have h1 := List.all_eq_true.1 h v (List.mem_of_getElem? hv)
  exact ⟨zeroA_rel h1, h1⟩

theorem places_ok (hT : TblOk P T) : ∀ {fs : List Field} {places : List (Nat × Nat)}, placesA T (fs.map fun f => (f.type, f.offset)) = some places →
    fs.mapM (fun f => (P.info? f.type).map fun i => (f.offset, i.size)) = some places
  | [], places, h => by simpa [placesA] using h
  | f :: fs, places, h => by
    simp only [placesA, List.map_cons, List.mapM_cons] at h ⊢
    cases hf : T f.type with
    | none => rw [hf] at h; simp at h
    | some fe =>
      rw [hf] at h
      cases hr : placesA T (fs.map fun f => (f.type, f.offset)) with
      | none => unfold placesA at hr; rw [hr] at h; simp at h
      | some rest =>
        have ih := places_ok hT hr
        unfold placesA at hr
        rw [hr] at h
        simp at h
        obtain ⟨i, z, hi, _, hs, _⟩ := (hT _ _ hf).i
        rw [ih, hi]
        simp [hs, h]

theorem buildA_ok (hT : TblOk P T) {t : Nat} {ps : List (Nat × AVal)} {vs : Array (Nat × Value)} {z : AVal} (hl : ps.length = vs.size)
    (hp : ∀ (k : Nat) (x : Nat × AVal) (v : Nat × Value), ps[k]? = some x → vs[k]? = some v → x.1 = v.1 ∧ VRel e (obj σ.L σ.G) x.2 v.2) (h : buildA T σ t ps = some z) :
    ∃ u, (Instr.build t vs).run P w = .ok u w ∧ VRel e (obj σ.L σ.G) z u := by
  unfold buildA at h
  split at h
  case h_2 => cases h
  rename_i te hte
  obtain ⟨d, hd, hfit⟩ := (hT t te hte).u
  obtain ⟨i, zv, hi, hz, hs, hb, hzc⟩ := (hT t te hte).i
  have hzall := (hT t te hte).z
  have hz2 : All2 (Cell e (obj σ.L σ.G)) (te.zero.map zeroA) zv.cells.toList := by rw [hzc]; exact zero_all2 hzall
  have hp' : ∀ (k : Nat) (x : Nat × AVal) (v : Nat × Value), ps[k]? = some x → vs.toList[k]? = some v → x.1 = v.1 ∧ VRel e (obj σ.L σ.G) x.2 v.2 := fun k x v hx hv => hp k x v hx (by simpa using hv)
  split at h
  · rename_i fs hk
    rw [hk] at hfit
    cases d <;> simp only [descFits] at hfit <;> try exact hfit.elim
    rename_i fields
    split at h
    case h_2 => cases h
    rename_i places hpl
    split at h
    case h_2 => cases h
    rename_i cs hcs
    simp at h; subst h
    rw [← hfit] at hpl
    obtain ⟨vr, hvr, hall⟩ := fillA_ok (ps := ps) (vs := vs.toList) (by simpa using hl) hp' hz2 hcs
    refine ⟨.agg vr, ?_, .agg (by have := hall.1; simp at this; omega) (fun k x v hx hv => (hall.2 k x v hx (by simpa using hv)).1)⟩
    have hpp := run_places (P := P) w fields.toList places (places_ok hT hpl)
    simp only [Instr.build, Sem.run_bind, zeroValue, typeInfo, run_program, Result.andThen_ok, hi, Sem.run_pure, hz, run_underlying hd, Array.mapM_eq_mapM_toList, Sem.run_map]
    simp [hpp, hvr]
  · rename_i n el hk
    rw [hk] at hfit
    cases d <;> simp only [descFits] at hfit <;> try exact hfit.elim
    obtain ⟨rfl, rfl⟩ := hfit
    split at h
    case h_2 => cases h
    rename_i ee hee
    split at h
    case h_2 => cases h
    rename_i cs hcs
    simp at h; subst h
    obtain ⟨vr, hvr, hall⟩ := fillA_ok (ps := ps) (vs := vs.toList) (by simpa using hl) hp' hz2 hcs
    refine ⟨.agg vr, ?_, .agg (by have := hall.1; simp at this; omega) (fun k x v hx hv => (hall.2 k x v hx (by simpa using hv)).1)⟩
    simp [Instr.build, zeroValue, typeInfo, hi, hz, run_underlying hd, run_sizeOf' hT hee, hvr]
  · cases h

end
end Go.Am

/- All operations that leave memory alone, together. -/
set_option linter.unusedVariables false
set_option linter.unusedSimpArgs false
namespace Go.Am
section
variable {P : Program} {T : Tbl} {e : Env} {σ : St} {w : World}

def lenA (T : Tbl) (σ : St) (t : Nat) (x : AVal) : Option Int :=
  match T t with
  | some te => match te.k with
    | .string => match x with
      | .d (.v (.string s)) => some s.size
      | _ => none
    | .slice _ => match rowsA σ x with
      | some rows => some rows.length
      | none => match ownA σ x with
        | some (_, _, _, rows) => some rows.length
        | none => none
    | .map _ _ => match x with
      | .p p .mp => match obj σ.L σ.G p with
        | some (.map es _) => some es.length
        | _ => none
      | .d (.v (.map none)) => some 0
      | _ => none
    | _ => none
  | none => none

theorem lenA_ok (hT : TblOk P T) (H : HRel e σ.L σ.G w) {t ty : Nat} {ts : Array TypeId} {x : AVal} {v : Value} {n : Int} (hts : ts[0]? = some t) (hx : VRel e (obj σ.L σ.G) x v)
    (h : lenA T σ t x = some n) : (Builtin.len_ ts ty #[v]).run P w = .ok (.int .i64 n) w := by
  unfold lenA at h
  split at h
  case h_2 => cases h
  rename_i te hte
  obtain ⟨d, hd, hfit⟩ := (hT t te hte).u
  split at h
  · rename_i hk
    rw [hk] at hfit
    cases d <;> simp only [descFits] at hfit <;> try exact hfit.elim
    split at h
    · simp at h; subst h
      cases hx with
      | d r => cases r with
      | v _ => simp [Builtin.len_, hts, run_underlying hd, goInt]
    · cases h
  · rename_i el hk
    rw [hk] at hfit
    cases d <;> simp only [descFits] at hfit <;> try exact hfit.elim
    have key : ∃ a c, v = .slice a n.toNat c ∧ 0 ≤ n := by
      split at h
      · rename_i rows hrows
        have := rowsA_ok hx hrows
        simp at h; subst h
        cases this with
        | l size cs hrow hcap => exact ⟨_, _, rfl, Int.natCast_nonneg _⟩
      · split at h
        · rename_i p sz g rows hown
          obtain ⟨_, _, hv, ho⟩ := ownA_ok H hx hown
          simp at h; subst h
          cases hb : e.blk p with
          | none => rw [hb] at ho hv; simp only [ORel] at ho; subst ho; exact ⟨none, 0, hv, Int.natCast_nonneg _⟩
          | some bc => rw [hb] at hv; exact ⟨_, _, hv, Int.natCast_nonneg _⟩
        · cases h
    obtain ⟨a, c, rfl, h0⟩ := key
    simp [Builtin.len_, hts, run_underlying hd, goInt]
    omega
  · rename_i k1 v1 hk
    rw [hk] at hfit
    cases d <;> simp only [descFits] at hfit <;> try exact hfit.elim
    split at h
    · rename_i p
      split at h
      · rename_i es hp
        simp at h; subst h
        cases hx with
        | p r =>
        simp only [PRel, hp] at r
        obtain ⟨b, c, hb, rfl⟩ := r
        obtain ⟨b', c', ens, hb', hw, hs, _⟩ := H.o p _ hp
        rw [hb] at hb'; cases hb'
        simp [Builtin.len_, hts, run_underlying hd, goInt, getObj, Sem.run, hw, hs]
      · cases h
    · simp at h; subst h
      cases hx with
      | d r => cases r with
      | v _ => simp [Builtin.len_, hts, run_underlying hd, goInt]
    · cases h
  · cases h

/-! ### max, min -/
def intsA (σ : St) : List Operand → Option (List Int)
  | [] => some []
  | o :: os => match σ.ev o with
    | .d (.v (.int .i64 n)) => (intsA σ os).map (n :: ·)
    | _ => none

theorem intsA_ok {a : Act} (S : SRel e σ a w) : ∀ {os : List Operand} {l : List Int}, intsA σ os = some l → os.map a.eval = l.map (Value.int .i64)
  | [], l, h => by simp [intsA] at h; subst h; rfl
  | o :: os, l, h => by
    unfold intsA at h
    split at h
    · rename_i n hn
      cases hr : intsA σ os with
      | none => rw [hr] at h; simp at h
      | some l' =>
        rw [hr] at h; simp at h; subst h
        have hv := ev_rel S o
        rw [hn] at hv
        have : a.eval o = .int .i64 n := by
          generalize a.eval o = v at hv
          cases hv with
          | d r => cases r with
          | v _ => rfl
        simp [this, intsA_ok S hr]
    · cases h

def maxI (x : Int) (l : List Int) : Int := l.foldl (fun x y => if y > x then y else x) x
def minI (x : Int) (l : List Int) : Int := l.foldl (fun x y => if y < x then y else x) x

theorem run_maxI : ∀ (l : List Int) (x : Int), ((l.map (Value.int .i64)).foldlM Builtin.max2 (.int .i64 x)).run P w = .ok (.int .i64 (maxI x l)) w
  | [], x => rfl
  | y :: l, x => by
    simp only [List.map_cons, List.foldlM_cons, Sem.run_bind, Builtin.max2, Sem.run_pure, Result.andThen_ok]
    rw [run_maxI l]; rfl

theorem run_minI : ∀ (l : List Int) (x : Int), ((l.map (Value.int .i64)).foldlM Builtin.min2 (.int .i64 x)).run P w = .ok (.int .i64 (minI x l)) w
  | [], x => rfl
  | y :: l, x => by
    simp only [List.map_cons, List.foldlM_cons, Sem.run_bind, Builtin.min2, Sem.run_pure, Result.andThen_ok]
    rw [run_minI l]; rfl

def pickA (c : Bool) (a b : AVal) : AVal :=
  match a, b with
  | .d (.v (.bool x)), .d (.v (.bool y)) => .d (.v (.bool (if c then x else y)))
  | a, b => if c then a else b

theorem pickA_ok {ob : Loc → Option AObj} {c : Bool} {a b : AVal} {u v : Value} (ha : VRel e ob a u) (hb : VRel e ob b v) : VRel e ob (pickA c a b) (if c then u else v) := by
  unfold pickA
  split
  · cases ha with
    | d r => cases r with
    | v _ => cases hb with
      | d r => cases r with
        | v _ => cases c <;> exact .d (.v rfl)
  · cases c <;> simp_all

/-- What an operation that leaves memory alone yields. -/
def evalV (T : Tbl) (σ : St) (op : Op) : Option AVal :=
  match op with
  | .move x | .assign x => some (σ.ev x)
  | .pick c a b => match σ.ev c with
    | .d (.v (.bool c)) => some (pickA c (σ.ev a) (σ.ev b))
    | _ => none
  | .nilCheck x => nilA σ (σ.ev x)
  | .fieldAddr s x f => fieldA T σ s (σ.ev x) f
  | .indexAddr t x i => indexA T σ t (σ.ev x) (σ.ev i)
  | .index t x i => valIndexA T t (σ.ev x) (σ.ev i)
  | .field t x f => valFieldA T t (σ.ev x) f
  | .load t a => loadA T σ t (σ.ev a)
  | .binOp op t x y _ => binA T σ op t (σ.ev x) (σ.ev y)
  | .unOp op _ x => unA op (σ.ev x)
  | .convert s d x => convA T σ s d (σ.ev x)
  | .slice t x lo hi mx => sliceA T σ t (σ.ev x) lo hi mx
  | .build t parts => buildA T σ t (parts.toList.map fun p => (p.1, σ.ev p.2))
  | .extract x i => match σ.ev x with
    | .tup vs => vs[i]?
    | _ => none
  | .makeFunc fn f c => some (.clo fn (f.toList.map σ.ev) (c.toList.map σ.ev))
  | .call { callee := .builtin .len, args := args, argTypes := ts } => match args.toList, ts.toList with
    | [x], t :: _ => (lenA T σ t (σ.ev x)).map fun n => .d (.v (.int .i64 n))
    | _, _ => none
  | .call { callee := .builtin .max, args := args, argTypes := _ } => match intsA σ args.toList with
    | some (x :: l) => some (.d (.v (.int .i64 (maxI x l))))
    | _ => none
  | .call { callee := .builtin .min, args := args, argTypes := _ } => match intsA σ args.toList with
    | some (x :: l) => some (.d (.v (.int .i64 (minI x l))))
    | _ => none
  | _ => none

theorem evalV_ok (hT : TblOk P T) {a : Act} (S : SRel e σ a w) {o : Oper} {x : AVal} (h : evalV T σ o.op = some x) :
    ∃ v, (execOp a.eval o).run P w = .ok (.value v) w ∧ VRel e (obj σ.L σ.G) x v := by
  unfold evalV at h
  split at h
  · rename_i y hop
    simp at h; subst h
    exact ⟨a.eval y, by simp [execOp, hop], ev_rel S y⟩
  · rename_i y hop
    simp at h; subst h
    exact ⟨a.eval y, by simp [execOp, hop], ev_rel S y⟩
  · rename_i c y z hop
    split at h
    case h_2 => cases h
    rename_i b hb
    simp at h; subst h
    have hc := ev_rel S c
    rw [hb] at hc
    have hcv : a.eval c = .bool b := by
      generalize a.eval c = v at hc
      cases hc with
      | d r => cases r with
      | v _ => rfl
    exact ⟨if b then a.eval y else a.eval z, by simp [execOp, hop, hcv, asBool], pickA_ok (ev_rel S y) (ev_rel S z)⟩
  · rename_i y hop
    have hy := ev_rel S y
    obtain ⟨he, hv⟩ := nilA_ok hy h
    rw [he] at hy
    refine ⟨a.eval y, ?_, hy⟩
    rcases hv with ⟨ad, hv⟩ | ⟨f, c, d, hv⟩ <;> simp [execOp, hop, hv]
  · rename_i s y f hop
    obtain ⟨u, hu, hr⟩ := fieldA_ok hT (ev_rel S y) h
    exact ⟨u, by simp [execOp, hop, hu w], hr⟩
  · rename_i t y i hop
    obtain ⟨u, hu, hr⟩ := indexA_ok hT S.h (ev_rel S y) (ev_rel S i) h
    exact ⟨u, by simp [execOp, hop, hu w], hr⟩
  · rename_i t y i hop
    obtain ⟨u, hu, hr⟩ := valIndexA_ok (w := w) hT (ev_rel S y) (ev_rel S i) h
    exact ⟨u, by simp [execOp, hop, hu], hr⟩
  · rename_i t y f hop
    obtain ⟨u, hu, hr⟩ := valFieldA_ok (w := w) hT (ev_rel S y) h
    exact ⟨u, by simp [execOp, hop, hu], hr⟩
  · rename_i t y hop
    obtain ⟨u, hu, hr⟩ := loadA_ok hT S.h (ev_rel S y) h
    exact ⟨u, by simp [execOp, hop, hu], hr⟩
  · rename_i op t y z _ hop
    obtain ⟨u, hu, hr⟩ := binA_ok (w := w) hT (o1 := y) (o2 := z) (ev_rel S y) (ev_rel S z) h
    refine ⟨u, ?_, hr⟩
    simp only [execOp, hop, Sem.run_bind] at hu ⊢
    rw [hu]; rfl
  · rename_i op t y hop
    obtain ⟨u, hu, hr⟩ := unA_ok (P := P) (w := w) (ev_rel S y) h
    exact ⟨u, by simp [execOp, hop, hu], hr⟩
  · rename_i s d y hop
    obtain ⟨u, hu, hr⟩ := convA_ok hT S.h (ev_rel S y) h
    exact ⟨u, by simp [execOp, hop, hu], hr⟩
  · rename_i t y lo hi mx hop
    obtain ⟨u, hu, hr⟩ := sliceA_ok hT S (ev_rel S y) h
    exact ⟨u, by simp [execOp, hop, hu], hr⟩
  · rename_i t parts hop
    obtain ⟨u, hu, hr⟩ := buildA_ok (w := w) hT (vs := parts.map fun (i, x) => (i, a.eval x)) (by simp) (fun k x v hx hv => by
      simp only [List.getElem?_map, Array.getElem?_toList, Array.getElem?_map] at hx hv
      cases hq : parts[k]? with
      | none => rw [hq] at hx; simp at hx
      | some q =>
        rw [hq] at hx hv
        simp at hx hv; subst hx; subst hv
        exact ⟨rfl, ev_rel S _⟩) h
    exact ⟨u, by simp [execOp, hop, hu], hr⟩
  · rename_i y i hop
    split at h
    case h_2 => cases h
    rename_i vs hvs
    have hy := ev_rel S y
    rw [hvs] at hy
    generalize hav : a.eval y = v at hy
    cases hy with
    | @tup _ us h1 hr =>
    have hi : i < us.size := by have := (List.getElem?_eq_some_iff.1 h).1; omega
    exact ⟨us[i], by simp [execOp, hop, hav, Instr.extract, hi], hr i x _ h (Array.getElem?_eq_getElem hi)⟩
  · rename_i fn f c hop
    simp at h; subst h
    refine ⟨.func fn (f.map a.eval) (c.map a.eval), by simp [execOp, hop, Instr.makeFunc], .clo (by simp) (by simp) (fun k x v hx hv => ?_) (fun k x v hx hv => ?_)⟩
    · simp only [List.getElem?_map, Array.getElem?_toList, Array.getElem?_map] at hx hv
      cases hq : f[k]? with
      | none => rw [hq] at hx; simp at hx
      | some q => rw [hq] at hx hv; simp at hx hv; subst hx; subst hv; exact ev_rel S _
    · simp only [List.getElem?_map, Array.getElem?_toList, Array.getElem?_map] at hx hv
      cases hq : c[k]? with
      | none => rw [hq] at hx; simp at hx
      | some q => rw [hq] at hx hv; simp at hx hv; subst hx; subst hv; exact ev_rel S _
  · rename_i args ts hop
    split at h
    case h_2 => cases h
    rename_i y t rest hargs hts
    cases hn : lenA T σ t (σ.ev y) with
    | none => rw [hn] at h; simp at h
    | some n =>
      rw [hn] at h; simp at h; subst h
      have h1 : args = #[y] := by apply Array.ext'; simpa using hargs
      have h2 : ts[0]? = some t := by rw [← Array.getElem?_toList, hts]; rfl
      have := lenA_ok (ty := o.type) hT S.h h2 (ev_rel S y) hn
      exact ⟨.int .i64 n, by simp [execOp, hop, resolve, invoke, builtin, h1, this], .d (.v rfl)⟩
  · rename_i args ts hop
    split at h
    case h_2 => cases h
    rename_i n l hl
    simp at h; subst h
    have := intsA_ok S hl
    exact ⟨.int .i64 (maxI n l), by simp [execOp, hop, resolve, invoke, builtin, Builtin.max_, this, run_maxI], .d (.v rfl)⟩
  · rename_i args ts hop
    split at h
    case h_2 => cases h
    rename_i n l hl
    simp at h; subst h
    have := intsA_ok S hl
    exact ⟨.int .i64 (minI n l), by simp [execOp, hop, resolve, invoke, builtin, Builtin.min_, this, run_minI], .d (.v rfl)⟩
  · cases h

end
end Go.Am

/- Operations that turn memory: variables, stores, literals of slices, bytes of a text, append. -/
set_option linter.unusedVariables false
set_option linter.unusedSimpArgs false
namespace Go.Am
section
variable {P : Program} {T : Tbl} {e : Env} {σ : St} {w : World}

/-- What an operation comes to. -/
def Out (e : Env) (L G : List AObj) (w : World) (r : Result Next) (x : AVal) (L' G' : List AObj) : Prop :=
  ∃ v w' e', (r = .ok (.value v) w' ∨ (r = .ok .skip w' ∧ v = undef)) ∧ HRel e' L' G' w' ∧ EMono e e' (obj L G) (obj L' G') ∧ Evo e L G w e' L' G' w' ∧
    VRel e' (obj L' G') x v

theorem Out.same {L G : List AObj} (H : HRel e L G w) {r : Result Next} {x : AVal} {v : Value} (hr : r = .ok (.value v) w) (hx : VRel e (obj L G) x v) : Out e L G w r x L G :=
  ⟨v, w, e, .inl hr, H, .refl _ _, .refl _ _ _ _, hx⟩

/-! ### Variables -/
def newVarA (σ : St) (cs : List AVal) : AVal × List AObj × List AObj := (.p (.l σ.L.length) (.ref 0), σ.L ++ [.cells cs], σ.G)

theorem newVar_ok (H : HRel e σ.L σ.G w) {cs : List AVal} {vs : Array Value} {t : Nat} (h : All2 (Cell e (obj σ.L σ.G)) cs vs.toList) {r : Result Next}
    (hr : r = .ok (.value (.pointer (some ⟨w.heap.size, 0, none⟩))) (w.alloc (.cells vs t (0, 0)))) :
    Out e σ.L σ.G w r (newVarA σ cs).1 (newVarA σ cs).2.1 (newVarA σ cs).2.2 := by
  have key := hrel_new H (.cells cs) (.cells vs t (0, 0)) 0 (fun e' m => ⟨w.heap.size, 0, vs, t, rfl, heap_alloc_new', by have := h.1; simp at this; omega, fun k x v hx hv => by
    have := h.2 k x v hx (by simpa using hv)
    exact ⟨this.1.mono m, this.2⟩⟩)
  obtain ⟨k1, k2, k3⟩ := key
  refine ⟨_, _, _, .inl hr, k1, k2, k3, .p ?_⟩
  have ho := @obj_append_l σ.L σ.G (.cells cs) (.l σ.L.length)
  rw [if_pos rfl] at ho
  have hb := @blk_append_l e σ.L.length H.ll (some (w.heap.size, 0)) (.l σ.L.length)
  rw [if_pos rfl] at hb
  simp only [newVarA, PRel, ho]
  exact ⟨w.heap.size, 0, hb, rfl⟩

theorem globs_iff : ∀ {l : List AVal}, AVal.glob.globs l = true ↔ ∀ x ∈ l, x.glob = true
  | [] => by simp [AVal.glob.globs]
  | x :: xs => by simp [AVal.glob.globs, globs_iff (l := xs)]

theorem globs_spl {old cs : List AVal} {off : Nat} (h1 : AVal.glob.globs old = true) (h2 : AVal.glob.globs cs = true) : AVal.glob.globs (splA old off cs) = true := by
  rw [globs_iff] at *
  intro x hx
  unfold splA at hx
  rcases List.mem_append.1 hx with h | h
  · rcases List.mem_append.1 h with h | h
    · exact h1 x (List.mem_of_mem_take h)
    · exact h2 x h
  · exact h1 x (List.mem_of_mem_drop h)

/-! ### Stores -/
theorem setRow_setBlk {w : World} {g : Nat} {old : Array Value} {t : Nat} {cs : Array Value} (h : w.heap[g]? = some (.cells old t (0, 0))) : w.setRow g cs = setBlk w g (.cells cs t (0, 0)) := by
  have hlt : g < w.heap.size := (Array.getElem?_eq_some_iff.1 h).1
  have hv : w.heap[g] = .cells old t (0, 0) := (Array.getElem?_eq_some_iff.1 h).2
  unfold World.setRow setBlk
  congr 1
  apply Array.ext
  · simp
  · intro i h1 h2
    by_cases hi : g = i
    · subst hi; simp [Array.getElem_modify, hv]
    · rw [Array.getElem_modify, if_neg hi, Array.getElem_setIfInBounds_ne (by simpa using h2) hi]

def toDat (σ : St) : AVal → Option Dat
  | .d x => some x
  | x => match rowsA σ x with
    | some rows => some (.l rows)
    | none => none

theorem toDat_ok {x : AVal} {v : Value} {d : Dat} (hx : VRel e (obj σ.L σ.G) x v) (h : toDat σ x = some d) : Rep e.h d v := by
  unfold toDat at h
  split at h
  · simp at h; subst h; cases hx with | d r => exact r
  · split at h
    · rename_i rows hr
      simp at h; subst h; exact rowsA_ok hx hr
    · cases h

def toDats (σ : St) : List AVal → Option (List Dat)
  | [] => some []
  | x :: xs => match toDat σ x, toDats σ xs with
    | some d, some ds => some (d :: ds)
    | _, _ => none

theorem toDats_ok : ∀ {xs : List AVal} {ds : List Dat}, toDats σ xs = some ds → xs.length = ds.length ∧ ∀ (k : Nat) (x : AVal) (d : Dat), xs[k]? = some x → ds[k]? = some d → toDat σ x = some d
  | [], ds, h => by simp [toDats] at h; subst h; simp
  | x :: xs, ds, h => by
    unfold toDats at h
    split at h
    · rename_i d ds' h1 h2
      simp at h; subst h
      have ih := toDats_ok h2
      refine ⟨by simp [ih.1], fun k y z hy hz => ?_⟩
      cases k with
      | zero => simp at hy hz; subst hy; subst hz; exact h1
      | succ k => exact ih.2 k y z (by simpa using hy) (by simpa using hz)
    · cases h

def globIf : Loc → List AVal → Bool
  | .l _, _ => true
  | .g _, cs => AVal.glob.globs cs

def storeA (T : Tbl) (σ : St) (t : Nat) (a x : AVal) : Option (List AObj × List AObj) :=
  match T t, cellsA x with
  | some te, some cs => if cs.length = te.size then match a with
      | .p p (.ref off) => match obj σ.L σ.G p with
        | some (.cells old) => if off + cs.length ≤ old.length ∧ globIf p cs = true then
            some (St.setObj σ.L σ.G p (.cells (splA old off cs))) else none
        | _ => none
      | .p p (.aref g row off) => match obj σ.L σ.G p, toDats σ cs with
        | some (.arr size g' rows), some ds => if g = g' then match rows[row]? with
            | some r => if r.length = size ∧ off + ds.length ≤ r.length then
                some (St.setObj σ.L σ.G p (.arr size g (rows.set row (r.take off ++ ds ++ r.drop (off + ds.length))))) else none
            | none => none
          else none
        | _, _ => none
      | _ => none
    else none
  | _, _ => none

theorem storeA_ok (hT : TblOk P T) (H : HRel e σ.L σ.G w) {t : Nat} {a x : AVal} {av xv : Value} {L' G' : List AObj} (ha : VRel e (obj σ.L σ.G) a av) (hx : VRel e (obj σ.L σ.G) x xv)
    (h : storeA T σ t a x = some (L', G')) :
    ∃ w', (Instr.storeAt t av xv).run P w = .ok () w' ∧ HRel e L' G' w' ∧ EMono e e (obj σ.L σ.G) (obj L' G') ∧ Evo e σ.L σ.G w e L' G' w' := by
  unfold storeA at h
  split at h
  case h_2 => cases h
  rename_i te cs hte hcs
  split at h
  case isFalse => cases h
  rename_i hsz
  have hcell := cellsA_ok hx hcs
  have hvs : xv.cells.size = te.size := by have := hcell.1; simp at this; omega
  have h1c : ∀ v ∈ xv.cells.toList, v.oneCell' = true := fun v hv => by
    obtain ⟨k, hk, rfl⟩ := List.getElem_of_mem hv
    exact (hcell.2 k _ _ (List.getElem?_eq_getElem (by rw [hcell.1]; exact hk)) (List.getElem?_eq_getElem hk)).2
  split at h
  · rename_i p off
    split at h
    case h_2 => cases h
    rename_i old hp
    split at h
    case isFalse => cases h
    rename_i hc
    simp only [Option.some.injEq] at h
    cases ha with
    | p r =>
    simp only [PRel, hp] at r
    obtain ⟨b, c, hb, rfl⟩ := r
    obtain ⟨b', c', vs, ty, hb', hw, hs, hr⟩ := H.o p _ hp
    rw [hb] at hb'; cases hb'
    have hst := run_storeCells_at P b off ty xv.cells.toList 0 vs w hw (by simp; omega) h1c
    have hset := hrel_set (o := .cells (splV vs.toList off xv.cells.toList).toArray ty (0, 0)) H hp rfl hb (x := .cells (splA old off cs)) (fun k v r => by simpa [PRel] using r) ⟨b, c, _, ty, rfl, heap_setBlk_eq (Array.getElem?_eq_some_iff.1 hw).1, by
        simp only [List.size_toArray]
        rw [size_splV (by simp; omega)]
        unfold splA; simp; omega, fun k y v hy hv => by
      have hall : All2 (Cell e (obj σ.L σ.G)) old vs.toList := ⟨by simp [hs], fun k x v hx hv => hr k x v hx (by simpa using hv)⟩
      have := (hall.splice hcell off).2 k y v hy (by simpa [splV] using hv)
      refine ⟨this.1.mono ⟨.refl _, fun q k v r => ?_⟩, this.2⟩
      rw [obj_setObj hp]
      by_cases hq : q = p
      · subst hq; rw [hp] at r; rw [if_pos rfl]; simpa [PRel] using r
      · rw [if_neg hq]; exact r⟩ (fun i hi => by
        subst hi
        have h1 := H.gg _ (List.mem_of_getElem? (show σ.G[i]? = some (.cells old) from hp))
        exact globs_spl h1 hc.2)
    have hL := congrArg Prod.fst h
    have hG := congrArg Prod.snd h
    simp only at hL hG
    subst hL; subst hG
    refine ⟨_, ?_, hset.1, hset.2.1, hset.2.2⟩
    simp only [Instr.storeAt, Instr.sureAddr, Sem.run_bind, Sem.run_pure, Result.andThen_ok, storeVar, run_sizeOf' hT hte]
    rw [if_neg (by omega)]
    simp only [Nat.add_zero] at hst
    rw [setRow_setBlk hw] at hst
    simp only [splV, Array.length_toList] at hst ⊢
    exact hst
  · rename_i p g row off
    split at h
    case h_2 => cases h
    rename_i size g' rows ds hp hds
    split at h
    case isFalse => cases h
    rename_i hg; subst hg
    split at h
    case h_2 => cases h
    rename_i r hrow
    split at h
    case isFalse => cases h
    rename_i hc
    simp only [Option.some.injEq] at h
    cases ha with
    | p rr =>
    simp only [PRel, hp] at rr
    obtain ⟨b, c, hb, rfl⟩ := rr.2.2 (by trivial)
    have ho := H.o p _ hp
    rw [hb] at ho
    obtain ⟨vs, ty, hw, hs, hl, hm, hr1, hr2⟩ := ho
    have hdl := toDats_ok hds
    have hrlt := (List.getElem?_eq_some_iff.1 hrow).1
    have hbnd : row * size + size ≤ c * size := by
      have : (row + 1) * size ≤ c * size := Nat.mul_le_mul_right _ (by omega)
      rwa [Nat.add_mul, Nat.one_mul] at this
    have hfit : row * size + off + xv.cells.toList.length ≤ vs.size := by rw [hs]; simp; omega
    have hst := run_storeCells_at P b (row * size + off) ty xv.cells.toList 0 vs w hw (by simpa using hfit) h1c
    have hset := hrel_set (o := .cells (splV vs.toList (row * size + off) xv.cells.toList).toArray ty (0, 0)) H hp rfl hb
      (x := .arr size g (rows.set row (r.take off ++ ds ++ r.drop (off + ds.length)))) (fun k v r => by
        cases k <;> simp only [PRel, List.length_set] at r ⊢ <;> exact r) (by
      refine ⟨_, ty, heap_setBlk_eq (Array.getElem?_eq_some_iff.1 hw).1, ?_, by simpa using hl, hm, fun r' hr' => ?_, fun j r' k d hj hk => ?_⟩
      · simp only [List.size_toArray]; rw [size_splV (by simpa using hfit)]; simpa using hs
      · rcases List.mem_or_eq_of_mem_set hr' with h' | h'
        · exact hr1 r' h'
        · rw [h']; simp; omega
      · have hkl : k < size := by
          have := (List.getElem?_eq_some_iff.1 hk).1
          have h2 : r'.length = size := by
            rcases List.mem_or_eq_of_mem_set (List.mem_of_getElem? hj) with h' | h'
            · exact hr1 r' h'
            · rw [h']; simp; omega
          omega
        simp only [List.getElem?_toArray]
        rw [splV_get _ _ _ _ (by simpa using hfit)]
        by_cases hjr : j = row
        · subst hjr
          rw [List.getElem?_set_self hrlt] at hj
          cases hj
          by_cases h1 : k < off
          · rw [if_pos (by omega)]
            rw [List.append_assoc, List.getElem?_append_left (by simp; omega), List.getElem?_take_of_lt h1] at hk
            simpa using hr2 j r k d hrow hk
          · rw [if_neg (by omega)]
            by_cases h2 : k < off + ds.length
            · rw [if_pos (by simp; omega)]
              have hto : (r.take off).length = off := by simp; omega
              rw [List.append_assoc, List.getElem?_append_right (by omega), hto, List.getElem?_append_left (by omega)] at hk
              rw [show j * size + k - (j * size + off) = k - off by omega]
              have hkk : k - off < cs.length := by omega
              have hkv : k - off < xv.cells.toList.length := by simp; omega
              refine ⟨xv.cells.toList[k - off], List.getElem?_eq_getElem hkv, ?_⟩
              have hy := (hcell.2 (k - off) _ _ (List.getElem?_eq_getElem hkk) (List.getElem?_eq_getElem hkv)).1
              exact toDat_ok hy (hdl.2 _ _ _ (List.getElem?_eq_getElem hkk) hk)
            · rw [if_neg (by simp; omega)]
              have hto : (r.take off ++ ds).length = off + ds.length := by simp; omega
              rw [List.getElem?_append_right (by omega), hto, List.getElem?_drop] at hk
              rw [show off + ds.length + (k - (off + ds.length)) = k by omega] at hk
              simpa using hr2 j r k d hrow hk
        · rw [List.getElem?_set_ne (by omega)] at hj
          have hne : ¬ (row * size + off ≤ j * size + k ∧ j * size + k < row * size + off + xv.cells.toList.length) := by
            rintro ⟨a1, a2⟩
            simp at a2
            rcases Nat.lt_or_gt_of_ne hjr with h' | h'
            · have : (j + 1) * size ≤ row * size := Nat.mul_le_mul_right _ h'
              rw [Nat.add_mul] at this; omega
            · have : (row + 1) * size ≤ j * size := Nat.mul_le_mul_right _ h'
              rw [Nat.add_mul] at this; omega
          obtain ⟨y, hy1, hy2⟩ := hr2 j r' k d hj hk
          refine ⟨y, ?_, hy2⟩
          by_cases h1 : j * size + k < row * size + off
          · rw [if_pos h1]; simpa using hy1
          · rw [if_neg h1, if_neg (by omega)]; simpa using hy1) (fun _ _ => rfl)
    have hL := congrArg Prod.fst h
    have hG := congrArg Prod.snd h
    simp only at hL hG
    subst hL; subst hG
    refine ⟨_, ?_, hset.1, hset.2.1, hset.2.2⟩
    simp only [Instr.storeAt, Instr.sureAddr, Sem.run_bind, Sem.run_pure, Result.andThen_ok, storeVar, run_sizeOf' hT hte]
    rw [if_neg (by omega)]
    simp only [Nat.add_zero] at hst
    rw [setRow_setBlk hw] at hst
    simp only [splV, Array.length_toList] at hst ⊢
    exact hst
  · cases h

end
end Go.Am

/- Freezing an own row; rows that grow. -/
set_option linter.unusedVariables false
set_option linter.unusedSimpArgs false
namespace Go.Am

/-! ### Freezing -/
theorem PRel.oneCell {h : FHeap} {blk : Option (Nat × Nat)} {o : Option AObj} {k : PK} {v : Value} (r : PRel h blk o k v) : v.oneCell' = true := by
  unfold PRel at r
  split at r
  · exact r.elim
  · exact r
  · split at r
    · obtain ⟨_, _, _, rfl⟩ := r; rfl
    · exact r.elim
  · split at r
    · obtain ⟨_, _, _, rfl⟩ := r; rfl
    · exact r.elim
  · split at r
    · exact r.1
    · exact r.1
    · exact r.elim
  · split at r
    · exact r.1
    · exact r
  · split at r
    · obtain ⟨_, _, _, rfl⟩ := r; rfl
    · exact r.elim

theorem freeze_ok {e : Env} {L G : List AObj} {w : World} (H : HRel e L G w) {p : Loc} {size g : Nat} {rows : List (List Dat)} (hp : obj L G p = some (.arr size g rows)) :
    ∃ e', HRel e' (St.setObj L G p (.frz size g rows)).1 (St.setObj L G p (.frz size g rows)).2 w ∧
      EMono e e' (obj L G) (obj (St.setObj L G p (.frz size g rows)).1 (St.setObj L G p (.frz size g rows)).2) ∧
      Evo e L G w e' (St.setObj L G p (.frz size g rows)).1 (St.setObj L G p (.frz size g rows)).2 w := by
  have ho := fun q => @obj_setObj L G p (.frz size g rows) _ hp q
  have hl := @len_setObj L G p (.frz size g rows)
  have hor := H.o p _ hp
  cases hb : e.blk p with
  | none =>
    rw [hb] at hor
    simp only [ORel] at hor
    subst hor
    have m : EMono e e (obj L G) (obj (St.setObj L G p (.frz size g [])).1 (St.setObj L G p (.frz size g [])).2) := ⟨.refl _, fun q k v r => by
      rw [ho]
      by_cases hq : q = p
      · subst hq; rw [if_pos rfl]; rw [hp] at r
        have h1 := r.oneCell
        cases k with
        | own g' =>
          simp only [PRel] at r ⊢
          refine ⟨r.1, r.2.1, fun hg => ?_⟩
          rw [r.2.2 hg, hb]
          exact .l (rows := []) (c := 0) 0 (fun _ => undef) (by simp) (Nat.zero_le _) (Nat.zero_le _) (by simp) (by simp)
        | _ => simpa [PRel] using h1
      · rw [if_neg hq]; exact r⟩
    refine ⟨e, hrel_upd H m H.hin (by rw [hl.1]; exact H.ll) (by rw [hl.2]; exact H.gl) (fun q z hz => ?_) (fun q z b d hz hlv hbd => ?_) (fun q r z z' b d d' h1 h2 h3 h4 h5 h6 => ?_) (gg_setObj H.gg fun _ _ => rfl), m, ?_⟩
    · rw [ho] at hz
      by_cases hq : q = p
      · rw [if_pos hq] at hz; cases hz; exact .inr trivial
      · rw [if_neg hq] at hz; exact .inl ⟨hz, rfl, fun _ _ _ _ => rfl⟩
    · rw [ho] at hz
      by_cases hq : q = p
      · rw [if_pos hq] at hz; cases hz; cases hlv
      · rw [if_neg hq] at hz; exact H.free q z b d hz hlv hbd
    · rw [ho] at h1 h2
      by_cases hq : q = p
      · rw [if_pos hq] at h1; cases h1; cases h3
      · by_cases hr : r = p
        · rw [if_pos hr] at h2; cases h2; cases h4
        · rw [if_neg hq] at h1; rw [if_neg hr] at h2; exact H.inj q r z z' b d d' h1 h2 h3 h4 h5 h6
    · refine ⟨rfl, rfl, rfl, Nat.le_refl _, fun _ _ _ => ⟨rfl, rfl⟩, fun b h _ => ?_, ⟨.refl _, fun i k v r => m.p (.g i) k v r⟩⟩
      obtain ⟨q, z, d, h1, h2, h3⟩ := h
      rw [ho] at h1
      by_cases hq : q = p
      · rw [if_pos hq] at h1; cases h1; cases h2
      · rw [if_neg hq] at h1; exact ⟨q, z, d, h1, h2, h3⟩
  | some bc =>
    obtain ⟨b, cap⟩ := bc
    rw [hb] at hor
    obtain ⟨vs, ty, hw, hs, hlen, hm, hr1, hr2⟩ := hor
    have hfree := H.free p _ b cap hp rfl hb
    have hle : e.h.le (e.h.add b (.cells vs ty (0, 0))) := fun b' o' h' => by
      unfold FHeap.add
      rw [if_neg (by rintro rfl; rw [hfree.1] at h'; cases h')]; exact h'
    have hbl : ∀ q, (Env.mk (e.h.add b (.cells vs ty (0, 0))) e.lb e.gb).blk q = e.blk q := fun q => by cases q <;> rfl
    have m0 := emono_h hle (obj L G)
    have m : EMono e ⟨e.h.add b (.cells vs ty (0, 0)), e.lb, e.gb⟩ (obj L G) (obj (St.setObj L G p (.frz size g rows)).1 (St.setObj L G p (.frz size g rows)).2) := ⟨hle, fun q k v r => by
      rw [ho]
      by_cases hq : q = p
      · subst hq; rw [if_pos rfl]; rw [hp] at r
        have h1 := r.oneCell
        cases k with
        | own g' =>
          simp only [PRel] at r ⊢
          refine ⟨r.1, r.2.1, fun hg => ?_⟩
          rw [r.2.2 hg, hb]
          have hfit : rows.length * size ≤ vs.size := by rw [hs]; exact Nat.mul_le_mul_right _ hlen
          refine .l size (fun i => (vs[i]?).getD undef) hr1 hlen hm (fun _ => ⟨_, rfl, fun i hi => ?_⟩) (fun j r k d hj hk => ?_)
          · rw [addr_add]
            have hi' : i < vs.size := by omega
            simp [FHeap.cell, FHeap.add, hi']
          · obtain ⟨x, hx, hxr⟩ := hr2 j r k d hj hk
            simp only [hx, Option.getD_some]
            exact hxr.mono hle
        | _ => simpa [PRel] using h1
      · rw [if_neg hq]; exact m0.p q k v r⟩
    have hne : ∀ q z b' d, q ≠ p → obj L G q = some z → z.live = true → e.blk q = some (b', d) → b' ≠ b := fun q z b' d hq h1 h2 h3 hbb => by
      subst hbb; exact hq (H.inj q p z _ b' d cap h1 hp h2 rfl h3 hb)
    refine ⟨_, hrel_upd H m (fun b' o' h => ?_) (by rw [hl.1]; exact H.ll) (by rw [hl.2]; exact H.gl) (fun q z hz => ?_) (fun q z b' d hz hlv hbd => ?_) (fun q r z z' b' d d' h1 h2 h3 h4 h5 h6 => ?_) (gg_setObj H.gg fun _ _ => rfl), m, ?_⟩
    · simp only [FHeap.add] at h
      split at h
      · rename_i hbb; subst hbb; cases h; exact hw
      · exact H.hin b' o' h
    · rw [ho] at hz
      by_cases hq : q = p
      · rw [if_pos hq] at hz; cases hz; exact .inr trivial
      · rw [if_neg hq] at hz; exact .inl ⟨hz, hbl q, fun _ _ _ _ => rfl⟩
    · rw [ho] at hz; rw [hbl] at hbd
      by_cases hq : q = p
      · rw [if_pos hq] at hz; cases hz; cases hlv
      · rw [if_neg hq] at hz
        have := H.free q z b' d hz hlv hbd
        refine ⟨?_, this.2⟩
        show FHeap.add e.h b _ b' = none
        unfold FHeap.add
        rw [if_neg (hne q z b' d hq hz hlv hbd)]; exact this.1
    · rw [ho] at h1 h2; rw [hbl] at h5 h6
      by_cases hq : q = p
      · rw [if_pos hq] at h1; cases h1; cases h3
      · by_cases hr : r = p
        · rw [if_pos hr] at h2; cases h2; cases h4
        · rw [if_neg hq] at h1; rw [if_neg hr] at h2; exact H.inj q r z z' b' d d' h1 h2 h3 h4 h5 h6
    · refine ⟨rfl, rfl, rfl, Nat.le_refl _, fun b' _ hn => ⟨rfl, ?_⟩, fun b' h _ => ?_, ⟨hle, fun i k v r => m.p (.g i) k v r⟩⟩
      · show FHeap.add e.h b _ b' = _
        unfold FHeap.add
        rw [if_neg (by rintro rfl; exact hn ⟨p, _, cap, hp, rfl, hb⟩)]
      · obtain ⟨q, z, d, h1, h2, h3⟩ := h
        rw [ho] at h1; rw [hbl] at h3
        by_cases hq : q = p
        · rw [if_pos hq] at h1; cases h1; cases h2
        · rw [if_neg hq] at h1; exact ⟨q, z, d, h1, h2, h3⟩

/-! ### An object moves to a new block -/
def Env.setB (e : Env) : Loc → Option (Nat × Nat) → Env
  | .l i, x => { e with lb := e.lb.set i x }
  | .g i, x => { e with gb := e.gb.set i x }

theorem blk_setB {e : Env} {L G : List AObj} {w : World} (H : HRel e L G w) {p : Loc} {y : AObj} (hp : obj L G p = some y) (x : Option (Nat × Nat)) (q : Loc) :
    (e.setB p x).blk q = if q = p then x else e.blk q := by
  cases p with
  | l i =>
    have hi : i < e.lb.length := by simp only [obj] at hp; rw [H.ll]; exact (List.getElem?_eq_some_iff.1 hp).1
    cases q with
    | l j =>
      simp only [Env.setB, Env.blk, Loc.l.injEq]
      by_cases hj : j = i
      · subst hj; simp [hi]
      · rw [if_neg hj, List.getElem?_set_ne (by omega)]
    | g j => simp [Env.setB, Env.blk]
  | g i =>
    have hi : i < e.gb.length := by simp only [obj] at hp; rw [H.gl]; exact (List.getElem?_eq_some_iff.1 hp).1
    cases q with
    | g j =>
      simp only [Env.setB, Env.blk, Loc.g.injEq]
      by_cases hj : j = i
      · subst hj; simp [hi]
      · rw [if_neg hj, List.getElem?_set_ne (by omega)]
    | l j => simp [Env.setB, Env.blk]

theorem hrel_move {e : Env} {L G : List AObj} {w : World} (H : HRel e L G w) {p : Loc} {y x : AObj} {c : Nat} {o : Obj} (hp : obj L G p = some y) (hly : y.live = true)
    (hk : ∀ k v, PRel e.h (e.blk p) (some y) k v → PRel e.h (some (w.heap.size, c)) (some x) k v)
    (hx : ∀ e', EMono e e' (obj L G) (obj (St.setObj L G p x).1 (St.setObj L G p x).2) → ORel e' (obj (St.setObj L G p x).1 (St.setObj L G p x).2) (w.alloc o) (some (w.heap.size, c)) x)
    (hgl : ∀ i, p = .g i → x.globO = true) :
    HRel (e.setB p (some (w.heap.size, c))) (St.setObj L G p x).1 (St.setObj L G p x).2 (w.alloc o) ∧
      EMono e (e.setB p (some (w.heap.size, c))) (obj L G) (obj (St.setObj L G p x).1 (St.setObj L G p x).2) ∧
      Evo e L G w (e.setB p (some (w.heap.size, c))) (St.setObj L G p x).1 (St.setObj L G p x).2 (w.alloc o) := by
  have ho := fun q => @obj_setObj L G p x y hp q
  have hl := @len_setObj L G p x
  have hb := blk_setB H hp (some (w.heap.size, c))
  have hh : (e.setB p (some (w.heap.size, c))).h = e.h := by cases p <;> rfl
  have m : EMono e (e.setB p (some (w.heap.size, c))) (obj L G) (obj (St.setObj L G p x).1 (St.setObj L G p x).2) := ⟨by rw [hh]; exact .refl _, fun q k v r => by
    rw [ho, hb, hh]
    by_cases hq : q = p
    · rw [if_pos hq, if_pos hq]; subst hq; rw [hp] at r; exact hk k v r
    · rw [if_neg hq, if_neg hq]; exact r⟩
  have hold : ∀ q z b d, obj L G q = some z → z.live = true → e.blk q = some (b, d) → b < w.heap.size := fun q z b d h1 h2 h3 => (H.free q z b d h1 h2 h3).2
  refine ⟨hrel_upd H m (fun b' o' h => ?_) ?_ ?_ (fun q z hz => ?_) (fun q z b' d hz hlv hbd => ?_) (fun q r z z' b' d d' h1 h2 h3 h4 h5 h6 => ?_) (gg_setObj H.gg hgl), m, ?_⟩
  · rw [hh] at h; rw [heap_alloc_old (H.hin.lt h)]; exact H.hin b' o' h
  · rw [hl.1]; cases p <;> simp [Env.setB, H.ll]
  · rw [hl.2]; cases p <;> simp [Env.setB, H.gl]
  · rw [ho] at hz
    by_cases hq : q = p
    · rw [if_pos hq] at hz; cases hz; right; rw [hb, if_pos hq]; exact hx _ m
    · rw [if_neg hq] at hz
      exact .inl ⟨hz, by rw [hb, if_neg hq], fun hlv b' d hbd => heap_alloc_old (hold q z b' d hz hlv hbd)⟩
  · rw [ho] at hz; rw [hb] at hbd; rw [hh]
    by_cases hq : q = p
    · rw [if_pos hq] at hbd; cases hbd
      refine ⟨?_, by simp⟩
      cases h' : e.h w.heap.size with
      | none => rfl
      | some o' => have := H.hin.lt h'; omega
    · rw [if_neg hq] at hz hbd
      have := H.free q z b' d hz hlv hbd
      exact ⟨this.1, by simp; omega⟩
  · rw [ho] at h1 h2; rw [hb] at h5 h6
    by_cases hq : q = p <;> by_cases hr : r = p
    · rw [hq, hr]
    · rw [if_pos hq] at h5; rw [if_neg hr] at h2 h6; cases h5
      have := hold r z' _ _ h2 h4 h6; omega
    · rw [if_neg hq] at h1 h5; rw [if_pos hr] at h6; cases h6
      have := hold q z _ _ h1 h3 h5; omega
    · rw [if_neg hq] at h1 h5; rw [if_neg hr] at h2 h6
      exact H.inj q r z z' b' d d' h1 h2 h3 h4 h5 h6
  · refine ⟨rfl, rfl, rfl, by simp, fun b' hbl _ => ⟨heap_alloc_old hbl, by rw [hh]⟩, fun b' h hbl => ?_, ⟨by rw [hh]; exact .refl _, fun i k v r => m.p (.g i) k v r⟩⟩
    obtain ⟨q, z, d, h1, h2, h3⟩ := h
    rw [ho] at h1; rw [hb] at h3
    by_cases hq : q = p
    · rw [if_pos hq] at h3; cases h3; omega
    · rw [if_neg hq] at h1 h3; exact ⟨q, z, d, h1, h2, h3⟩

/-! ### Rows of data, flat -/
/-- What rows are as cells. -/
def RowsAre (h : FHeap) (size : Nat) (rows : List (List Dat)) (l : List Value) : Prop :=
  l.length = rows.length * size ∧ (∀ r ∈ rows, r.length = size) ∧ (∀ v ∈ l, v.oneCell' = true) ∧
  ∀ (j : Nat) (r : List Dat) (k : Nat) (d : Dat), rows[j]? = some r → r[k]? = some d → ∃ x, l[j * size + k]? = some x ∧ Rep h d x

theorem RowsAre.mono {h h' : FHeap} (m : h.le h') {size : Nat} {rows : List (List Dat)} {l : List Value} (r : RowsAre h size rows l) : RowsAre h' size rows l :=
  ⟨r.1, r.2.1, r.2.2.1, fun j s k d hj hk => by obtain ⟨x, hx, hr⟩ := r.2.2.2 j s k d hj hk; exact ⟨x, hx, hr.mono m⟩⟩

theorem RowsAre.append {h : FHeap} {size : Nat} {r1 r2 : List (List Dat)} {l1 l2 : List Value} (a : RowsAre h size r1 l1) (b : RowsAre h size r2 l2) : RowsAre h size (r1 ++ r2) (l1 ++ l2) := by
  refine ⟨by simp [a.1, b.1, Nat.add_mul], fun r hr => ?_, fun v hv => ?_, fun j r k d hj hk => ?_⟩
  · rcases List.mem_append.1 hr with h' | h'
    · exact a.2.1 r h'
    · exact b.2.1 r h'
  · rcases List.mem_append.1 hv with h' | h'
    · exact a.2.2.1 v h'
    · exact b.2.2.1 v h'
  · have hkl := (List.getElem?_eq_some_iff.1 hk).1
    by_cases h1 : j < r1.length
    · rw [List.getElem?_append_left h1] at hj
      obtain ⟨x, hx, hr⟩ := a.2.2.2 j r k d hj hk
      have := (List.getElem?_eq_some_iff.1 hx).1
      exact ⟨x, by rw [List.getElem?_append_left this]; exact hx, hr⟩
    · rw [List.getElem?_append_right (by omega)] at hj
      obtain ⟨x, hx, hr⟩ := b.2.2.2 (j - r1.length) r k d hj hk
      refine ⟨x, ?_, hr⟩
      have h3 : r1.length * size ≤ j * size := Nat.mul_le_mul_right _ (by omega)
      rw [List.getElem?_append_right (by rw [a.1]; omega), a.1, ← hx]
      congr 1
      rw [Nat.sub_mul]; omega

/-- A slice of data as cells. -/
theorem Rep.are {h : FHeap} {w : World} (hin : h.In w) {rows : List (List Dat)} {a : Option Addr} {n c size : Nat} (r : Rep h (.l rows) (.slice a n c)) (hf : rowsFit size rows = true) :
    n = rows.length ∧ ∃ l, RowsAre h size rows l ∧ (rows = [] ∨ ∃ ad, a = some ad ∧ ∀ j v, l[j]? = some v → w.cell? (ad.add j) = some v) := by
  generalize hv : Value.slice a n c = v at r
  cases r with
  | @l _ a' c' sz cs hrow hcap hmax hcell hrep =>
    injection hv with ha hn hc
    subst ha hn hc
    refine ⟨rfl, ?_⟩
    by_cases h0 : rows = []
    · subst h0; exact ⟨[], ⟨by simp, by simp, by simp, by simp⟩, .inl rfl⟩
    · have hp : 0 < rows.length := List.length_pos_iff.2 h0
      have hsz : sz = size := by
        have h1 := hrow rows[0] (List.getElem_mem _)
        unfold rowsFit at hf
        rw [List.all_eq_true] at hf
        have := hf rows[0] (List.getElem_mem _)
        simp at this; omega
      subst hsz
      obtain ⟨ad, rfl, hc⟩ := hcell hp
      refine ⟨(List.range (rows.length * sz)).map cs, ⟨by simp, hrow, fun v hv => ?_, fun j r k d hj hk => ?_⟩, .inr ⟨ad, rfl, fun j v hj => ?_⟩⟩
      · obtain ⟨i, hi, rfl⟩ := List.mem_map.1 hv
        simp at hi
        have hs0 : 0 < sz := by
          rcases Nat.eq_zero_or_pos sz with h' | h'
          · subst h'; simp at hi
          · exact h'
        have hj : i / sz < rows.length := Nat.div_lt_of_lt_mul (by rw [Nat.mul_comm]; exact hi)
        have hk : i % sz < (rows[i / sz]).length := by rw [hrow _ (List.getElem_mem _)]; exact Nat.mod_lt _ hs0
        have := hrep (i / sz) _ (i % sz) _ (List.getElem?_eq_getElem hj) (List.getElem?_eq_getElem hk)
        rw [Nat.div_add_mod' i sz] at this
        exact this.oneCell
      · have hkl := (List.getElem?_eq_some_iff.1 hk).1
        have hjl := (List.getElem?_eq_some_iff.1 hj).1
        have h2 : r.length = sz := hrow r (List.mem_of_getElem? hj)
        have h3 : (j + 1) * sz ≤ rows.length * sz := Nat.mul_le_mul_right _ hjl
        rw [Nat.add_mul] at h3
        have hlt : j * sz + k < rows.length * sz := by omega
        exact ⟨cs (j * sz + k), by simp [hlt], hrep j r k d hj hk⟩
      · have hj' := (List.getElem?_eq_some_iff.1 hj).1
        simp at hj'
        simp [hj'] at hj
        rw [← hj]
        exact hin.cell (hc j hj')

theorem RowsAre.rows {h : FHeap} {size : Nat} {rows : List (List Dat)} {l m : List Value} (r : RowsAre h size rows l) : RowsRel h size rows (fun i => (l ++ m).toArray[i]?) := by
  refine ⟨r.2.1, fun j s k d hj hk => ?_⟩
  obtain ⟨x, hx, hr⟩ := r.2.2.2 j s k d hj hk
  refine ⟨x, ?_, hr⟩
  have := (List.getElem?_eq_some_iff.1 hx).1
  simp only [List.getElem?_toArray]
  rw [List.getElem?_append_left this]; exact hx

end Go.Am

/- append, literals of slices, a text's bytes. -/
set_option linter.unusedVariables false
set_option linter.unusedSimpArgs false
namespace Go.Am
section
variable {P : Program} {T : Tbl} {e : Env} {σ : St} {w : World}

/-- An object turns while memory stays. -/
theorem hrel_turn {L G : List AObj} (H : HRel e L G w) {p : Loc} {y x : AObj} (hp : obj L G p = some y) (hly : y.live = true)
    (hk : ∀ k v, PRel e.h (e.blk p) (some y) k v → PRel e.h (e.blk p) (some x) k v)
    (hx : EMono e e (obj L G) (obj (St.setObj L G p x).1 (St.setObj L G p x).2) → ORel e (obj (St.setObj L G p x).1 (St.setObj L G p x).2) w (e.blk p) x)
    (hgl : ∀ i, p = .g i → x.globO = true) :
    HRel e (St.setObj L G p x).1 (St.setObj L G p x).2 w ∧ EMono e e (obj L G) (obj (St.setObj L G p x).1 (St.setObj L G p x).2) ∧
      Evo e L G w e (St.setObj L G p x).1 (St.setObj L G p x).2 w := by
  have ho := fun q => @obj_setObj L G p x y hp q
  have hl := @len_setObj L G p x
  have m : EMono e e (obj L G) (obj (St.setObj L G p x).1 (St.setObj L G p x).2) := ⟨.refl _, fun q k v r => by
    rw [ho]
    by_cases hq : q = p
    · rw [if_pos hq]; subst hq; rw [hp] at r; exact hk k v r
    · rw [if_neg hq]; exact r⟩
  refine ⟨hrel_upd H m H.hin (by rw [hl.1]; exact H.ll) (by rw [hl.2]; exact H.gl) (fun q z hz => ?_) (fun q z b' d hz hlv hbd => ?_) (fun q r z z' b' d d' h1 h2 h3 h4 h5 h6 => ?_) (gg_setObj H.gg hgl), m, ?_⟩
  · rw [ho] at hz
    by_cases hq : q = p
    · rw [if_pos hq] at hz; cases hz; subst hq; exact .inr (hx m)
    · rw [if_neg hq] at hz; exact .inl ⟨hz, rfl, fun _ _ _ _ => rfl⟩
  · rw [ho] at hz
    by_cases hq : q = p
    · subst hq; exact H.free q y b' d hp hly hbd
    · rw [if_neg hq] at hz; exact H.free q z b' d hz hlv hbd
  · rw [ho] at h1 h2
    by_cases hq : q = p <;> by_cases hr : r = p
    · rw [hq, hr]
    · subst hq; rw [if_neg hr] at h2; exact H.inj q r y z' b' d d' hp h2 hly h4 h5 h6
    · subst hr; rw [if_neg hq] at h1; exact H.inj q r z y b' d d' h1 hp h3 hly h5 h6
    · rw [if_neg hq] at h1; rw [if_neg hr] at h2; exact H.inj q r z z' b' d d' h1 h2 h3 h4 h5 h6
  · refine ⟨rfl, rfl, rfl, Nat.le_refl _, fun _ _ _ => ⟨rfl, rfl⟩, fun b' h _ => ?_, ⟨.refl _, fun i k v r => m.p (.g i) k v r⟩⟩
    obtain ⟨q, z, d, h1, h2, h3⟩ := h
    rw [ho] at h1
    by_cases hq : q = p
    · subst hq; exact ⟨q, y, d, hp, hly, h3⟩
    · rw [if_neg hq] at h1; exact ⟨q, z, d, h1, h2, h3⟩

/-! ### What is appended -/
structure ApT (P : Program) (t el : Nat) (i : TypeInfo) (z : Value) : Prop where
  ht : P.underlying t = some (.slice el)
  hi : P.info? el = some i
  hz : i.zero = some z

/-- What a second argument has: cells, and where from. -/
def News (P : Program) (w : World) (u : Nat) (size m : Nat) (y : Value) (l : List Value) : Prop :=
  l.length = m * size ∧
  ((∃ a c, y = .slice a m c ∧ (∃ el, P.underlying u = some (.slice el)) ∧ (m = 0 ∨ ∃ ad, a = some ad ∧ ∀ j v, l[j]? = some v → w.cell? (ad.add j) = some v)) ∨
   (∃ s : ByteArray, y = .string s ∧ P.underlying u = some .string ∧ m = s.size ∧ size = 1 ∧ l = s.data.toList.map fun b => Value.int .u8 b.toNat))

theorem News.u {u size m : Nat} {y : Value} {l : List Value} (n : News P w u size m y l) : (∃ el, P.underlying u = some (.slice el)) ∨ P.underlying u = some .string := by
  rcases n.2 with ⟨_, _, _, h, _⟩ | ⟨_, _, h, _⟩
  · exact .inl h
  · exact .inr h

theorem News.lenOf {u size m : Nat} {y : Value} {l : List Value} (n : News P w u size m y l) (w' : World) : (Builtin.lenOf y).run P w' = .ok m w' := by
  rcases n.2 with ⟨a, c, rfl, _⟩ | ⟨s, rfl, _, rfl, _⟩ <;> rfl

theorem News.cells {u size m : Nat} {y : Value} {l : List Value} (n : News P w u size m y l) {w' : World} (hw : ∀ (a : Addr) v, w.cell? a = some v → w'.cell? a = some v) :
    (Builtin.firstCells size m y).run P w' = .ok l.toArray w' := by
  rcases n.2 with ⟨a, c, rfl, _, h0 | ⟨ad, rfl, hc⟩⟩ | ⟨s, rfl, _, rfl, rfl, rfl⟩
  · subst h0
    have : l = [] := List.eq_nil_of_length_eq_zero (by rw [n.1]; simp)
    subst this
    cases a with
    | none => simp [Builtin.firstCells]
    | some ad => simp [Builtin.firstCells, loadCells, loadCellsFrom]
  · exact run_firstCells_some w' size m ad m c l n.1 (fun j v hj => hw _ _ (hc j v hj))
  · simp only [Builtin.firstCells, Sem.run_pure]
    congr 1
    apply Array.ext'
    simp

theorem News.zeros {u size m : Nat} {y : Value} {l : List Value} (n : News P w u size m y l) (w' : World) :
    (do pure ((← underlying u) matches .int _) : Sem Bool).run P w' = .ok false w' := by
  rcases n.2 with ⟨a, c, rfl, ⟨el, hu⟩, _⟩ | ⟨s, rfl, hu, _⟩ <;> simp [run_underlying hu]

theorem run_append_in {t u el ty : Nat} {i : TypeInfo} {z : Value} (A : ApT P t el i z) {base : Option Addr} {n cap m : Nat} {y : Value} {l : List Value}
    (hn : News P w u i.size m y l) (hroom : n + m ≤ cap) {w' : World}
    (hst : ∀ a, base = some a → (storeCells (a.add (n * i.size)) l).run P w = .ok () w') (hnone : base = none → w' = w) :
    (Builtin.append_ #[t, u] ty #[.slice base n cap, y]).run P w = .ok (.slice base (n + m) cap) w' := by
  have h1 := hn.lenOf w
  have h2 := hn.cells (w' := w) (fun _ _ h => h)
  cases base with
  | none =>
    rw [hnone rfl]
    rcases hn.u with ⟨_, hu⟩ | hu <;> simp [Builtin.append_, run_underlying A.ht, run_underlying hu, sizeOf, typeInfo, A.hi, h1, hroom, h2]
  | some a =>
    have h4 := hst a rfl
    rcases hn.u with ⟨_, hu⟩ | hu <;> simp [Builtin.append_, run_underlying A.ht, run_underlying hu, sizeOf, typeInfo, A.hi, h1, hroom, h2, h4]

theorem run_append_new {t u el ty : Nat} {i : TypeInfo} {z : Value} (A : ApT P t el i z) {base : Option Addr} {n cap m : Nat} {y : Value} {l old : List Value}
    (hn : News P w u i.size m y l) (hg : cap < n + m) (h63 : n + m ≤ 9223372036854775807) (hfit : Builtin.nextslicecap (n + m) cap * i.bytes ≤ 281474976710656)
    (hold : old.length = n * i.size) (hb : (base = none ∧ n = 0) ∨ ∃ a, base = some a ∧ ∀ j v, old[j]? = some v → w.cell? (a.add j) = some v) :
    (Builtin.append_ #[t, u] ty #[.slice base n cap, y]).run P w =
      .ok (.slice (some ⟨w.heap.size, 0, none⟩) (n + m) (grownCap w (n + m) cap el))
        (w.drew.alloc (.cells (old ++ l ++ (Builtin.zeroCells z.cells (grownCap w (n + m) cap el - (n + m))).toList).toArray el (0, 0))) := by
  have h1 := hn.lenOf w
  have h2 := hn.cells (w' := w.drew) (fun _ _ h => by simpa using h)
  have h4 : (Builtin.firstCells i.size n (.slice base n cap)).run P w.drew = .ok old.toArray w.drew := by
    rcases hb with ⟨rfl, rfl⟩ | ⟨a, rfl, hc⟩
    · have : old = [] := List.eq_nil_of_length_eq_zero (by rw [hold]; simp)
      subst this
      simp [Builtin.firstCells]
    · exact run_firstCells_some w.drew i.size n a n cap old hold (fun j v hj => by simpa using hc j v hj)
  have hnot : ¬ (n + m ≤ cap) := by omega
  have h63' : ¬ (9223372036854775807 < ((n : Int) + (m : Int))) := by omega
  have h48' : ¬ (281474976710656 < Builtin.nextslicecap (n + m) cap * i.bytes) := by omega
  rcases hn.u with ⟨_, hu⟩ | hu <;>
    (simp [Builtin.append_, run_underlying A.ht, run_underlying hu, sizeOf, typeInfo, A.hi, h1, hnot, h63', h48', Question.forced, h2, h4, newRow, grownCap, zeroValue, A.hz]
     congr 2
     apply Array.ext'
     simp)

end
end Go.Am
