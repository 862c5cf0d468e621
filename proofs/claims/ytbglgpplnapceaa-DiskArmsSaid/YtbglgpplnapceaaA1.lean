/- Part 1 of the proof: lemmas on an abstract reading of the machine, and the functions that the law reaches. -/
import Derived.MapKept
import Derived.Maps.RangeRun
import Derived.Test.YtbglgpplnapceaaA0
/- append over abstract rows; literals of slices; a text's bytes. -/
set_option linter.unusedVariables false
set_option linter.unusedSimpArgs false
namespace Go.Am
section
variable {P : Program} {T : Tbl} {e : Env} {σ : St} {w : World}

def byteRows (s : ByteArray) : List (List Dat) := s.data.toList.map fun b => [.v (.int .u8 b.toNat)]

theorem byteRows_are (h : FHeap) (s : ByteArray) : RowsAre h 1 (byteRows s) (s.data.toList.map fun b => Value.int .u8 b.toNat) := by
  refine ⟨by simp [byteRows], fun r hr => ?_, fun v hv => ?_, fun j r k d hj hk => ?_⟩
  · obtain ⟨b, _, rfl⟩ := List.mem_map.1 hr; rfl
  · obtain ⟨b, _, rfl⟩ := List.mem_map.1 hv; rfl
  · simp only [byteRows, List.getElem?_map] at hj
    cases hb : s.data.toList[j]? with
    | none => rw [hb] at hj; simp at hj
    | some b =>
      rw [hb] at hj; simp at hj; subst hj
      cases k with
      | zero =>
        simp at hk; subst hk
        refine ⟨.int .u8 b.toNat, ?_, .v rfl⟩
        rw [Nat.mul_one, Nat.add_zero, List.getElem?_map, hb]; rfl
      | succ k => simp at hk

def newsA (T : Tbl) (σ : St) (u size : Nat) (y : AVal) : Option (List (List Dat)) :=
  match T u with
  | some te => match te.k with
    | .slice _ => match rowsA σ y with
      | some rows => if rowsFit size rows then some rows else none
      | none => none
    | .string => match y with
      | .d (.v (.string s)) => if size = 1 then some (byteRows s) else none
      | _ => none
    | _ => none
  | none => none

theorem newsA_ok (hT : TblOk P T) (H : HRel e σ.L σ.G w) {u size : Nat} {y : AVal} {v : Value} {rows : List (List Dat)} (hy : VRel e (obj σ.L σ.G) y v) (h : newsA T σ u size y = some rows) :
    ∃ l, News P w u size rows.length v l ∧ RowsAre e.h size rows l := by
  unfold newsA at h
  split at h
  case h_2 => cases h
  rename_i te hte
  obtain ⟨d, hd, hfit⟩ := (hT u te hte).u
  split at h
  · rename_i el hk
    rw [hk] at hfit
    cases d <;> simp only [descFits] at hfit <;> try exact hfit.elim
    split at h
    case h_2 => cases h
    rename_i rows' hrows
    split at h
    case isFalse => cases h
    rename_i hf
    simp at h; subst h
    have hrep := rowsA_ok hy hrows
    have hshape : ∃ a n c, v = .slice a n c := by cases hrep with | l => exact ⟨_, _, _, rfl⟩
    obtain ⟨a, n, c, rfl⟩ := hshape
    obtain ⟨rfl, l, hl, hc⟩ := Rep.are H.hin hrep hf
    refine ⟨l, ⟨hl.1, .inl ⟨a, c, rfl, ⟨_, hd⟩, ?_⟩⟩, hl⟩
    rcases hc with hc | hc
    · left; rw [hc]; rfl
    · exact .inr hc
  · rename_i hk
    rw [hk] at hfit
    cases d <;> simp only [descFits] at hfit <;> try exact hfit.elim
    split at h
    case h_2 => cases h
    rename_i s
    split at h
    case isFalse => cases h
    rename_i hs
    simp at h; subst h; subst hs
    cases hy with
    | d r => cases r with
    | v _ =>
      refine ⟨_, ⟨by simp [byteRows], .inr ⟨s, rfl, hd, by simp [byteRows], rfl, rfl⟩⟩, byteRows_are _ s⟩
  · cases h

theorem Rep.len {h : FHeap} {rows : List (List Dat)} {a : Option Addr} {n c : Nat} (r : Rep h (.l rows) (.slice a n c)) : n = rows.length := by
  generalize hv : Value.slice a n c = v at r
  cases r with
  | l => injection hv

def isLit : AVal → Bool
  | .clip (_ :: _) => true
  | _ => false

/-- The frozen rows of a slice without spare room. -/
def clipA : AVal → Option (List (List Dat))
  | .nils => some []
  | .clip rows => some rows
  | _ => none

def appendA (T : Tbl) (σ : St) (t u : Nat) (x y : AVal) : Option (AVal × List AObj × List AObj) :=
  match T t with
  | some te => match te.k with
    | .slice el => match T el with
      | some ee => match newsA T σ u ee.size y with
        | some news => match ownA σ x with
          | some (p, size, g, rows) =>
            if size = ee.size ∧ 0 < ee.bytes ∧ (rows.length + news.length) * ee.bytes ≤ 140737488355328 then
              some (.p p (.own (g + 1)), St.setObj σ.L σ.G p (.arr size (g + 1) (rows ++ news))) else none
          | none => match clipA x with
            | some rows => if rowsFit ee.size rows ∧ 0 < ee.bytes ∧ (rows.length + news.length) * ee.bytes ≤ 140737488355328 then
                (if isLit y then some (.p (.l σ.L.length) (.own 0), σ.L ++ [.arr ee.size 0 (rows ++ news)], σ.G)
                 else some (.d (.l (rows ++ news)), σ.L, σ.G)) else none
            | none => none
        | none => none
      | none => none
    | _ => none
  | none => none

/-- What a turning operation comes to, the value told. -/
def OutV (e : Env) (L G : List AObj) (w : World) (r : Result Value) (x : AVal) (L' G' : List AObj) : Prop :=
  ∃ v w' e', r = .ok v w' ∧ HRel e' L' G' w' ∧ EMono e e' (obj L G) (obj L' G') ∧ Evo e L G w e' L' G' w' ∧ VRel e' (obj L' G') x v

theorem Evo.drew' {L G : List AObj} (e : Env) (w : World) : Evo e L G w e L G w.drew := Evo.drew

theorem size_grown {old l : List Value} {size n m c : Nat} {z : Array Value} (h1 : old.length = n * size) (h2 : l.length = m * size) (hz : z.size = size) (hc : n + m ≤ c) :
    (old ++ l ++ (Builtin.zeroCells z (c - (n + m))).toList).toArray.size = c * size := by
  simp only [List.size_toArray, List.length_append, Array.length_toList, size_zeroCells, h1, h2, hz, ← Nat.add_mul]
  congr 1; omega

theorem appendA_ok (hT : TblOk P T) (H : HRel e σ.L σ.G w) {t u ty : Nat} {x y z : AVal} {xv yv : Value} {L' G' : List AObj} (hx : VRel e (obj σ.L σ.G) x xv) (hy : VRel e (obj σ.L σ.G) y yv)
    (h : appendA T σ t u x y = some (z, L', G')) : OutV e σ.L σ.G w ((Builtin.append_ #[t, u] ty #[xv, yv]).run P w) z L' G' := by
  unfold appendA at h
  split at h
  case h_2 => cases h
  rename_i te hte
  split at h
  case h_2 => cases h
  rename_i el hk
  split at h
  case h_2 => cases h
  rename_i ee hee
  split at h
  case h_2 => cases h
  rename_i news hnews
  obtain ⟨d, hd, hfit⟩ := (hT t te hte).u
  rw [hk] at hfit
  cases d <;> simp only [descFits] at hfit <;> try exact hfit.elim
  subst hfit
  rename_i el
  obtain ⟨i, zv, hi, hz, hs, hby, hzc⟩ := (hT el ee hee).i
  have hzl : zv.cells.size = ee.size := by rw [← (hT el ee hee).l, ← hzc]; simp
  obtain ⟨l, hn, hl⟩ := newsA_ok hT H hy hnews
  have A : ApT P t el i zv := ⟨hd, hi, hz⟩
  rw [← hs] at hn hl
  split at h
  · rename_i p size g rows hown
    split at h
    case isFalse => cases h
    rename_i hc
    simp only [Option.some.injEq, Prod.mk.injEq] at h
    obtain ⟨rfl, hLG⟩ := h
    have hL := congrArg Prod.fst hLG
    have hG := congrArg Prod.snd hLG
    simp only at hL hG
    obtain ⟨hsz, hbp, hbound⟩ := hc
    rw [← hs] at hsz
    rw [← hby] at hbp hbound
    subst hsz
    have hle : rows.length + news.length ≤ 140737488355328 := Nat.le_trans (Nat.le_mul_of_pos_right _ hbp) hbound
    obtain ⟨rfl, hp, rfl, ho⟩ := ownA_ok H hx hown
    have hpr : ∀ (b b' : Option (Nat × Nat)) k v, PRel e.h b (some (.arr i.size g rows)) k v → PRel e.h b' (some (.arr i.size (g + 1) (rows ++ news))) k v := fun b b' k v r => by
      cases k <;> simp only [PRel] at r ⊢
      · exact ⟨r.1, by omega, fun hg => by omega⟩
      · exact ⟨r.1, by omega, fun hg => by omega⟩
    have hfin : ∀ (e' : Env) (w' : World) (v : Value), HRel e' (St.setObj σ.L σ.G p (.arr i.size (g + 1) (rows ++ news))).1 (St.setObj σ.L σ.G p (.arr i.size (g + 1) (rows ++ news))).2 w' →
        v = hdr (e'.blk p) (rows ++ news).length → VRel e' (obj (St.setObj σ.L σ.G p (.arr i.size (g + 1) (rows ++ news))).1 (St.setObj σ.L σ.G p (.arr i.size (g + 1) (rows ++ news))).2) (.p p (.own (g + 1))) v := fun e' w' v _ hv => by
      refine .p ?_
      rw [obj_setObj hp, if_pos rfl]
      refine ⟨?_, Nat.le_refl _, fun _ => hv⟩
      rw [hv]; unfold hdr; split <;> rfl
    subst hL; subst hG
    cases hb : e.blk p with
    | none =>
      rw [hb] at ho
      simp only [ORel] at ho
      subst ho
      simp only [hdr]
      by_cases h0 : news = []
      · subst h0
        have hl0 : l = [] := List.eq_nil_of_length_eq_zero (by rw [hn.1]; simp)
        have hrun := run_append_in (P := P) (ty := ty) A (base := none) (n := 0) (cap := 0) hn (by simp) (w' := w) (fun a ha => by cases ha) (fun _ => rfl)
        obtain ⟨k1, k2, k3⟩ := hrel_turn H hp rfl (hpr _ _) (fun _ => by rw [hb]; rfl) (fun _ _ => rfl)
        exact ⟨_, w, e, hrun, k1, k2, k3, hfin e w _ k1 (by rw [hb]; rfl)⟩
      · have hnl : 0 < news.length := List.length_pos_iff.2 h0
        have hrun := run_append_new (P := P) (ty := ty) A (base := none) (n := 0) (cap := 0) (old := []) hn (by omega) (by omega) (growslice_fits (by omega) (by simpa using hbound)) (by simp) (.inl ⟨rfl, rfl⟩)
        have hcap := grownCap_ge w (0 + news.length) 0 el
        have hcm := grownCap_le_maxLen w (0 + news.length) 0 el (by simp only [maxLen]; omega)
        obtain ⟨k1, k2, k3⟩ := hrel_move (c := grownCap w (0 + news.length) 0 el) (x := .arr i.size (g + 1) ([] ++ news)) (o := .cells ([] ++ l ++ (Builtin.zeroCells zv.cells (grownCap w (0 + news.length) 0 el - (0 + news.length))).toList).toArray el (0, 0)) (H.heap (w' := w.drew) rfl) hp rfl (hpr _ _) (fun e' m => by
          refine ⟨_, _, heap_alloc_new', size_grown (size := i.size) (n := 0) (by simp) hn.1 (by rw [hzl, hs]) hcap, by simpa using hcap, hcm, ?_⟩
          have := (hl.mono m.h).rows (m := (Builtin.zeroCells zv.cells (grownCap w (0 + news.length) 0 el - (0 + news.length))).toList)
          simpa using this) (fun _ _ => rfl)
        refine ⟨_, _, _, hrun, k1, k2, Evo.drew.trans k3, hfin _ _ _ k1 ?_⟩
        rw [blk_setB (H.heap (w' := w.drew) rfl) hp, if_pos rfl]
        simp [hdr]
    | some bc =>
      obtain ⟨b, cap⟩ := bc
      rw [hb] at ho
      obtain ⟨vs, bt, hw, hvs, hlen, hcapm, hr1, hr2⟩ := ho
      simp only [hdr]
      have hfit1 : rows.length * i.size ≤ vs.size := by rw [hvs]; exact Nat.mul_le_mul_right _ hlen
      by_cases hroom : rows.length + news.length ≤ cap
      · have hfit : rows.length * i.size + l.length ≤ vs.size := by
          rw [hn.1, hvs, ← Nat.add_mul]; exact Nat.mul_le_mul_right _ hroom
        have hst := run_storeCells_at P b (rows.length * i.size) bt l 0 vs w hw (by simpa using hfit) hl.2.2.1
        rw [setRow_setBlk hw] at hst
        simp only [Nat.add_zero] at hst
        have hrun := run_append_in (P := P) (ty := ty) A (base := some ⟨b, 0, none⟩) (n := rows.length) (cap := cap) hn hroom (fun a ha => by cases ha; rw [addr_add, Nat.zero_add]; exact hst) (fun h => by cases h)
        obtain ⟨k1, k2, k3⟩ := hrel_set (x := .arr i.size (g + 1) (rows ++ news)) (o := .cells (vs.toList.take (rows.length * i.size) ++ l ++ vs.toList.drop (rows.length * i.size + l.length)).toArray bt (0, 0)) H hp rfl hb (hpr _ _) (by
          refine ⟨_, _, heap_setBlk_eq (Array.getElem?_eq_some_iff.1 hw).1, ?_, by simpa using hroom, hcapm, ?_, fun j r k d hj hk => ?_⟩
          · have := size_splV (cs := vs.toList) (xs := l) (off := rows.length * i.size) (by simpa using hfit)
            unfold splV at this
            rw [List.size_toArray, this]; simpa using hvs
          · intro r hr
            rcases List.mem_append.1 hr with h' | h'
            · exact hr1 r h'
            · exact hl.2.1 r h'
          · have hsp := splV_get vs.toList l (rows.length * i.size) (j * i.size + k) (by simpa using hfit)
            unfold splV at hsp
            simp only [List.getElem?_toArray]
            rw [hsp]
            by_cases hjl : j < rows.length
            · rw [List.getElem?_append_left hjl] at hj
              have hkl := (List.getElem?_eq_some_iff.1 hk).1
              rw [hr1 r (List.mem_of_getElem? hj)] at hkl
              have h3 : (j + 1) * i.size ≤ rows.length * i.size := Nat.mul_le_mul_right _ hjl
              rw [Nat.add_mul] at h3
              rw [if_pos (by omega)]
              simpa using hr2 j r k d hj hk
            · rw [List.getElem?_append_right (by omega)] at hj
              obtain ⟨x, hx', hxr⟩ := hl.2.2.2 (j - rows.length) r k d hj hk
              have h3 : rows.length * i.size ≤ j * i.size := Nat.mul_le_mul_right _ (by omega)
              have h4 := (List.getElem?_eq_some_iff.1 hx').1
              have h5 : j * i.size + k - rows.length * i.size = (j - rows.length) * i.size + k := by rw [Nat.sub_mul]; omega
              refine ⟨x, ?_, hxr⟩
              rw [if_neg (by omega), if_pos (by omega), h5]; exact hx') (fun _ _ => rfl)
        refine ⟨_, _, _, hrun, k1, k2, k3, hfin _ _ _ k1 ?_⟩
        rw [hb]; simp [hdr]
      · have hold : ∃ old : List Value, RowsAre e.h i.size rows old ∧ ∀ j v, old[j]? = some v → w.cell? ((⟨b, 0, none⟩ : Addr).add j) = some v := by
          refine ⟨vs.toList.take (rows.length * i.size), ⟨by simp; omega, hr1, fun v hv => ?_, fun j r k d hj hk => ?_⟩, fun j v hj => ?_⟩
          · obtain ⟨q, hq, rfl⟩ := List.getElem_of_mem hv
            have hq' : q < rows.length * i.size := by simp at hq; omega
            have hs0 : 0 < i.size := by
              rcases Nat.eq_zero_or_pos i.size with h' | h'
              · rw [h'] at hq'; simp at hq'
              · exact h'
            have hj : q / i.size < rows.length := Nat.div_lt_of_lt_mul (by rw [Nat.mul_comm]; exact hq')
            have hk2 : q % i.size < (rows[q / i.size]).length := by rw [hr1 _ (List.getElem_mem _)]; exact Nat.mod_lt _ hs0
            obtain ⟨x, hx', hxr⟩ := hr2 (q / i.size) _ (q % i.size) _ (List.getElem?_eq_getElem hj) (List.getElem?_eq_getElem hk2)
            rw [Nat.div_add_mod' q i.size] at hx'
            have hqv : q < vs.size := by omega
            simp [hqv] at hx'
            simp [hx']
            exact hxr.oneCell
          · obtain ⟨x, hx', hxr⟩ := hr2 j r k d hj hk
            refine ⟨x, ?_, hxr⟩
            have hkl := (List.getElem?_eq_some_iff.1 hk).1
            rw [hr1 r (List.mem_of_getElem? hj)] at hkl
            have h3 : (j + 1) * i.size ≤ rows.length * i.size := Nat.mul_le_mul_right _ (List.getElem?_eq_some_iff.1 hj).1
            rw [Nat.add_mul] at h3
            rw [List.getElem?_take_of_lt (by omega)]
            simpa using hx'
          · have hjl : j < rows.length * i.size := by have := (List.getElem?_eq_some_iff.1 hj).1; simp at this; omega
            rw [List.getElem?_take_of_lt hjl] at hj
            rw [addr_add]
            simp only [World.cell?, hw]
            simpa using hj
        obtain ⟨old, hor, hoc⟩ := hold
        have hrun := run_append_new (P := P) (ty := ty) A (base := some ⟨b, 0, none⟩) (n := rows.length) (cap := cap) (old := old) hn (by omega) (by omega) (growslice_fits (by omega) hbound) hor.1 (.inr ⟨_, rfl, hoc⟩)
        have hcap := grownCap_ge w (rows.length + news.length) cap el
        have hcm := grownCap_le_maxLen w (rows.length + news.length) cap el (by simp only [maxLen]; omega)
        obtain ⟨k1, k2, k3⟩ := hrel_move (c := grownCap w (rows.length + news.length) cap el) (x := .arr i.size (g + 1) (rows ++ news)) (o := .cells (old ++ l ++ (Builtin.zeroCells zv.cells (grownCap w (rows.length + news.length) cap el - (rows.length + news.length))).toList).toArray el (0, 0)) (H.heap (w' := w.drew) rfl) hp rfl (hpr _ _) (fun e' m => by
          refine ⟨_, _, heap_alloc_new', size_grown (size := i.size) hor.1 hn.1 (by rw [hzl, hs]) hcap, by simpa using hcap, hcm, ?_⟩
          exact ((hor.append hl).mono m.h).rows) (fun _ _ => rfl)
        refine ⟨_, _, _, hrun, k1, k2, Evo.drew.trans k3, hfin _ _ _ k1 ?_⟩
        rw [blk_setB (H.heap (w' := w.drew) rfl) hp, if_pos rfl]
        simp [hdr]
  · split at h
    case h_2 => cases h
    rename_i rows hclip
    split at h
    case isFalse => cases h
    rename_i hc
    obtain ⟨hrf, hbp, hbound⟩ := hc
    rw [← hs] at hrf
    rw [← hby] at hbp hbound
    have hle : rows.length + news.length ≤ 140737488355328 := Nat.le_trans (Nat.le_mul_of_pos_right _ hbp) hbound
    have hxv : ∃ a, xv = .slice a rows.length rows.length ∧ Rep e.h (.l rows) xv := by
      unfold clipA at hclip
      split at hclip
      · simp at hclip; subst hclip
        cases hx with
        | nils => exact ⟨none, rfl, .l (rows := []) (c := 0) 0 (fun _ => undef) (by simp) (Nat.zero_le _) (Nat.zero_le _) (by simp) (by simp)⟩
      · simp at hclip; subst hclip
        cases hx with
        | @clip _ a n r =>
          have := r.len
          subst this
          exact ⟨_, rfl, r⟩
      · cases hclip
    obtain ⟨a, rfl, hrep⟩ := hxv
    obtain ⟨_, old, hor, hoc⟩ := Rep.are H.hin hrep hrf
    have hgrow : ∀ (hm : 0 < news.length), (Builtin.append_ #[t, u] ty #[.slice a rows.length rows.length, yv]).run P w =
        .ok (.slice (some ⟨w.heap.size, 0, none⟩) (rows.length + news.length) (grownCap w (rows.length + news.length) rows.length el))
          (w.drew.alloc (.cells (old ++ l ++ (Builtin.zeroCells zv.cells (grownCap w (rows.length + news.length) rows.length el - (rows.length + news.length))).toList).toArray el (0, 0))) := fun hm =>
      run_append_new (P := P) (ty := ty) A (n := rows.length) (cap := rows.length) (old := old) hn (by omega) (by omega) (growslice_fits (by omega) hbound) hor.1 (by
        rcases hoc with hoc | ⟨ad, rfl, hoc⟩
        · subst hoc
          have ho0 : old = [] := List.eq_nil_of_length_eq_zero (by rw [hor.1]; simp)
          subst ho0
          cases a with
          | none => exact .inl ⟨rfl, rfl⟩
          | some ad => exact .inr ⟨ad, rfl, by simp⟩
        · exact .inr ⟨ad, rfl, hoc⟩)
    have hcap := grownCap_ge w (rows.length + news.length) rows.length el
    have hcm := grownCap_le_maxLen w (rows.length + news.length) rows.length el (by simp only [maxLen]; omega)
    split at h
    · rename_i hlit
      simp only [Option.some.injEq, Prod.mk.injEq] at h
      obtain ⟨rfl, rfl, rfl⟩ := h
      have hm : 0 < news.length := by
        unfold isLit at hlit
        split at hlit
        case h_2 => cases hlit
        rename_i r0 rs
        unfold newsA at hnews
        split at hnews
        case h_2 => cases hnews
        split at hnews
        · simp only [rowsA] at hnews
          split at hnews
          · simp at hnews; subst hnews; simp
          · cases hnews
        · cases hnews
        · cases hnews
      obtain ⟨k1, k2, k3⟩ := hrel_new (H.heap (w' := w.drew) rfl) (.arr i.size 0 (rows ++ news)) (.cells (old ++ l ++ (Builtin.zeroCells zv.cells (grownCap w (rows.length + news.length) rows.length el - (rows.length + news.length))).toList).toArray el (0, 0))
        (grownCap w (rows.length + news.length) rows.length el) (fun e' m => by
          refine ⟨_, _, heap_alloc_new', size_grown (size := i.size) hor.1 hn.1 (by rw [hzl, hs]) hcap, by simpa using hcap, hcm, ?_⟩
          exact ((hor.append hl).mono m.h).rows)
      have ho := @obj_append_l σ.L σ.G (.arr i.size 0 (rows ++ news)) (.l σ.L.length)
      rw [if_pos rfl] at ho
      have hbb := @blk_append_l e σ.L.length H.ll (some (w.drew.heap.size, grownCap w (rows.length + news.length) rows.length el)) (.l σ.L.length)
      rw [if_pos rfl] at hbb
      rw [← hs]
      refine ⟨_, _, _, hgrow hm, k1, k2, Evo.drew.trans k3, .p ?_⟩
      simp only [PRel, ho]
      refine ⟨rfl, Nat.le_refl _, fun _ => ?_⟩
      rw [hbb]; simp [hdr]
    · simp only [Option.some.injEq, Prod.mk.injEq] at h
      obtain ⟨rfl, rfl, rfl⟩ := h
      by_cases h0 : news = []
      · subst h0
        have hl0 : l = [] := List.eq_nil_of_length_eq_zero (by rw [hn.1]; simp)
        subst hl0
        have hrun := run_append_in (P := P) (ty := ty) A (base := a) (n := rows.length) (cap := rows.length) hn (by simp) (w' := w) (fun a' _ => by simp [storeCells]) (fun _ => rfl)
        exact ⟨_, w, e, hrun, H, .refl _ _, .refl _ _ _ _, .d (by simpa using hrep)⟩
      · have hm : 0 < news.length := List.length_pos_iff.2 h0
        obtain ⟨k1, k2, k3⟩ := hrel_frozen (H.heap (w' := w.drew) rfl) (.cells (old ++ l ++ (Builtin.zeroCells zv.cells (grownCap w (rows.length + news.length) rows.length el - (rows.length + news.length))).toList).toArray el (0, 0))
        have hall := (hor.append hl).mono k2.h
        have hlen : (rows ++ news).length = rows.length + news.length := by simp
        have hfin := Rep.l (h := FHeap.add e.h w.drew.heap.size (.cells (old ++ l ++ (Builtin.zeroCells zv.cells (grownCap w (rows.length + news.length) rows.length el - (rows.length + news.length))).toList).toArray el (0, 0)))
          (rows := rows ++ news) (a := some ⟨w.heap.size, 0, none⟩) (c := grownCap w (rows.length + news.length) rows.length el) i.size (fun j => ((old ++ l)[j]?).getD undef) hall.2.1 (by simpa using hcap) hcm (fun _ => ⟨_, rfl, fun j hj => by
            have hj' : j < (old ++ l).length := by rw [hall.1]; exact hj
            rw [addr_add]
            simp only [FHeap.cell, FHeap.add, World.size_drew, Nat.zero_add, if_true]
            rw [List.getElem?_toArray, List.getElem?_append_left (by simpa using hj')]
            simp [List.getElem?_eq_getElem hj']⟩) (fun j r k d hj hk => by
            obtain ⟨x, hx', hxr⟩ := hall.2.2.2 j r k d hj hk
            rw [hx']; exact hxr)
        rw [hlen] at hfin
        exact ⟨_, _, _, hgrow hm, k1, k2, Evo.drew.trans k3, .d hfin⟩

end
end Go.Am

/- Maps. -/
set_option linter.unusedVariables false
set_option linter.unusedSimpArgs false
namespace Go.Am
section
variable {P : Program} {T : Tbl} {e : Env} {σ : St} {w : World}

def sameK : TyK → Value → Value → Option Bool
  | .int _, .int k a, .int k' b => if k = k' then some (decide (a = b)) else none
  | .string, .string a, .string b => some (decide (a = b))
  | .bool, .bool a, .bool b => some (decide (a = b))
  | _, _, _ => none

def findE (te : TyK) (k : Value) : List MEnt → Nat → Option (Option (Nat × AVal))
  | [], _ => some none
  | x :: xs, i => match sameK te k x.k with
    | some true => some (some (i, x.v))
    | some false => findE te k xs (i + 1)
    | none => none

def plainKey : TyK → Bool
  | .int _ | .string | .bool => true
  | _ => false

def EntRel (e : Env) (ob : Loc → Option AObj) (es : List MEnt) (l : List MapEntry) : Prop :=
  l.length = es.length ∧ ∀ (i : Nat) (kv : MEnt) (en : MapEntry), es[i]? = some kv → l[i]? = some en → en.key = kv.k ∧ VRel e ob kv.v en.val ∧ en.born = kv.b

theorem sameK_ok {te : TyK} {d : TypeDesc} (hd : descFits d te) (hp : plainKey te = true) {a b : Value} {r : Bool} (h : sameK te a b = some r) : Instr.sameNow d a b = some r := by
  have hb : ∀ a b : ByteArray, (a == b) = decide (a = b) := fun a b => by
    rw [Bool.eq_iff_iff, MapKept.bytes_beq]; simp
  cases te <;> simp [plainKey] at hp <;> cases d <;> simp only [descFits] at hd <;> cases a <;> cases b <;> simp only [sameK, reduceCtorEq] at h <;> simp only [Instr.sameNow, hb]
  · rw [← h]; congr 1
  · rw [← h]; congr 1
  · exact h

theorem findE_now {ob : Loc → Option AObj} {te : TyK} {d : TypeDesc} (hd : descFits d te) (hp : plainKey te = true) {k : Value} : ∀ (es : List MEnt) (l : List MapEntry) (i : Nat) (r : Option (Nat × AVal)), EntRel e ob es l → findE te k es i = some r →
    (r = none ∧ Instr.findNow d k l i = some none) ∨ ∃ j x v, r = some (j, x) ∧ Instr.findNow d k l i = some (some (j, v)) ∧ VRel e ob x v ∧ i ≤ j ∧ ∃ kv, es[j - i]? = some kv ∧ kv.v = x ∧ sameK te k kv.k = some true
  | [], [], i, r, hr, h => by simp [findE] at h; subst h; exact .inl ⟨rfl, rfl⟩
  | [], _ :: _, i, r, hr, h => by simp [EntRel] at hr
  | _ :: _, [], i, r, hr, h => by simp [EntRel] at hr
  | x :: xs, y :: ys, i, r, hr, h => by
    have h0 := hr.2 0 x y rfl rfl
    have hrec : EntRel e ob xs ys := ⟨by simpa using hr.1, fun j kv en h1 h2 => hr.2 (j + 1) kv en (by simpa using h1) (by simpa using h2)⟩
    unfold findE at h
    split at h
    · rename_i hs
      simp at h; subst h
      refine .inr ⟨i, x.v, y.val, rfl, ?_, h0.2.1, Nat.le_refl _, x, by simp, rfl, hs⟩
      have := sameK_ok hd hp hs
      simp [Instr.findNow, h0.1, this]
    · rename_i hs
      have := sameK_ok hd hp hs
      rcases findE_now hd hp xs ys (i + 1) r hrec h with ⟨h1, h2⟩ | ⟨j, z, v, h1, h2, h3, h4, kv, h5, h6⟩
      · exact .inl ⟨h1, by simp [Instr.findNow, h0.1, this, h2]⟩
      · refine .inr ⟨j, z, v, h1, by simp [Instr.findNow, h0.1, this, h2], h3, by omega, kv, ?_, h6⟩
        rw [show j - i = (j - (i + 1)) + 1 by omega]
        simpa using h5
    · cases h

theorem run_checkKey_plain {te : TyK} {d : TypeDesc} {kt : Nat} (hu : P.underlying kt = some d) (hd : descFits d te) (hp : plainKey te = true) (b : Bool) (v : Value) (w : World) : (Instr.checkKey b 10000 kt v).run P w = .ok () w := by
  have : (10000 : Nat) = 9999 + 1 := rfl
  rw [this]
  unfold Instr.checkKey
  simp only [Sem.run_bind, run_underlying hu, Result.andThen_ok]
  cases te <;> simp [plainKey] at hp <;> cases d <;> simp only [descFits] at hd <;> rfl

theorem run_findKey_plain {ob : Loc → Option AObj} {te : TyK} {d : TypeDesc} {kt : Nat} (hu : P.underlying kt = some d) (hd : descFits d te) (hp : plainKey te = true) {k : Value} {es : List MEnt} {l : List MapEntry} {r : Option (Nat × AVal)}
    (hr : EntRel e ob es l) (h : findE te k es 0 = some r) (w : World) :
    (r = none ∧ (Instr.findKey kt k l).run P w = .ok none w) ∨ ∃ j x v, r = some (j, x) ∧ (Instr.findKey kt k l).run P w = .ok (some (j, v)) w ∧ VRel e ob x v ∧ ∃ kv, es[j]? = some kv ∧ kv.v = x ∧ sameK te k kv.k = some true := by
  rcases findE_now hd hp es l 0 r hr h with ⟨h1, h2⟩ | ⟨j, x, v, h1, h2, h3, _, h5⟩
  · exact .inl ⟨h1, by simp [Instr.findKey, run_underlying hu, h2]⟩
  · exact .inr ⟨j, x, v, h1, by simp [Instr.findKey, run_underlying hu, h2], h3, by simpa using h5⟩

/-! ### Which map -/
def mapA (σ : St) : AVal → Option (Loc × List MEnt × Nat)
  | .p p .mp => match obj σ.L σ.G p with
    | some (.map es clock) => some (p, es, clock)
    | _ => none
  | _ => none

theorem mapA_ok (H : HRel e σ.L σ.G w) {x : AVal} {v : Value} {p : Loc} {es : List MEnt} {clock : Nat} (hx : VRel e (obj σ.L σ.G) x v) (h : mapA σ x = some (p, es, clock)) :
    x = .p p .mp ∧ obj σ.L σ.G p = some (.map es clock) ∧ ∃ b c ens, e.blk p = some (b, c) ∧ v = .map (some b) ∧ w.heap[b]? = some (.map ens clock) ∧ EntRel e (obj σ.L σ.G) es ens.toList := by
  unfold mapA at h
  split at h
  case h_2 => cases h
  rename_i q
  split at h
  case h_2 => cases h
  rename_i es' clock' hp
  simp at h
  obtain ⟨rfl, rfl, rfl⟩ := h
  cases hx with
  | p r =>
  simp only [PRel, hp] at r
  obtain ⟨b, c, hb, rfl⟩ := r
  obtain ⟨b', c', ens, hb', hw, hs, hr⟩ := H.o _ _ hp
  rw [hb] at hb'; cases hb'
  exact ⟨rfl, hp, b, c, ens, hb, rfl, hw, by simpa using hs, fun i kv en h1 h2 => hr i kv en h1 (by simpa using h2)⟩

def zeroOf (te : TyE) : Option AVal := mkV te.k.agg (te.zero.map zeroA)

theorem zeroOf_ok (hT : TblOk P T) {ob : Loc → Option AObj} {t : Nat} {te : TyE} (ht : T t = some te) {x : AVal} (h : zeroOf te = some x) (w : World) : ∃ z, (zeroValue t).run P w = .ok z w ∧ VRel e ob x z := by
  obtain ⟨i, z, hi, hz, hs, hby, hzc⟩ := (hT t te ht).i
  have hza := (hT t te ht).za i z hi hz
  have hz1 := (hT t te ht).z
  refine ⟨z, by simp [zeroValue, typeInfo, hi, hz], ?_⟩
  have hrel : ∀ (k : Nat) (y : AVal) (v : Value), (te.zero.map zeroA)[k]? = some y → z.cells[k]? = some v → VRel e ob y v := fun k y v hy hv => by
    rw [List.getElem?_map] at hy
    have hv' : te.zero[k]? = some v := by rw [← hzc, Array.getElem?_toList]; exact hv
    rw [hv'] at hy
    simp at hy; subst hy
    exact zeroA_rel (List.all_eq_true.1 hz1 v (List.mem_of_getElem? hv'))
  unfold zeroOf mkV at h
  split at h
  · rename_i hagg
    simp only [Option.some.injEq] at h; subst h
    obtain ⟨cs, rfl⟩ := hza.1 hagg
    refine .agg ?_ hrel
    have := congrArg List.length hzc
    simp [Value.cells] at this
    simp [this]
  · rename_i hagg
    split at h
    · rename_i c hc
      simp only [Option.some.injEq] at h; subst h
      have h1 := hza.2 (by simpa using hagg)
      have hcells : z.cells = #[z] := by cases z <;> simp [Value.oneCell'] at h1 <;> rfl
      refine hrel 0 _ z ?_ (by rw [hcells]; rfl)
      rw [hc]; rfl
    · cases h

/-! ### Reading -/
def okTup (ok : Bool) (x : AVal) (b : Bool) : AVal := if ok then .tup [x, .d (.v (.bool b))] else x

theorem okTup_ok {ob : Loc → Option AObj} {x : AVal} {v : Value} (h : VRel e ob x v) (ok b : Bool) : VRel e ob (okTup ok x b) (if ok then .tuple #[v, .bool b] else v) := by
  cases ok with
  | true =>
    refine .tup rfl fun k y u hy hu => ?_
    match k, hy, hu with
    | 0, hy, hu => simp at hy hu; subst hy; subst hu; exact h
    | 1, hy, hu => simp at hy hu; subst hy; subst hu; exact .d (.v rfl)
    | k + 2, hy, hu => simp at hy
  | false => exact h

def lookupA (T : Tbl) (σ : St) (t : Nat) (x k : AVal) (ok : Bool) : Option AVal :=
  match T t, k with
  | some te, .d (.v kv) => match te.k with
    | .map kt vt => match T kt, T vt with
      | some ke, some ve => if plainKey ke.k = true then match mapA σ x with
          | some (_, es, _) => match findE ke.k kv es 0, zeroOf ve with
            | some (some (_, y)), _ => some (okTup ok y true)
            | some none, some z => some (okTup ok z false)
            | _, _ => none
          | none => match x with
            | .d (.v (.map none)) => match zeroOf ve with
              | some z => some (okTup ok z false)
              | none => none
            | _ => none
        else none
      | _, _ => none
    | _ => none
  | _, _ => none

theorem lookupA_ok (hT : TblOk P T) (H : HRel e σ.L σ.G w) {t : Nat} {x k y : AVal} {v kv : Value} {ok : Bool} (hx : VRel e (obj σ.L σ.G) x v) (hk : VRel e (obj σ.L σ.G) k kv)
    (h : lookupA T σ t x k ok = some y) : ∃ u, (Instr.lookup t v kv ok).run P w = .ok u w ∧ VRel e (obj σ.L σ.G) y u := by
  unfold lookupA at h
  split at h
  case h_2 => cases h
  rename_i te kv' hte
  cases hk with
  | d r => cases r with
  | v _ =>
  split at h
  case h_2 => cases h
  rename_i kt vt htk
  obtain ⟨d, hd, hfit⟩ := (hT t te hte).u
  rw [htk] at hfit
  cases d <;> simp only [descFits] at hfit <;> try exact hfit.elim
  obtain ⟨rfl, rfl⟩ := hfit
  split at h
  case h_2 => cases h
  rename_i ke ve hke hve
  split at h
  case isFalse => cases h
  rename_i hp
  obtain ⟨dk, hdk, hkf⟩ := (hT _ ke hke).u
  split at h
  · rename_i p es clock hm
    obtain ⟨rfl, hpo, b, c, ens, hb, rfl, hw, hrel⟩ := mapA_ok H hx hm
    split at h
    · rename_i j z hf
      simp only [Option.some.injEq] at h; subst h
      rcases run_findKey_plain hdk hkf hp hrel hf w with ⟨h1, _⟩ | ⟨j', z', v', h1, h2, h3, _⟩
      · cases h1
      · simp only [Option.some.injEq, Prod.mk.injEq] at h1
        obtain ⟨rfl, rfl⟩ := h1
        exact ⟨_, by simp only [Instr.lookup, Sem.run_bind, run_underlying hd, Result.andThen_ok, MapKept.run_getObj_map hw, run_checkKey_plain hdk hkf hp, h2, Sem.run_pure], okTup_ok h3 ok true⟩
    · rename_i z hf hz
      simp only [Option.some.injEq] at h; subst h
      rcases run_findKey_plain hdk hkf hp hrel hf w with ⟨_, h2⟩ | ⟨j', z', v', h1, _⟩
      · obtain ⟨zv, hzv, hzr⟩ := zeroOf_ok hT hve hz w
        exact ⟨_, by simp only [Instr.lookup, Sem.run_bind, run_underlying hd, Result.andThen_ok, MapKept.run_getObj_map hw, run_checkKey_plain hdk hkf hp, h2, hzv, Sem.run_pure], okTup_ok hzr ok false⟩
      · cases h1
    · cases h
  · split at h
    case h_2 => cases h
    split at h
    case h_2 => cases h
    rename_i z hz
    simp only [Option.some.injEq] at h; subst h
    cases hx with
    | d r => cases r with
    | v _ =>
    obtain ⟨zv, hzv, hzr⟩ := zeroOf_ok hT hve hz w
    have hf := run_findKey_plain hdk hkf hp (ob := obj σ.L σ.G) (e := e) (es := []) (l := []) (k := kv) (r := none) ⟨rfl, by simp⟩ rfl w
    rcases hf with ⟨_, hf⟩ | ⟨_, _, _, hf, _⟩
    · exact ⟨_, by simp [Instr.lookup, Sem.run_bind, run_underlying hd, Result.andThen_ok, run_checkKey_plain hdk hkf hp, hf, hzv, Sem.run_pure], okTup_ok hzr ok false⟩
    · cases hf

/-! ### Writing -/
/-- A map turns, in its own block. -/
theorem map_turn (H : HRel e σ.L σ.G w) {p : Loc} {es : List MEnt} {clock : Nat} {b c : Nat} {ens : Array MapEntry} (hp : obj σ.L σ.G p = some (.map es clock)) (hb : e.blk p = some (b, c))
    (hw : w.heap[b]? = some (.map ens clock)) {es' : List MEnt} {clock' : Nat} {ens' : Array MapEntry} (hrel : EntRel e (obj σ.L σ.G) es' ens'.toList) (hgl : ∀ i, p = .g i → (AObj.map es' clock').globO = true) :
    HRel e (St.setObj σ.L σ.G p (.map es' clock')).1 (St.setObj σ.L σ.G p (.map es' clock')).2 (setBlk w b (.map ens' clock')) ∧
      EMono e e (obj σ.L σ.G) (obj (St.setObj σ.L σ.G p (.map es' clock')).1 (St.setObj σ.L σ.G p (.map es' clock')).2) ∧
      Evo e σ.L σ.G w e (St.setObj σ.L σ.G p (.map es' clock')).1 (St.setObj σ.L σ.G p (.map es' clock')).2 (setBlk w b (.map ens' clock')) := by
  have hlt : b < w.heap.size := (Array.getElem?_eq_some_iff.1 hw).1
  have m : EMono e e (obj σ.L σ.G) (obj (St.setObj σ.L σ.G p (.map es' clock')).1 (St.setObj σ.L σ.G p (.map es' clock')).2) := ⟨.refl _, fun q k v r => by
    rw [obj_setObj hp]
    by_cases hq : q = p
    · rw [if_pos hq]; subst hq; rw [hp] at r; exact r
    · rw [if_neg hq]; exact r⟩
  exact hrel_set H hp rfl hb (fun k v r => r) ⟨b, c, ens', rfl, heap_setBlk_eq hlt, by simpa using hrel.1, fun i kv en h1 h2 => by
    have := hrel.2 i kv en h1 (by simpa using h2)
    exact ⟨this.1, this.2.1.mono m, this.2.2⟩⟩ hgl

theorem EntRel.set {ob : Loc → Option AObj} {es : List MEnt} {l : List MapEntry} (h : EntRel e ob es l) (j : Nat) {x : MEnt} {y : MapEntry} (hx : y.key = x.k ∧ VRel e ob x.v y.val ∧ y.born = x.b) : EntRel e ob (es.set j x) (l.set j y) :=
  ⟨by simp [h.1], fun i kv en h1 h2 => by
    by_cases hi : j = i
    · subst hi
      have hl : j < es.length := by have := (List.getElem?_eq_some_iff.1 h1).1; simpa using this
      rw [List.getElem?_set_self hl] at h1
      rw [List.getElem?_set_self (by rw [h.1]; exact hl)] at h2
      cases h1; cases h2; exact hx
    · rw [List.getElem?_set_ne hi] at h1 h2
      exact h.2 i kv en h1 h2⟩

theorem EntRel.snoc {ob : Loc → Option AObj} {es : List MEnt} {l : List MapEntry} (h : EntRel e ob es l) {x : MEnt} {y : MapEntry} (hx : y.key = x.k ∧ VRel e ob x.v y.val ∧ y.born = x.b) : EntRel e ob (es ++ [x]) (l ++ [y]) :=
  ⟨by simp [h.1], fun i kv en h1 h2 => by
    by_cases hi : i < es.length
    · rw [List.getElem?_append_left hi] at h1
      rw [List.getElem?_append_left (by rw [h.1]; exact hi)] at h2
      exact h.2 i kv en h1 h2
    · rw [List.getElem?_append_right (by omega)] at h1
      rw [List.getElem?_append_right (by rw [h.1]; omega)] at h2
      rw [h.1] at h2
      cases hq : i - es.length with
      | zero => rw [hq] at h1 h2; simp at h1 h2; subst h1; subst h2; exact hx
      | succ n => rw [hq] at h1; simp at h1⟩

theorem EntRel.erase {ob : Loc → Option AObj} {es : List MEnt} {l : List MapEntry} (h : EntRel e ob es l) (j : Nat) : EntRel e ob (es.eraseIdx j) (l.eraseIdx j) :=
  ⟨by simp [List.length_eraseIdx, h.1], fun i kv en h1 h2 => by
    rw [List.getElem?_eraseIdx] at h1 h2
    split at h1
    · rename_i hlt; rw [if_pos hlt] at h2; exact h.2 _ kv en h1 h2
    · rename_i hlt; rw [if_neg hlt] at h2; exact h.2 _ kv en h1 h2⟩

/-- The entry's own key stays: it is the same one. -/
theorem sameK_eq {te : TyK} {a b : Value} (h : sameK te a b = some true) : a = b := by
  cases te <;> cases a <;> cases b <;> simp [sameK] at h <;> simp [h]

theorem run_keyStays {te : TyK} {a b : Value} (h : sameK te a b = some true) (w : World) : (Instr.keyThatStays b a).run P w = .ok a w := by
  have := sameK_eq h
  subst this
  have : (10000 : Nat) = 9999 + 1 := rfl
  have hb : ∀ a : ByteArray, (a == a) = true := fun a => (MapKept.bytes_beq a a).2 rfl
  cases te <;> cases a <;> simp [sameK] at h <;> simp [Instr.keyThatStays, Instr.sameBits, hb]

/-- Where a key lies: the table, the kind, the map, its entries, the key, where. -/
def whereA (T : Tbl) (σ : St) (t : Nat) (m k : AVal) : Option (Value × TyE × Loc × List MEnt × Nat × Option (Nat × AVal)) :=
  match T t, k with
  | some te, .d (.v kv) => match te.k with
    | .map kt vt => match T kt, T vt with
      | some ke, some ve => if plainKey ke.k = true then match mapA σ m with
          | some (p, es, clock) => match findE ke.k kv es 0 with
            | some r => some (kv, ve, p, es, clock, r)
            | none => none
          | none => none
        else none
      | _, _ => none
    | _ => none
  | _, _ => none

structure Where (P : Program) (T : Tbl) (e : Env) (σ : St) (w : World) (t : Nat) (m k : AVal) (v kv : Value) (ve : TyE) (p : Loc) (es : List MEnt) (clock : Nat) (r : Option (Nat × AVal)) (kt vt b c : Nat) (ens : Array MapEntry) : Prop where
  hu : P.underlying t = some (.map kt vt)
  hvt : T vt = some ve
  hpo : obj σ.L σ.G p = some (.map es clock)
  hblk : e.blk p = some (b, c)
  hv : v = .map (some b)
  hw : w.heap[b]? = some (.map ens clock)
  hrel : EntRel e (obj σ.L σ.G) es ens.toList
  check : ∀ f w, (Instr.checkKey f 10000 kt kv).run P w = .ok () w
  find : (r = none ∧ (Instr.findKey kt kv ens.toList).run P w = .ok none w) ∨ ∃ j x u kv', r = some (j, x) ∧ (Instr.findKey kt kv ens.toList).run P w = .ok (some (j, u)) w ∧ VRel e (obj σ.L σ.G) x u ∧ es[j]? = some kv' ∧ kv'.v = x ∧ kv'.k = kv ∧
      (∀ w, (Instr.keyThatStays kv'.k kv).run P w = .ok kv w)

theorem whereA_ok (hT : TblOk P T) (H : HRel e σ.L σ.G w) {t : Nat} {m k : AVal} {v kv0 : Value} {kv : Value} {ve : TyE} {p : Loc} {es : List MEnt} {clock : Nat} {r : Option (Nat × AVal)} (hx : VRel e (obj σ.L σ.G) m v) (hk : VRel e (obj σ.L σ.G) k kv0)
    (h : whereA T σ t m k = some (kv, ve, p, es, clock, r)) : kv0 = kv ∧ ∃ kt vt b c ens, Where P T e σ w t m k v kv ve p es clock r kt vt b c ens := by
  unfold whereA at h
  split at h
  case h_2 => cases h
  rename_i te kv' hte
  cases hk with
  | d r => cases r with
  | v _ =>
  split at h
  case h_2 => cases h
  rename_i kt vt htk
  obtain ⟨d, hd, hfit⟩ := (hT t te hte).u
  rw [htk] at hfit
  cases d <;> simp only [descFits] at hfit <;> try exact hfit.elim
  obtain ⟨rfl, rfl⟩ := hfit
  split at h
  case h_2 => cases h
  rename_i ke ve' hke hve
  split at h
  case isFalse => cases h
  rename_i hp
  obtain ⟨dk, hdk, hkf⟩ := (hT _ ke hke).u
  split at h
  case h_2 => cases h
  rename_i p' es' clock' hm
  obtain ⟨rfl, hpo, b, c, ens, hb, rfl, hw, hrel⟩ := mapA_ok H hx hm
  split at h
  case h_2 => cases h
  rename_i r' hf
  simp only [Option.some.injEq, Prod.mk.injEq] at h
  obtain ⟨rfl, rfl, rfl, rfl, rfl, rfl⟩ := h
  refine ⟨rfl, _, _, b, c, ens, ⟨hd, hve, hpo, hb, rfl, hw, hrel, fun f w => run_checkKey_plain hdk hkf hp f _ w, ?_⟩⟩
  rcases run_findKey_plain hdk hkf hp hrel hf w with h1 | ⟨j, x, u, h1, h2, h3, kv', h4, h5, h6⟩
  · exact .inl h1
  · exact .inr ⟨j, x, u, kv', h1, h2, h3, h4, h5, (sameK_eq h6).symm, fun w => run_keyStays h6 w⟩

def globOf : Loc → AVal → Bool
  | .l _, _ => true
  | .g _, x => x.glob

theorem globs_set {l : List AVal} {j : Nat} {x : AVal} (h : AVal.glob.globs l = true) (hx : x.glob = true) : AVal.glob.globs (l.set j x) = true := by
  induction l generalizing j with
  | nil => simpa using h
  | cons y ys ih =>
    simp only [AVal.glob.globs, Bool.and_eq_true] at h
    cases j with
    | zero => simp [AVal.glob.globs, hx, h.2]
    | succ j => simp [AVal.glob.globs, h.1, ih h.2]

theorem globs_append {l m : List AVal} (h : AVal.glob.globs l = true) (hm : AVal.glob.globs m = true) : AVal.glob.globs (l ++ m) = true := by
  induction l with
  | nil => simpa using hm
  | cons y ys ih =>
    simp only [AVal.glob.globs, Bool.and_eq_true] at h
    simp [AVal.glob.globs, h.1, ih h.2]

theorem globs_erase {l : List AVal} {j : Nat} (h : AVal.glob.globs l = true) : AVal.glob.globs (l.eraseIdx j) = true := by
  induction l generalizing j with
  | nil => simpa using h
  | cons y ys ih =>
    simp only [AVal.glob.globs, Bool.and_eq_true] at h
    cases j with
    | zero => simpa using h.2
    | succ j => simp [AVal.glob.globs, h.1, ih h.2]

theorem map_eraseIdx' {α β : Type} (f : α → β) : ∀ (l : List α) (j : Nat), (l.eraseIdx j).map f = (l.map f).eraseIdx j
  | [], j => by simp
  | x :: xs, 0 => by simp
  | x :: xs, j + 1 => by simp [map_eraseIdx' f xs j]

def updA (T : Tbl) (σ : St) (t : Nat) (m k x : AVal) : Option (List AObj × List AObj) :=
  match whereA T σ t m k with
  | some (kv, _, p, es, clock, some (j, _)) => if globOf p x = true then some (St.setObj σ.L σ.G p (.map (es.set j ⟨kv, x, (es.getD j default).b⟩) clock)) else none
  | some (kv, _, p, es, clock, none) => if globOf p x = true then some (St.setObj σ.L σ.G p (.map (es ++ [⟨kv, x, clock⟩]) (clock + 1))) else none
  | none => none

theorem gg_map (H : HRel e σ.L σ.G w) {i : Nat} {es : List MEnt} {clock : Nat} (h : obj σ.L σ.G (.g i) = some (.map es clock)) : AVal.glob.globs (es.map (·.v)) = true :=
  H.gg _ (List.mem_of_getElem? h)

theorem modify_toList (ens : Array MapEntry) (j : Nat) (f : MapEntry → MapEntry) {x : MapEntry} (hx : ens[j]? = some x) : (ens.modify j f).toList = ens.toList.set j (f x) := by
  rw [Array.toList_modify]
  apply List.ext_getElem?
  intro i
  rw [List.getElem?_modify]
  by_cases hi : j = i
  · subst hi
    have hlt := (Array.getElem?_eq_some_iff.1 hx).1
    rw [List.getElem?_set_self (by simpa using hlt)]
    simp [hx]
  · rw [List.getElem?_set_ne hi]; simp [hi]

theorem updA_ok (hT : TblOk P T) (H : HRel e σ.L σ.G w) {t : Nat} {m k x : AVal} {mv kv xv : Value} {L' G' : List AObj} (hm : VRel e (obj σ.L σ.G) m mv) (hk : VRel e (obj σ.L σ.G) k kv) (hx : VRel e (obj σ.L σ.G) x xv)
    (h : updA T σ t m k x = some (L', G')) :
    ∃ w', (Instr.mapUpdate t mv kv xv).run P w = .ok () w' ∧ HRel e L' G' w' ∧ EMono e e (obj σ.L σ.G) (obj L' G') ∧ Evo e σ.L σ.G w e L' G' w' := by
  unfold updA at h
  split at h
  · rename_i kv' ve p es clock j y hwh
    obtain ⟨rfl, kt, vt, b, c, ens, W⟩ := whereA_ok hT H hm hk hwh
    split at h
    case isFalse => cases h
    rename_i hgl
    simp only [Option.some.injEq] at h
    rcases W.find with ⟨h1, _⟩ | ⟨j', z, u, ke, h1, h2, h3, h4, h5, h6, h7⟩
    · cases h1
    simp only [Option.some.injEq, Prod.mk.injEq] at h1
    obtain ⟨rfl, rfl⟩ := h1
    have hjl : j < ens.size := by have := (List.getElem?_eq_some_iff.1 h4).1; have := W.hrel.1; simp at this; omega
    have hen := W.hrel.2 j ke ens[j] h4 (by simp [hjl])
    obtain ⟨q1, q2, q3⟩ := map_turn (es' := es.set j ⟨kv, x, (es.getD j default).b⟩) (clock' := clock) (ens' := ens.modify j fun e => { e with key := kv, val := xv }) H W.hpo W.hblk W.hw (by
      rw [modify_toList _ _ _ (Array.getElem?_eq_getElem hjl)]
      refine W.hrel.set j ⟨rfl, hx, ?_⟩
      have : es.getD j default = ke := by simp [List.getD, h4]
      rw [this]; exact hen.2.2) (fun i hi => by
        subst hi
        show AVal.glob.globs _ = true
        rw [List.map_set]
        exact globs_set (gg_map H W.hpo) hgl)
    rw [h] at q1 q2 q3
    refine ⟨_, ?_, q1, q2, q3⟩
    have hkey : ens[j].key = ke.k := hen.1
    have hst := W.hv
    subst hst
    simp [Instr.mapUpdate, run_underlying W.hu, MapKept.run_getObj_map W.hw, W.check, h2, hjl, hkey, h7, MapKept.run_setObj_map _ W.hw, Result.andThen, setBlk]
  · rename_i kv' ve p es clock hwh
    obtain ⟨rfl, kt, vt, b, c, ens, W⟩ := whereA_ok hT H hm hk hwh
    split at h
    case isFalse => cases h
    rename_i hgl
    simp only [Option.some.injEq] at h
    rcases W.find with ⟨h1, h2⟩ | ⟨j', z, u, ke, h1, _⟩
    case inr => cases h1
    obtain ⟨q1, q2, q3⟩ := map_turn (es' := es ++ [⟨kv, x, clock⟩]) (clock' := clock + 1) (ens' := ens.push { key := kv, val := xv, born := clock }) H W.hpo W.hblk W.hw (by
      rw [Array.toList_push]
      exact W.hrel.snoc ⟨rfl, hx, rfl⟩) (fun i hi => by
        subst hi
        show AVal.glob.globs _ = true
        rw [List.map_append]
        exact globs_append (gg_map H W.hpo) (by simpa [AVal.glob.globs, globOf] using hgl))
    rw [h] at q1 q2 q3
    refine ⟨_, ?_, q1, q2, q3⟩
    have hst := W.hv
    subst hst
    simp [Instr.mapUpdate, run_underlying W.hu, MapKept.run_getObj_map W.hw, W.check, h2, MapKept.run_setObj_map _ W.hw, Result.andThen, setBlk]
  · cases h

def delA (T : Tbl) (σ : St) (t : Nat) (m k : AVal) : Option (List AObj × List AObj) :=
  match whereA T σ t m k with
  | some (_, _, p, es, clock, some (j, _)) => some (St.setObj σ.L σ.G p (.map (es.eraseIdx j) clock))
  | some (_, _, p, es, clock, none) => some (St.setObj σ.L σ.G p (.map es clock))
  | none => none

theorem delA_ok (hT : TblOk P T) (H : HRel e σ.L σ.G w) {t ty : Nat} {ts : Array TypeId} {m k : AVal} {mv kv : Value} {L' G' : List AObj} (hts : ts[0]? = some t) (hm : VRel e (obj σ.L σ.G) m mv) (hk : VRel e (obj σ.L σ.G) k kv)
    (h : delA T σ t m k = some (L', G')) :
    ∃ w', (Builtin.delete_ ts ty #[mv, kv]).run P w = .ok (.tuple #[]) w' ∧ HRel e L' G' w' ∧ EMono e e (obj σ.L σ.G) (obj L' G') ∧ Evo e σ.L σ.G w e L' G' w' := by
  unfold delA at h
  split at h
  · rename_i kv' ve p es clock j y hwh
    obtain ⟨rfl, kt, vt, b, c, ens, W⟩ := whereA_ok hT H hm hk hwh
    simp only [Option.some.injEq] at h
    rcases W.find with ⟨h1, _⟩ | ⟨j', z, u, ke, h1, h2, h3, h4, h5, h6, h7⟩
    · cases h1
    simp only [Option.some.injEq, Prod.mk.injEq] at h1
    obtain ⟨rfl, rfl⟩ := h1
    obtain ⟨q1, q2, q3⟩ := map_turn (es' := es.eraseIdx j) (clock' := clock) (ens' := ens.eraseIdxIfInBounds j) H W.hpo W.hblk W.hw (by
      rw [Array.toList_eraseIdxIfInBounds]
      exact W.hrel.erase j) (fun i hi => by
        subst hi
        show AVal.glob.globs _ = true
        rw [map_eraseIdx']
        exact globs_erase (gg_map H W.hpo))
    rw [h] at q1 q2 q3
    refine ⟨_, ?_, q1, q2, q3⟩
    have hst := W.hv
    subst hst
    simp [Builtin.delete_, hts, run_underlying W.hu, MapKept.run_getObj_map W.hw, W.check, h2, MapKept.run_setObj_map _ W.hw, Result.andThen, setBlk]
  · rename_i kv' ve p es clock hwh
    obtain ⟨rfl, kt, vt, b, c, ens, W⟩ := whereA_ok hT H hm hk hwh
    simp only [Option.some.injEq] at h
    rcases W.find with ⟨h1, h2⟩ | ⟨j', z, u, ke, h1, _⟩
    case inr => cases h1
    obtain ⟨q1, q2, q3⟩ := map_turn (es' := es) (clock' := clock) (ens' := ens) H W.hpo W.hblk W.hw W.hrel (fun i hi => by
        subst hi
        exact gg_map H W.hpo)
    rw [h] at q1 q2 q3
    refine ⟨_, ?_, q1, q2, q3⟩
    have hst := W.hv
    subst hst
    simp [Builtin.delete_, hts, run_underlying W.hu, MapKept.run_getObj_map W.hw, W.check, h2, MapKept.run_setObj_map _ W.hw, Result.andThen, setBlk]
  · cases h

/-! ### An entry held while it is written: m[k] op= x -/
def entA (T : Tbl) (σ : St) (t : Nat) (m k : AVal) : Option (AVal × List AObj × List AObj) :=
  match whereA T σ t m k with
  | some (_, _, p, es, clock, some (j, y)) => some (.tup [y, .d (.v (.int .i64 (es.getD j default).b))], St.setObj σ.L σ.G p (.map es clock))
  | some (kv, ve, p, es, clock, none) => match zeroOf ve with
    | some z => if globOf p z = true then some (.tup [z, .d (.v (.int .i64 clock))], St.setObj σ.L σ.G p (.map (es ++ [⟨kv, z, clock⟩]) (clock + 1))) else none
    | none => none
  | none => none

theorem tup2_ok {ob : Loc → Option AObj} {x y : AVal} {u v : Value} (h1 : VRel e ob x u) (h2 : VRel e ob y v) : VRel e ob (.tup [x, y]) (.tuple #[u, v]) := by
  refine .tup rfl fun k z q hz hq => ?_
  match k, hz, hq with
  | 0, hz, hq => simp at hz hq; subst hz; subst hq; exact h1
  | 1, hz, hq => simp at hz hq; subst hz; subst hq; exact h2
  | k + 2, hz, hq => simp at hz

theorem entA_ok (hT : TblOk P T) (H : HRel e σ.L σ.G w) {t : Nat} {m k y : AVal} {mv kv : Value} {L' G' : List AObj} (hm : VRel e (obj σ.L σ.G) m mv) (hk : VRel e (obj σ.L σ.G) k kv)
    (h : entA T σ t m k = some (y, L', G')) : OutV e σ.L σ.G w ((Instr.mapEntry t mv kv).run P w) y L' G' := by
  unfold entA at h
  split at h
  · rename_i kv' ve p es clock j y' hwh
    obtain ⟨rfl, kt, vt, b, c, ens, W⟩ := whereA_ok hT H hm hk hwh
    simp only [Option.some.injEq, Prod.mk.injEq] at h
    obtain ⟨rfl, h⟩ := h
    rcases W.find with ⟨h1, _⟩ | ⟨j', z, u, ke, h1, h2, h3, h4, h5, h6, h7⟩
    · cases h1
    simp only [Option.some.injEq, Prod.mk.injEq] at h1
    obtain ⟨rfl, rfl⟩ := h1
    have hjl : j < ens.size := by have := (List.getElem?_eq_some_iff.1 h4).1; have := W.hrel.1; simp at this; omega
    have hen := W.hrel.2 j ke ens[j] h4 (by simp [hjl])
    obtain ⟨q1, q2, q3⟩ := map_turn (es' := es) (clock' := clock) (ens' := ens.modify j fun e => { e with key := kv }) H W.hpo W.hblk W.hw (by
      rw [modify_toList _ _ _ (Array.getElem?_eq_getElem hjl)]
      have := W.hrel.set j (x := ke) (y := { ens[j] with key := kv }) ⟨h6.symm, hen.2.1, hen.2.2⟩
      have he : es.set j ke = es := by
        have := (List.getElem?_eq_some_iff.1 h4).2
        rw [← this]; exact List.set_getElem_self _
      rw [he] at this; exact this) (fun i hi => by subst hi; exact gg_map H W.hpo)
    rw [h] at q1 q2 q3
    have hkey : ens[j].key = ke.k := hen.1
    have hborn : ens[j].born = ke.b := hen.2.2
    have hst := W.hv
    subst hst
    have hget : es.getD j default = ke := by simp [List.getD, h4]
    have hr2 : VRel e (obj L' G') (.tup [y', .d (.v (.int .i64 (es.getD j default).b))]) (.tuple #[u, goInt ke.b]) := by
      rw [hget]
      exact (tup2_ok h3 (.d (.v rfl))).mono q2
    refine ⟨_, _, _, ?_, q1, q2, q3, hr2⟩
    simp [Instr.mapEntry, run_underlying W.hu, MapKept.run_getObj_map W.hw, W.check, h2, hjl, hkey, hborn, h7, MapKept.run_setObj_map _ W.hw, Result.andThen, setBlk]
  · rename_i kv' ve p es clock hwh
    obtain ⟨rfl, kt, vt, b, c, ens, W⟩ := whereA_ok hT H hm hk hwh
    split at h
    case h_2 => cases h
    rename_i z hz
    split at h
    case isFalse => cases h
    rename_i hgl
    simp only [Option.some.injEq, Prod.mk.injEq] at h
    obtain ⟨rfl, h⟩ := h
    rcases W.find with ⟨h1, h2⟩ | ⟨j', z, u, ke, h1, _⟩
    case inr => cases h1
    obtain ⟨zv, hzv, hzr⟩ := zeroOf_ok (e := e) (ob := obj σ.L σ.G) hT W.hvt hz w
    obtain ⟨q1, q2, q3⟩ := map_turn (es' := es ++ [⟨kv, z, clock⟩]) (clock' := clock + 1) (ens' := ens.push { key := kv, val := zv, born := clock }) H W.hpo W.hblk W.hw (by
      rw [Array.toList_push]
      exact W.hrel.snoc ⟨rfl, hzr, rfl⟩) (fun i hi => by
        subst hi
        show AVal.glob.globs _ = true
        rw [List.map_append]
        exact globs_append (gg_map H W.hpo) (by simpa [AVal.glob.globs, globOf] using hgl))
    rw [h] at q1 q2 q3
    have hst := W.hv
    subst hst
    refine ⟨_, _, _, ?_, q1, q2, q3, (tup2_ok hzr (.d (.v rfl))).mono q2⟩
    simp [Instr.mapEntry, run_underlying W.hu, MapKept.run_getObj_map W.hw, W.check, h2, hzv, MapKept.run_setObj_map _ W.hw, Result.andThen, setBlk, goInt]
  · cases h

def entStoreA (σ : St) (m st x : AVal) : Option (List AObj × List AObj) :=
  match mapA σ m, st with
  | some (p, es, clock), .d (.v (.int _ n)) => match es.findIdx? (fun e => decide ((e.b : Int) = n)) with
    | some i => if globOf p x = true then some (St.setObj σ.L σ.G p (.map (es.set i { es.getD i default with v := x }) clock)) else none
    | none => none
  | _, _ => none

theorem findIdx_rel {ob : Loc → Option AObj} {n : Int} : ∀ {es : List MEnt} {l : List MapEntry}, EntRel e ob es l → es.findIdx? (fun e => decide ((e.b : Int) = n)) = l.findIdx? (fun e => (e.born : Int) == n)
  | [], [], _ => rfl
  | [], _ :: _, h => by simp [EntRel] at h
  | _ :: _, [], h => by simp [EntRel] at h
  | x :: xs, y :: ys, h => by
    have h0 := h.2 0 x y rfl rfl
    have hrec : EntRel e ob xs ys := ⟨by simpa using h.1, fun j kv en h1 h2 => h.2 (j + 1) kv en (by simpa using h1) (by simpa using h2)⟩
    rw [List.findIdx?_cons, List.findIdx?_cons, findIdx_rel hrec, h0.2.2]
    rfl

theorem entStoreA_ok (H : HRel e σ.L σ.G w) {t : Nat} {m s x : AVal} {mv sv xv : Value} {L' G' : List AObj} (hm : VRel e (obj σ.L σ.G) m mv) (hs : VRel e (obj σ.L σ.G) s sv) (hx : VRel e (obj σ.L σ.G) x xv)
    (h : entStoreA σ m s x = some (L', G')) :
    ∃ w', (Instr.entryStore t mv sv xv).run P w = .ok () w' ∧ HRel e L' G' w' ∧ EMono e e (obj σ.L σ.G) (obj L' G') ∧ Evo e σ.L σ.G w e L' G' w' := by
  unfold entStoreA at h
  split at h
  case h_2 => cases h
  rename_i p es clock k n hma
  obtain ⟨rfl, hpo, b, c, ens, hb, rfl, hw, hrel⟩ := mapA_ok H hm hma
  cases hs with
  | d r => cases r with
  | v _ =>
  split at h
  case h_2 => cases h
  rename_i i hi
  split at h
  case isFalse => cases h
  rename_i hgl
  simp only [Option.some.injEq] at h
  have hil : i < es.length := by
    have := List.findIdx?_eq_some_iff_getElem.1 hi
    exact this.1
  have hjl : i < ens.size := by have := hrel.1; simp at this; omega
  have hen := hrel.2 i es[i] ens[i] (List.getElem?_eq_getElem hil) (by simp [hjl])
  have hget : es.getD i default = es[i] := by simp [List.getD, hil]
  have hfi : ens.findIdx? (fun e => (e.born : Int) == n) = some i := by
    have := findIdx_rel (n := n) hrel
    rw [hi] at this
    rw [this]
    cases ens; simp
  obtain ⟨q1, q2, q3⟩ := map_turn (es' := es.set i { es.getD i default with v := x }) (clock' := clock) (ens' := ens.modify i fun e => { e with val := xv }) H hpo hb hw (by
    rw [modify_toList _ _ _ (Array.getElem?_eq_getElem hjl), hget]
    exact hrel.set i ⟨hen.1, hx, hen.2.2⟩) (fun j hj => by
      subst hj
      show AVal.glob.globs _ = true
      rw [List.map_set]
      exact globs_set (gg_map H hpo) hgl)
  rw [h] at q1 q2 q3
  refine ⟨_, ?_, q1, q2, q3⟩
  simp [Instr.entryStore, MapKept.run_getObj_map hw, asInt, asIntOf, hfi, MapKept.run_setObj_map _ hw, Result.andThen, setBlk]

/-! ### Made anew -/
theorem makeMapA_ok (H : HRel e σ.L σ.G w) (t : Nat) (r : Option Value) (hr : r = none) : OutV e σ.L σ.G w ((Instr.makeMap t r).run P w) (.p (.l σ.L.length) .mp) (σ.L ++ [.map [] 0]) σ.G := by
  subst hr
  obtain ⟨k1, k2, k3⟩ := hrel_new H (.map [] 0) (.map #[] 0) 0 (fun e' m => ⟨w.heap.size, 0, #[], rfl, heap_alloc_new', rfl, by simp⟩)
  refine ⟨.map (some w.heap.size), _, _, ?_, k1, k2, k3, .p ?_⟩
  · simp [Instr.makeMap, newObj, Sem.run]
  · have ho := @obj_append_l σ.L σ.G (.map [] 0) (.l σ.L.length)
    rw [if_pos rfl] at ho
    have hb := @blk_append_l e σ.L.length H.ll (some (w.heap.size, 0)) (.l σ.L.length)
    rw [if_pos rfl] at hb
    simp only [PRel, ho]
    exact ⟨_, _, hb, rfl⟩

/-! ### Going through a map -/
def rangeA (T : Tbl) (σ : St) (t : Nat) (x : AVal) : Option (AVal × List AObj × List AObj) :=
  match T t with
  | some te => match te.k with
    | .map _ _ => match mapA σ x with
      | some (_, _, clock) => some (.p (.l σ.L.length) (.ref 0), σ.L ++ [.iter x clock [] clock], σ.G)
      | none => match x with
        | .d (.v (.map none)) => some (.p (.l σ.L.length) (.ref 0), σ.L ++ [.iter x 0 [] 0], σ.G)
        | _ => none
    | _ => none
  | none => none

theorem iter_new (H : HRel e σ.L σ.G w) {x : AVal} {mv : Option Nat} (hx : VRel e (obj σ.L σ.G) x (.map mv)) (n : Nat) {r : Result Value}
    (hr : r = .ok (.pointer (some ⟨w.heap.size, 0, none⟩)) (w.alloc (.mapIter mv n #[] n))) : OutV e σ.L σ.G w r (.p (.l σ.L.length) (.ref 0)) (σ.L ++ [.iter x n [] n]) σ.G := by
  obtain ⟨k1, k2, k3⟩ := hrel_new H (.iter x n [] n) (.mapIter mv n #[] n) 0 (fun e' m => ⟨w.heap.size, 0, mv, #[], rfl, heap_alloc_new', rfl, hx.mono m⟩)
  refine ⟨_, _, _, hr, k1, k2, k3, .p ?_⟩
  have ho := @obj_append_l σ.L σ.G (.iter x n [] n) (.l σ.L.length)
  rw [if_pos rfl] at ho
  have hb := @blk_append_l e σ.L.length H.ll (some (w.heap.size, 0)) (.l σ.L.length)
  rw [if_pos rfl] at hb
  simp only [PRel, ho]
  exact ⟨_, _, hb, rfl⟩

theorem rangeA_ok (hT : TblOk P T) (H : HRel e σ.L σ.G w) {t : Nat} {x y : AVal} {v : Value} {L' G' : List AObj} (hx : VRel e (obj σ.L σ.G) x v) (h : rangeA T σ t x = some (y, L', G')) :
    OutV e σ.L σ.G w ((Instr.range t v).run P w) y L' G' := by
  unfold rangeA at h
  split at h
  case h_2 => cases h
  rename_i te hte
  split at h
  case h_2 => cases h
  rename_i kt vt htk
  obtain ⟨d, hd, hfit⟩ := (hT t te hte).u
  rw [htk] at hfit
  cases d <;> simp only [descFits] at hfit <;> try exact hfit.elim
  split at h
  · rename_i p es clock hma
    simp only [Option.some.injEq, Prod.mk.injEq] at h
    obtain ⟨rfl, rfl, rfl⟩ := h
    obtain ⟨hxe, hpo, b, c, ens, hb, rfl, hw, hrel⟩ := mapA_ok H hx hma
    exact iter_new H hx clock (by simp [Instr.range, run_underlying hd, MapKept.run_getObj_map hw, newObj, Sem.run, Result.andThen])
  · split at h
    case h_2 => cases h
    simp only [Option.some.injEq, Prod.mk.injEq] at h
    obtain ⟨rfl, rfl, rfl⟩ := h
    cases hx with
    | d r => cases r with
    | v hv =>
    exact iter_new H (.d (.v hv)) 0 (by simp [Instr.range, run_underlying hd, newObj, Sem.run, Result.andThen])

def iterA (σ : St) : AVal → Option (Loc × AVal × Nat × List Nat × Nat)
  | .p p (.ref 0) => match obj σ.L σ.G p with
    | some (.iter m since seen last) => some (p, m, since, seen, last)
    | _ => none
  | _ => none

theorem iterA_ok (H : HRel e σ.L σ.G w) {x : AVal} {v : Value} {p : Loc} {m : AVal} {since last : Nat} {seen : List Nat} (hx : VRel e (obj σ.L σ.G) x v) (h : iterA σ x = some (p, m, since, seen, last)) :
    obj σ.L σ.G p = some (.iter m since seen last) ∧ ∃ b c mv sn, e.blk p = some (b, c) ∧ v = .pointer (some ⟨b, 0, none⟩) ∧ w.heap[b]? = some (.mapIter mv since sn last) ∧ sn.toList = seen ∧ VRel e (obj σ.L σ.G) m (.map mv) := by
  unfold iterA at h
  split at h
  case h_2 => cases h
  rename_i q
  split at h
  case h_2 => cases h
  rename_i m' since' seen' last' hp
  simp at h
  obtain ⟨rfl, rfl, rfl, rfl, rfl⟩ := h
  cases hx with
  | p r =>
  simp only [PRel, hp] at r
  obtain ⟨b, c, hb, rfl⟩ := r
  obtain ⟨b', c', mv, sn, hb', hw, hs, hr⟩ := H.o _ _ hp
  rw [hb] at hb'; cases hb'
  exact ⟨hp, b, c, mv, sn, hb, rfl, hw, hs, hr⟩

/-- The entry that the last step handed out. -/
def entryA (σ : St) (x : AVal) : Option AVal :=
  match iterA σ x with
  | some (_, m, _, seen, last) => match mapA σ m, seen.getLast? with
    | some (_, es, clock), some st => if clock = last then match es.find? (fun e => decide (e.b = st)) with
        | some en => if en.k.oneCell' = true then some (.tup [.d (.v en.k), en.v]) else none
        | none => none
      else none
    | _, _ => none
  | none => none

theorem find_rel {ob : Loc → Option AObj} {n : Nat} : ∀ {es : List MEnt} {l : List MapEntry} {en : MEnt}, EntRel e ob es l → es.find? (fun e => decide (e.b = n)) = some en →
    ∃ en', l.find? (·.born == n) = some en' ∧ en'.key = en.k ∧ VRel e ob en.v en'.val
  | [], l, en, h, hf => by simp at hf
  | _ :: _, [], en, h, hf => by simp [EntRel] at h
  | x :: xs, y :: ys, en, h, hf => by
    have h0 := h.2 0 x y rfl rfl
    have hrec : EntRel e ob xs ys := ⟨by simpa using h.1, fun j kv en h1 h2 => h.2 (j + 1) kv en (by simpa using h1) (by simpa using h2)⟩
    rw [List.find?_cons] at hf ⊢
    by_cases hb : x.b = n
    · simp [hb] at hf; subst hf
      exact ⟨y, by simp [h0.2.2, hb], h0.1, h0.2.1⟩
    · simp [hb] at hf
      obtain ⟨en', h1, h2, h3⟩ := find_rel hrec (by simpa using hf)
      have hb' : (x.b == n) = false := by simpa using hb
      exact ⟨en', by simp [h0.2.2, hb', h1], h2, h3⟩

theorem entryA_ok (H : HRel e σ.L σ.G w) {x y : AVal} {v : Value} (hx : VRel e (obj σ.L σ.G) x v) (h : entryA σ x = some y) :
    ∃ u, (Instr.entry v).run P w = .ok u w ∧ VRel e (obj σ.L σ.G) y u := by
  unfold entryA at h
  split at h
  case h_2 => cases h
  rename_i p m since seen last hit
  obtain ⟨hp, b, c, mv, sn, hb, rfl, hw, hs, hmv⟩ := iterA_ok H hx hit
  split at h
  case h_2 => cases h
  rename_i q es clock st hma hst
  obtain ⟨rfl, hpo, b2, c2, ens, hb2, hmv2, hw2, hrel⟩ := mapA_ok H hmv hma
  split at h
  case isFalse => cases h
  rename_i hcl
  subst hcl
  split at h
  case h_2 => cases h
  rename_i en hen
  split at h
  case isFalse => cases h
  rename_i hk1
  simp only [Option.some.injEq] at h; subst h
  obtain ⟨en', h1, h2, h3⟩ := find_rel hrel hen
  simp only [Value.map.injEq] at hmv2
  subst hmv2
  have hback : sn.back? = some st := by
    rw [← Array.getLast?_toList, hs]; exact hst
  have hfind : ens.find? (·.born == st) = some en' := by rw [← Array.find?_toList]; exact h1
  have hk : en'.key.oneCell' = true := by rw [h2]; exact hk1
  refine ⟨.tuple #[en'.key, en'.val], ?_, tup2_ok (.d (by rw [h2]; exact .v (by rw [← h2]; exact hk))) h3⟩
  simp [Instr.entry, getObj, Sem.run, hw, hw2, Result.andThen, hback, hfind]

/-! ### The next entry: whichever -/
theorem hrel_drew {e : Env} {L G : List AObj} {w : World} (h : HRel e L G w) : HRel e L G w.drew :=
  ⟨h.hin, h.ll, h.gl, fun p x hx => by
    have := h.o p x hx
    cases x <;> exact this, h.free, h.inj, h.gg⟩

def keyA (k : Value) : AVal := if k.oneCell' = true then .d (.v k) else .any

theorem keyA_ok {ob : Loc → Option AObj} (k : Value) : VRel e ob (keyA k) k := by
  unfold keyA
  split
  · rename_i h; exact .d (.v h)
  · exact .any

def leftE (es : List MEnt) (seen : List Nat) : List MEnt := es.filter fun en => !seen.contains en.b

def nextA (σ : St) (x : AVal) : Option (List (AVal × List AObj × List AObj)) :=
  match iterA σ x with
  | some (p, m, since, seen, last) => match mapA σ m with
    | some (_, es, clock) => if es.all (fun en => decide (en.b < since)) = true ∧ since ≤ last then
        match leftE es seen with
        | [] => some [(.tup [.d (.v (.bool false))], σ.L, σ.G)]
        | l => some (l.map fun en => (.tup [.d (.v (.bool true)), keyA en.k, en.v], St.setObj σ.L σ.G p (.iter m since (seen ++ [en.b]) clock)))
      else none
    | none => match m with
      | .d (.v (.map none)) => some [(.tup [.d (.v (.bool false))], σ.L, σ.G)]
      | _ => none
  | none => none

theorem mem_leftE {ob : Loc → Option AObj} {es : List MEnt} {ens : Array MapEntry} {sn : Array Nat} (h : EntRel e ob es ens.toList) {y : MapEntry} (hy : y ∈ (leftOf ens sn).toList) :
    ∃ en ∈ leftE es sn.toList, y.key = en.k ∧ VRel e ob en.v y.val ∧ y.born = en.b := by
  unfold leftOf at hy
  simp at hy
  obtain ⟨h1, h2⟩ := hy
  obtain ⟨i, hi, rfl⟩ := Array.mem_iff_getElem.1 h1
  have hl : i < es.length := by have := h.1; simp at this; omega
  have := h.2 i es[i] ens[i] (List.getElem?_eq_getElem hl) (by simp [hi])
  exact ⟨es[i], by simp [leftE, ← this.2.2, h2], this⟩

theorem leftE_nil {ob : Loc → Option AObj} {es : List MEnt} {ens : Array MapEntry} {sn : Array Nat} (h : EntRel e ob es ens.toList) (hz : (leftOf ens sn).size = 0) : leftE es sn.toList = [] := by
  unfold leftE
  rw [List.filter_eq_nil_iff]
  intro en hen
  obtain ⟨i, hi, rfl⟩ := List.getElem_of_mem hen
  have hl : i < ens.size := by have := h.1; simp at this; omega
  have := h.2 i es[i] ens[i] (List.getElem?_eq_getElem hi) (by simp [hl])
  unfold leftOf at hz
  have h0 := Array.eq_empty_of_size_eq_zero hz
  rw [Array.filter_eq_empty_iff] at h0
  have := h0 ens[i] (Array.getElem_mem hl)
  simp_all

theorem nextA_ok (H : HRel e σ.L σ.G w) {x : AVal} {v : Value} {l : List (AVal × List AObj × List AObj)} {ty : Nat} (hx : VRel e (obj σ.L σ.G) x v) (h : nextA σ x = some l) :
    ∃ r ∈ l, OutV e σ.L σ.G w ((Instr.next v false ty).run P w) r.1 r.2.1 r.2.2 := by
  unfold nextA at h
  split at h
  case h_2 => cases h
  rename_i p m since seen last hit
  obtain ⟨hp, b, c, mv, sn, hb, rfl, hw, hs, hmv⟩ := iterA_ok H hx hit
  split at h
  · rename_i q es clock hma
    obtain ⟨hme, hpo, b2, c2, ens, hb2, hmv2, hw2, hrel⟩ := mapA_ok H hmv hma
    simp only [Value.map.injEq] at hmv2
    subst hmv2
    split at h
    case isFalse => cases h
    rename_i hc
    have hold : ∀ x ∈ ens.toList, x.born < since := fun y hy => by
      obtain ⟨i, hi, rfl⟩ := List.getElem_of_mem hy
      have hl : i < es.length := by have := hrel.1; omega
      have := hrel.2 i es[i] _ (List.getElem?_eq_getElem hl) (List.getElem?_eq_getElem hi)
      rw [this.2.2]
      simpa using List.all_eq_true.1 hc.1 es[i] (List.getElem_mem hl)
    rcases run_next_at (P := P) w ty b b2 since last sn ens clock hw hw2 hold hc.2 with ⟨h0, hrun⟩ | ⟨y, hy, w1, hw1, hrun⟩
    · have := leftE_nil hrel h0
      rw [hs] at this
      rw [this] at h
      simp only [Option.some.injEq] at h; subst h
      exact ⟨_, List.mem_singleton.2 rfl, _, w, e, hrun, H, .refl _ _, .refl _ _ _ _, .tup rfl fun k z q hz hq => by
        match k, hz, hq with
        | 0, hz, hq => simp at hz hq; subst hz; subst hq; exact .d (.v rfl)
        | k + 1, hz, hq => simp at hz⟩
    · obtain ⟨en, hen, g1, g2, g3⟩ := mem_leftE hrel hy
      rw [hs] at hen
      split at h
      · rename_i hnil; rw [hnil] at hen; cases hen
      · simp only [Option.some.injEq] at h; subst h
        have hlt : b < w1.heap.size := by rcases hw1 with rfl | rfl <;> exact (Array.getElem?_eq_some_iff.1 hw).1
        have H1 : HRel e σ.L σ.G w1 := by
          rcases hw1 with rfl | rfl
          · exact H
          · exact hrel_drew H
        have E1 : Evo e σ.L σ.G w e σ.L σ.G w1 := by
          rcases hw1 with rfl | rfl
          · exact .refl _ _ _ _
          · exact Evo.drew
        have m' : EMono e e (obj σ.L σ.G) (obj (St.setObj σ.L σ.G p (.iter m since (seen ++ [en.b]) clock)).1 (St.setObj σ.L σ.G p (.iter m since (seen ++ [en.b]) clock)).2) := ⟨.refl _, fun q k v r => by
          rw [obj_setObj hp]
          by_cases hq : q = p
          · rw [if_pos hq]; subst hq; rw [hp] at r; exact r
          · rw [if_neg hq]; exact r⟩
        obtain ⟨q1, q2, q3⟩ := hrel_set (x := .iter m since (seen ++ [en.b]) clock) (o := .mapIter (some b2) since (sn.push y.born) clock) H1 hp rfl hb (fun k v r => r)
          ⟨b, c, some b2, sn.push y.born, rfl, heap_setBlk_eq hlt, by simp [hs, g3], hmv.mono m'⟩ (fun i hi => by
            subst hi
            have := H.gg _ (List.mem_of_getElem? hp)
            exact this)
        refine ⟨_, List.mem_map.2 ⟨en, hen, rfl⟩, _, _, e, hrun, q1, q2, E1.trans q3, VRel.mono q2 (.tup rfl fun k z q hz hq => ?_)⟩
        match k, hz, hq with
        | 0, hz, hq => simp at hz hq; subst hz; subst hq; exact .d (.v rfl)
        | 1, hz, hq => simp at hz hq; subst hz; subst hq; rw [g1]; exact keyA_ok _
        | 2, hz, hq => simp at hz hq; subst hz; subst hq; exact g2
        | k + 3, hz, hq => simp at hz
  · split at h
    case h_2 => cases h
    simp only [Option.some.injEq] at h; subst h
    cases hmv with
    | d r => cases r with
    | v _ =>
    refine ⟨_, List.mem_singleton.2 rfl, .tuple #[.bool false], w, e, ?_, H, .refl _ _, .refl _ _ _ _, .tup rfl fun k z q hz hq => by
        match k, hz, hq with
        | 0, hz, hq => simp at hz hq; subst hz; subst hq; exact .d (.v rfl)
        | k + 1, hz, hq => simp at hz⟩
    simp [Instr.next, getObj, Sem.run, hw, Result.andThen]

end
end Go.Am

/- Literals of slices, a text's bytes; one operation, whole. -/
set_option linter.unusedVariables false
set_option linter.unusedSimpArgs false
namespace Go.Am
section
variable {P : Program} {T : Tbl} {e : Env} {σ : St} {w : World}

/-! ### Literals of slices -/
def rowA (σ : St) (size : Nat) (x : AVal) : Option (List Dat) :=
  match cellsA x with
  | some cs => if cs.length = size then toDats σ cs else none
  | none => none

def rowsOfA (σ : St) (size : Nat) : List AVal → Option (List (List Dat))
  | [] => some []
  | x :: xs => match rowA σ size x, rowsOfA σ size xs with
    | some r, some rs => some (r :: rs)
    | _, _ => none

theorem rowA_ok {size : Nat} {x : AVal} {v : Value} {r : List Dat} (hx : VRel e (obj σ.L σ.G) x v) (h : rowA σ size x = some r) :
    v.cells.size = size ∧ RowsAre e.h size [r] v.cells.toList := by
  unfold rowA at h
  split at h
  case h_2 => cases h
  rename_i cs hcs
  split at h
  case isFalse => cases h
  rename_i hl
  have hc := cellsA_ok hx hcs
  have hd := toDats_ok h
  have hsz : v.cells.size = size := by have := hc.1; simp at this; omega
  refine ⟨hsz, by simp [hsz], fun r' hr' => ?_, fun u hu => ?_, fun j r' k d hj hk => ?_⟩
  · simp at hr'; subst hr'; omega
  · obtain ⟨k, hk, rfl⟩ := List.getElem_of_mem hu
    exact (hc.2 k _ _ (List.getElem?_eq_getElem (by rw [hc.1]; exact hk)) (List.getElem?_eq_getElem hk)).2
  · cases j with
    | succ j => simp at hj
    | zero =>
      simp at hj; subst hj
      have hkl := (List.getElem?_eq_some_iff.1 hk).1
      have hk1 : k < cs.length := by omega
      have hk2 : k < v.cells.toList.length := by rw [← hc.1]; exact hk1
      refine ⟨v.cells.toList[k], by rw [Nat.zero_mul, Nat.zero_add]; exact List.getElem?_eq_getElem hk2, ?_⟩
      exact toDat_ok (hc.2 k _ _ (List.getElem?_eq_getElem hk1) (List.getElem?_eq_getElem hk2)).1 (hd.2 k _ _ (List.getElem?_eq_getElem hk1) hk)

theorem rowsOfA_ok {size : Nat} : ∀ {xs : List AVal} {vs : List Value} {rows : List (List Dat)}, xs.length = vs.length →
    (∀ (k : Nat) (x : AVal) (v : Value), xs[k]? = some x → vs[k]? = some v → VRel e (obj σ.L σ.G) x v) → rowsOfA σ size xs = some rows →
    (∀ v ∈ vs, v.cells.size = size) ∧ rows.length = vs.length ∧ RowsAre e.h size rows (vs.map fun v => v.cells.toList).flatten
  | [], vs, rows, hl, _, h => by
    simp [rowsOfA] at h; subst h
    cases vs with
    | nil => exact ⟨by simp, rfl, by simp [RowsAre]⟩
    | cons => simp at hl
  | x :: xs, vs, rows, hl, hr, h => by
    cases vs with
    | nil => simp at hl
    | cons v vs =>
      unfold rowsOfA at h
      split at h
      case h_2 => cases h
      rename_i r rs h1 h2
      simp at h; subst h
      have a := rowA_ok (hr 0 x v rfl rfl) h1
      have b := rowsOfA_ok (vs := vs) (by simpa using hl) (fun k x v hx hv => hr (k + 1) x v hx hv) h2
      refine ⟨fun u hu => ?_, by simp [b.2.1], ?_⟩
      · rcases List.mem_cons.1 hu with h' | h'
        · rw [h']; exact a.1
        · exact b.1 u h'
      · have := a.2.append b.2.2
        simpa using this

theorem fill_rows {size : Nat} : ∀ (ps : List (Nat × Value)) (j : Nat) (pre suf : List Value), (∀ (k : Nat) (q : Nat × Value), ps[k]? = some q → q.1 = j + k) →
    (∀ q ∈ ps, q.2.cells.size = size) → pre.length = j * size → suf.length = ps.length * size →
    Instr.fill (fun i => some (i * size, size)) (pre ++ suf).toArray ps = some (pre ++ (ps.map fun q => q.2.cells.toList).flatten).toArray
  | [], j, pre, suf, _, _, hp, hs => by
    have : suf = [] := List.eq_nil_of_length_eq_zero (by simpa using hs)
    simp [Instr.fill, this]
  | (i, v) :: rest, j, pre, suf, hi, hv, hp, hs => by
    have h0 := hi 0 (i, v) rfl
    simp at h0; subst h0
    have hvs := hv (i, v) (by simp)
    simp only at hvs
    unfold Instr.fill
    simp only
    simp only [List.length_cons] at hs
    rw [Nat.add_mul, Nat.one_mul] at hs
    rw [if_neg (by simp [hvs, hp]; omega)]
    have hf := foldset v.cells.toList (i * size) 0 (pre ++ suf).toArray (by simp [hvs, hp]; omega)
    rw [Nat.add_zero] at hf
    have harr : (v.cells.zipIdx.foldl (fun (cs : Array Value) (p : Value × Nat) => cs.setIfInBounds (i * size + p.2) p.1) (pre ++ suf).toArray) = (splV (pre ++ suf) (i * size) v.cells.toList).toArray := by
      rw [← hf, ← Array.foldl_toList]
      simp [Array.toList_zipIdx]
    have hspl : splV (pre ++ suf) (i * size) v.cells.toList = (pre ++ v.cells.toList) ++ suf.drop size := by
      unfold splV
      rw [← hp, List.take_left, show v.cells.toList.length = size by simpa using hvs, List.drop_append]
      simp
    have ih := fill_rows rest (i + 1) (pre ++ v.cells.toList) (suf.drop size) (fun k q hq => by have := hi (k + 1) q hq; omega) (fun q hq => hv q (by simp [hq])) (by simp [hp, hvs, Nat.add_mul]) (by simp; omega)
    show Instr.fill _ (v.cells.zipIdx.foldl (fun (cs : Array Value) (p : Value × Nat) => cs.setIfInBounds (i * size + p.2) p.1) (pre ++ suf).toArray) rest = _
    rw [harr, hspl, ih]
    simp

def buildSliceA (T : Tbl) (σ : St) (t len : Nat) (parts : List (Nat × AVal)) : Option AVal :=
  match T t with
  | some te => match te.k with
    | .slice el => match T el with
      | some ee => if parts.map (·.1) = List.range len ∧ len * ee.size ≤ 16777216 ∧ 0 < ee.size then match rowsOfA σ ee.size (parts.map (·.2)) with
          | some rows => some (.clip rows)
          | none => none
        else none
      | none => none
    | _ => none
  | none => none

theorem rep_new {h : FHeap} {b : Nat} {t : Nat} {fr : Nat × Nat} {size c : Nat} {rows : List (List Dat)} {l m : List Value} (hl : RowsAre h size rows l) (hle : h.le (h.add b (.cells (l ++ m).toArray t fr))) (hc : rows.length ≤ c) (hm : c ≤ maxLen) :
    Rep (h.add b (.cells (l ++ m).toArray t fr)) (.l rows) (.slice (some ⟨b, 0, none⟩) rows.length c) :=
  .l size (fun j => (l[j]?).getD undef) hl.2.1 hc hm (fun _ => ⟨_, rfl, fun j hj => by
    have hj' : j < l.length := by rw [hl.1]; exact hj
    rw [addr_add]
    simp only [FHeap.cell, FHeap.add, Nat.zero_add, if_true]
    rw [List.getElem?_toArray, List.getElem?_append_left hj']
    simp [List.getElem?_eq_getElem hj']⟩) (fun j r k d hj hk => by
    obtain ⟨x, hx', hxr⟩ := hl.2.2.2 j r k d hj hk
    rw [hx']; exact hxr.mono hle)

theorem buildSliceA_ok (hT : TblOk P T) (H : HRel e σ.L σ.G w) {t len : Nat} {ps : List (Nat × AVal)} {vs : Array (Nat × Value)} {z : AVal} (hlen : ps.length = vs.size)
    (hp : ∀ (k : Nat) (x : Nat × AVal) (v : Nat × Value), ps[k]? = some x → vs[k]? = some v → x.1 = v.1 ∧ VRel e (obj σ.L σ.G) x.2 v.2) (h : buildSliceA T σ t len ps = some z) :
    OutV e σ.L σ.G w ((Instr.buildSlice t len vs).run P w) z σ.L σ.G := by
  unfold buildSliceA at h
  split at h
  case h_2 => cases h
  rename_i te hte
  split at h
  case h_2 => cases h
  rename_i el hk
  split at h
  case h_2 => cases h
  rename_i ee hee
  split at h
  case isFalse => cases h
  rename_i hc
  split at h
  case h_2 => cases h
  rename_i rows hrows
  simp at h; subst h
  obtain ⟨d, hd, hfit⟩ := (hT t te hte).u
  rw [hk] at hfit
  cases d <;> simp only [descFits] at hfit <;> try exact hfit.elim
  subst hfit
  rename_i el
  obtain ⟨i, zv, hi, hz, hs, hby, hzc⟩ := (hT el ee hee).i
  have hzl : zv.cells.size = ee.size := by rw [← (hT el ee hee).l, ← hzc]; simp
  have hlen' : ps.length = len := by have := congrArg List.length hc.1; simpa using this
  obtain ⟨r1, r2, r3⟩ := rowsOfA_ok (σ := σ) (vs := vs.toList.map (·.2)) (by simp [hlen]) (fun k x v hx hv => by
    rw [List.getElem?_map] at hx hv
    cases hq : ps[k]? with
    | none => rw [hq] at hx; simp at hx
    | some q =>
      cases hu : vs[k]? with
      | none => rw [Array.getElem?_toList, hu] at hv; simp at hv
      | some u =>
        rw [hq] at hx; rw [Array.getElem?_toList, hu] at hv
        simp at hx hv; subst hx; subst hv
        exact (hp k q u hq hu).2) hrows
  have hvl : vs.toList.length = len := by simp; omega
  have hfill := fill_rows (size := ee.size) vs.toList 0 [] ((Array.range (len * ee.size)).map (zv.cells[· % zv.cells.size]!)).toList (fun k q hq => by
      have hq' : vs[k]? = some q := by simpa using hq
      have hkl := (List.getElem?_eq_some_iff.1 hq).1
      have hkp : k < ps.length := by omega
      have := (hp k _ q (List.getElem?_eq_getElem hkp) hq').1
      have h2 := congrArg (fun l => l[k]?) hc.1
      simp only [List.getElem?_map, List.getElem?_eq_getElem hkp, Option.map_some, List.getElem?_range (show k < len by omega), Option.some.injEq] at h2
      omega) (fun q hq => r1 q.2 (List.mem_map.2 ⟨q, hq, rfl⟩)) (by simp) (by simp [hvl])
  rw [List.nil_append, List.nil_append] at hfill
  have hrun : (Instr.buildSlice t len vs).run P w = .ok (.slice (some ⟨w.heap.size, 0, none⟩) len len) (w.alloc (.cells (vs.toList.map fun q => q.2.cells.toList).flatten.toArray el (0, 0))) := by
    unfold Instr.buildSlice
    simp only [Sem.run_bind, run_underlying hd, Result.andThen_ok, run_sizeOf' hT hee]
    have h1 : ¬ (len * ee.size > 2 ^ 24) := by
      have := hc.2.1; omega
    by_cases h0 : len * ee.size = 0
    · have hl0 : len = 0 := by
        rcases Nat.mul_eq_zero.1 h0 with h' | h'
        · exact h'
        · omega
      subst hl0
      have hv0 : vs = #[] := Array.eq_empty_of_size_eq_zero (by omega)
      subst hv0
      simp [Instr.fill, newRow]
      congr 2
      apply Array.ext <;> simp
    · simp only [Array.toArray_toList] at hfill
      simp [h0, h1, zeroValue, typeInfo, hi, hz, newRow]
      rw [hfill]
      simp
  have hr3 : RowsAre e.h ee.size rows (vs.toList.map fun q => q.2.cells.toList).flatten := by
    rw [List.map_map] at r3; exact r3
  have hrl : rows.length = len := by rw [r2]; simpa using hvl
  obtain ⟨k1, k2, k3⟩ := hrel_frozen H (.cells ((vs.toList.map fun (q : Nat × Value) => q.2.cells.toList).flatten ++ []).toArray el (0, 0))
  rw [List.append_nil] at k1 k2 k3
  refine ⟨_, _, _, hrun, k1, k2, k3, ?_⟩
  have hmax : rows.length ≤ maxLen := by
    rw [hrl]
    have : len ≤ len * ee.size := Nat.le_mul_of_pos_right _ hc.2.2
    simp only [maxLen]; omega
  have := rep_new (b := w.heap.size) (t := el) (fr := (0, 0)) (m := []) hr3 (by rw [List.append_nil]; exact k2.h) (Nat.le_refl _) hmax
  rw [List.append_nil, hrl] at this
  exact .clip this

/-! ### A text's bytes -/
def strBytesA (T : Tbl) (s d : Nat) (x : AVal) : Option AVal :=
  match T s, T d, x with
  | some te, some de, .d (.v (.string str)) => match te.k, de.k with
    | .string, .slice el => match (T el).map TyE.k with
      | some (.int .u8) => if str.size ≤ 9223372036854775807 then some (.d (.l (byteRows str))) else none
      | _ => none
    | _, _ => none
  | _, _, _ => none

theorem freeze_alloc {w : World} {c : Array Value} {t n : Nat} : (w.alloc (.cells c t (0, 0))).freeze ⟨w.heap.size, n, none⟩ 1 = w.alloc (.cells c t (n, n + 1)) := by
  unfold World.freeze
  simp only [Nat.one_ne_zero, if_false]
  unfold World.alloc
  congr 1
  apply Array.ext
  · simp
  · intro k h1 h2
    rw [Array.getElem_modify]
    simp only [Array.getElem_push]
    by_cases hk : w.heap.size = k
    · subst hk; simp
    · have : k < w.heap.size := by simp at h2; omega
      simp [hk, this]

theorem strBytesA_ok (hT : TblOk P T) (H : HRel e σ.L σ.G w) {s d : Nat} {x z : AVal} {v : Value} (hx : VRel e (obj σ.L σ.G) x v) (h : strBytesA T s d x = some z) :
    OutV e σ.L σ.G w ((convert s d v).run P w) z σ.L σ.G := by
  unfold strBytesA at h
  split at h
  case h_2 => cases h
  rename_i te de str hte hde
  split at h
  case h_2 => cases h
  rename_i el hk1 hk2
  split at h
  case h_2 => cases h
  rename_i hel
  split at h
  case isFalse => cases h
  rename_i hsz
  simp at h; subst h
  obtain ⟨d1, hd1, hf1⟩ := (hT s te hte).u
  obtain ⟨d2, hd2, hf2⟩ := (hT d de hde).u
  rw [hk1] at hf1; rw [hk2] at hf2
  cases d1 <;> simp only [descFits] at hf1 <;> try exact hf1.elim
  cases d2 <;> simp only [descFits] at hf2 <;> try exact hf2.elim
  subst hf2
  rename_i el
  cases hee : T el with
  | none => rw [hee] at hel; simp at hel
  | some ee =>
    rw [hee] at hel; simp at hel
    obtain ⟨d3, hd3, hf3⟩ := (hT el ee hee).u
    rw [hel] at hf3
    cases d3 <;> simp only [descFits] at hf3 <;> try exact hf3.elim
    subst hf3
    cases hx with
    | d rx => cases rx with
    | v _ =>
    let c := grownCap w str.size 0 el
    have hcap : str.size ≤ c := grownCap_ge w str.size 0 el
    have hcm : c ≤ maxLen := grownCap_le_maxLen w str.size 0 el (by simp only [maxLen]; omega)
    let l := str.data.toList.map fun b => Value.int .u8 b.toNat
    let m := List.replicate (c - str.size) (Value.int .u8 0)
    have hrun : (convert s d (.string str)).run P w = .ok (.slice (some ⟨w.heap.size, 0, none⟩) str.size c) (w.drew.alloc (.cells (l ++ m).toArray el ((l ++ m).length, (l ++ m).length + 1))) := by
      rw [← freeze_alloc (w := w.drew)]
      have hbl : (str.data.map fun b => Value.int .u8 b.toNat) ++ Array.replicate (c - str.size) (Value.int .u8 0) = (l ++ m).toArray := by
        apply Array.ext'; simp [l, m]
      simp only [convert, Sem.run_bind, run_underlying hd1, run_underlying hd2, Result.andThen_ok, run_underlying hd3, Conv.stringToBytes, run_choose, Question.forced, Bool.false_eq_true, if_false]
      rw [show (Question.appendCap str.size 0 el).cut (w.tape w.drawn (Question.appendCap str.size 0 el)) = c from rfl, hbl]
      have hn : ∀ (o : Obj), (newObj o).run P w.drew = .ok w.heap.size (w.drew.alloc o) := fun _ => rfl
      have hsh : (w.drew.alloc (.cells (l ++ m).toArray el (0, 0))).shape? w.heap.size = some (el, (l ++ m).length) := by
        unfold World.shape?
        rw [show (w.drew.alloc (.cells (l ++ m).toArray el (0, 0))).heap[w.heap.size]? = some (.cells (l ++ m).toArray el (0, 0)) from heap_alloc_new' (w := w.drew)]
        simp
      simp only [newRow, markStringish, Sem.run_bind, World.drew_eq, hn, Result.andThen_ok, Sem.run_pure, run_shape, hsh, run_freeze]
      rfl
    obtain ⟨k1, k2, k3⟩ := hrel_frozen (H.heap (w' := w.drew) rfl) (.cells (l ++ m).toArray el ((l ++ m).length, (l ++ m).length + 1))
    refine ⟨_, _, _, hrun, k1, k2, Evo.drew.trans k3, .d ?_⟩
    have hlen : (byteRows str).length = str.size := by simp [byteRows]
    have := rep_new (b := w.drew.heap.size) (t := el) (fr := ((l ++ m).length, (l ++ m).length + 1)) (m := m) (byteRows_are e.h str) k2.h (by rw [hlen]; exact hcap) hcm
    rw [hlen] at this
    exact this

/-! ### One operation -/
def pairsA (σ : St) (ps : Array (Nat × Operand)) : List (Nat × AVal) := ps.toList.map fun p => (p.1, σ.ev p.2)

def stepA (T : Tbl) (σ : St) (op : Op) : Option (AVal × List AObj × List AObj) :=
  match op with
  | .box _ x => match cellsA (σ.ev x) with
    | some cs => some (newVarA σ cs)
    | none => none
  | .alloc t => match T t with
    | some te => some (newVarA σ (te.zero.map zeroA))
    | none => none
  | .store t a x => match storeA T σ t (σ.ev a) (σ.ev x) with
    | some (L, G) => some (.tup [], L, G)
    | none => none
  | .buildSlice t len ps => match buildSliceA T σ t len (pairsA σ ps) with
    | some x => some (x, σ.L, σ.G)
    | none => none
  | .convert s d x => match strBytesA T s d (σ.ev x) with
    | some y => some (y, σ.L, σ.G)
    | none => match convA T σ s d (σ.ev x) with
      | some y => some (y, σ.L, σ.G)
      | none => none
  | .call { callee := .builtin .append, args := args, argTypes := ts } => match args.toList, ts.toList with
    | [s, x], [t, u] => appendA T σ t u (σ.ev s) (σ.ev x)
    | _, _ => none
  | .lookup t x k ok => match lookupA T σ t (σ.ev x) (σ.ev k) ok with
    | some y => some (y, σ.L, σ.G)
    | none => none
  | .mapUpdate t m k x => match updA T σ t (σ.ev m) (σ.ev k) (σ.ev x) with
    | some (L, G) => some (.tup [], L, G)
    | none => none
  | .insert t m k x => match updA T σ t (σ.ev m) (σ.ev k) (σ.ev x) with
    | some (L, G) => some (.tup [], L, G)
    | none => none
  | .mapEntry t m k => entA T σ t (σ.ev m) (σ.ev k)
  | .entryStore _ m s x => match entStoreA σ (σ.ev m) (σ.ev s) (σ.ev x) with
    | some (L, G) => some (.tup [], L, G)
    | none => none
  | .makeMap _ none => some (.p (.l σ.L.length) .mp, σ.L ++ [.map [] 0], σ.G)
  | .range t x => rangeA T σ t (σ.ev x)
  | .entry x => match entryA σ (σ.ev x) with
    | some y => some (y, σ.L, σ.G)
    | none => none
  | .call { callee := .builtin .delete, args := args, argTypes := ts } => match args.toList, ts.toList with
    | [m, k], t :: _ => match delA T σ t (σ.ev m) (σ.ev k) with
      | some (L, G) => some (.tup [], L, G)
      | none => none
    | _, _ => none
  | op => match evalV T σ op with
    | some x => some (x, σ.L, σ.G)
    | none => none

/-- The state behind an operation. -/
def St.next (σ : St) (dst : Option Nat) (r : AVal × List AObj × List AObj) : St := St.put { s := σ.s, L := r.2.1, G := r.2.2 } dst r.1

theorem SRel.put {a : Act} (S : SRel e σ a w) {e' : Env} {w' : World} {L' G' : List AObj} (H : HRel e' L' G' w') (m : EMono e e' (obj σ.L σ.G) (obj L' G')) {x : AVal} {v : Value}
    (hx : VRel e' (obj L' G') x v) (dst : Option Nat) : SRel e' (σ.next dst (x, L', G')) (a.put dst v) w' := by
  cases dst with
  | none => exact ⟨S.d, S.sz, fun t y u hy hu => (S.s t y u hy hu).mono m, H⟩
  | some d =>
    refine ⟨S.d, by simp [St.next, St.put, Act.put, S.sz], fun t y u hy hu => ?_, H⟩
    simp only [St.next, St.put, Act.put] at hy hu ⊢
    by_cases ht : t = d
    · subst ht
      have hl : t < σ.s.length := by have := (List.getElem?_eq_some_iff.1 hy).1; simpa using this
      rw [List.getElem?_set_self hl] at hy
      rw [Array.getElem?_setIfInBounds_self_of_lt (by rw [S.sz]; exact hl)] at hu
      cases hy; cases hu; exact hx
    · rw [List.getElem?_set_ne (by omega)] at hy
      rw [Array.getElem?_setIfInBounds_ne (by omega)] at hu
      exact (S.s t y u hy hu).mono m

theorem stepA_ok (hT : TblOk P T) {a : Act} (S : SRel e σ a w) {o : Oper} {r : AVal × List AObj × List AObj} (h : stepA T σ o.op = some r) :
    ∃ n v w' e', (execOp a.eval o).run P w = .ok n w' ∧ (n = .value v ∨ (n = .skip ∧ v = undef)) ∧ SRel e' (σ.next o.dst r) (a.put o.dst v) w' ∧ Evo e σ.L σ.G w e' r.2.1 r.2.2 w' := by
  have fin : ∀ (n : Next) (v : Value) (w' : World) (e' : Env), (execOp a.eval o).run P w = .ok n w' → (n = .value v ∨ (n = .skip ∧ v = undef)) → HRel e' r.2.1 r.2.2 w' → EMono e e' (obj σ.L σ.G) (obj r.2.1 r.2.2) →
      Evo e σ.L σ.G w e' r.2.1 r.2.2 w' → VRel e' (obj r.2.1 r.2.2) r.1 v → ∃ n v w' e', (execOp a.eval o).run P w = .ok n w' ∧ (n = .value v ∨ (n = .skip ∧ v = undef)) ∧ SRel e' (σ.next o.dst r) (a.put o.dst v) w' ∧ Evo e σ.L σ.G w e' r.2.1 r.2.2 w' :=
    fun n v w' e' h1 h2 h3 h4 h5 h6 => ⟨n, v, w', e', h1, h2, S.put h3 h4 h6 o.dst, h5⟩
  have viaV : evalV T σ o.op = some r.1 → r.2 = (σ.L, σ.G) → ∃ n v w' e', (execOp a.eval o).run P w = .ok n w' ∧ (n = .value v ∨ (n = .skip ∧ v = undef)) ∧ SRel e' (σ.next o.dst r) (a.put o.dst v) w' ∧ Evo e σ.L σ.G w e' r.2.1 r.2.2 w' := fun hv hr => by
    obtain ⟨v, h1, h2⟩ := evalV_ok hT S hv
    obtain ⟨x, L', G'⟩ := r
    simp only [Prod.mk.injEq] at hr
    obtain ⟨rfl, rfl⟩ := hr
    exact fin _ v w e h1 (.inl rfl) S.h (.refl _ _) (.refl _ _ _ _) h2
  unfold stepA at h
  split at h
  · rename_i t x hop
    split at h
    case h_2 => cases h
    rename_i cs hcs
    simp only [Option.some.injEq] at h; subst h
    obtain ⟨v, w', e', h1, h2, h3, h4, h5⟩ := newVar_ok (σ := σ) (t := t) (r := (execOp a.eval o).run P w) S.h (cellsA_ok (ev_rel S x) hcs) (by simp [execOp, hop, Instr.box, newVar, newRow])
    rcases h1 with h1 | ⟨h1, h1'⟩
    · exact fin _ v w' e' h1 (.inl rfl) h2 h3 h4 h5
    · exact fin _ v w' e' h1 (.inr ⟨rfl, h1'⟩) h2 h3 h4 h5
  · rename_i t hop
    split at h
    case h_2 => cases h
    rename_i te hte
    simp only [Option.some.injEq] at h; subst h
    obtain ⟨i, zv, hi, hz, hs, hby, hzc⟩ := (hT t te hte).i
    have hz2 : All2 (Cell e (obj σ.L σ.G)) (te.zero.map zeroA) zv.cells.toList := by rw [hzc]; exact zero_all2 (hT t te hte).z
    obtain ⟨v, w', e', h1, h2, h3, h4, h5⟩ := newVar_ok (σ := σ) (t := t) (r := (execOp a.eval o).run P w) S.h hz2 (by simp [execOp, hop, Instr.alloc, zeroValue, typeInfo, hi, hz, newVar, newRow])
    rcases h1 with h1 | ⟨h1, h1'⟩
    · exact fin _ v w' e' h1 (.inl rfl) h2 h3 h4 h5
    · exact fin _ v w' e' h1 (.inr ⟨rfl, h1'⟩) h2 h3 h4 h5
  · rename_i t x y hop
    split at h
    case h_2 => cases h
    rename_i L G hst
    simp only [Option.some.injEq] at h; subst h
    obtain ⟨w', h1, h2, h3, h4⟩ := storeA_ok hT S.h (ev_rel S x) (ev_rel S y) hst
    exact fin .skip undef w' e (by simp [execOp, hop, h1]) (.inr ⟨rfl, rfl⟩) h2 h3 h4 (.tup rfl (by simp))
  · rename_i t len ps hop
    split at h
    case h_2 => cases h
    rename_i x hb
    simp only [Option.some.injEq] at h; subst h
    obtain ⟨v, w', e', h1, h2, h3, h4, h5⟩ := buildSliceA_ok hT S.h (vs := ps.map fun (i, x) => (i, a.eval x)) (by simp [pairsA]) (fun k x v hx hv => by
      simp only [pairsA, List.getElem?_map, Array.getElem?_toList, Array.getElem?_map] at hx hv
      cases hq : ps[k]? with
      | none => rw [hq] at hx; simp at hx
      | some q =>
        rw [hq] at hx hv
        simp at hx hv; subst hx; subst hv
        exact ⟨rfl, ev_rel S _⟩) hb
    exact fin (.value v) v w' e' (by simp [execOp, hop, h1]) (.inl rfl) h2 h3 h4 h5
  · rename_i s d x hop
    split at h
    · rename_i y hy
      simp only [Option.some.injEq] at h; subst h
      obtain ⟨v, w', e', h1, h2, h3, h4, h5⟩ := strBytesA_ok hT S.h (ev_rel S x) hy
      exact fin (.value v) v w' e' (by simp [execOp, hop, h1]) (.inl rfl) h2 h3 h4 h5
    · split at h
      case h_2 => cases h
      rename_i y hy
      simp only [Option.some.injEq] at h; subst h
      exact viaV (by rw [hop]; exact hy) rfl
  · rename_i args ts hop
    split at h
    case h_2 => cases h
    rename_i s x t u hargs hts
    obtain ⟨z, L', G'⟩ := r
    have h1 : args = #[s, x] := by apply Array.ext'; simpa using hargs
    have h2 : ts = #[t, u] := by apply Array.ext'; simpa using hts
    obtain ⟨v, w', e', h3, h4, h5, h6, h7⟩ := appendA_ok (ty := o.type) hT S.h (ev_rel S s) (ev_rel S x) h
    exact fin (.value v) v w' e' (by simp [execOp, hop, resolve, invoke, builtin, h1, h2, h3]) (.inl rfl) h4 h5 h6 h7
  · rename_i t x k ok hop
    split at h
    case h_2 => cases h
    rename_i y hy
    simp only [Option.some.injEq] at h; subst h
    obtain ⟨u, h1, h2⟩ := lookupA_ok hT S.h (ev_rel S x) (ev_rel S k) hy
    exact fin (.value u) u w e (by simp [execOp, hop, h1]) (.inl rfl) S.h (.refl _ _) (.refl _ _ _ _) h2
  · rename_i t m k x hop
    split at h
    case h_2 => cases h
    rename_i L G hst
    simp only [Option.some.injEq] at h; subst h
    obtain ⟨w', h1, h2, h3, h4⟩ := updA_ok hT S.h (ev_rel S m) (ev_rel S k) (ev_rel S x) hst
    exact fin .skip undef w' e (by simp [execOp, hop, h1]) (.inr ⟨rfl, rfl⟩) h2 h3 h4 (.tup rfl (by simp))
  · rename_i t m k x hop
    split at h
    case h_2 => cases h
    rename_i L G hst
    simp only [Option.some.injEq] at h; subst h
    obtain ⟨w', h1, h2, h3, h4⟩ := updA_ok hT S.h (ev_rel S m) (ev_rel S k) (ev_rel S x) hst
    exact fin .skip undef w' e (by simp [execOp, hop, h1]) (.inr ⟨rfl, rfl⟩) h2 h3 h4 (.tup rfl (by simp))
  · rename_i t m k hop
    obtain ⟨z, L', G'⟩ := r
    obtain ⟨v, w', e', h1, h2, h3, h4, h5⟩ := entA_ok hT S.h (ev_rel S m) (ev_rel S k) h
    exact fin (.value v) v w' e' (by simp [execOp, hop, h1]) (.inl rfl) h2 h3 h4 h5
  · rename_i t m s x hop
    split at h
    case h_2 => cases h
    rename_i L G hst
    simp only [Option.some.injEq] at h; subst h
    obtain ⟨w', h1, h2, h3, h4⟩ := entStoreA_ok (P := P) (t := t) S.h (ev_rel S m) (ev_rel S s) (ev_rel S x) hst
    exact fin .skip undef w' e (by simp [execOp, hop, h1]) (.inr ⟨rfl, rfl⟩) h2 h3 h4 (.tup rfl (by simp))
  · rename_i t hop
    simp only [Option.some.injEq] at h; subst h
    obtain ⟨v, w', e', h1, h2, h3, h4, h5⟩ := makeMapA_ok (P := P) (σ := σ) S.h t none rfl
    exact fin (.value v) v w' e' (by simp [execOp, hop, h1]) (.inl rfl) h2 h3 h4 h5
  · rename_i t x hop
    obtain ⟨z, L', G'⟩ := r
    obtain ⟨v, w', e', h1, h2, h3, h4, h5⟩ := rangeA_ok hT S.h (ev_rel S x) h
    exact fin (.value v) v w' e' (by simp [execOp, hop, h1]) (.inl rfl) h2 h3 h4 h5
  · rename_i x hop
    split at h
    case h_2 => cases h
    rename_i y hy
    simp only [Option.some.injEq] at h; subst h
    obtain ⟨u, h1, h2⟩ := entryA_ok (P := P) S.h (ev_rel S x) hy
    exact fin (.value u) u w e (by simp [execOp, hop, h1]) (.inl rfl) S.h (.refl _ _) (.refl _ _ _ _) h2
  · rename_i args ts hop
    split at h
    case h_2 => cases h
    rename_i m k t rest hargs hts
    split at h
    case h_2 => cases h
    rename_i L G hst
    simp only [Option.some.injEq] at h; subst h
    have h1 : args = #[m, k] := by apply Array.ext'; simpa using hargs
    have h2 : ts[0]? = some t := by rw [← Array.getElem?_toList, hts]; rfl
    obtain ⟨w', h3, h4, h5, h6⟩ := delA_ok (ty := o.type) hT S.h h2 (ev_rel S m) (ev_rel S k) hst
    exact fin (.value (.tuple #[])) (.tuple #[]) w' e (by simp [execOp, hop, resolve, invoke, builtin, h1, h3]) (.inl rfl) h4 h5 h6 (.tup rfl (by simp))
  · split at h
    case h_2 => cases h
    rename_i x hv
    simp only [Option.some.injEq] at h; subst h
    exact viaV hv rfl

end
end Go.Am

/- Calls; regions in the text's order; code. -/
set_option linter.unusedVariables false
set_option linter.unusedSimpArgs false
namespace Go.Am

def AllV (e : Env) (ob : Loc → Option AObj) (args : List AVal) (cargs : Array Value) : Prop :=
  cargs.size = args.length ∧ ∀ (k : Nat) (x : AVal) (v : Value), args[k]? = some x → cargs[k]? = some v → VRel e ob x v

def Bodied (P : Program) (f : FuncId) : Prop := ∃ fn, P.funcs[f]? = some fn ∧ fn.body.isSome = true ∧ (fn.name == "runtime.NumGoroutine") = false

def Ret (e : Env) (G : List AObj) (w : World) (Q : AVal → List AObj → Prop) (en : Ending) (w' : World) : Prop :=
  ∃ e' G' r v, en = .returned v ∧ e'.lb = [] ∧ HRel e' [] G' w' ∧ VRel e' (obj [] G') r v ∧ r.glob = true ∧ Evo e [] G w e' [] G' w' ∧ Q r G'

/-- What a call does: from abstract arguments and what came in to an abstract result and what came of it. -/
def ACall (P : Program) (f : FuncId) (args : List AVal) (G : List AObj) (Q : AVal → List AObj → Prop) : Prop :=
  Bodied P f ∧ ∀ e w cargs, e.lb = [] → HRel e [] G w → AllV e (obj [] G) args cargs → Calls P f cargs w (Ret e G w Q)

theorem ACall.mono {P : Program} {f : FuncId} {args : List AVal} {G : List AObj} {Q Q' : AVal → List AObj → Prop} (h : ACall P f args G Q) (hq : ∀ r G', Q r G' → Q' r G') : ACall P f args G Q' :=
  ⟨h.1, fun e w cargs h1 h2 h3 => (h.2 e w cargs h1 h2 h3).mono fun en w' ⟨e', G', r, v, a, b, c, d, g, f, k⟩ => ⟨e', G', r, v, a, b, c, d, g, f, hq r G' k⟩⟩

/-! ### What came in, alone -/
theorem ORel.glob {e e' : Env} {L L' G G' : List AObj} {w w' : World} {blk : Option (Nat × Nat)} {x : AObj} (hg : x.globO = true) (m : GMono e e' G G')
    (hh : x.live = true → ∀ b c, blk = some (b, c) → w'.heap[b]? = w.heap[b]?) (r : ORel e (obj L G) w blk x) : ORel e' (obj L' G') w' blk x := by
  cases x with
  | dead => trivial
  | frz => trivial
  | cells cs =>
    obtain ⟨b, c, vs, t, hb, hw, hs, hr⟩ := r
    exact ⟨b, c, vs, t, hb, by rw [hh rfl b c hb]; exact hw, hs, fun k x v hx hv => ⟨(hr k x v hx hv).1.gmono m (globs_at hg hx), (hr k x v hx hv).2⟩⟩
  | arr size g rows =>
    cases blk with
    | none => exact r
    | some bc =>
      obtain ⟨b, cap⟩ := bc
      obtain ⟨vs, t, hw, hs, hl, hm, hr1, hr2⟩ := r
      refine ⟨vs, t, by rw [hh rfl b cap rfl]; exact hw, hs, hl, hm, hr1, fun j r k d hj hk => ?_⟩
      obtain ⟨x, hx, hd⟩ := hr2 j r k d hj hk
      exact ⟨x, hx, hd.mono m.h⟩
  | map es =>
    obtain ⟨b, c, ens, hb, hw, hs, hr⟩ := r
    refine ⟨b, c, ens, hb, by rw [hh rfl b c hb]; exact hw, hs, fun i kv en hx hv => ⟨(hr i kv en hx hv).1, (hr i kv en hx hv).2.1.gmono m ?_, (hr i kv en hx hv).2.2⟩⟩
    exact globs_at (k := i) hg (by rw [List.getElem?_map, hx]; rfl)
  | iter mm since seen last =>
    obtain ⟨b, c, mv, sn, hb, hw, hs, hr⟩ := r
    exact ⟨b, c, mv, sn, hb, by rw [hh rfl b c hb]; exact hw, hs, hr.gmono m hg⟩

def Env.drop (e : Env) : Env := { e with lb := [] }

theorem gmono_same {e e' : Env} {G : List AObj} (h : e'.h = e.h) (hb : e'.gb = e.gb) : GMono e e' G G :=
  ⟨by rw [h]; exact .refl _, fun i k v r => by
    have : e'.blk (.g i) = e.blk (.g i) := by simp [Env.blk, hb]
    rw [h, this]; exact r⟩

/-- The call's own objects forgotten. -/
theorem HRel.drop {e : Env} {L G : List AObj} {w : World} (H : HRel e L G w) : HRel e.drop [] G w where
  hin := H.hin
  ll := rfl
  gl := H.gl
  o := fun p x hx => by
    cases p with
    | l i => simp [obj] at hx
    | g i =>
      have := ORel.glob (e := e) (e' := e.drop) (L := L) (L' := []) (G := G) (G' := G) (w := w) (w' := w) (H.gg x (List.mem_of_getElem? hx)) (gmono_same rfl rfl) (fun _ _ _ _ => rfl) (H.o (.g i) x hx)
      exact this
  free := fun p x b c hx hl hb => by
    cases p with
    | l i => simp [obj] at hx
    | g i => exact H.free (.g i) x b c hx hl hb
  inj := fun p q x y b c d h1 h2 h3 h4 h5 h6 => by
    cases p with
    | l i => simp [obj] at h1
    | g i => cases q with
      | l j => simp [obj] at h2
      | g j => exact H.inj (.g i) (.g j) x y b c d h1 h2 h3 h4 h5 h6
  gg := H.gg

theorem has_drop {e : Env} {L G : List AObj} {b : Nat} (h : e.drop.has [] G b) : e.has L G b := by
  obtain ⟨p, x, c, h1, h2, h3⟩ := h
  cases p with
  | l i => simp [obj] at h1
  | g i => exact ⟨.g i, x, c, h1, h2, h3⟩

/-- Back behind a call: the caller's own objects are as they were. -/
theorem call_back {e e1 : Env} {L G G1 : List AObj} {w w1 : World} (H : HRel e L G w) (hl : e1.lb = []) (H1 : HRel e1 [] G1 w1) (E : Evo e.drop [] G w e1 [] G1 w1) :
    ∃ e', e'.h = e1.h ∧ e'.lb = e.lb ∧ e'.gb = e1.gb ∧ HRel e' L G1 w1 ∧ EMono e e' (obj L G) (obj L G1) ∧ Evo e L G w e' L G1 w1 ∧ GMono e1 e' G1 G1 := by
  let e' : Env := ⟨e1.h, e.lb, e1.gb⟩
  have hgm : GMono e1 e' G1 G1 := gmono_same rfl rfl
  have hloc : ∀ i x b c, L[i]? = some x → x.live = true → e.blk (.l i) = some (b, c) → b < w.heap.size ∧ ¬ e.drop.has [] G b := fun i x b c h1 h2 h3 => by
    refine ⟨(H.free (.l i) x b c h1 h2 h3).2, ?_⟩
    rintro ⟨p, y, d, h4, h5, h6⟩
    cases p with
    | l j => simp [obj] at h4
    | g j =>
      have := H.inj (.l i) (.g j) x y b c d h1 h4 h2 h5 h3 h6
      cases this
  have m : EMono e e' (obj L G) (obj L G1) := ⟨E.m.h, fun p k v r => by
    cases p with
    | l i =>
      have h1 : e'.blk (.l i) = e.blk (.l i) := rfl
      rw [h1]
      have := (emono_h (e := e) (h' := e1.h) E.m.h (obj L G)).p (.l i) k v r
      exact this
    | g i => exact E.m.p i k v r⟩
  refine ⟨e', rfl, rfl, rfl, ⟨H1.hin, H.ll, H1.gl, fun p x hx => ?_, fun p x b c hx hlv hb => ?_, fun p q x y b c d h1 h2 h3 h4 h5 h6 => ?_, H1.gg⟩, m, ?_, hgm⟩
  · cases p with
    | l i =>
      refine ORel.step m (fun hlv b c hb => ?_) (H.o (.l i) x hx)
      have := hloc i x b c hx hlv hb
      exact (E.old b this.1 this.2).1
    | g i => exact ORel.glob (H1.gg x (List.mem_of_getElem? hx)) hgm (fun _ _ _ _ => rfl) (H1.o (.g i) x hx)
  · cases p with
    | l i =>
      have h1 := hloc i x b c hx hlv hb
      have h2 := H.free (.l i) x b c hx hlv hb
      refine ⟨?_, Nat.lt_of_lt_of_le h2.2 E.size⟩
      have := (E.old b h1.1 h1.2).2
      show e1.h b = none
      rw [this]; exact h2.1
    | g i => exact H1.free (.g i) x b c hx hlv hb
  · cases p with
    | l i => cases q with
      | l j => exact H.inj (.l i) (.l j) x y b c d h1 h2 h3 h4 h5 h6
      | g j =>
        have h7 := hloc i x b c h1 h3 h5
        exact absurd (E.has b ⟨.g j, y, d, h2, h4, h6⟩ h7.1) h7.2
    | g i => cases q with
      | l j =>
        have h7 := hloc j y b d h2 h4 h6
        exact absurd (E.has b ⟨.g i, x, c, h1, h3, h5⟩ h7.1) h7.2
      | g j => exact H1.inj (.g i) (.g j) x y b c d h1 h2 h3 h4 h5 h6
  · refine ⟨E.os, E.tape, E.output, E.size, fun b hb hn => E.old b hb (fun h => hn (has_drop h)), fun b h hb => ?_, ⟨E.m.h, fun i k v r => m.p (.g i) k v r⟩⟩
    obtain ⟨p, x, c, h1, h2, h3⟩ := h
    cases p with
    | l i => exact ⟨.l i, x, c, h1, h2, h3⟩
    | g i => exact has_drop (E.has b ⟨.g i, x, c, h1, h2, h3⟩ hb)

/-! ### Arguments and results: own rows are frozen -/
def frz1 (σ : St) (x : AVal) : St :=
  match ownA σ x with
  | some (.l i, size, g, rows) => { σ with L := σ.L.set i (.frz size g rows) }
  | _ => σ

def frzV (σ : St) : AVal → St
  | .agg cs => cs.foldl frz1 σ
  | x => frz1 σ x

def frzAll (σ : St) (xs : List AVal) : St := xs.foldl frzV σ

def data1 (σ : St) (x : AVal) : AVal :=
  match rowsA σ x with
  | some rows => .d (.l rows)
  | none => x

def dataV (σ : St) : AVal → AVal
  | .agg cs => .agg (cs.map (data1 σ))
  | x => data1 σ x

section
variable {P : Program} {T : Tbl} {e : Env} {σ : St} {w : World}

theorem data1_ok {x : AVal} {v : Value} (r : VRel e (obj σ.L σ.G) x v) : VRel e (obj σ.L σ.G) (data1 σ x) v := by
  unfold data1
  split
  · rename_i rows hr; exact .d (rowsA_ok r hr)
  · exact r

theorem dataV_ok {x : AVal} {v : Value} (r : VRel e (obj σ.L σ.G) x v) : VRel e (obj σ.L σ.G) (dataV σ x) v := by
  unfold dataV
  split
  · rename_i cs
    cases r with
    | @agg _ vs h1 hr =>
    refine .agg (by simp [h1]) fun k x v hx hv => ?_
    rw [List.getElem?_map] at hx
    cases hq : cs[k]? with
    | none => rw [hq] at hx; simp at hx
    | some q => rw [hq] at hx; simp at hx; subst hx; exact data1_ok (hr k q v hq hv)
  · exact data1_ok r

theorem frz1_ok {a : Act} (S : SRel e σ a w) (x : AVal) : ∃ e', SRel e' (frz1 σ x) a w ∧ EMono e e' (obj σ.L σ.G) (obj (frz1 σ x).L (frz1 σ x).G) ∧ Evo e σ.L σ.G w e' (frz1 σ x).L (frz1 σ x).G w := by
  unfold frz1
  split
  · rename_i i size g rows hown
    have hp : obj σ.L σ.G (.l i) = some (.arr size g rows) := by
      unfold ownA at hown
      split at hown
      · split at hown
        · rename_i hp
          split at hown
          · rename_i hg
            simp at hown
            obtain ⟨rfl, rfl, rfl, rfl⟩ := hown
            rw [← hg] at hp; exact hp
          · cases hown
        · cases hown
      · cases hown
    obtain ⟨e', h1, h2, h3⟩ := freeze_ok S.h hp
    exact ⟨e', ⟨S.d, S.sz, fun t y u hy hu => (S.s t y u hy hu).mono h2, h1⟩, h2, h3⟩
  · exact ⟨e, S, .refl _ _, .refl _ _ _ _⟩

theorem frzs_ok {a : Act} : ∀ (xs : List AVal) {e : Env} {σ : St}, SRel e σ a w →
    ∃ e', SRel e' (xs.foldl frz1 σ) a w ∧ EMono e e' (obj σ.L σ.G) (obj (xs.foldl frz1 σ).L (xs.foldl frz1 σ).G) ∧ Evo e σ.L σ.G w e' (xs.foldl frz1 σ).L (xs.foldl frz1 σ).G w
  | [], e, σ, S => ⟨e, S, .refl _ _, .refl _ _ _ _⟩
  | x :: xs, e, σ, S => by
    obtain ⟨e1, h1, h2, h3⟩ := frz1_ok S x
    obtain ⟨e2, k1, k2, k3⟩ := frzs_ok xs h1
    exact ⟨e2, k1, h2.trans k2, h3.trans k3⟩

theorem frzV_ok {a : Act} (S : SRel e σ a w) (x : AVal) : ∃ e', SRel e' (frzV σ x) a w ∧ EMono e e' (obj σ.L σ.G) (obj (frzV σ x).L (frzV σ x).G) ∧ Evo e σ.L σ.G w e' (frzV σ x).L (frzV σ x).G w := by
  unfold frzV
  split
  · exact frzs_ok _ S
  · exact frz1_ok S _

theorem frzAll_ok {a : Act} : ∀ (xs : List AVal) {e : Env} {σ : St}, SRel e σ a w →
    ∃ e', SRel e' (frzAll σ xs) a w ∧ EMono e e' (obj σ.L σ.G) (obj (frzAll σ xs).L (frzAll σ xs).G) ∧ Evo e σ.L σ.G w e' (frzAll σ xs).L (frzAll σ xs).G w
  | [], e, σ, S => ⟨e, S, .refl _ _, .refl _ _ _ _⟩
  | x :: xs, e, σ, S => by
    obtain ⟨e1, h1, h2, h3⟩ := frzV_ok S x
    obtain ⟨e2, k1, k2, k3⟩ := frzAll_ok xs h1
    exact ⟨e2, k1, h2.trans k2, h3.trans k3⟩

theorem next_L (σ : St) (d : Option Nat) (r : AVal × List AObj × List AObj) : (σ.next d r).L = r.2.1 := by cases d <;> rfl
theorem next_G (σ : St) (d : Option Nat) (r : AVal × List AObj × List AObj) : (σ.next d r).G = r.2.2 := by cases d <;> rfl

/-! ### One operation, calls too -/
def callOf (σ : St) : Op → Option (FuncId × List AVal)
  | .call { callee := .value x, args := args, argTypes := _ } => match σ.ev x with
    | .clo (.func f) first caps => some (f, first ++ args.toList.map σ.ev ++ caps)
    | _ => none
  | _ => none

/-- The steps of an iteration over a map: whichever entry. -/
def nextOf (σ : St) : Op → Option (List (AVal × List AObj × List AObj))
  | .next it false => nextA σ (σ.ev it)
  | _ => none

def exOp (P : Program) (T : Tbl) (o : Oper) (σ : St) (K : St → Prop) : Prop :=
  match callOf σ o.op with
  | some (f, args) => AVal.glob.globs (args.map (dataV (frzAll σ args))) = true ∧
      ∃ Q, ACall P f (args.map (dataV (frzAll σ args))) (frzAll σ args).G Q ∧ ∀ r G', Q r G' → K ((frzAll σ args).next o.dst (r, (frzAll σ args).L, G'))
  | none => match nextOf σ o.op with
    | some l => ∀ r ∈ l, K (σ.next o.dst r)
    | none => match stepA T σ o.op with
      | some r => K (σ.next o.dst r)
      | none => False

/-- Whatever comes behind. -/
def Post (K : St → Prop) (e : Env) (σ : St) (w : World) (a' : Act) (w' : World) : Prop :=
  ∃ e' σ', K σ' ∧ SRel e' σ' a' w' ∧ Evo e σ.L σ.G w e' σ'.L σ'.G w'

theorem exOp_ok (hT : TblOk P T) {a : Act} (S : SRel e σ a w) {o : Oper} {K : St → Prop} (h : exOp P T o σ K) {Q : Exit → Act → World → Prop} : o.wp P a w (Post K e σ w) Q := by
  unfold exOp at h
  split at h
  · rename_i f args hcall
    obtain ⟨hgl, QQ, hA, hK⟩ := h
    unfold callOf at hcall
    split at hcall
    case h_2 => cases hcall
    rename_i x oargs ts hop
    split at hcall
    case h_2 => cases hcall
    rename_i f' first caps hx
    simp only [Option.some.injEq, Prod.mk.injEq] at hcall
    obtain ⟨rfl, rfl⟩ := hcall
    have hxr := ev_rel S x
    rw [hx] at hxr
    generalize hav : a.eval x = fv at hxr
    cases hxr with
    | @clo _ _ _ fs cs h1 h2 r1 r2 =>
    let cargs := fs ++ oargs.map a.eval ++ cs
    have hargs : AllV e (obj σ.L σ.G) (first ++ oargs.toList.map σ.ev ++ caps) cargs := by
      refine ⟨by simp [cargs, h1, h2], fun k y v hy hv => ?_⟩
      have hl1 : (first ++ oargs.toList.map σ.ev).length = (fs ++ oargs.map a.eval).size := by simp [h1]
      by_cases hk : k < (first ++ oargs.toList.map σ.ev).length
      · rw [List.getElem?_append_left hk] at hy
        rw [Array.getElem?_append_left (by omega)] at hv
        by_cases hk2 : k < first.length
        · rw [List.getElem?_append_left hk2] at hy
          rw [Array.getElem?_append_left (by omega)] at hv
          exact r1 k y v hy hv
        · rw [List.getElem?_append_right (by omega)] at hy
          rw [Array.getElem?_append_right (by omega)] at hv
          rw [h1] at hv
          simp only [List.getElem?_map, Array.getElem?_toList, Array.getElem?_map] at hy hv
          cases hq : oargs[k - first.length]? with
          | none => rw [hq] at hy; simp at hy
          | some q => rw [hq] at hy hv; simp at hy hv; subst hy; subst hv; exact ev_rel S q
      · rw [List.getElem?_append_right (by omega)] at hy
        rw [Array.getElem?_append_right (by omega)] at hv
        rw [← hl1] at hv
        exact r2 _ y v hy hv
    obtain ⟨e1, S1, m1, E1⟩ := frzAll_ok (first ++ oargs.toList.map σ.ev ++ caps) S
    generalize hσ1 : frzAll σ (first ++ oargs.toList.map σ.ev ++ caps) = σ1 at *
    have hargs1 : AllV e1.drop (obj [] σ1.G) ((first ++ oargs.toList.map σ.ev ++ caps).map (dataV σ1)) cargs := by
      refine ⟨by simp [hargs.1], fun k y v hy hv => ?_⟩
      have hg := globs_at hgl hy
      rw [List.getElem?_map] at hy
      cases hq : (first ++ oargs.toList.map σ.ev ++ caps)[k]? with
      | none => rw [hq] at hy; simp at hy
      | some q =>
        rw [hq] at hy; simp only [Option.map_some, Option.some.injEq] at hy; subst hy
        exact VRel.gmono (gmono_same (e := e1) (e' := e1.drop) rfl rfl) (dataV_ok ((hargs.2 k q v hq hv).mono m1)) hg
    obtain ⟨fn, hfn, hbody, hname⟩ := hA.1
    have hcalls := hA.2 e1.drop w cargs rfl S1.h.drop hargs1
    have hrun : (execOp a.eval o).run P w = .ok (.enter f' cargs) w := by
      have hb : ¬ fn.body = none := by intro hbb; rw [hbb] at hbody; cases hbody
      have hname : ¬ fn.name = "runtime.NumGoroutine" := by simpa using hname
      simp [execOp, hop, resolve, hav, Deferred.ofValue, invoke, callFunc, hfn, hname, hb, cargs]
    unfold Oper.wp
    rw [hrun, Oper.upon_enter]
    refine hcalls.mono fun en w' ⟨e2, G2, r, v, hen, hlb, H2, hr, hrg, E2, hq⟩ => ?_
    subst hen
    obtain ⟨e3, q1, q2, q3, H3, m3, E3, g3⟩ := call_back S1.h hlb H2 E2
    refine ⟨e3, _, hK r G2 hq, ?_, by rw [next_L, next_G]; exact E1.trans E3⟩
    exact S1.put H3 m3 (hr.gmono g3 hrg) o.dst
  · split at h
    · rename_i l hl
      unfold nextOf at hl
      split at hl
      case h_2 => cases hl
      rename_i it hop
      obtain ⟨r, hr, v, w', e', h1, h2, h3, h4, h5⟩ := nextA_ok (P := P) (ty := o.type) S.h (ev_rel S it) hl
      unfold Oper.wp
      rw [show (execOp a.eval o).run P w = .ok (.value v) w' by simp [execOp, hop, h1]]
      exact ⟨e', _, h r hr, S.put h2 h3 h5 o.dst, by rw [next_L, next_G]; exact h4⟩
    split at h
    case h_2 => exact h.elim
    rename_i r hr
    obtain ⟨n, v, w', e', h1, h2, h3, h4⟩ := stepA_ok hT S hr
    unfold Oper.wp
    rw [h1]
    rcases h2 with rfl | ⟨rfl, rfl⟩
    · exact ⟨e', _, h, h3, by rw [next_L, next_G]; exact h4⟩
    · exact ⟨e', _, h, h3, by rw [next_L, next_G]; exact h4⟩

/-! ### Regions in the text's order -/
def wantA (σ : St) (ops : Array Oper) (o : Oper) : Option Bool :=
  match o.guard with
  | none => some true
  | some (j, want) => match (ops[j]?).bind (·.dst) with
    | some t => match σ.get t with
      | .d (.v (.bool b)) => some (b == want)
      | .tup [] => some false
      | _ => none
    | none => some false

theorem wantA_ok {a : Act} (S : SRel e σ a w) {ops : Array Oper} {o : Oper} {b : Bool} (h : wantA σ ops o = some b) : Region.wanted o (yielded ops a.tmps) = b := by
  unfold wantA at h
  unfold Region.wanted
  split at h
  · rename_i hg; rw [hg]; simpa using h
  · rename_i j want hg
    rw [hg]
    simp only
    split at h
    · rename_i t ht
      unfold yielded
      rw [ht]
      simp only [Option.bind_some]
      have key : ∀ x, σ.get t = x → x ≠ .any → ∃ v, a.tmps[t]? = some v ∧ VRel e (obj σ.L σ.G) x v := fun x hx hne => by
        have hlt : t < σ.s.length := by
          rcases Nat.lt_or_ge t σ.s.length with h' | h'
          · exact h'
          · simp [St.get, List.getD, List.getElem?_eq_none h'] at hx
            exact absurd hx.symm hne
        have h2 : t < a.tmps.size := by rw [S.sz]; exact hlt
        have hx' : σ.s[t]? = some x := by
          rw [← hx]; simp [St.get, List.getD, hlt]
        exact ⟨a.tmps[t], Array.getElem?_eq_getElem h2, S.s t x _ hx' (Array.getElem?_eq_getElem h2)⟩
      split at h
      · rename_i bb hbb
        obtain ⟨v, hv, hr⟩ := key _ hbb (by simp)
        rw [hv]
        cases hr with
        | d r => cases r with
        | v _ =>
        simp at h
        rw [← h]
        cases bb <;> cases want <;> rfl
      · rename_i hbb
        obtain ⟨v, hv, hr⟩ := key _ hbb (by simp)
        rw [hv]
        cases hr with
        | tup h1 _ =>
        simp at h
        rw [h]
        rfl
      · cases h
    · rename_i hn
      unfold yielded
      rw [hn]
      simp at h
      subst h
      rfl


def exOps (P : Program) (T : Tbl) (ops : Array Oper) (K : St → Prop) : List Nat → St → Prop
  | [], σ => K σ
  | i :: rest, σ => match ops[i]? with
    | none => exOps P T ops K rest σ
    | some o => match wantA σ ops o with
      | some true => exOp P T o σ (exOps P T ops K rest)
      | some false => exOps P T ops K rest (σ.put o.dst (.tup []))
      | none => False

theorem Post.trans {K : St → Prop} {e e1 : Env} {σ σ1 : St} {w w1 w2 : World} {a : Act} (E : Evo e σ.L σ.G w e1 σ1.L σ1.G w1) (h : Post K e1 σ1 w1 a w2) : Post K e σ w a w2 := by
  obtain ⟨e', σ', h1, h2, h3⟩ := h
  exact ⟨e', σ', h1, h2, E.trans h3⟩

theorem put_L (σ : St) (d : Option Nat) (x : AVal) : (σ.put d x).L = σ.L := by cases d <;> rfl
theorem put_G (σ : St) (d : Option Nat) (x : AVal) : (σ.put d x).G = σ.G := by cases d <;> rfl

theorem SRel.skip {a : Act} (S : SRel e σ a w) (d : Option Nat) : SRel e (σ.put d (.tup [])) (a.put d undef) w := by
  have := S.put (x := .tup []) (v := undef) S.h (.refl _ _) (.tup rfl (by simp)) d
  cases d <;> exact this

/-- What code may come to: an exit, and a state behind it. -/
def okExit : Exit → Prop
  | .normal | .exit _ | .ret => True
  | _ => False
def PostE (Q : Exit → St → Prop) (e : Env) (σ : St) (w : World) (x : Exit) (a' : Act) (w' : World) : Prop := okExit x ∧ Post (Q x) e σ w a' w'

theorem exOps_ok (hT : TblOk P T) {ops : Array Oper} {Q : Exit → Act → World → Prop} : ∀ (l : List Nat) {e : Env} {σ : St} {a : Act} {w : World} {K : St → Prop}, SRel e σ a w → exOps P T ops K l σ →
    (∀ a' w', Post K e σ w a' w' → Q .normal a' w') → wpOps P ops Q l a w
  | [], e, σ, a, w, K, S, h, hQ => hQ a w ⟨e, σ, h, S, .refl _ _ _ _⟩
  | i :: rest, e, σ, a, w, K, S, h, hQ => by
    unfold exOps at h
    unfold wpOps
    split at h
    · rename_i ho; simp only [ho]; exact exOps_ok hT rest S h hQ
    · rename_i o ho
      simp only [ho]
      split at h
      · rename_i hw
        rw [wantA_ok S hw]
        simp only [if_true]
        refine .inl (Oper.wp_mono (fun a' w' hp => ?_) (exOp_ok hT S h (Q := Q)))
        obtain ⟨e', σ', h1, h2, h3⟩ := hp
        exact exOps_ok hT rest h2 h1 (fun a2 w2 hp2 => hQ a2 w2 (hp2.trans h3))
      · rename_i hw
        rw [wantA_ok S hw]
        simp only [Bool.false_eq_true, if_false]
        refine exOps_ok hT rest (S.skip o.dst) h (fun a2 w2 hp2 => hQ a2 w2 (hp2.trans ?_))
        rw [put_L, put_G]; exact .refl _ _ _ _
      · exact h.elim

end
end Go.Am

/- Code over abstract states; functions. -/
set_option linter.unusedVariables false
set_option linter.unusedSimpArgs false
namespace Go.Am
section
variable {P : Program} {T : Tbl} {e : Env} {σ : St} {w : World}

/-- Code, of whatever machine's state that the abstract one stands for. -/
def AWp (P : Program) (c : Code) (Q : Exit → St → Prop) (σ : St) : Prop :=
  ∀ e a w, SRel e σ a w → c.wp P (PostE Q e σ w) a w

theorem AWp.mono {c : Code} {Q Q' : Exit → St → Prop} (h : AWp P c Q σ) (hq : ∀ x σ, Q x σ → Q' x σ) : AWp P c Q' σ := fun e a w S =>
  wp_mono (h e a w S) fun x a' w' ⟨hx, e', σ', h1, h2, h3⟩ => ⟨hx, e', σ', hq _ _ h1, h2, h3⟩

def thenA (K : St → Prop) (Q : Exit → St → Prop) : Exit → St → Prop
  | .normal, σ => K σ
  | x, σ => Q x σ

def inBlockA (id : Nat) (Q : Exit → St → Prop) : Exit → St → Prop
  | .exit id', σ => if id' = id then Q .normal σ else Q (.exit id') σ
  | x, σ => Q x σ

/-- A region whose order is drawn, over abstract states. -/
def AReg (P : Program) (ops : Array Oper) (id : Nat) (K : St → Prop) (σ : St) : Prop := AWp P (.region id ops true) (thenA K fun _ _ => False) σ

def ex (P : Program) (T : Tbl) : Code → (Exit → St → Prop) → St → Prop
  | .skip, Q, σ => Q .normal σ
  | .region _ ops false, Q, σ => exOps P T ops (Q .normal) (List.range ops.size) σ
  | .region id ops true, Q, σ => AReg P ops id (Q .normal) σ
  | .seq a b, Q, σ => ex P T a (thenA (ex P T b Q) Q) σ
  | .cond c t f, Q, σ => match σ.ev c with
    | .d (.v (.bool b)) => if b then ex P T t Q σ else ex P T f Q σ
    | _ => False
  | .block id c, Q, σ => ex P T c (inBlockA id Q) σ
  | .exit id, Q, σ => Q (.exit id) σ
  | .ret, Q, σ => Q .ret σ
  | .label _, Q, σ => Q .normal σ
  | .loop b, Q, σ => AWp P (.loop b) Q σ
  | .rangeFunc f ps asg b, Q, σ => AWp P (.rangeFunc f ps asg b) Q σ
  | _, _, _ => False

theorem PostE.trans {Q : Exit → St → Prop} {e1 : Env} {σ1 : St} {w1 w2 : World} {a : Act} {x : Exit} (E : Evo e σ.L σ.G w e1 σ1.L σ1.G w1) (h : PostE Q e1 σ1 w1 x a w2) : PostE Q e σ w x a w2 :=
  ⟨h.1, Post.trans E h.2⟩

theorem AWp.seq {a b : Code} {Q : Exit → St → Prop} (h : AWp P a (thenA (AWp P b Q) Q) σ) : AWp P (.seq a b) Q σ := fun e act w S =>
  wp_seq (wp_mono (h e act w S) fun x a' w' ⟨hx, e', σ', h1, h2, h3⟩ => by
    cases x with
    | normal => exact wp_mono (h1 e' a' w' h2) fun y a2 w2 hp => hp.trans h3
    | _ => exact ⟨hx, e', σ', h1, h2, h3⟩)

theorem AWp.block {id : Nat} {c : Code} {Q : Exit → St → Prop} (h : AWp P c (inBlockA id Q) σ) : AWp P (.block id c) Q σ := fun e act w S =>
  wp_block (wp_mono (h e act w S) fun x a' w' ⟨hx, e', σ', h1, h2, h3⟩ => by
    cases x with
    | exit id' =>
      simp only [Exit.inBlock, inBlockA] at h1 ⊢
      split
      · rename_i hid; rw [if_pos hid] at h1; exact ⟨trivial, e', σ', h1, h2, h3⟩
      · rename_i hid; rw [if_neg hid] at h1; exact ⟨trivial, e', σ', h1, h2, h3⟩
    | _ => exact ⟨hx, e', σ', h1, h2, h3⟩)

theorem ex_ok (hT : TblOk P T) : ∀ (c : Code) {Q : Exit → St → Prop} {σ : St}, ex P T c Q σ → AWp P c Q σ
  | .skip, Q, σ, h => fun e a w S => wp_skip ⟨trivial, e, σ, h, S, .refl _ _ _ _⟩
  | .region id ops false, Q, σ, h => fun e a w S => wp_region (exOps_ok hT _ S h fun a' w' hp => ⟨trivial, hp⟩)
  | .region id ops true, Q, σ, h => AWp.mono h fun x σ hx => by
      cases x with
      | normal => exact hx
      | _ => exact hx.elim
  | .seq a b, Q, σ, h => AWp.seq (AWp.mono (ex_ok hT a h) fun x σ hx => by
      cases x with
      | normal => exact ex_ok hT b hx
      | _ => exact hx)
  | .cond c t f, Q, σ, h => fun e a w S => by
      unfold ex at h
      split at h
      case h_2 => exact h.elim
      rename_i b hb
      have hr := ev_rel S c
      rw [hb] at hr
      have hc : a.eval c = .bool b := by
        generalize a.eval c = v at hr
        cases hr with
        | d r => cases r with
        | v _ => rfl
      refine wp_cond hc ?_
      cases b with
      | true => exact ex_ok hT t h e a w S
      | false => exact ex_ok hT f h e a w S
  | .block id c, Q, σ, h => AWp.block (ex_ok hT c h)
  | .exit id, Q, σ, h => fun e a w S => wp_exit ⟨trivial, e, σ, h, S, .refl _ _ _ _⟩
  | .ret, Q, σ, h => fun e a w S => wp_ret ⟨trivial, e, σ, h, S, .refl _ _ _ _⟩
  | .label l, Q, σ, h => fun e a w S => wp_label ⟨trivial, e, σ, h, S, .refl _ _ _ _⟩
  | .loop b, Q, σ, h => h
  | .rangeFunc f ps asg b, Q, σ, h => h
  | .scope _, _, _, h => h.elim
  | .goto _, _, _, h => h.elim
  | .refuse _, _, _, h => h.elim

/-! ### Loops -/
theorem steps_behind {P : Program} {m m1 t : Machine} (h : Steps P m t) (h1 : step P m = .next m1) (hne : t ≠ m) : Steps P m1 t := by
  obtain ⟨n, hn⟩ := h
  cases n with
  | zero => simp [runN] at hn; exact absurd hn.symm hne
  | succ n => simp only [runN, h1] at hn; exact ⟨n, hn⟩

theorem exitTo_len : ∀ {id : Nat} {k k' : List Item}, exitTo id k = some k' → k'.length < k.length
  | id, .inBlock id' :: k, k', h => by
    simp only [exitTo] at h
    split at h
    · cases h; simp
    · have := exitTo_len h; simp; omega
  | id, .inLoop _ :: k, k', h => by simp only [exitTo] at h; have := exitTo_len h; simp; omega
  | id, .code _ :: k, k', h => by simp only [exitTo] at h; have := exitTo_len h; simp; omega
  | id, .inRegion _ _ :: k, k', h => by simp only [exitTo] at h; have := exitTo_len h; simp; omega
  | id, [], k', h => by simp [exitTo] at h
  | id, x :: k, k', h => by
    cases x <;> simp only [exitTo] at h <;> first
      | (have := exitTo_len h; simp; omega)
      | (split at h
         · cases h; simp
         · have := exitTo_len h; simp; omega)

theorem wp_loop_unroll {P : Program} {c : Code} {Q : Exit → Act → World → Prop} (hQ : ∀ x a w, Q x a w → okExit x) {a : Act} {w : World}
    (h : c.wp P (Exit.then (fun a' w' => (Code.loop c).wp P Q a' w') Q) a w) : (Code.loop c).wp P Q a w := by
  intro b k cs
  obtain ⟨e, a1, w1, hq, harr⟩ := h b (.inLoop c :: k) cs
  cases e with
  | normal =>
    obtain ⟨e2, a2, w2, hq2, harr2⟩ := hq b k cs
    have hs : step P (lone (b.at a1 (.code (.loop c) :: k)) cs w1) = .next (lone (b.at a1 (.code c :: .inLoop c :: k)) cs w1) := step_loop
    have hto : Steps P (lone (b.at a (.code (.loop c) :: k)) cs w) (lone (b.at a1 (.code c :: .inLoop c :: k)) cs w1) :=
      .head step_loop (Steps.trans harr (.one step_inLoop))
    have hlone : ∀ fr fr' : Frame, ∀ w w' : World, lone fr cs w = lone fr' cs w' → fr = fr' := fun fr fr' w w' hh => by
      have := congrArg (fun m => m.gs[0]?.map (·.frame)) hh
      simpa [lone] using this
    have hok := hQ _ _ _ hq2
    refine ⟨e2, a2, w2, hq2, ?_⟩
    cases e2 with
    | normal =>
      refine hto.trans (steps_behind harr2 hs (fun hh => ?_))
      have := congrArg (fun f => f.todo.length) (hlone _ _ _ _ hh)
      simp [Frame.at] at this
    | exit id =>
      intro k' hk'
      refine hto.trans (steps_behind (harr2 k' hk') hs (fun hh => ?_))
      have := congrArg (fun f => f.todo.length) (hlone _ _ _ _ hh)
      have h2 := exitTo_len hk'
      simp [Frame.at] at this
      omega
    | ret =>
      obtain ⟨todo, ht⟩ := harr2
      refine ⟨todo, hto.trans (steps_behind ht hs (fun hh => ?_))⟩
      have := congrArg (fun f => f.mode) (hlone _ _ _ _ hh)
      simp [Frame.at] at this
    | goto l => exact hok.elim
    | panic ch => exact hok.elim
    | outgrown => exact hok.elim
  | exit id => exact ⟨_, a1, w1, hq, .of_steps (.one step_loop) (.pass (x := .inLoop c) rfl (fun _ _ => .inl (by simp)) harr)⟩
  | goto l => exact ⟨_, a1, w1, hq, .of_steps (.one step_loop) (.pass (x := .inLoop c) rfl (fun _ _ => .inl (by simp)) harr)⟩
  | ret => exact ⟨_, a1, w1, hq, .of_steps (.one step_loop) (.pass (x := .inLoop c) rfl (fun _ _ => .inl (by simp)) harr)⟩
  | panic ch => exact ⟨_, a1, w1, hq, .of_steps (.one step_loop) (.pass (x := .inLoop c) rfl (fun _ _ => .inl (by simp)) harr)⟩
  | outgrown => exact ⟨_, a1, w1, hq, .of_steps (.one step_loop) (.pass (x := .inLoop c) rfl (fun _ _ => .inl (by simp)) harr)⟩

theorem AWp.unroll {b : Code} {Q : Exit → St → Prop} (h : AWp P b (thenA (AWp P (.loop b) Q) Q) σ) : AWp P (.loop b) Q σ := fun e a w S =>
  wp_loop_unroll (fun x a w hx => hx.1) (wp_mono (h e a w S) fun x a' w' ⟨hx, e', σ', h1, h2, h3⟩ => by
    cases x with
    | normal => exact wp_mono (h1 e' a' w' h2) fun y a2 w2 hp => hp.trans h3
    | _ => exact ⟨hx, e', σ', h1, h2, h3⟩)

/-! ### Weaker states -/
def Weak (σ σ' : St) : Prop := ∀ e a w, SRel e σ a w → ∃ e', SRel e' σ' a w ∧ Evo e σ.L σ.G w e' σ'.L σ'.G w

theorem AWp.weak {c : Code} {Q : Exit → St → Prop} {σ σ' : St} (hw : Weak σ σ') (h : AWp P c Q σ') : AWp P c Q σ := fun e a w S => by
  obtain ⟨e', S', E⟩ := hw e a w S
  exact wp_mono (h e' a w S') fun x a' w' hp => hp.trans E

theorem TyOk.of {t : Nat} {e : TyE} {d : TypeDesc} (hu : P.underlying t = some d) (hd : descFits d e.k)
    (hi : ((P.info? t).map fun i => (i.zero.map fun z => (z.cells.toList, zShape z), i.size, i.bytes)) = some (some (e.zero, some e.k.agg), e.size, e.bytes))
    (hz : e.zero.all (·.oneCell') = true) (hl : e.zero.length = e.size) (h1 : e.k.agg = false → e.size = 1) : TyOk P t e := by
  cases hq : P.info? t with
  | none => rw [hq] at hi; simp at hi
  | some i =>
    rw [hq] at hi
    simp only [Option.map_some, Option.some.injEq, Prod.mk.injEq] at hi
    cases hz2 : i.zero with
    | none => rw [hz2] at hi; simp at hi
    | some z =>
      rw [hz2] at hi
      simp at hi
      refine ⟨⟨d, hu, hd⟩, ⟨i, z, hq, hz2, hi.2.1, hi.2.2, hi.1.1⟩, hz, hl, h1, fun i' z' h1 h2 => ?_⟩
      rw [hq] at h1
      cases h1
      rw [hz2] at h2
      cases h2
      have hs := hi.1.2
      cases z <;> simp [zShape] at hs <;> simp [hs, Value.oneCell']

/-! ### Functions -/
def resA (T : Tbl) (σ : St) : List ResultVar → Option (List AVal)
  | [] => some []
  | .tmp t :: rest => (resA T σ rest).map (σ.get t :: ·)
  | .cell a t :: rest => match loadA T σ t (σ.get a), resA T σ rest with
    | some x, some xs => some (x :: xs)
    | _, _ => none

def oneOrTup : List AVal → AVal
  | [x] => x
  | xs => .tup xs

/-- The end of a function: its results, own rows frozen. -/
def retA (T : Tbl) (fn : Func) (Q : AVal → List AObj → Prop) (σ : St) : Prop :=
  match resA T σ fn.results.toList with
  | some xs => AVal.glob.globs (xs.map (dataV (frzAll σ xs))) = true ∧ Q (oneOrTup (xs.map (dataV (frzAll σ xs)))) (frzAll σ xs).G
  | none => False

def retE (T : Tbl) (fn : Func) (Q : AVal → List AObj → Prop) : Exit → St → Prop
  | .normal, σ | .ret, σ => retA T fn Q σ
  | _, _ => False

theorem resA_ok (hT : TblOk P T) {a : Act} (S : SRel e σ a w) : ∀ {rs : List ResultVar} {xs : List AVal}, resA T σ rs = some xs →
    ∃ vs : List Value, (rs.mapM fun | .tmp t => pure (a.tmps.getD t undef) | .cell b t => do loadVar t (← asAddr (a.tmps.getD b undef)) : Sem (List Value)).run P w = .ok vs w ∧
      xs.length = vs.length ∧ ∀ (k : Nat) (x : AVal) (v : Value), xs[k]? = some x → vs[k]? = some v → VRel e (obj σ.L σ.G) x v
  | [], xs, h => by simp [resA] at h; subst h; exact ⟨[], rfl, rfl, by simp⟩
  | .tmp t :: rest, xs, h => by
    unfold resA at h
    cases hr : resA T σ rest with
    | none => rw [hr] at h; simp at h
    | some ys =>
      rw [hr] at h; simp at h; subst h
      obtain ⟨vs, h1, h2, h3⟩ := resA_ok hT S hr
      refine ⟨a.tmps.getD t undef :: vs, by simp only [List.mapM_cons, Sem.run_bind, Sem.run_pure, Result.andThen_ok, h1], by simp [h2], fun k x v hx hv => ?_⟩
      cases k with
      | zero => simp only [List.getElem?_cons_zero, Option.some.injEq] at hx hv; subst hx; rw [← hv]; exact ev_rel S (.tmp t)
      | succ k => exact h3 k x v (by simpa using hx) (by simpa using hv)
  | .cell b t :: rest, xs, h => by
    unfold resA at h
    split at h
    · rename_i y ys hy hys
      simp at h; subst h
      obtain ⟨vs, h1, h2, h3⟩ := resA_ok hT S hys
      obtain ⟨u, hu, hru⟩ := loadA_ok (P := P) hT S.h (ev_rel S (.tmp b)) hy
      have hu' : (do loadVar t (← asAddr (a.tmps.getD b undef)) : Sem Value).run P w = .ok u w := by
        simp only [Act.eval] at hu
        generalize a.tmps.getD b undef = bv at hu ⊢
        unfold Instr.loadAt at hu
        cases bv <;> simp [Instr.sureAddr] at hu
        rename_i ao
        cases ao <;> simp [Instr.sureAddr] at hu
        simpa [asAddr] using hu
      refine ⟨u :: vs, by simp only [List.mapM_cons, Sem.run_bind, hu', Result.andThen_ok, h1, Sem.run_pure], by simp [h2], fun k x v hx hv => ?_⟩
      cases k with
      | zero => simp at hx hv; subst hx; subst hv; exact hru
      | succ k => exact h3 k x v (by simpa using hx) (by simpa using hv)
    · cases h

def oneVal (vs : List Value) : Value := if h : vs.toArray.size = 1 then vs.toArray[0] else .tuple vs.toArray

/-- A function by its body. -/
theorem ACall.bodyW (hT : TblOk P T) {f : FuncId} {fn : Func} {c : Code} {args : List AVal} {G : List AObj} {Q : AVal → List AObj → Prop} (hf : P.funcs[f]? = some fn) (hb : fn.body = some c)
    (hname : (fn.name == "runtime.NumGoroutine") = false)
    (h : AWp P c (retE T fn Q) { s := args ++ List.replicate (fn.ntmps - args.length) .any, L := [], G := G }) : ACall P f args G Q := by
  refine ⟨⟨fn, hf, by rw [hb]; rfl, hname⟩, fun e w cargs hl H hA => ?_⟩
  refine calls_of_wp hf hb ?_
  have S : SRel e { s := args ++ List.replicate (fn.ntmps - args.length) .any, L := [], G := G } { tmps := cargs ++ Array.replicate (fn.ntmps - cargs.size) undef, defers := [] } w := by
    refine ⟨rfl, by simp [hA.1], fun t x v hx hv => ?_, H⟩
    by_cases ht : t < args.length
    · rw [List.getElem?_append_left ht] at hx
      rw [Array.getElem?_append_left (by rw [hA.1]; exact ht)] at hv
      exact hA.2 t x v hx hv
    · rw [List.getElem?_append_right (by omega)] at hx
      have := List.mem_replicate.1 (List.mem_of_getElem? hx)
      rw [this.2]; exact .any
  refine wp_mono (h e _ w S) fun x a' w' ⟨hx, e', σ', h1, h2, h3⟩ => ?_
  have key : retA T fn Q σ' → a'.defers = [] ∧ ∃ v, (results fn a'.tmps).run P w' = .ok v w' ∧ Ret e G w Q (.returned v) w' := fun hr => by
    unfold retA at hr
    split at hr
    case h_2 => exact hr.elim
    rename_i xs hxs
    obtain ⟨vs, k1, k2, k3⟩ := resA_ok hT h2 hxs
    obtain ⟨e1, S1, m1, E1⟩ := frzAll_ok xs h2
    generalize hσ1 : frzAll σ' xs = σ1 at *
    have hrel : ∀ (k : Nat) (x : AVal) (v : Value), (xs.map (dataV σ1))[k]? = some x → vs[k]? = some v → VRel e1.drop (obj [] σ1.G) x v := fun k x v hx hv => by
      have hg := globs_at hr.1 hx
      rw [List.getElem?_map] at hx
      cases hq : xs[k]? with
      | none => rw [hq] at hx; simp at hx
      | some q =>
        rw [hq] at hx; simp only [Option.map_some, Option.some.injEq] at hx; subst hx
        exact VRel.gmono (gmono_same (e := e1) (e' := e1.drop) rfl rfl) (dataV_ok ((k3 k q v hq hv).mono m1)) hg
    have hEv : Evo e [] G w e1.drop [] σ1.G w' := by
      have E2 := h3.trans E1
      exact ⟨E2.os, E2.tape, E2.output, E2.size, E2.old, fun b hb' hlt => E2.has b (has_drop hb') hlt, ⟨E2.m.h, E2.m.p⟩⟩
    refine ⟨h2.d, oneVal vs, ?_, ?_⟩
    · simp only [results, Array.mapM_eq_mapM_toList, Sem.run_bind, Sem.run_map]
      erw [k1]
      rfl
    · refine ⟨e1.drop, σ1.G, _, _, rfl, rfl, S1.h.drop, ?_, ?_, hEv, hr.2⟩
      · generalize hys : xs.map (dataV σ1) = ys at hrel
        have hyl : ys.length = vs.length := by rw [← hys]; simpa using k2
        match ys, vs, hyl, hrel with
        | [], [], _, _ => exact .tup rfl (by simp)
        | [y], [v], _, hrel => exact hrel 0 y v rfl rfl
        | y1 :: y2 :: ys, v1 :: v2 :: vs, hyl, hrel =>
          have : oneVal (v1 :: v2 :: vs) = .tuple (v1 :: v2 :: vs).toArray := by
            unfold oneVal; rw [dif_neg (by simp)]
          rw [this]
          exact .tup (by simpa using hyl.symm) (fun k x v hx hv => hrel k x v hx (by simpa using hv))
      · have hg := hr.1
        generalize xs.map (dataV σ1) = ys at hg
        match ys, hg with
        | [], _ => rfl
        | [y], hg => simpa [AVal.glob.globs, oneOrTup] using hg
        | y1 :: y2 :: ys, hg => exact hg
  cases x with
  | normal => exact key h1
  | ret => exact key h1
  | exit id => exact h1.elim
  | goto l => exact hx.elim
  | panic ch => exact hx.elim
  | outgrown => exact hx.elim

theorem ACall.body (hT : TblOk P T) {f : FuncId} {fn : Func} {c : Code} {args : List AVal} {G : List AObj} {Q : AVal → List AObj → Prop} (hf : P.funcs[f]? = some fn) (hb : fn.body = some c)
    (hname : (fn.name == "runtime.NumGoroutine") = false)
    (h : ex P T c (retE T fn Q) { s := args ++ List.replicate (fn.ntmps - args.length) .any, L := [], G := G }) : ACall P f args G Q := ACall.bodyW hT hf hb hname (ex_ok hT c h)

end
end Go.Am

/- Steps of an evaluation. -/
set_option linter.unusedVariables false
set_option linter.unusedSimpArgs false
namespace Go.Am
section
variable {P : Program} {T : Tbl} {σ σ' : St} {Q : Exit → St → Prop} {K : St → Prop}

theorem ex_seq {a b : Code} (h : ex P T a (thenA (ex P T b Q) Q) σ) : ex P T (.seq a b) Q σ := h
theorem ex_skip (h : Q .normal σ) : ex P T .skip Q σ := h
theorem ex_ret (h : Q .ret σ) : ex P T .ret Q σ := h
theorem ex_exit {id : Nat} (h : Q (.exit id) σ) : ex P T (.exit id) Q σ := h
theorem ex_block {id : Nat} {c : Code} (h : ex P T c (inBlockA id Q) σ) : ex P T (.block id c) Q σ := h
theorem ex_loop {c : Code} (h : AWp P (.loop c) Q σ) : ex P T (.loop c) Q σ := h
theorem ex_region {id : Nat} {ops : Array Oper} {l : List Nat} (hl : List.range ops.size = l) (h : exOps P T ops (Q .normal) l σ) : ex P T (.region id ops false) Q σ := by subst hl; exact h
theorem ex_regionK {id : Nat} {ops : Array Oper} {l : List Nat} (hl : List.range ops.size = l) (h : ∀ K : St → Prop, (∀ σ, Q .normal σ → K σ) → exOps P T ops K l σ) : ex P T (.region id ops false) Q σ := by
  subst hl; exact h _ fun _ h => h
theorem ex_drawn {id : Nat} {ops : Array Oper} (h : AReg P ops id (Q .normal) σ) : ex P T (.region id ops true) Q σ := h
theorem ex_cond {c : Operand} {a b : Code} {t : Bool} (hc : σ.ev c = .d (.v (.bool t))) (ht : t = true → ex P T a Q σ) (hf : t = false → ex P T b Q σ) : ex P T (.cond c a b) Q σ := by
  unfold ex
  rw [hc]
  cases t with
  | true => exact ht rfl
  | false => exact hf rfl
theorem thenA_normal (h : K σ) : thenA K Q .normal σ := h
theorem thenA_ret (h : Q .ret σ) : thenA K Q .ret σ := h
theorem thenA_exit {id : Nat} (h : Q (.exit id) σ) : thenA K Q (.exit id) σ := h
theorem inBlockA_normal {id : Nat} (h : Q .normal σ) : inBlockA id Q .normal σ := h
theorem inBlockA_ret {id : Nat} (h : Q .ret σ) : inBlockA id Q .ret σ := h
theorem inBlockA_exit {id : Nat} (h : Q .normal σ) : inBlockA id Q (.exit id) σ := by
  show (if id = id then Q .normal σ else Q (.exit id) σ)
  rw [if_pos rfl]; exact h
theorem inBlockA_pass {id id' : Nat} (hne : id' ≠ id) (h : Q (.exit id') σ) : inBlockA id Q (.exit id') σ := by
  show (if id' = id then Q .normal σ else Q (.exit id') σ)
  rw [if_neg hne]; exact h
theorem retE_ret {fn : Func} {R : AVal → List AObj → Prop} (h : retA T fn R σ) : retE T fn R .ret σ := h
theorem retE_normal {fn : Func} {R : AVal → List AObj → Prop} (h : retA T fn R σ) : retE T fn R .normal σ := h

theorem exOps_nil {ops : Array Oper} (h : K σ) : exOps P T ops K [] σ := h

theorem exOps_op {ops : Array Oper} {i : Nat} {rest : List Nat} {o : Oper} {r : AVal × List AObj × List AObj} (ho : ops[i]? = some o) (hg : wantA σ ops o = some true)
    (hc : callOf σ o.op = none) (hx : nextOf σ o.op = none) (hs : stepA T σ o.op = some r) (hn : σ.next o.dst r = σ') (h : exOps P T ops K rest σ') : exOps P T ops K (i :: rest) σ := by
  unfold exOps
  simp only [ho, hg]
  unfold exOp
  simp only [hc, hx, hs]
  rw [hn]; exact h

theorem exOps_off {ops : Array Oper} {i : Nat} {rest : List Nat} {o : Oper} (ho : ops[i]? = some o) (hg : wantA σ ops o = some false)
    (hn : σ.put o.dst (.tup []) = σ') (h : exOps P T ops K rest σ') : exOps P T ops K (i :: rest) σ := by
  unfold exOps
  simp only [ho, hg]
  rw [hn]; exact h

theorem exOps_call {ops : Array Oper} {i : Nat} {rest : List Nat} {o : Oper} {f : FuncId} {args args' : List AVal} {R : AVal → List AObj → Prop} (ho : ops[i]? = some o) (hg : wantA σ ops o = some true)
    (hc : callOf σ o.op = some (f, args)) (hf : frzAll σ args = σ') (ha : args.map (dataV σ') = args') (hgl : AVal.glob.globs args' = true)
    (hA : ACall P f args' σ'.G R) (h : ∀ r G', R r G' → exOps P T ops K rest (σ'.next o.dst (r, σ'.L, G'))) : exOps P T ops K (i :: rest) σ := by
  unfold exOps
  simp only [ho, hg]
  unfold exOp
  simp only [hc]
  subst hf
  subst ha
  exact ⟨hgl, R, hA, h⟩

theorem retA_of {fn : Func} {R : AVal → List AObj → Prop} {xs ys : List AVal} (hx : resA T σ fn.results.toList = some xs) (hf : frzAll σ xs = σ') (hy : xs.map (dataV σ') = ys)
    (hg : AVal.glob.globs ys = true) (h : R (oneOrTup ys) σ'.G) : retA T fn R σ := by
  unfold retA
  simp only [hx]
  subst hf; subst hy
  exact ⟨hg, h⟩


/-! ### Running up to the next call -/
def callK (P : Program) (dst : Option Nat) (K : St → Prop) (f : FuncId) (args : List AVal) (σ : St) : Prop :=
  AVal.glob.globs (args.map (dataV (frzAll σ args))) = true ∧
    ∃ Q, ACall P f (args.map (dataV (frzAll σ args))) (frzAll σ args).G Q ∧ ∀ r G', Q r G' → K ((frzAll σ args).next dst (r, (frzAll σ args).L, G'))

def runK (P : Program) (T : Tbl) (ops : Array Oper) (K : St → Prop) : List Nat → St → Prop
  | [], σ => K σ
  | i :: rest, σ => match ops[i]? with
    | none => runK P T ops K rest σ
    | some o => match wantA σ ops o with
      | some true => match callOf σ o.op with
        | some (f, args) => callK P o.dst (runK P T ops K rest) f args σ
        | none => match nextOf σ o.op with
          | some l => ∀ r ∈ l, runK P T ops K rest (σ.next o.dst r)
          | none => match stepA T σ o.op with
            | some r => runK P T ops K rest (σ.next o.dst r)
            | none => False
      | some false => runK P T ops K rest (σ.put o.dst (.tup []))
      | none => False

theorem runK_ok {ops : Array Oper} : ∀ {l : List Nat} {σ : St}, runK P T ops K l σ → exOps P T ops K l σ
  | [], σ, h => h
  | i :: rest, σ, h => by
    unfold runK at h
    unfold exOps
    split at h
    · rename_i ho; (try simp only [ho]); exact runK_ok h
    · rename_i o ho
      try simp only [ho]
      split at h
      · rename_i hw
        try simp only [hw]
        unfold exOp
        split at h
        · rename_i f args hc
          try simp only [hc]
          obtain ⟨h1, R, h2, h3⟩ := h
          exact ⟨h1, R, h2, fun r G' hr => runK_ok (h3 r G' hr)⟩
        · rename_i hc
          try simp only [hc]
          split at h
          · rename_i l hl; (try simp only [hl]); exact fun r hr => runK_ok (h r hr)
          · rename_i hl
            try simp only [hl]
            split at h
            · rename_i r hr; (try simp only [hr]); exact runK_ok h
            · exact h.elim
      · rename_i hw; (try simp only [hw]); exact runK_ok h
      · exact h.elim

theorem ex_run {id : Nat} {ops : Array Oper} (h : ∀ K : St → Prop, (∀ σ, Q .normal σ → K σ) → runK P T ops K (List.range ops.size) σ) : ex P T (.region id ops false) Q σ :=
  runK_ok (h _ fun _ h => h)

/-- A call whose contract says what comes back, and that what came in stays. -/
theorem callK_pure {dst : Option Nat} {f : FuncId} {args args' : List AVal} {v : AVal} {σ1 : St} (hA : ACall P f args' σ1.G fun r G' => r = v ∧ G' = σ1.G) (hf : frzAll σ args = σ1)
    (ha : args.map (dataV σ1) = args') (hg : AVal.glob.globs args' = true) (h : K (σ1.next dst (v, σ1.L, σ1.G))) : callK P dst K f args σ := by
  subst hf; subst ha
  exact ⟨hg, _, hA, fun r G' ⟨h1, h2⟩ => by subst h1; subst h2; exact h⟩

theorem callK_any {dst : Option Nat} {f : FuncId} {args args' : List AVal} {R : AVal → List AObj → Prop} {σ1 : St} (hA : ACall P f args' σ1.G R) (hf : frzAll σ args = σ1)
    (ha : args.map (dataV σ1) = args') (hg : AVal.glob.globs args' = true) (h : ∀ r G', R r G' → K (σ1.next dst (r, σ1.L, G'))) : callK P dst K f args σ := by
  subst hf; subst ha
  exact ⟨hg, _, hA, h⟩

end
end Go.Am
