/- Part 2 of the proof: lemmas on an abstract reading of the machine, and the functions that the law reaches. -/
import Derived.OrdersHeld
import Derived.Laws.BitsLemmas
import Derived.Test.YtbglgpplnapceaaProg
import Derived.KernelRfl
import Derived.Test.YtbglgpplnapceaaA1
/- Weaker states: slots forgotten, objects dropped; a nil that grows. -/
set_option linter.unusedVariables false
set_option linter.unusedSimpArgs false
namespace Go.Am

/-- All own objects that a value names stand ahead of n. -/
def AVal.under (n : Nat) : AVal → Bool
  | .p (.l i) _ => decide (i < n)
  | .clo _ f c => unders n f && unders n c
  | .agg cs => unders n cs
  | .tup cs => unders n cs
  | _ => true
where unders (n : Nat) : List AVal → Bool
  | [] => true
  | x :: xs => x.under n && unders n xs

theorem belows_at {n : Nat} : ∀ {l : List AVal} {k : Nat} {x : AVal}, AVal.under.unders n l = true → l[k]? = some x → x.under n = true
  | y :: ys, 0, x, h, hx => by simp [AVal.under.unders] at h hx; rw [← hx]; exact h.1
  | y :: ys, k + 1, x, h, hx => by
    simp only [AVal.under.unders, Bool.and_eq_true] at h
    exact belows_at h.2 (by simpa using hx)

def AObj.underO (n : Nat) : AObj → Bool
  | .cells cs => AVal.under.unders n cs
  | .map es _ => AVal.under.unders n (es.map (·.v))
  | .iter m _ _ _ => m.under n
  | _ => true

theorem VRel.under {e e' : Env} {ob ob' : Loc → Option AObj} {n : Nat} (hh : e.h.le e'.h) (hg : ∀ i k v, PRel e.h (e.blk (.g i)) (ob (.g i)) k v → PRel e'.h (e'.blk (.g i)) (ob' (.g i)) k v)
    (hl : ∀ i k v, i < n → PRel e.h (e.blk (.l i)) (ob (.l i)) k v → PRel e'.h (e'.blk (.l i)) (ob' (.l i)) k v) {x : AVal} {v : Value} (r : VRel e ob x v) (hb : x.under n = true) : VRel e' ob' x v := by
  induction r with
  | any => exact .any
  | nils => exact .nils
  | d r => exact .d (r.mono hh)
  | clip r => exact .clip (r.mono hh)
  | @p p k v r =>
    cases p with
    | l i => exact .p (hl i k v (by simpa [AVal.under] using hb) r)
    | g i => exact .p (hg i k v r)
  | elem cs hc hr => exact .elem cs (fun k hk => hh.cell (hc k hk)) (fun k x hx => (hr k x hx).mono hh)
  | clo h1 h2 _ _ ih1 ih2 =>
    simp only [AVal.under, Bool.and_eq_true] at hb
    exact .clo h1 h2 (fun k x v hx hv => ih1 k x v hx hv (belows_at hb.1 hx)) (fun k x v hx hv => ih2 k x v hx hv (belows_at hb.2 hx))
  | agg h1 _ ih => simp only [AVal.under] at hb; exact .agg h1 (fun k x v hx hv => ih k x v hx hv (belows_at hb hx))
  | tup h1 _ ih => simp only [AVal.under] at hb; exact .tup h1 (fun k x v hx hv => ih k x v hx hv (belows_at hb hx))

theorem ORel.under {e e' : Env} {ob ob' : Loc → Option AObj} {w : World} {n : Nat} {blk : Option (Nat × Nat)} {x : AObj} (hh : e.h.le e'.h) (hg : ∀ i k v, PRel e.h (e.blk (.g i)) (ob (.g i)) k v → PRel e'.h (e'.blk (.g i)) (ob' (.g i)) k v)
    (hl : ∀ i k v, i < n → PRel e.h (e.blk (.l i)) (ob (.l i)) k v → PRel e'.h (e'.blk (.l i)) (ob' (.l i)) k v) (hb : x.underO n = true) (r : ORel e ob w blk x) : ORel e' ob' w blk x := by
  cases x with
  | dead => trivial
  | frz => trivial
  | cells cs =>
    obtain ⟨b, c, vs, t, hb', hw, hs, hr⟩ := r
    exact ⟨b, c, vs, t, hb', hw, hs, fun k x v hx hv => ⟨(hr k x v hx hv).1.under hh hg hl (belows_at hb hx), (hr k x v hx hv).2⟩⟩
  | arr size g rows =>
    cases blk with
    | none => exact r
    | some bc =>
      obtain ⟨b, cap⟩ := bc
      obtain ⟨vs, t, hw, hs, hl', hm, hr1, hr2⟩ := r
      refine ⟨vs, t, hw, hs, hl', hm, hr1, fun j r k d hj hk => ?_⟩
      obtain ⟨x, hx, hd⟩ := hr2 j r k d hj hk
      exact ⟨x, hx, hd.mono hh⟩
  | map es =>
    obtain ⟨b, c, ens, hb', hw, hs, hr⟩ := r
    exact ⟨b, c, ens, hb', hw, hs, fun i kv en hx hv => ⟨(hr i kv en hx hv).1, (hr i kv en hx hv).2.1.under hh hg hl (belows_at (k := i) hb (by rw [List.getElem?_map, hx]; rfl)), (hr i kv en hx hv).2.2⟩⟩
  | iter mm since seen last =>
    obtain ⟨b, c, mv, sn, hb', hw, hs, hr⟩ := r
    exact ⟨b, c, mv, sn, hb', hw, hs, hr.under hh hg hl hb⟩

/-- Is a slot the same, or forgotten? Is an object the same, or dead? -/
def slotsWeak : List AVal → List AVal → Prop
  | [], [] => True
  | x :: xs, y :: ys => (y = .any ∨ x = y) ∧ slotsWeak xs ys
  | _, _ => False

def objsWeak : List AObj → List AObj → Prop
  | _, [] => True
  | x :: xs, y :: ys => (y = .dead ∨ x = y) ∧ objsWeak xs ys
  | [], _ :: _ => False

theorem slotsWeak_at : ∀ {l m : List AVal}, slotsWeak l m → l.length = m.length ∧ ∀ (k : Nat) (y : AVal), m[k]? = some y → y = .any ∨ l[k]? = some y
  | [], [], _ => ⟨rfl, by simp⟩
  | x :: xs, y :: ys, h => by
    have ih := slotsWeak_at h.2
    refine ⟨by simp [ih.1], fun k z hz => ?_⟩
    cases k with
    | zero => simp at hz ⊢; subst hz; exact h.1
    | succ k => simpa using ih.2 k z (by simpa using hz)

theorem objsWeak_at : ∀ {l m : List AObj}, objsWeak l m → m.length ≤ l.length ∧ ∀ (k : Nat) (y : AObj), m[k]? = some y → y = .dead ∨ l[k]? = some y
  | l, [], _ => ⟨by simp, by simp⟩
  | x :: xs, y :: ys, h => by
    have ih := objsWeak_at h.2
    refine ⟨by simp [ih.1], fun k z hz => ?_⟩
    cases k with
    | zero => simp at hz ⊢; subst hz; exact h.1
    | succ k => simpa using ih.2 k z (by simpa using hz)

def objsBelow (n : Nat) : List AObj → Bool
  | [] => true
  | x :: xs => x.underO n && objsBelow n xs

theorem objsBelow_at {n : Nat} : ∀ {l : List AObj} {k : Nat} {x : AObj}, objsBelow n l = true → l[k]? = some x → x.underO n = true
  | y :: ys, 0, x, h, hx => by simp [objsBelow] at h hx; rw [← hx]; exact h.1
  | y :: ys, k + 1, x, h, hx => by
    simp only [objsBelow, Bool.and_eq_true] at h
    exact objsBelow_at h.2 (by simpa using hx)

theorem Weak.of {s s' : List AVal} {L L' G : List AObj} (hs : slotsWeak s s') (hL : objsWeak L L') (hb : AVal.under.unders L'.length s' = true) (ho : objsBelow L'.length L' = true) :
    Weak { s := s, L := L, G := G } { s := s', L := L', G := G } := by
  intro e a w S
  have h1 := slotsWeak_at hs
  have h2 := objsWeak_at hL
  let e' : Env := ⟨e.h, e.lb.take L'.length, e.gb⟩
  have hll := S.h.ll
  simp only at hll
  have hblk : ∀ i, i < L'.length → e'.blk (.l i) = e.blk (.l i) := fun i hi => by simp [Env.blk, e', List.getElem?_take_of_lt hi]
  have hg : ∀ i k v, PRel e.h (e.blk (.g i)) (obj L G (.g i)) k v → PRel e'.h (e'.blk (.g i)) (obj L' G (.g i)) k v := fun i k v r => r
  have hl : ∀ i k v, i < L'.length → PRel e.h (e.blk (.l i)) (obj L G (.l i)) k v → PRel e'.h (e'.blk (.l i)) (obj L' G (.l i)) k v := fun i k v hi r => by
    rw [hblk i hi]
    have hy := List.getElem?_eq_getElem hi
    rcases h2.2 i _ hy with h' | h'
    · simp only [obj, hy, h']; exact r.oneCell
    · simp only [obj, hy]
      simp only [obj, h'] at r
      exact r
  have hobj : ∀ p x, obj L' G p = some x → x = .dead ∨ (obj L G p = some x ∧ e'.blk p = e.blk p) := fun p x hx => by
    cases p with
    | l i =>
      have hi := (List.getElem?_eq_some_iff.1 hx).1
      rcases h2.2 i x hx with h' | h'
      · exact .inl h'
      · exact .inr ⟨h', hblk i hi⟩
    | g i => exact .inr ⟨hx, rfl⟩
  refine ⟨e', ⟨S.d, by rw [S.sz]; exact h1.1, fun t x v hx hv => ?_, ⟨S.h.hin, by simp [e']; omega, S.h.gl, fun p x hx => ?_, fun p x b c hx hlv hbk => ?_, fun p q x y b c d k1 k2 k3 k4 k5 k6 => ?_, S.h.gg⟩⟩, ?_⟩
  · rcases h1.2 t x hx with h' | h'
    · rw [h']; exact .any
    · exact VRel.under (e := e) (e' := e') (ob := obj L G) (ob' := obj L' G) (.refl _) hg hl (S.s t x v h' hv) (belows_at hb hx)
  · rcases hobj p x hx with h' | ⟨h', hbk⟩
    · rw [h']; trivial
    · rw [hbk]
      cases p with
      | l i => exact ORel.under (e := e) (e' := e') (ob := obj L G) (ob' := obj L' G) (.refl _) hg hl (objsBelow_at ho hx) (S.h.o (.l i) x h')
      | g i => exact ORel.glob (e := e) (e' := e') (L := L) (G := G) (L' := L') (G' := G) (S.h.gg x (List.mem_of_getElem? hx)) (gmono_same (e := e) (e' := e') rfl rfl) (fun _ _ _ _ => rfl) (S.h.o (.g i) x h')
  · rcases hobj p x hx with h' | ⟨h', hbk'⟩
    · rw [h'] at hlv; cases hlv
    · rw [hbk'] at hbk; exact S.h.free p x b c h' hlv hbk
  · rcases hobj p x k1 with h' | ⟨h', hbk'⟩
    · rw [h'] at k3; cases k3
    · rcases hobj q y k2 with h'' | ⟨h'', hbk''⟩
      · rw [h''] at k4; cases k4
      · rw [hbk'] at k5; rw [hbk''] at k6; exact S.h.inj p q x y b c d h' h'' k3 k4 k5 k6
  · refine ⟨rfl, rfl, rfl, Nat.le_refl _, fun _ _ _ => ⟨rfl, rfl⟩, fun b hb' _ => ?_, ⟨.refl _, fun i k v r => r⟩⟩
    obtain ⟨p, x, c, k1, k2, k3⟩ := hb'
    rcases hobj p x k1 with h' | ⟨h', hbk'⟩
    · rw [h'] at k2; cases k2
    · rw [hbk'] at k3; exact ⟨p, x, c, h', k2, k3⟩

theorem Weak.trans {a b c : St} (h : Weak a b) (k : Weak b c) : Weak a c := fun e act w S => by
  obtain ⟨e1, S1, E1⟩ := h e act w S
  obtain ⟨e2, S2, E2⟩ := k e1 act w S1
  exact ⟨e2, S2, E1.trans E2⟩

/-! ### A nil that grows: an own row that has no block yet -/
theorem hrel_nil {e : Env} {L G : List AObj} {w : World} (H : HRel e L G w) (size : Nat) :
    HRel ⟨e.h, e.lb ++ [none], e.gb⟩ (L ++ [.arr size 0 []]) G w ∧ EMono e ⟨e.h, e.lb ++ [none], e.gb⟩ (obj L G) (obj (L ++ [.arr size 0 []]) G) ∧
      Evo e L G w ⟨e.h, e.lb ++ [none], e.gb⟩ (L ++ [.arr size 0 []]) G w := by
  have hb := @blk_append_l e L.length H.ll none
  have ho := @obj_append_l L G (.arr size 0 [])
  have m : EMono e ⟨e.h, e.lb ++ [none], e.gb⟩ (obj L G) (obj (L ++ [.arr size 0 []]) G) := ⟨.refl _, fun p k v r => by
    cases hp : obj L G p with
    | none => rw [hp] at r; simp [PRel] at r
    | some y => rw [ho, hb, if_neg (obj_l_lt hp), if_neg (obj_l_lt hp)]; exact r⟩
  refine ⟨hrel_upd H m H.hin (by simp [H.ll]) H.gl (fun p y hy => ?_) (fun p y b d hy hlv hbd => ?_) (fun p q y z b d d' h1 h2 h3 h4 h5 h6 => ?_) H.gg, m, ?_⟩
  · rw [ho] at hy
    by_cases hp : p = .l L.length
    · rw [if_pos hp] at hy; cases hy
      right; rw [hb, if_pos hp]; rfl
    · rw [if_neg hp] at hy; exact .inl ⟨hy, by rw [hb, if_neg hp], fun _ _ _ _ => rfl⟩
  · rw [ho] at hy; rw [hb] at hbd
    by_cases hp : p = .l L.length
    · rw [if_pos hp] at hbd; cases hbd
    · rw [if_neg hp] at hy hbd; exact H.free p y b d hy hlv hbd
  · rw [ho] at h1 h2; rw [hb] at h5 h6
    by_cases hp : p = .l L.length
    · rw [if_pos hp] at h5; cases h5
    · by_cases hq : q = .l L.length
      · rw [if_pos hq] at h6; cases h6
      · rw [if_neg hp] at h1 h5; rw [if_neg hq] at h2 h6; exact H.inj p q y z b d d' h1 h2 h3 h4 h5 h6
  · refine ⟨rfl, rfl, rfl, Nat.le_refl _, fun _ _ _ => ⟨rfl, rfl⟩, fun b h _ => ?_, ⟨.refl _, fun i k v r => r⟩⟩
    obtain ⟨p, y, d, h1, h2, h3⟩ := h
    rw [ho] at h1; rw [hb] at h3
    by_cases hp : p = .l L.length
    · rw [if_pos hp] at h3; cases h3
    · rw [if_neg hp] at h1 h3; exact ⟨p, y, d, h1, h2, h3⟩

theorem VRel.nils_inv {e : Env} {ob : Loc → Option AObj} {v : Value} (r : VRel e ob .nils v) : v = .slice none 0 0 := by cases r; rfl

theorem vrel_ownNil {e : Env} {L G : List AObj} {w : World} {size : Nat} (H : HRel e L G w) : VRel ⟨e.h, e.lb ++ [none], e.gb⟩ (obj (L ++ [.arr size 0 []]) G) (.p (.l L.length) (.own 0)) (.slice none 0 0) := by
  refine .p ?_
  have ho := @obj_append_l L G (.arr size 0 []) (.l L.length)
  have hb := @blk_append_l e L.length H.ll none (.l L.length)
  rw [if_pos rfl] at ho hb
  simp only [PRel, ho]
  exact ⟨rfl, Nat.le_refl _, fun _ => by rw [hb]; rfl⟩

/-- A slot's nil. -/
theorem Weak.nilSlot {s : List AVal} {L G : List AObj} (t size : Nat) (h : s[t]? = some .nils) :
    Weak { s := s, L := L, G := G } { s := s.set t (.p (.l L.length) (.own 0)), L := L ++ [.arr size 0 []], G := G } := fun e a w S => by
  obtain ⟨h1, h2, h3⟩ := hrel_nil S.h size
  refine ⟨_, ⟨S.d, by simp [S.sz], fun u x v hx hv => ?_, h1⟩, h3⟩
  by_cases hu : u = t
  · subst hu
    rw [List.getElem?_set_self (List.getElem?_eq_some_iff.1 h).1] at hx
    cases hx
    have := (S.s u _ v h hv).nils_inv
    rw [this]; exact vrel_ownNil S.h
  · rw [List.getElem?_set_ne (by omega)] at hx
    exact (S.s u x v hx hv).mono h2

/-- A variable's cell's nil. -/
theorem Weak.nilCell {s : List AVal} {L G : List AObj} (i k size : Nat) {cs : List AVal} (h : L[i]? = some (.cells cs)) (hk : cs[k]? = some .nils) :
    Weak { s := s, L := L, G := G } { s := s, L := (L.set i (.cells (cs.set k (.p (.l L.length) (.own 0))))) ++ [.arr size 0 []], G := G } := fun e a w S => by
  obtain ⟨h1, h2, h3⟩ := hrel_nil S.h size
  have hi := (List.getElem?_eq_some_iff.1 h).1
  have hp : obj (L ++ [.arr size 0 []]) G (.l i) = some (.cells cs) := by
    rw [obj_append_l, if_neg (by simp; omega)]; exact h
  have hset : (St.setObj (L ++ [.arr size 0 []]) G (.l i) (.cells (cs.set k (.p (.l L.length) (.own 0))))) = ((L.set i (.cells (cs.set k (.p (.l L.length) (.own 0))))) ++ [.arr size 0 []], G) := by
    simp [St.setObj, List.set_append, hi]
  obtain ⟨k1, k2, k3⟩ := hrel_turn h1 hp rfl (x := .cells (cs.set k (.p (.l L.length) (.own 0)))) (fun q v r => by simpa [PRel] using r) (fun m => by
    obtain ⟨b, c, vs, t, hb, hw, hs, hr⟩ := h1.o _ _ hp
    refine ⟨b, c, vs, t, hb, hw, by simpa using hs, fun j x v hx hv => ?_⟩
    by_cases hj : j = k
    · subst hj
      rw [List.getElem?_set_self (List.getElem?_eq_some_iff.1 hk).1] at hx
      cases hx
      have := hr j _ v hk hv
      have hv' := this.1.nils_inv
      subst hv'
      exact ⟨(vrel_ownNil S.h).mono m, rfl⟩
    · rw [List.getElem?_set_ne (by omega)] at hx
      exact ⟨(hr j x v hx hv).1.mono m, (hr j x v hx hv).2⟩) (fun _ hh => by cases hh)
  rw [hset] at k1 k2 k3
  exact ⟨_, ⟨S.d, S.sz, fun u x v hx hv => ((S.s u x v hx hv).mono h2).mono k2, k1⟩, h3.trans k3⟩

end Go.Am

/- Regions whose order is drawn. -/
set_option linter.unusedVariables false
set_option linter.unusedSimpArgs false
namespace Go.Am
section
variable {P : Program} {T : Tbl} {e : Env} {σ : St} {w : World}

/-- Is it an operation that yields the same in whatever world in which what is frozen stays? -/
def dryA (T : Tbl) (σ : St) : Op → Bool
  | .move _ | .assign _ | .pick _ _ _ | .nilCheck _ | .extract _ _ | .indexAddr _ _ _ | .fieldAddr _ _ _ => true
  | .load _ a => match σ.ev a with
    | .elem _ => true
    | _ => false
  | .call { callee := .builtin .len, args := _, argTypes := ts } => match ts.toList with
    | t :: _ => match T t with
      | some te => match te.k with
        | .slice _ => true
        | .string => true
        | _ => false
      | none => false
    | _ => false
  | _ => false

theorem dry_ok (hT : TblOk P T) {a : Act} (S : SRel e σ a w) {o : Oper} {x : AVal} (h : evalV T σ o.op = some x) (hd : dryA T σ o.op = true) :
    ∃ v, (∀ w', e.h.In w' → (execOp a.eval o).run P w' = .ok (.value v) w') ∧ VRel e (obj σ.L σ.G) x v := by
  unfold dryA at hd
  split at hd
  · rename_i y hop
    rw [hop] at h
    simp [evalV] at h; subst h
    exact ⟨a.eval y, fun w' _ => by simp [execOp, hop], ev_rel S y⟩
  · rename_i y hop
    rw [hop] at h
    simp [evalV] at h; subst h
    exact ⟨a.eval y, fun w' _ => by simp [execOp, hop], ev_rel S y⟩
  · rename_i c y z hop
    obtain ⟨v, h1, h2⟩ := evalV_ok hT S h
    refine ⟨v, fun w' _ => ?_, h2⟩
    simp only [execOp, hop, Sem.run_bind] at h1 ⊢
    generalize a.eval c = cv at h1 ⊢
    cases cv <;> simp [asBool] at h1 ⊢
    exact h1
  · rename_i y hop
    rw [hop] at h
    simp only [evalV] at h
    have hy := ev_rel S y
    obtain ⟨he, hv⟩ := nilA_ok hy h
    rw [he] at hy
    refine ⟨a.eval y, fun w' _ => ?_, hy⟩
    rcases hv with ⟨ad, hv⟩ | ⟨f, c, d, hv⟩ <;> simp [execOp, hop, hv]
  · rename_i y i hop
    obtain ⟨v, h1, h2⟩ := evalV_ok hT S h
    refine ⟨v, fun w' _ => ?_, h2⟩
    simp only [execOp, hop, Sem.run_bind] at h1 ⊢
    generalize a.eval y = cv at h1 ⊢
    cases cv <;> simp [Instr.extract] at h1 ⊢
    rename_i vs
    cases hq : vs[i]? with
    | none => rw [hq] at h1; simp at h1
    | some q => rw [hq] at h1; simpa using h1
  · rename_i t y i hop
    rw [hop] at h
    simp only [evalV] at h
    obtain ⟨u, hu, hr⟩ := indexA_ok hT S.h (ev_rel S y) (ev_rel S i) h
    exact ⟨u, fun w' _ => by simp [execOp, hop, hu w'], hr⟩
  · rename_i s y f hop
    rw [hop] at h
    simp only [evalV] at h
    obtain ⟨u, hu, hr⟩ := fieldA_ok hT (ev_rel S y) h
    exact ⟨u, fun w' _ => by simp [execOp, hop, hu w'], hr⟩
  · rename_i t y hop
    rw [hop] at h
    simp only [evalV] at h
    split at hd
    case h_2 => cases hd
    rename_i ds hds
    have hy := ev_rel S y
    rw [hds] at h hy
    unfold loadA at h
    split at h
    · cases h
    rename_i te ht
    simp only at h
    split at h
    case isFalse => cases h
    rename_i hle
    generalize hav : a.eval y = yv at hy
    cases hy with
    | @elem _ ad cs hc hr =>
    have key : ∀ w', e.h.In w' → ∃ u, (loadVar t ad).run P w' = .ok u w' ∧ VRel e (obj σ.L σ.G) x u := fun w' hin =>
      run_loadVar_cells (P := P) hT ht (w := w') (e := e) (ob := obj σ.L σ.G) (a := ad) (by simp; omega) h (fun k z hz => by
        have hk : k < te.size := by have := (List.getElem?_eq_some_iff.1 hz).1; simp at this; omega
        rw [List.getElem?_map, List.getElem?_take_of_lt hk] at hz
        cases hd : ds[k]? with
        | none => rw [hd] at hz; simp at hz
        | some d =>
          rw [hd] at hz; simp at hz; subst hz
          exact ⟨cs k, hin.cell (hc k (by omega)), .d (hr k d hd)⟩)
    have same : ∀ w1 w2, e.h.In w1 → e.h.In w2 → ∀ u, (loadVar t ad).run P w1 = .ok u w1 → (loadVar t ad).run P w2 = .ok u w2 := fun w1 w2 h1 h2 u hu => by
      have hcell : ∀ w, e.h.In w → ∀ j, j < te.size → w.cell? (ad.add j) = some (cs j) := fun w hin j hj => hin.cell (hc j (by omega))
      unfold loadVar at hu ⊢
      simp only [Sem.run_bind, run_isAgg' hT ht, Result.andThen_ok] at hu ⊢
      cases hagg : te.k.agg with
      | true =>
        rw [hagg] at hu
        simp only [if_true, Sem.run_bind, run_sizeOf' hT ht, Result.andThen_ok, run_loadCells _ ad te.size _ (hcell w1 h1), run_loadCells _ ad te.size _ (hcell w2 h2), Sem.run_pure, Result.ok.injEq, and_true] at hu ⊢
        exact hu
      | false =>
        rw [hagg] at hu
        have h1s : 0 < te.size := by
          have := (hT t te ht).one hagg; omega
        have e0 : ad.add 0 = ad := by simp [Addr.add]
        have q1 := hcell w1 h1 0 h1s
        have q2 := hcell w2 h2 0 h1s
        rw [e0] at q1 q2
        simp [q1, q2] at hu ⊢
        exact hu
    obtain ⟨u, hu, hru⟩ := key w S.h.hin
    exact ⟨u, fun w' hin => by simp [execOp, hop, hav, Instr.loadAt, Instr.sureAddr, same w w' S.h.hin hin u hu], hru⟩
  · rename_i args ts hop
    rw [hop] at h
    simp only [evalV] at h
    split at h
    case h_2 => cases h
    rename_i y t rest hargs hts
    cases hn : lenA T σ t (σ.ev y) with
    | none => rw [hn] at h; simp at h
    | some n =>
      rw [hn] at h; simp at h; subst h
      have h1 : args = #[y] := by apply Array.ext'; simpa using hargs
      have h2 : ts[0]? = some t := by rw [← Array.getElem?_toList, hts]; rfl
      have hl := lenA_ok (ty := o.type) hT S.h h2 (ev_rel S y) hn
      refine ⟨.int .i64 n, fun w' _ => ?_, .d (.v rfl)⟩
      have hl' : (Builtin.len_ ts o.type #[a.eval y]).run P w' = .ok (.int .i64 n) w' := by
        rw [hts] at hd
        simp only at hd
        cases hte : T t with
        | none => rw [hte] at hd; simp at hd
        | some te =>
          obtain ⟨d, hdd, hfit⟩ := (hT t te hte).u
          rw [hte] at hd
          simp only at hd
          split at hd
          · rename_i el hk
            rw [hk] at hfit
            cases d <;> simp only [descFits] at hfit <;> try exact hfit.elim
            generalize a.eval y = yv at hl ⊢
            simp only [Builtin.len_] at hl ⊢
            cases yv <;> simp [h2, run_underlying hdd] at hl ⊢
            exact hl
          · rename_i hk
            rw [hk] at hfit
            cases d <;> simp only [descFits] at hfit <;> try exact hfit.elim
            generalize a.eval y = yv at hl ⊢
            simp only [Builtin.len_] at hl ⊢
            cases yv <;> simp [h2, run_underlying hdd] at hl ⊢
            exact hl
          · cases hd
      simp [execOp, hop, resolve, invoke, builtin, h1, hl']
  · cases hd

/-! ### Any order -/
theorem held_weaker {ops : Array Oper} {Q : Exit → Act → World → Prop} {S S' : World → Prop} (hS : ∀ w, S' w → S w) :
    ∀ (fuel : Nat) (listed : Array Bool) (a : Act) (w : World), wpAnyH P .any ops Q S' fuel listed a w → wpAnyH P .any ops Q S fuel listed a w
  | 0, _, _, _, h => h
  | fuel + 1, listed, a, w, h => ⟨h.1, fun i hi => wpOp_mono (fun a w h' => ⟨hS _ h'.1, held_weaker hS fuel _ _ _ h'.2⟩) (h.2 i hi)⟩

def AAny (P : Program) (ops : Array Oper) (K : St → Prop) (fuel : Nat) (listed : Array Bool) (σ : St) : Prop :=
  ∀ Q : Exit → Act → World → Prop, (∀ c a w, ¬ Q (.panic c) a w) → ∀ e a w, SRel e σ a w → (∀ a' w', Post K e σ w a' w' → Q .normal a' w') → wpAnyH P .any ops Q e.h.In fuel listed a w

variable {ops : Array Oper} {K : St → Prop} {fuel : Nat} {listed : Array Bool}

theorem AAny.done (hr : Region.ready .any ops listed = []) (h : K σ) : AAny P ops K fuel listed σ := fun Q _ e a w S hQ =>
  wpAnyH_done hr (hQ a w ⟨e, σ, h, S, .refl _ _ _ _⟩) fuel

theorem AAny.take (hT : TblOk P T) {i : Nat} {o : Oper} {x : AVal} (hi : ops[i]? = some o) (hs : Region.noSelect ops = true) (hf : Region.free .any ops listed i = true)
    (hr : (Region.ready .any ops listed).contains i = true) (hw : wantA σ ops o = some true) (hd : dryA T σ o.op = true) (hx : evalV T σ o.op = some x)
    (h : AAny P ops K fuel (listed.setIfInBounds i true) (σ.put o.dst x)) : AAny P ops K (fuel + 1) listed σ := fun Q hp e a w S hQ => by
  obtain ⟨v, h1, h2⟩ := dry_ok hT S hx hd
  have S' : SRel e (σ.put o.dst x) (a.put o.dst v) w := by
    have := S.put (x := x) (v := v) S.h (.refl _ _) h2 o.dst
    exact this
  refine wpAnyH_take hi hs hf hr (fun c a w hh => absurd hh (hp c _ _)) (.inl ⟨wantA_ok S hw, h1⟩) S.h.hin (h Q hp e _ w S' fun a' w' hpost => hQ a' w' ?_)
  obtain ⟨e', σ', k1, k2, k3⟩ := hpost
  rw [put_L, put_G] at k3
  exact ⟨e', σ', k1, k2, k3⟩

theorem AAny.off {i : Nat} {o : Oper} (hi : ops[i]? = some o) (hs : Region.noSelect ops = true) (hf : Region.free .any ops listed i = true)
    (hr : (Region.ready .any ops listed).contains i = true) (hw : wantA σ ops o = some false)
    (h : AAny P ops K fuel (listed.setIfInBounds i true) (σ.put o.dst (.tup []))) : AAny P ops K (fuel + 1) listed σ := fun Q hp e a w S hQ => by
  refine wpAnyH_take hi hs hf hr (fun c a w hh => absurd hh (hp c _ _)) (.inr ⟨wantA_ok S hw, rfl⟩) S.h.hin (h Q hp e _ w (S.skip o.dst) fun a' w' hpost => hQ a' w' ?_)
  obtain ⟨e', σ', k1, k2, k3⟩ := hpost
  rw [put_L, put_G] at k3
  exact ⟨e', σ', k1, k2, k3⟩

theorem AAny.all (hT : TblOk P T) {rs : List Nat} (hr : Region.ready .any ops listed = rs) (hne : rs ≠ [])
    (h : ∀ i ∈ rs, exOps P T ops (AAny P ops K fuel (listed.setIfInBounds i true)) [i] σ) : AAny P ops K (fuel + 1) listed σ := fun Q hp e a w S hQ => by
  refine wpAnyH_all hr hne fun i hi => ?_
  have hh := h i hi
  have fin : ∀ a' w', Post (AAny P ops K fuel (listed.setIfInBounds i true)) e σ w a' w' → e.h.In w' ∧ wpAnyH P .any ops Q e.h.In fuel (listed.setIfInBounds i true) a' w' := fun a' w' hpost => by
    obtain ⟨e', σ', k1, k2, k3⟩ := hpost
    have hle : ∀ w, e'.h.In w → e.h.In w := fun w hin b o hb => hin b o (k3.m.h b o hb)
    exact ⟨hle _ k2.h.hin, held_weaker hle _ _ _ _ (k1 Q hp e' a' w' k2 fun a2 w2 hp2 => hQ a2 w2 (hp2.trans k3))⟩
  unfold exOps at hh
  unfold wpOp
  split at hh
  · rename_i ho
    simp only [ho]
    exact fin a w ⟨e, σ, hh, S, .refl _ _ _ _⟩
  · rename_i o ho
    simp only [ho]
    split at hh
    · rename_i hw
      rw [wantA_ok S hw]
      simp only [if_true]
      exact .inl (Oper.wp_mono fin (exOp_ok hT S hh (Q := Q)))
    · rename_i hw
      rw [wantA_ok S hw]
      simp only [Bool.false_eq_true, if_false]
      exact fin _ _ ⟨e, _, hh, S.skip o.dst, by rw [put_L, put_G]; exact .refl _ _ _ _⟩
    · exact hh.elim

theorem evo_drawn {e : Env} {L G : List AObj} {w w2 : World} {e' : Env} {L' G' : List AObj} {n : Nat} (h : Evo e L G { w with drawn := n } e' L' G' w2) : Evo e L G w e' L' G' w2 :=
  ⟨h.os, h.tape, h.output, h.size, h.old, h.has, h.m⟩

theorem hrel_drawn {e : Env} {L G : List AObj} {w : World} {n : Nat} (h : HRel e L G w) : HRel e L G { w with drawn := n } :=
  ⟨h.hin, h.ll, h.gl, fun p x hx => by
    have := h.o p x hx
    cases x <;> exact this, h.free, h.inj, h.gg⟩

theorem AAny.region (hm : P.follows .mixedOrders = true) {id : Nat} (h : AAny P ops K ops.size (Array.replicate ops.size false) σ) : AReg P ops id K σ := fun e a w S => by
  refine wp_region_held hm (S := e.h.In) (h _ (fun c a w hh => hh.1) e a _ ⟨S.d, S.sz, S.s, hrel_drawn S.h⟩ fun a' w' hp => ⟨trivial, ?_⟩)
  obtain ⟨e', σ', k1, k2, k3⟩ := hp
  exact ⟨e', σ', k1, k2, evo_drawn k3⟩

theorem callK_mono {dst : Option Nat} {f : FuncId} {args : List AVal} {K K' : St → Prop} (hk : ∀ σ, K σ → K' σ) (h : callK P dst K f args σ) : callK P dst K' f args σ :=
  ⟨h.1, h.2.imp fun Q hq => ⟨hq.1, fun r G' hr => hk _ (hq.2 r G' hr)⟩⟩

theorem runK_mono {K K' : St → Prop} (hk : ∀ σ, K σ → K' σ) : ∀ {l : List Nat} {σ : St}, runK P T ops K l σ → runK P T ops K' l σ
  | [], σ, h => hk _ h
  | i :: rest, σ, h => by
    unfold runK at h ⊢
    split
    · rename_i ho; simp only [ho] at h; exact runK_mono hk h
    · rename_i o ho
      simp only [ho] at h
      split
      · rename_i hw
        simp only [hw] at h
        split
        · rename_i f args hc
          simp only [hc] at h
          exact callK_mono (fun σ h => runK_mono hk h) h
        · rename_i hc
          simp only [hc] at h
          split
          · rename_i l hl; simp only [hl] at h; exact fun r hr => runK_mono hk (h r hr)
          · rename_i hl
            simp only [hl] at h
            split
            · rename_i r hr; simp only [hr] at h; exact runK_mono hk h
            · rename_i hr; simp only [hr] at h
      · rename_i hw; simp only [hw] at h; exact runK_mono hk h
      · rename_i hw; simp only [hw] at h

/-! ### A plan for a region -/
inductive Plan where
  | done
  | take (i : Nat) (p : Plan)
  | all (l : List (Nat × Plan))

mutual
def Plan.ok (ops : Array Oper) (listed : Array Bool) : Nat → Plan → Bool
  | _, .done => (Region.ready .any ops listed).isEmpty
  | 0, _ => false
  | fuel + 1, .take i p => Region.free .any ops listed i && (Region.ready .any ops listed).contains i && Plan.ok ops (listed.setIfInBounds i true) fuel p
  | fuel + 1, .all l => Region.ready .any ops listed == l.map (·.1) && !l.isEmpty && Plan.oks ops listed fuel l
def Plan.oks (ops : Array Oper) (listed : Array Bool) : Nat → List (Nat × Plan) → Bool
  | _, [] => true
  | fuel, (i, p) :: l => Plan.ok ops (listed.setIfInBounds i true) fuel p && Plan.oks ops listed fuel l
end

mutual
def runP (P : Program) (T : Tbl) (ops : Array Oper) (K : St → Prop) : Plan → St → Prop
  | .done, σ => K σ
  | .take i p, σ => match ops[i]? with
    | none => False
    | some o => match wantA σ ops o with
      | some true => if dryA T σ o.op = true then match evalV T σ o.op with
          | some x => runP P T ops K p (σ.put o.dst x)
          | none => False
        else False
      | some false => runP P T ops K p (σ.put o.dst (.tup []))
      | none => False
  | .all l, σ => runPs P T ops K l σ
def runPs (P : Program) (T : Tbl) (ops : Array Oper) (K : St → Prop) : List (Nat × Plan) → St → Prop
  | [], _ => True
  | (i, p) :: l, σ => runK P T ops (runP P T ops K p) [i] σ ∧ runPs P T ops K l σ
end

mutual
theorem runP_ok (hT : TblOk P T) (hs : Region.noSelect ops = true) : ∀ (p : Plan) (fuel : Nat) (listed : Array Bool) (σ : St), Plan.ok ops listed fuel p = true → runP P T ops K p σ → AAny P ops K fuel listed σ
  | .done, fuel, listed, σ, hp, h => by
    unfold Plan.ok at hp
    unfold runP at h
    exact .done (by simpa using hp) h
  | .take i p, 0, listed, σ, hp, h => by simp [Plan.ok] at hp
  | .take i p, fuel + 1, listed, σ, hp, h => by
    unfold Plan.ok at hp
    simp only [Bool.and_eq_true] at hp
    unfold runP at h
    split at h
    · exact h.elim
    · rename_i o ho
      split at h
      · rename_i hw
        split at h
        · rename_i hd
          split at h
          · rename_i x hx
            exact .take hT ho hs hp.1.1 hp.1.2 hw hd hx (runP_ok hT hs p fuel _ _ hp.2 h)
          · exact h.elim
        · exact h.elim
      · rename_i hw
        exact .off ho hs hp.1.1 hp.1.2 hw (runP_ok hT hs p fuel _ _ hp.2 h)
      · exact h.elim
  | .all l, 0, listed, σ, hp, h => by simp [Plan.ok] at hp
  | .all l, fuel + 1, listed, σ, hp, h => by
    unfold Plan.ok at hp
    simp only [Bool.and_eq_true] at hp
    unfold runP at h
    refine .all hT (by simpa using hp.1.1) (by cases l <;> simp_all) ?_
    exact runPs_ok hT hs l fuel listed σ hp.2 h
theorem runPs_ok (hT : TblOk P T) (hs : Region.noSelect ops = true) : ∀ (l : List (Nat × Plan)) (fuel : Nat) (listed : Array Bool) (σ : St), Plan.oks ops listed fuel l = true → runPs P T ops K l σ →
    ∀ i ∈ l.map (·.1), exOps P T ops (AAny P ops K fuel (listed.setIfInBounds i true)) [i] σ
  | [], _, _, _, _, _ => by simp
  | (i, p) :: l, fuel, listed, σ, hp, h => by
    unfold Plan.oks at hp
    simp only [Bool.and_eq_true] at hp
    unfold runPs at h
    intro j hj
    simp only [List.map_cons, List.mem_cons] at hj
    rcases hj with rfl | hj
    · exact runK_ok (runK_mono (fun σ' h' => runP_ok hT hs p fuel _ _ hp.1 h') h.1)
    · exact runPs_ok hT hs l fuel listed σ hp.2 h.2 j hj
end

theorem ex_drawnP (hT : TblOk P T) (hm : P.follows .mixedOrders = true) {id : Nat} {Q : Exit → St → Prop} (p : Plan) (hs : Region.noSelect ops = true) (hp : Plan.ok ops (Array.replicate ops.size false) ops.size p = true)
    (h : ∀ K : St → Prop, (∀ σ, Q .normal σ → K σ) → runP P T ops K p σ) : ex P T (.region id ops true) Q σ :=
  AAny.region hm (runP_ok hT hs p _ _ _ hp (h _ fun _ h => h))

end
end Go.Am

/- An own object becomes one that came in. -/
set_option linter.unusedVariables false
set_option linter.unusedSimpArgs false
namespace Go.Am

def AVal.ren (i n : Nat) : AVal → AVal
  | .p (.l j) k => if j = i then .p (.g n) k else .p (.l j) k
  | .clo fn f c => .clo fn (rens i n f) (rens i n c)
  | .agg cs => .agg (rens i n cs)
  | .tup cs => .tup (rens i n cs)
  | x => x
where rens (i n : Nat) : List AVal → List AVal
  | [] => []
  | x :: xs => x.ren i n :: rens i n xs

theorem rens_eq (i n : Nat) : ∀ l : List AVal, AVal.ren.rens i n l = l.map (·.ren i n)
  | [] => rfl
  | x :: xs => by simp [AVal.ren.rens, rens_eq i n xs]

def AObj.ren (i n : Nat) : AObj → AObj
  | .cells cs => .cells (AVal.ren.rens i n cs)
  | .map es c => .map (es.map fun m => { m with v := m.v.ren i n }) c
  | .iter m a b c => .iter (m.ren i n) a b c
  | x => x

def promS (i : Nat) (σ : St) : St :=
  match σ.L[i]? with
  | some x => { s := AVal.ren.rens i σ.G.length σ.s, L := (σ.L.map (·.ren i σ.G.length)).set i .dead, G := σ.G ++ [x.ren i σ.G.length] }
  | none => σ

theorem PRel.ren {h : FHeap} {b : Option (Nat × Nat)} {x : AObj} {k : PK} {v : Value} (i n : Nat) (r : PRel h b (some x) k v) : PRel h b (some (x.ren i n)) k v := by
  cases x <;> exact r

theorem live_ren (i n : Nat) (x : AObj) : (x.ren i n).live = x.live := by cases x <;> rfl

theorem VRel.ren {e e' : Env} {ob ob' : Loc → Option AObj} {i n : Nat} (hh : e.h = e'.h) (hl : ∀ j k v, j ≠ i → PRel e.h (e.blk (.l j)) (ob (.l j)) k v → PRel e'.h (e'.blk (.l j)) (ob' (.l j)) k v)
    (hi : ∀ k v, PRel e.h (e.blk (.l i)) (ob (.l i)) k v → PRel e'.h (e'.blk (.g n)) (ob' (.g n)) k v)
    (hg : ∀ j k v, PRel e.h (e.blk (.g j)) (ob (.g j)) k v → PRel e'.h (e'.blk (.g j)) (ob' (.g j)) k v) {x : AVal} {v : Value} (r : VRel e ob x v) : VRel e' ob' (x.ren i n) v := by
  induction r with
  | any => exact .any
  | nils => exact .nils
  | d r => exact .d (hh ▸ r)
  | clip r => exact .clip (hh ▸ r)
  | @p p k v r =>
    cases p with
    | l j =>
      simp only [AVal.ren]
      split
      · rename_i hj; subst hj; exact .p (hi _ _ r)
      · rename_i hj; exact .p (hl _ _ _ hj r)
    | g j => exact .p (hg _ _ _ r)
  | elem cs hc hr => exact .elem cs (fun k hk => hh ▸ hc k hk) (fun k x hx => hh ▸ hr k x hx)
  | clo h1 h2 _ _ ih1 ih2 =>
    simp only [AVal.ren, rens_eq]
    refine .clo (by simp [h1]) (by simp [h2]) (fun k x v hx hv => ?_) (fun k x v hx hv => ?_)
    · rw [List.getElem?_map] at hx
      cases hq : (_ : List AVal)[k]? with
      | none => rw [hq] at hx; simp at hx
      | some q => rw [hq] at hx; simp at hx; subst hx; exact ih1 k q v hq hv
    · rw [List.getElem?_map] at hx
      cases hq : (_ : List AVal)[k]? with
      | none => rw [hq] at hx; simp at hx
      | some q => rw [hq] at hx; simp at hx; subst hx; exact ih2 k q v hq hv
  | agg h1 _ ih =>
    simp only [AVal.ren, rens_eq]
    refine .agg (by simp [h1]) (fun k x v hx hv => ?_)
    rw [List.getElem?_map] at hx
    cases hq : (_ : List AVal)[k]? with
    | none => rw [hq] at hx; simp at hx
    | some q => rw [hq] at hx; simp at hx; subst hx; exact ih k q v hq hv
  | tup h1 _ ih =>
    simp only [AVal.ren, rens_eq]
    refine .tup (by simp [h1]) (fun k x v hx hv => ?_)
    rw [List.getElem?_map] at hx
    cases hq : (_ : List AVal)[k]? with
    | none => rw [hq] at hx; simp at hx
    | some q => rw [hq] at hx; simp at hx; subst hx; exact ih k q v hq hv

theorem ORel.ren {e e' : Env} {ob ob' : Loc → Option AObj} {w : World} {b : Option (Nat × Nat)} {i n : Nat} (hv : ∀ {x : AVal} {v : Value}, VRel e ob x v → VRel e' ob' (x.ren i n) v) (hh : e.h = e'.h) {x : AObj} (r : ORel e ob w b x) : ORel e' ob' w b (x.ren i n) := by
  cases x with
  | dead => trivial
  | frz => trivial
  | cells cs =>
    obtain ⟨b, c, vs, t, hb, hw, hs, hr⟩ := r
    refine ⟨b, c, vs, t, hb, hw, by simpa [rens_eq] using hs, fun k x v hx hv' => ?_⟩
    rw [rens_eq, List.getElem?_map] at hx
    cases hq : cs[k]? with
    | none => rw [hq] at hx; simp at hx
    | some q => rw [hq] at hx; simp at hx; subst hx; exact ⟨hv (hr k q v hq hv').1, (hr k q v hq hv').2⟩
  | arr size g rows =>
    cases b with
    | none => exact r
    | some bc =>
      obtain ⟨b, cap⟩ := bc
      show ∃ vs t, _
      obtain ⟨vs, t, hw, hs, hl, hm, hr1, hr2⟩ := r
      exact ⟨vs, t, hw, hs, hl, hm, hr1, fun j r k d hj hk => by
        obtain ⟨x, hx, hd⟩ := hr2 j r k d hj hk
        exact ⟨x, hx, hh ▸ hd⟩⟩
  | map es clock =>
    obtain ⟨b, c, ens, hb, hw, hs, hr⟩ := r
    refine ⟨b, c, ens, hb, hw, by simpa using hs, fun k kv en hx he => ?_⟩
    rw [List.getElem?_map] at hx
    cases hq : es[k]? with
    | none => rw [hq] at hx; simp at hx
    | some q =>
      rw [hq] at hx; simp at hx; subst hx
      exact ⟨(hr k q en hq he).1, hv (hr k q en hq he).2.1, (hr k q en hq he).2.2⟩
  | iter m a b' c =>
    obtain ⟨b, c, mv, sn, hb, hw, hs, hr⟩ := r
    exact ⟨b, c, mv, sn, hb, hw, hs, hv hr⟩

theorem Weak.prom {σ : St} (i : Nat) {x : AObj} (hx : σ.L[i]? = some x) (hg : (x.ren i σ.G.length).globO = true) : Weak σ (promS i σ) := fun e a w S => by
  have H := S.h
  have hi := (List.getElem?_eq_some_iff.1 hx).1
  let n := σ.G.length
  let e' : Env := ⟨e.h, e.lb, e.gb ++ [e.blk (.l i)]⟩
  have hσ : promS i σ = { s := AVal.ren.rens i n σ.s, L := (σ.L.map (·.ren i n)).set i .dead, G := σ.G ++ [x.ren i n] } := by simp [promS, hx, n]
  rw [hσ]
  let L' := (σ.L.map (·.ren i n)).set i AObj.dead
  let G' := σ.G ++ [x.ren i n]
  have hbl : ∀ j, e'.blk (.l j) = e.blk (.l j) := fun j => rfl
  have hbg : ∀ j, j < n → e'.blk (.g j) = e.blk (.g j) := fun j hj => by
    simp only [Env.blk, e']; rw [List.getElem?_append_left (by rw [H.gl]; exact hj)]
  have hbn : e'.blk (.g n) = e.blk (.l i) := by
    simp only [Env.blk, e', n]; rw [List.getElem?_append_right (by rw [H.gl]; exact Nat.le_refl _)]; simp [H.gl]
  have hol : ∀ j, j ≠ i → obj L' G' (.l j) = (obj σ.L σ.G (.l j)).map (·.ren i n) := fun j hj => by
    simp only [obj, L']; rw [List.getElem?_set_ne (by omega), List.getElem?_map]
  have hoi : obj L' G' (.l i) = some .dead := by
    simp only [obj, L']; rw [List.getElem?_set_self (by simpa using hi)]
  have hog : ∀ j, j < n → obj L' G' (.g j) = obj σ.L σ.G (.g j) := fun j hj => by
    simp only [obj, G']; rw [List.getElem?_append_left hj]
  have hon : obj L' G' (.g n) = some (x.ren i n) := by
    simp only [obj, G', n]; rw [List.getElem?_append_right (Nat.le_refl _)]; simp
  have hgt : ∀ j, n < j → obj L' G' (.g j) = none := fun j hj => by
    simp only [obj, G']; rw [List.getElem?_eq_none]; simp; omega
  have pg : ∀ j k v, PRel e.h (e.blk (.g j)) (obj σ.L σ.G (.g j)) k v → PRel e'.h (e'.blk (.g j)) (obj L' G' (.g j)) k v := fun j k v r => by
    by_cases hj : j < n
    · rw [hbg j hj, hog j hj]; exact r
    · have : obj σ.L σ.G (.g j) = none := by simp only [obj]; exact List.getElem?_eq_none (by omega)
      rw [this] at r; exact r.elim
  have hv : ∀ {y : AVal} {v : Value}, VRel e (obj σ.L σ.G) y v → VRel e' (obj L' G') (y.ren i n) v := fun {y v} r =>
    VRel.ren (e := e) (e' := e') rfl (fun j k v hj r => by
      rw [hbl, hol j hj]
      cases hq : obj σ.L σ.G (.l j) with
      | none => rw [hq] at r; exact r.elim
      | some z => rw [hq] at r; exact r.ren i n) (fun k v r => by
      rw [hbn, hon]
      have : obj σ.L σ.G (.l i) = some x := hx
      rw [this] at r
      exact r.ren i n) pg r
  have gm : GMono e e' σ.G G' := ⟨.refl _, fun j k v r => pg j k v r⟩
  have hcase : ∀ p y, obj L' G' p = some y → (p = .l i ∧ y = .dead) ∨ (∃ q z, obj σ.L σ.G q = some z ∧ e'.blk p = e.blk q ∧ y.live = z.live ∧ ((∃ j, j ≠ i ∧ p = .l j ∧ q = .l j) ∨ (p = .g n ∧ q = .l i) ∨ ∃ j, j < n ∧ p = .g j ∧ q = .g j)) := fun p y hy => by
    cases p with
    | l j =>
      by_cases hj : j = i
      · subst hj; rw [hoi] at hy; cases hy; exact .inl ⟨rfl, rfl⟩
      · rw [hol j hj] at hy
        cases hq : obj σ.L σ.G (.l j) with
        | none => rw [hq] at hy; simp at hy
        | some z => rw [hq] at hy; simp at hy; subst hy; exact .inr ⟨.l j, z, hq, hbl j, live_ren _ _ _, .inl ⟨j, hj, rfl, rfl⟩⟩
    | g j =>
      by_cases hj : j < n
      · rw [hog j hj] at hy; exact .inr ⟨.g j, y, hy, hbg j hj, rfl, .inr (.inr ⟨j, hj, rfl, rfl⟩)⟩
      · by_cases hj2 : j = n
        · subst hj2; rw [hon] at hy; cases hy; exact .inr ⟨.l i, x, hx, hbn, live_ren _ _ _, .inr (.inl ⟨rfl, rfl⟩)⟩
        · rw [hgt j (by omega)] at hy; cases hy
  refine ⟨e', ⟨S.d, by rw [S.sz]; simp [rens_eq], fun t y v hy hv' => ?_, ⟨H.hin, ?_, ?_, fun p y hy => ?_, fun p y b c hy hlv hb => ?_, fun p q y z b c d h1 h2 h3 h4 h5 h6 => ?_, ?_⟩⟩, ?_⟩
  · simp only [rens_eq, List.getElem?_map] at hy
    cases hq : σ.s[t]? with
    | none => rw [hq] at hy; simp at hy
    | some q => rw [hq] at hy; simp at hy; subst hy; exact hv (S.s t q v hq hv')
  · simp [e', H.ll]
  · simp [e', H.gl]
  · show ORel e' (obj L' G') w (e'.blk p) y
    cases p with
    | l j =>
      by_cases hj : j = i
      · subst hj
        have hy' : obj L' G' (.l j) = some y := hy
        rw [hoi] at hy'; cases hy'; trivial
      · have hy' : obj L' G' (.l j) = some y := hy
        rw [hol j hj] at hy'
        cases hq : obj σ.L σ.G (.l j) with
        | none => rw [hq] at hy'; simp at hy'
        | some z => rw [hq] at hy'; simp at hy'; subst hy'; exact ORel.ren hv rfl (H.o _ _ hq)
    | g j =>
      have hy' : obj L' G' (.g j) = some y := hy
      by_cases hj : j < n
      · rw [hog j hj] at hy'
        rw [hbg j hj]
        have := ORel.glob (e := e) (e' := e') (L := σ.L) (G := σ.G) (L' := L') (G' := G') (H.gg y (List.mem_of_getElem? hy')) gm (fun _ _ _ _ => rfl) (H.o (.g j) y hy')
        exact this
      · by_cases hj2 : j = n
        · subst hj2; rw [hon] at hy'; cases hy'; rw [hbn]; exact ORel.ren hv rfl (H.o (.l i) x hx)
        · rw [hgt j (by omega)] at hy'; cases hy'
  · rcases hcase p y hy with ⟨_, rfl⟩ | ⟨q, z, hz, hbq, hlz, _⟩
    · cases hlv
    · rw [hbq] at hb; rw [hlz] at hlv
      exact H.free q z b c hz hlv hb
  · rcases hcase p y h1 with ⟨_, rfl⟩ | ⟨p', y', hy', hbp, hly, hp'⟩
    · cases h3
    rcases hcase q z h2 with ⟨_, rfl⟩ | ⟨q', z', hz', hbq, hlz, hq'⟩
    · cases h4
    rw [hbp] at h5; rw [hbq] at h6; rw [hly] at h3; rw [hlz] at h4
    have := H.inj p' q' y' z' b c d hy' hz' h3 h4 h5 h6
    rcases hp' with ⟨j, hj, rfl, rfl⟩ | ⟨rfl, rfl⟩ | ⟨j, hj, rfl, rfl⟩ <;> rcases hq' with ⟨j', hj', rfl, rfl⟩ | ⟨rfl, rfl⟩ | ⟨j', hj', rfl, rfl⟩ <;> simp_all
  · intro y hy
    simp only [List.mem_append, List.mem_singleton] at hy
    rcases hy with hy | rfl
    · exact H.gg y hy
    · exact hg
  · refine ⟨rfl, rfl, rfl, Nat.le_refl _, fun _ _ _ => ⟨rfl, rfl⟩, fun b hb' _ => ?_, gm⟩
    obtain ⟨p, y, c, k1, k2, k3⟩ := hb'
    rcases hcase p y k1 with ⟨_, rfl⟩ | ⟨q, z, hz, hbq, hlz, _⟩
    · cases k2
    · rw [hbq] at k3; rw [hlz] at k2
      exact ⟨q, z, c, hz, k2, k3⟩

/-! ### A nil that grows, in what came in -/
theorem hrel_nilG {e : Env} {L G : List AObj} {w : World} (H : HRel e L G w) (size : Nat) :
    HRel ⟨e.h, e.lb, e.gb ++ [none]⟩ L (G ++ [.arr size 0 []]) w ∧ EMono e ⟨e.h, e.lb, e.gb ++ [none]⟩ (obj L G) (obj L (G ++ [.arr size 0 []])) ∧
      Evo e L G w ⟨e.h, e.lb, e.gb ++ [none]⟩ L (G ++ [.arr size 0 []]) w := by
  have hb : ∀ p, (Env.mk e.h e.lb (e.gb ++ [none])).blk p = if p = .g G.length then none else e.blk p := fun p => by
    cases p with
    | l i => simp [Env.blk]
    | g i =>
      simp only [Env.blk, Loc.g.injEq]
      split
      · rename_i hi; subst hi; rw [List.getElem?_append_right (by rw [H.gl]; exact Nat.le_refl _)]; simp [H.gl]
      · rename_i hi
        by_cases h2 : i < G.length
        · rw [List.getElem?_append_left (by rw [H.gl]; exact h2)]
        · rw [List.getElem?_eq_none (by simp [H.gl]; omega), List.getElem?_eq_none (by rw [H.gl]; omega)]
  have ho : ∀ p, obj L (G ++ [.arr size 0 []]) p = if p = .g G.length then some (.arr size 0 []) else obj L G p := fun p => by
    cases p with
    | l i => simp [obj]
    | g i =>
      simp only [obj, Loc.g.injEq]
      split
      · rename_i hi; subst hi; simp
      · rename_i hi
        by_cases h2 : i < G.length
        · rw [List.getElem?_append_left h2]
        · rw [List.getElem?_eq_none (by simp; omega), List.getElem?_eq_none (by omega)]
  have hlt : ∀ p x, obj L G p = some x → p ≠ .g G.length := fun p x hx hp => by
    subst hp; simp [obj] at hx
  have m : EMono e ⟨e.h, e.lb, e.gb ++ [none]⟩ (obj L G) (obj L (G ++ [.arr size 0 []])) := ⟨.refl _, fun p k v r => by
    cases hp : obj L G p with
    | none => rw [hp] at r; simp [PRel] at r
    | some y => rw [ho, hb, if_neg (hlt p y hp), if_neg (hlt p y hp)]; exact r⟩
  refine ⟨hrel_upd H m H.hin H.ll (by simp [H.gl]) (fun p y hy => ?_) (fun p y b d hy hlv hbd => ?_) (fun p q y z b d d' h1 h2 h3 h4 h5 h6 => ?_) (fun x hx => ?_), m, ?_⟩
  · rw [ho] at hy
    by_cases hp : p = .g G.length
    · rw [if_pos hp] at hy; cases hy
      right; rw [hb, if_pos hp]; rfl
    · rw [if_neg hp] at hy; exact .inl ⟨hy, by rw [hb, if_neg hp], fun _ _ _ _ => rfl⟩
  · rw [ho] at hy; rw [hb] at hbd
    by_cases hp : p = .g G.length
    · rw [if_pos hp] at hbd; cases hbd
    · rw [if_neg hp] at hy hbd; exact H.free p y b d hy hlv hbd
  · rw [ho] at h1 h2; rw [hb] at h5 h6
    by_cases hp : p = .g G.length
    · rw [if_pos hp] at h5; cases h5
    · by_cases hq : q = .g G.length
      · rw [if_pos hq] at h6; cases h6
      · rw [if_neg hp] at h1 h5; rw [if_neg hq] at h2 h6; exact H.inj p q y z b d d' h1 h2 h3 h4 h5 h6
  · simp only [List.mem_append, List.mem_singleton] at hx
    rcases hx with hx | rfl
    · exact H.gg x hx
    · rfl
  · refine ⟨rfl, rfl, rfl, Nat.le_refl _, fun _ _ _ => ⟨rfl, rfl⟩, fun b h _ => ?_, ⟨.refl _, fun i k v r => m.p (.g i) k v r⟩⟩
    obtain ⟨p, y, d, h1, h2, h3⟩ := h
    rw [ho] at h1; rw [hb] at h3
    by_cases hp : p = .g G.length
    · rw [if_pos hp] at h3; cases h3
    · rw [if_neg hp] at h1 h3; exact ⟨p, y, d, h1, h2, h3⟩

theorem vrel_ownNilG {e : Env} {L G : List AObj} {w : World} {size : Nat} (H : HRel e L G w) : VRel ⟨e.h, e.lb, e.gb ++ [none]⟩ (obj L (G ++ [.arr size 0 []])) (.p (.g G.length) (.own 0)) (.slice none 0 0) := by
  refine .p ?_
  have ho : obj L (G ++ [AObj.arr size 0 []]) (.g G.length) = some (.arr size 0 []) := by simp [obj]
  have hb : (Env.mk e.h e.lb (e.gb ++ [none])).blk (.g G.length) = none := by
    simp only [Env.blk]; rw [List.getElem?_append_right (by rw [H.gl]; exact Nat.le_refl _)]; simp [H.gl]
  simp only [PRel, ho]
  exact ⟨rfl, Nat.le_refl _, fun _ => by rw [hb]; rfl⟩

/-- A cell's nil, in what came in. -/
theorem Weak.nilG {s : List AVal} {L G : List AObj} (i k size : Nat) {cs : List AVal} (h : G[i]? = some (.cells cs)) (hk : cs[k]? = some .nils) :
    Weak { s := s, L := L, G := G } { s := s, L := L, G := (G.set i (.cells (cs.set k (.p (.g G.length) (.own 0))))) ++ [.arr size 0 []] } := fun e a w S => by
  obtain ⟨h1, h2, h3⟩ := hrel_nilG S.h size
  have hi := (List.getElem?_eq_some_iff.1 h).1
  have hp : obj L (G ++ [.arr size 0 []]) (.g i) = some (.cells cs) := by
    simp only [obj]; rw [List.getElem?_append_left hi]; exact h
  have hset : (St.setObj L (G ++ [.arr size 0 []]) (.g i) (.cells (cs.set k (.p (.g G.length) (.own 0))))) = (L, (G.set i (.cells (cs.set k (.p (.g G.length) (.own 0))))) ++ [.arr size 0 []]) := by
    simp [St.setObj, List.set_append, hi]
  obtain ⟨k1, k2, k3⟩ := hrel_turn h1 hp rfl (x := .cells (cs.set k (.p (.g G.length) (.own 0)))) (fun q v r => by simpa [PRel] using r) (fun m => by
    obtain ⟨b, c, vs, t, hb, hw, hs, hr⟩ := h1.o _ _ hp
    refine ⟨b, c, vs, t, hb, hw, by simpa using hs, fun j x v hx hv => ?_⟩
    by_cases hj : j = k
    · subst hj
      rw [List.getElem?_set_self (List.getElem?_eq_some_iff.1 hk).1] at hx
      cases hx
      have := hr j _ v hk hv
      have hv' := this.1.nils_inv
      subst hv'
      exact ⟨(vrel_ownNilG S.h).mono m, rfl⟩
    · rw [List.getElem?_set_ne (by omega)] at hx
      exact ⟨(hr j x v hx hv).1.mono m, (hr j x v hx hv).2⟩) (fun j hj => by
    have := S.h.gg _ (List.mem_of_getElem? h)
    exact globs_set this rfl)
  rw [hset] at k1 k2 k3
  exact ⟨_, ⟨S.d, S.sz, fun u x v hx hv => ((S.s u x v hx hv).mono h2).mono k2, k1⟩, h3.trans k3⟩

/-- Rows that will not grow any more. -/
theorem Weak.frz {σ : St} {p : Loc} {size g : Nat} {rows : List (List Dat)} (hp : obj σ.L σ.G p = some (.arr size g rows)) :
    Weak σ { s := σ.s, L := (St.setObj σ.L σ.G p (.frz size g rows)).1, G := (St.setObj σ.L σ.G p (.frz size g rows)).2 } := fun e a w S => by
  obtain ⟨e', h1, h2, h3⟩ := freeze_ok S.h hp
  exact ⟨e', ⟨S.d, S.sz, fun t y u hy hu => (S.s t y u hy hu).mono h2, h1⟩, h3⟩

theorem Weak.rfl' (σ : St) : Weak σ σ := fun e a w S => ⟨e, S, .refl _ _ _ _⟩

section
variable {P : Program} {T : Tbl} {σ σ' : St}
/-! ### The walk: one step of the code at a time -/
variable {Q : Exit → St → Prop}
theorem w_skip (h : Q .normal σ) : AWp P .skip Q σ := fun e a w S => wp_skip ⟨trivial, e, σ, h, S, .refl _ _ _ _⟩
theorem w_exit {id : Nat} (h : Q (.exit id) σ) : AWp P (.exit id) Q σ := fun e a w S => wp_exit ⟨trivial, e, σ, h, S, .refl _ _ _ _⟩
theorem w_ret (h : Q .ret σ) : AWp P .ret Q σ := fun e a w S => wp_ret ⟨trivial, e, σ, h, S, .refl _ _ _ _⟩
theorem w_run (hT : TblOk P T) {id : Nat} {ops : Array Oper} (h : ∀ K : St → Prop, (∀ σ, Q .normal σ → K σ) → runK P T ops K (List.range ops.size) σ) : AWp P (.region id ops false) Q σ :=
  ex_ok hT _ (ex_run h)
theorem w_drawn (hT : TblOk P T) (hm : P.follows .mixedOrders = true) {id : Nat} {ops : Array Oper} (p : Plan) (hs : Region.noSelect ops = true) (hp : Plan.ok ops (Array.replicate ops.size false) ops.size p = true)
    (h : ∀ K : St → Prop, (∀ σ, Q .normal σ → K σ) → runP P T ops K p σ) : AWp P (.region id ops true) Q σ := ex_ok hT _ (ex_drawnP hT hm p hs hp h)
theorem w_seq {a b : Code} (h : AWp P a (thenA (AWp P b Q) Q) σ) : AWp P (.seq a b) Q σ := AWp.seq h
theorem w_block {id : Nat} {c : Code} (h : AWp P c (inBlockA id Q) σ) : AWp P (.block id c) Q σ := AWp.block h
theorem w_cond {c : Operand} {a b : Code} {t : Bool} (hc : σ.ev c = .d (.v (.bool t))) (ht : t = true → AWp P a Q σ) (hf : t = false → AWp P b Q σ) : AWp P (.cond c a b) Q σ := fun e act w S => by
  have hr := ev_rel S c
  rw [hc] at hr
  have hv : act.eval c = .bool t := by
    generalize act.eval c = v at hr
    cases hr with
    | d r => cases r with
    | v _ => rfl
  refine wp_cond hv ?_
  cases t with
  | true => exact ht rfl e act w S
  | false => exact hf rfl e act w S
theorem then_n {K : St → Prop} (h : K σ) : thenA K Q .normal σ := h
end
end Go.Am

/- Regions whose order is drawn, in which but one last operation turns memory: as the text has them. -/
set_option linter.unusedVariables false
set_option linter.unusedSimpArgs false
namespace Go.Am
section
variable {P : Program} {T : Tbl} {e : Env} {σ : St} {w : World}
variable {ops : Array Oper} {Q : Exit → Act → World → Prop} {md : Region.Mode}

def wpAnyL (P : Program) (md : Region.Mode) (ops : Array Oper) (Q : Exit → Act → World → Prop) (last : Nat) (w0 : World) : Nat → Array Bool → Act → World → Prop
  | 0, listed, a, w => Region.ready md ops listed = [] ∧ Q .normal a w
  | fuel + 1, listed, a, w =>
    (Region.ready md ops listed = [] → Q .normal a w) ∧
    ∀ i ∈ Region.ready md ops listed, wpOp P ops Q i (fun a' w' => ((listed.setIfInBounds i true).getD last false = false → w' = w0) ∧ wpAnyL P md ops Q last w0 fuel (listed.setIfInBounds i true) a' w') a w

theorem wpAny_of_L {last : Nat} {w0 : World} : ∀ (fuel : Nat) (listed : Array Bool) (a : Act) (w : World), wpAnyL P md ops Q last w0 fuel listed a w → wpAny P md ops Q fuel listed a w
  | 0, _, _, _, h => h
  | fuel + 1, _, _, _, h => ⟨h.1, fun i hi => wpOp_mono (fun a' w' h' => wpAny_of_L fuel _ a' w' h'.2) (h.2 i hi)⟩

theorem L_of_wpAny {last : Nat} {w0 : World} : ∀ (fuel : Nat) (listed : Array Bool) (a : Act) (w : World), listed.getD last false = true → wpAny P md ops Q fuel listed a w → wpAnyL P md ops Q last w0 fuel listed a w
  | 0, _, _, _, _, h => h
  | fuel + 1, listed, a, w, hl, h => ⟨h.1, fun i hi => wpOp_mono (fun a' w' h' => by
      have : (listed.setIfInBounds i true).getD last false = true := getD_set_true hl
      exact ⟨fun hf => (by rw [this] at hf; cases hf), L_of_wpAny fuel _ a' w' this h'⟩) (h.2 i hi)⟩

/-- The last operation waits for i. -/
def waitsFor (md : Region.Mode) (ops : Array Oper) (last i : Nat) : Bool :=
  match ops[last]? with
  | none => true
  | some o => o.after.any fun e => Region.binds md e && e.on == i

theorem wpAnyL_first {i last : Nat} {w0 : World} {oi : Oper} {v : Value} (hi : ops[i]? = some oi) (hsel : ∀ (j : Nat) (o : Oper) cs b, ops[j]? = some o → o.op ≠ .select cs b)
    (hQ : ∀ c a w, Q (.panic c) (a.put oi.dst v) w → Q (.panic c) a w) (hil : i ≠ last) (hwait : waitsFor md ops last i = true) :
    ∀ (fuel : Nat) (listed : Array Bool) (a : Act) (w : World), listed.getD last false = false →
      (∀ j oj, ops[j]? = some oj → j ≠ i → listed.getD j true = false → (∀ e ∈ oj.after, Region.binds md e = true → e.on ≠ i) → oi.apart ops oj = true) →
      i ∈ Region.ready md ops listed → YieldsIf P ops (· = w0) oi v a → w = w0 →
      wpAnyL P md ops Q last w0 fuel (listed.setIfInBounds i true) (a.put oi.dst v) w → wpAnyL P md ops Q last w0 (fuel + 1) listed a w := by
  intro fuel
  have hset : ∀ (listed : Array Bool) (j : Nat), j ≠ last → listed.getD last false = false → (listed.setIfInBounds j true).getD last false = false := fun listed j hj h => by
    rw [getD_set_ne false hj]; exact h
  induction fuel with
  | zero =>
    intro listed a w hl _ hr hy hS H
    refine ⟨fun h => (by rw [h] at hr; cases hr), fun j hj => ?_⟩
    by_cases hji : j = i
    · subst hji; exact hy.wpOp hi hS ⟨fun _ => hS, H⟩
    · have := ready_mono hj hji
      rw [H.1] at this
      cases this
  | succ fuel ih =>
    intro listed a w hl hfree hr hy hS H
    refine ⟨fun h => (by rw [h] at hr; cases hr), fun j hj => ?_⟩
    by_cases hji : j = i
    · subst hji; exact hy.wpOp hi hS ⟨fun _ => hS, H⟩
    · have h1 := H.2 j (ready_mono hj hji)
      obtain ⟨hjun, oj, hoj, hall⟩ := mem_ready.1 hj
      have hnot : ∀ e ∈ oj.after, Region.binds md e = true → e.on ≠ i := fun e he hb heq => by
        have h1 := hall e he hb
        have h0 := (mem_ready.1 hr).1
        rw [heq] at h1
        rcases Nat.lt_or_ge i listed.size with h' | h'
        · simp [h'] at h0 h1; rw [h0] at h1; cases h1
        · simp [Array.getElem?_eq_none h'] at h1
      have hjl : j ≠ last := fun hh => by
        subst hh
        unfold waitsFor at hwait
        rw [hoj] at hwait
        obtain ⟨e, he, hb⟩ := Array.any_eq_true'.1 hwait
        simp only [Bool.and_eq_true, beq_iff_eq] at hb
        exact hnot e he hb.1 hb.2
      have h2 := wpOp_putIf hoj (hfree j oj hoj hji hjun hnot) (fun cs b => hsel i oi cs b hi) (fun cs b => hsel j oj cs b hoj) hQ hy h1
      have hfree' : ∀ k ok, ops[k]? = some ok → k ≠ i → (listed.setIfInBounds j true).getD k true = false →
          (∀ e ∈ ok.after, Region.binds md e = true → e.on ≠ i) → oi.apart ops ok = true := fun k ok hk hki hun hno => by
        refine hfree k ok hk hki ?_ hno
        by_cases hjk : j = k
        · subst hjk; exact hjun
        · rw [getD_set_ne true hjk] at hun; exact hun
      refine wpOp_mono (fun a' w' h3 => ?_) h2
      have hw' := h3.2.1 (hset _ j hjl (hset _ i hil hl))
      refine ⟨fun _ => hw', ih (listed.setIfInBounds j true) a' w' (hset _ j hjl hl) hfree' (ready_mono hr (Ne.symm hji)) h3.1 hw' ?_⟩
      rw [Array.setIfInBounds_comm _ _ hji]
      exact h3.2.2

/-- What leaves the world as it is. -/
def pureA (T : Tbl) (σ : St) (op : Op) : Option AVal :=
  match op with
  | .lookup t x k ok => lookupA T σ t (σ.ev x) (σ.ev k) ok
  | .entry x => entryA σ (σ.ev x)
  | op => evalV T σ op

theorem pureA_ok (hT : TblOk P T) {a : Act} (S : SRel e σ a w) {o : Oper} {x : AVal} (h : pureA T σ o.op = some x) :
    ∃ v, (execOp a.eval o).run P w = .ok (.value v) w ∧ VRel e (obj σ.L σ.G) x v := by
  unfold pureA at h
  split at h
  · rename_i t x k ok hop
    obtain ⟨u, h1, h2⟩ := lookupA_ok hT S.h (ev_rel S x) (ev_rel S k) h
    exact ⟨u, by simp [execOp, hop, h1], h2⟩
  · rename_i x hop
    obtain ⟨u, h1, h2⟩ := entryA_ok (P := P) S.h (ev_rel S x) h
    exact ⟨u, by simp [execOp, hop, h1], h2⟩
  · exact evalV_ok hT S h

variable {K : St → Prop} {fuel last : Nat} {listed : Array Bool}

def AAnyL (P : Program) (ops : Array Oper) (K : St → Prop) (last fuel : Nat) (listed : Array Bool) (σ : St) : Prop :=
  ∀ Q : Exit → Act → World → Prop, (∀ c a w, ¬ Q (.panic c) a w) → ∀ e a w, SRel e σ a w → (∀ a' w', Post K e σ w a' w' → Q .normal a' w') → wpAnyL P .any ops Q last w fuel listed a w

theorem AAnyL.done (hr : Region.ready .any ops listed = []) (h : K σ) : AAnyL P ops K last fuel listed σ := fun Q _ e a w S hQ => by
  cases fuel with
  | zero => exact ⟨hr, hQ a w ⟨e, σ, h, S, .refl _ _ _ _⟩⟩
  | succ n => exact ⟨fun _ => hQ a w ⟨e, σ, h, S, .refl _ _ _ _⟩, by rw [hr]; simp⟩

theorem AAnyL.take (hT : TblOk P T) {i : Nat} {o : Oper} {x : AVal} (hi : ops[i]? = some o) (hs : Region.noSelect ops = true) (hf : Region.free .any ops listed i = true)
    (hr : (Region.ready .any ops listed).contains i = true) (hil : i ≠ last) (hwait : waitsFor .any ops last i = true) (hl : listed.getD last false = false)
    (hw : (wantA σ ops o = some true ∧ pureA T σ o.op = some x) ∨ (wantA σ ops o = some false ∧ x = .tup []))
    (h : AAnyL P ops K last fuel (listed.setIfInBounds i true) (σ.put o.dst x)) : AAnyL P ops K last (fuel + 1) listed σ := fun Q hp e a w S hQ => by
  have fin : ∀ v, SRel e (σ.put o.dst x) (a.put o.dst v) w → YieldsIf P ops (· = w) o v a → wpAnyL P .any ops Q last w (fuel + 1) listed a w := fun v S' hy =>
    wpAnyL_first hi (Region.noSelect_spec hs) (fun c a w hh => absurd hh (hp c _ _)) hil hwait fuel listed a w hl (Region.free_spec hi hf) (by simpa using hr) hy rfl
      (h Q hp e _ w S' fun a' w' hpost => hQ a' w' (by
        obtain ⟨e', σ', k1, k2, k3⟩ := hpost
        rw [put_L, put_G] at k3
        exact ⟨e', σ', k1, k2, k3⟩))
  rcases hw with ⟨hw, hx⟩ | ⟨hw, rfl⟩
  · obtain ⟨v, h1, h2⟩ := pureA_ok hT S hx
    have S' : SRel e (σ.put o.dst x) (a.put o.dst v) w := by
      have := S.put (x := x) (v := v) S.h (.refl _ _) h2 o.dst
      exact this
    exact fin v S' (.inl ⟨wantA_ok S hw, fun w' hw' => by rw [hw']; exact h1⟩)
  · exact fin undef (S.skip o.dst) (.inr ⟨wantA_ok S hw, rfl⟩)

theorem AAnyL.end (hT : TblOk P T) (hr : Region.ready .any ops listed = [last]) (hlt : last < listed.size) (hdone : Region.ready .any ops (listed.setIfInBounds last true) = [])
    (h : exOps P T ops K [last] σ) : AAnyL P ops K last (fuel + 1) listed σ := fun Q hp e a w S hQ => by
  have hA : AAny P ops K (fuel + 1) listed σ := AAny.all hT hr (by simp) fun i hi => by
    simp only [List.mem_singleton] at hi
    subst hi
    have hmono : ∀ σ, K σ → AAny P ops K fuel (listed.setIfInBounds i true) σ := fun σ hk => AAny.done hdone hk
    unfold exOps at h ⊢
    split
    · rename_i ho; simp only [ho] at h; exact hmono _ h
    · rename_i o ho
      simp only [ho] at h
      split
      · rename_i hw
        simp only [hw] at h
        unfold exOp at h ⊢
        split
        · rename_i f args hc
          simp only [hc] at h
          exact ⟨h.1, h.2.imp fun Q hq => ⟨hq.1, fun r G' hr => hmono _ (hq.2 r G' hr)⟩⟩
        · rename_i hc
          simp only [hc] at h
          split
          · rename_i l hl; simp only [hl] at h; exact fun r hr => hmono _ (h r hr)
          · rename_i hl
            simp only [hl] at h
            split
            · rename_i r hr; simp only [hr] at h; exact hmono _ h
            · rename_i hr; simp only [hr] at h
      · rename_i hw; simp only [hw] at h; exact hmono _ h
      · rename_i hw; simp only [hw] at h
  have hH := hA Q hp e a w S hQ
  have hAny := wpAny_of_held _ _ _ _ hH
  refine ⟨hAny.1, fun i hi => ?_⟩
  have hi' : i = last := by rw [hr] at hi; simpa using hi
  subst hi'
  refine wpOp_mono (fun a' w' h' => ?_) (hAny.2 i hi)
  have : (listed.setIfInBounds i true).getD i false = true := by simp [hlt]
  exact ⟨fun hf => (by rw [this] at hf; cases hf), L_of_wpAny _ _ _ _ this h'⟩

/-! ### In the text's order -/
/-- The first n operations, taken in the text's order; then, if there is one, the last. -/
def runL (P : Program) (T : Tbl) (ops : Array Oper) (K : St → Prop) : List Nat → St → Prop
  | [], σ => K σ
  | i :: rest, σ => match ops[i]? with
    | none => False
    | some o => match wantA σ ops o with
      | some true => match rest with
        | [] => runK P T ops K [i] σ
        | _ => match pureA T σ o.op with
          | some x => runL P T ops K rest (σ.put o.dst x)
          | none => False
      | some false => runL P T ops K rest (σ.put o.dst (.tup []))
      | none => False

/-- Can the region be taken so? -/
def okL (ops : Array Oper) (last : Nat) : Nat → List Nat → Array Bool → Bool
  | 0, _, _ => false
  | _ + 1, [], listed => (Region.ready .any ops listed).isEmpty
  | _ + 1, [i], listed => (Region.ready .any ops listed == [i]) && i == last && decide (last < listed.size) && (Region.ready .any ops (listed.setIfInBounds i true)).isEmpty
  | fuel + 1, i :: rest, listed => Region.free .any ops listed i && (Region.ready .any ops listed).contains i && i != last && waitsFor .any ops last i && !(listed.getD last false) && okL ops last fuel rest (listed.setIfInBounds i true)

theorem runL_ok (hT : TblOk P T) (hs : Region.noSelect ops = true) : ∀ (l : List Nat) (fuel : Nat) (listed : Array Bool) (σ : St), okL ops last (fuel + 1) l listed = true → l.length = fuel → runL P T ops K l σ → AAnyL P ops K last fuel listed σ
  | [], fuel, listed, σ, hp, hlen, h => by
    simp [okL] at hp
    exact .done hp h
  | [i], fuel, listed, σ, hp, hlen, h => by
    simp only [List.length_singleton] at hlen
    subst hlen
    simp only [okL, Bool.and_eq_true, beq_iff_eq, decide_eq_true_eq, List.isEmpty_iff] at hp
    obtain ⟨⟨⟨h1, h2⟩, h3⟩, h4⟩ := hp
    subst h2
    refine AAnyL.end hT h1 h3 h4 ?_
    unfold runL at h
    unfold exOps
    split at h
    · exact h.elim
    · rename_i o ho
      simp only [ho]
      split at h
      · rename_i hw
        have := runK_ok h
        unfold exOps at this
        simpa only [ho, hw] using this
      · rename_i hw; simp only [hw]; exact h
      · exact h.elim
  | i :: j :: rest, fuel, listed, σ, hp, hlen, h => by
    cases fuel with
    | zero => simp at hlen
    | succ fuel =>
      simp only [okL, Bool.and_eq_true, bne_iff_ne, ne_eq, Bool.not_eq_true'] at hp
      obtain ⟨⟨⟨⟨⟨h1, h2⟩, h3⟩, h4⟩, h5⟩, h6⟩ := hp
      unfold runL at h
      split at h
      · exact h.elim
      · rename_i o ho
        split at h
        · rename_i hw
          simp only at h
          split at h
          · rename_i x hx
            exact .take hT ho hs h1 h2 h3 h4 h5 (.inl ⟨hw, hx⟩) (runL_ok hT hs (j :: rest) fuel _ _ h6 (by simpa using hlen) h)
          · exact h.elim
        · rename_i hw
          exact .take hT ho hs h1 h2 h3 h4 h5 (.inr ⟨hw, rfl⟩) (runL_ok hT hs (j :: rest) fuel _ _ h6 (by simpa using hlen) h)
        · exact h.elim

theorem w_text (hT : TblOk P T) (hm : P.follows .mixedOrders = true) {id : Nat} {Q : Exit → St → Prop} (last : Nat) (hs : Region.noSelect ops = true)
    (hp : okL ops last (ops.size + 1) (List.range ops.size) (Array.replicate ops.size false) = true)
    (h : ∀ K : St → Prop, (∀ σ, Q .normal σ → K σ) → runL P T ops K (List.range ops.size) σ) : AWp P (.region id ops true) Q σ := fun e a w S => by
  have hL := runL_ok (last := last) hT hs (List.range ops.size) ops.size _ _ hp (by simp) (h _ fun _ h => h)
  refine wp_region_any hm (wpAny_of_L _ _ _ _ (hL _ (fun c a w hh => hh.1) e a _ ⟨S.d, S.sz, S.s, hrel_drawn S.h⟩ fun a' w' hp => ⟨trivial, ?_⟩))
  obtain ⟨e', σ', k1, k2, k3⟩ := hp
  exact ⟨e', σ', k1, k2, evo_drawn k3⟩

/-! ### Loops -/
theorem AWp.loopW {ι : Type} {c : Code} {Q : Exit → St → Prop} (I : ι → St) (C : ι → Prop) (m : ι → Nat)
    (h : ∀ i, C i → AWp P c (thenA (fun σ' => ∃ j, C j ∧ m j < m i ∧ Weak σ' (I j)) Q) (I i)) (i0 : ι) (h0 : C i0) (hw : Weak σ (I i0)) : AWp P (.loop c) Q σ := by
  have key : ∀ n i, m i = n → C i → AWp P (.loop c) Q (I i) := fun n => by
    induction n using Nat.strongRecOn with
    | _ n ih =>
      intro i hi hc
      refine AWp.unroll (AWp.mono (h i hc) fun x σ' hx => ?_)
      cases x with
      | normal =>
        obtain ⟨j, hj, hm, hw⟩ := hx
        exact AWp.weak hw (ih (m j) (by omega) j rfl hj)
      | _ => exact hx
  exact AWp.weak hw (key _ i0 rfl h0)

theorem Weak.slots {s s' : List AVal} {L L' G : List AObj} (hs : slotsWeak s s') (hL : objsWeak L L') (hb : (AVal.under.unders L'.length s' && objsBelow L'.length L') = true) :
    Weak { s := s, L := L, G := G } { s := s', L := L', G := G } := by
  simp only [Bool.and_eq_true] at hb
  exact Weak.of hs hL hb.1 hb.2

/-! ### What a state tells by itself -/
theorem w64 {n : Int} (h1 : -9223372036854775808 ≤ n) (h2 : n ≤ 9223372036854775807) : IntKind.i64.wrap n = n := by
  rw [IntKind.wrap_i64]; omega

theorem Rep.len_le {h : FHeap} {rows : List (List Dat)} {v : Value} (r : Rep h (.l rows) v) : rows.length ≤ 9223372036854775807 := by
  generalize hd : Dat.l rows = d at r
  cases r with
  | v _ => cases hd
  | l size cs hrow hcap hmax hcell hrp =>
    cases hd
    have : maxLen = 9223372036854775807 := by decide
    omega

theorem AWp.len {c : Code} {Q : Exit → St → Prop} (t : Nat) {rows : List (List Dat)} (hs : σ.s[t]? = some (.d (.l rows))) (h : rows.length ≤ 9223372036854775807 → AWp P c Q σ) : AWp P c Q σ := fun e a w S => by
  have ht : t < a.tmps.size := by rw [S.sz]; exact (List.getElem?_eq_some_iff.1 hs).1
  have hv := S.s t _ a.tmps[t] hs (Array.getElem?_eq_getElem ht)
  cases hv with
  | d r => exact h r.len_le e a w S

/-- A call, from what came in seen otherwise. -/
theorem ACall.weak {f : FuncId} {args : List AVal} {G G' : List AObj} {Q : AVal → List AObj → Prop} (hw : Weak { s := args, L := [], G := G } { s := args, L := [], G := G' }) (h : ACall P f args G' Q) : ACall P f args G Q := by
  refine ⟨h.1, fun e w cargs hl H hA => ?_⟩
  obtain ⟨e', S', E⟩ := hw e { tmps := cargs, defers := [] } w ⟨rfl, hA.1, hA.2, H⟩
  have hl' : e'.lb = [] := by
    have := S'.h.ll
    simpa using this
  refine (h.2 e' w cargs hl' S'.h ⟨S'.sz, S'.s⟩).mono fun en w' ⟨e2, G2, r, v, h1, h2, h3, h4, h5, h6, h7⟩ => ?_
  exact ⟨e2, G2, r, v, h1, h2, h3, h4, h5, E.trans h6, h7⟩

end
end Go.Am

/- The types of this translation, as the abstract reading wants them. -/
set_option linter.unusedVariables false
set_option maxRecDepth 20000
namespace Go.Proofs.Dev
open Go.Am

def tbl : Tbl := fun t => match t with
  | 3 => some ⟨.int .i64, 1, 8, [.int .i64 0]⟩
  | 4 => some ⟨.bool, 1, 1, [.bool false]⟩
  | 5 => some ⟨.int .u8, 1, 1, [.int .u8 0]⟩
  | 9 => some ⟨.string, 1, 16, [.string ⟨#[]⟩]⟩
  | 22 => some ⟨.slice 32, 1, 24, [.slice none 0 0]⟩
  | 25 => some ⟨.ptr 126, 1, 8, [.pointer none]⟩
  | 26 => some ⟨.int .u8, 1, 1, [.int .u8 0]⟩
  | 29 => some ⟨.slice 35, 1, 24, [.slice none 0 0]⟩
  | 30 => some ⟨.slice 5, 1, 24, [.slice none 0 0]⟩
  | 32 => some ⟨.struct [(3, 0), (9, 1), (9, 2), (30, 3), (3, 4), (3, 5)], 6, 80, [.int .i64 0, .string ⟨#[]⟩, .string ⟨#[]⟩, .slice none 0 0, .int .i64 0, .int .i64 0]⟩
  | 35 => some ⟨.slice 9, 1, 24, [.slice none 0 0]⟩
  | 123 => some ⟨.map 9 9, 1, 8, [.map none]⟩
  | 124 => some ⟨.slice 129, 1, 24, [.slice none 0 0]⟩
  | 126 => some ⟨.struct [(3, 0), (123, 1), (124, 2), (123, 3), (3, 4), (4, 5), (3, 6)], 7, 72, [.int .i64 0, .map none, .slice none 0 0, .map none, .int .i64 0, .bool false, .int .i64 0]⟩
  | 127 => some ⟨.int .u8, 1, 1, [.int .u8 0]⟩
  | 129 => some ⟨.struct [(127, 0), (9, 1), (9, 2), (9, 3), (3, 4)], 5, 64, [.int .u8 0, .string ⟨#[]⟩, .string ⟨#[]⟩, .string ⟨#[]⟩, .int .i64 0]⟩
  | 137 => some ⟨.func, 1, 8, [.nilFunc]⟩
  | 208 => some ⟨.func, 1, 8, [.nilFunc]⟩
  | _ => none

theorem ty3 : TyOk Try.prog 3 ⟨.int .i64, 1, 8, [.int .i64 0]⟩ :=
  .of Try.underlying3 (by first | rfl | trivial | exact ⟨rfl, rfl⟩) (by kernel_rfl) rfl rfl (by first | (intro _; rfl) | (intro h; cases h))
theorem ty4 : TyOk Try.prog 4 ⟨.bool, 1, 1, [.bool false]⟩ :=
  .of Try.underlying4 (by first | rfl | trivial | exact ⟨rfl, rfl⟩) (by kernel_rfl) rfl rfl (by first | (intro _; rfl) | (intro h; cases h))
theorem ty5 : TyOk Try.prog 5 ⟨.int .u8, 1, 1, [.int .u8 0]⟩ :=
  .of Try.underlying5 (by first | rfl | trivial | exact ⟨rfl, rfl⟩) (by kernel_rfl) rfl rfl (by first | (intro _; rfl) | (intro h; cases h))
theorem ty9 : TyOk Try.prog 9 ⟨.string, 1, 16, [.string ⟨#[]⟩]⟩ :=
  .of Try.underlying9 (by first | rfl | trivial | exact ⟨rfl, rfl⟩) (by kernel_rfl) rfl rfl (by first | (intro _; rfl) | (intro h; cases h))
theorem ty22 : TyOk Try.prog 22 ⟨.slice 32, 1, 24, [.slice none 0 0]⟩ :=
  .of Try.underlying22 (by first | rfl | trivial | exact ⟨rfl, rfl⟩) (by kernel_rfl) rfl rfl (by first | (intro _; rfl) | (intro h; cases h))
theorem ty25 : TyOk Try.prog 25 ⟨.ptr 126, 1, 8, [.pointer none]⟩ :=
  .of Try.underlying25 (by first | rfl | trivial | exact ⟨rfl, rfl⟩) (by kernel_rfl) rfl rfl (by first | (intro _; rfl) | (intro h; cases h))
theorem ty26 : TyOk Try.prog 26 ⟨.int .u8, 1, 1, [.int .u8 0]⟩ :=
  .of Try.underlying26 (by first | rfl | trivial | exact ⟨rfl, rfl⟩) (by kernel_rfl) rfl rfl (by first | (intro _; rfl) | (intro h; cases h))
theorem ty29 : TyOk Try.prog 29 ⟨.slice 35, 1, 24, [.slice none 0 0]⟩ :=
  .of Try.underlying29 (by first | rfl | trivial | exact ⟨rfl, rfl⟩) (by kernel_rfl) rfl rfl (by first | (intro _; rfl) | (intro h; cases h))
theorem ty30 : TyOk Try.prog 30 ⟨.slice 5, 1, 24, [.slice none 0 0]⟩ :=
  .of Try.underlying30 (by first | rfl | trivial | exact ⟨rfl, rfl⟩) (by kernel_rfl) rfl rfl (by first | (intro _; rfl) | (intro h; cases h))
theorem ty32 : TyOk Try.prog 32 ⟨.struct [(3, 0), (9, 1), (9, 2), (30, 3), (3, 4), (3, 5)], 6, 80, [.int .i64 0, .string ⟨#[]⟩, .string ⟨#[]⟩, .slice none 0 0, .int .i64 0, .int .i64 0]⟩ :=
  .of Try.underlying32 (by first | rfl | trivial | exact ⟨rfl, rfl⟩) (by kernel_rfl) rfl rfl (by first | (intro _; rfl) | (intro h; cases h))
theorem ty35 : TyOk Try.prog 35 ⟨.slice 9, 1, 24, [.slice none 0 0]⟩ :=
  .of Try.underlying35 (by first | rfl | trivial | exact ⟨rfl, rfl⟩) (by kernel_rfl) rfl rfl (by first | (intro _; rfl) | (intro h; cases h))
theorem ty123 : TyOk Try.prog 123 ⟨.map 9 9, 1, 8, [.map none]⟩ :=
  .of Try.underlying123 (by first | rfl | trivial | exact ⟨rfl, rfl⟩) (by kernel_rfl) rfl rfl (by first | (intro _; rfl) | (intro h; cases h))
theorem ty124 : TyOk Try.prog 124 ⟨.slice 129, 1, 24, [.slice none 0 0]⟩ :=
  .of Try.underlying124 (by first | rfl | trivial | exact ⟨rfl, rfl⟩) (by kernel_rfl) rfl rfl (by first | (intro _; rfl) | (intro h; cases h))
theorem ty126 : TyOk Try.prog 126 ⟨.struct [(3, 0), (123, 1), (124, 2), (123, 3), (3, 4), (4, 5), (3, 6)], 7, 72, [.int .i64 0, .map none, .slice none 0 0, .map none, .int .i64 0, .bool false, .int .i64 0]⟩ :=
  .of Try.underlying126 (by first | rfl | trivial | exact ⟨rfl, rfl⟩) (by kernel_rfl) rfl rfl (by first | (intro _; rfl) | (intro h; cases h))
theorem ty127 : TyOk Try.prog 127 ⟨.int .u8, 1, 1, [.int .u8 0]⟩ :=
  .of Try.underlying127 (by first | rfl | trivial | exact ⟨rfl, rfl⟩) (by kernel_rfl) rfl rfl (by first | (intro _; rfl) | (intro h; cases h))
theorem ty129 : TyOk Try.prog 129 ⟨.struct [(127, 0), (9, 1), (9, 2), (9, 3), (3, 4)], 5, 64, [.int .u8 0, .string ⟨#[]⟩, .string ⟨#[]⟩, .string ⟨#[]⟩, .int .i64 0]⟩ :=
  .of Try.underlying129 (by first | rfl | trivial | exact ⟨rfl, rfl⟩) (by kernel_rfl) rfl rfl (by first | (intro _; rfl) | (intro h; cases h))
theorem ty137 : TyOk Try.prog 137 ⟨.func, 1, 8, [.nilFunc]⟩ :=
  .of Try.underlying137 (by first | rfl | trivial | exact ⟨rfl, rfl⟩) (by kernel_rfl) rfl rfl (by first | (intro _; rfl) | (intro h; cases h))
theorem ty208 : TyOk Try.prog 208 ⟨.func, 1, 8, [.nilFunc]⟩ :=
  .of Try.underlying208 (by first | rfl | trivial | exact ⟨rfl, rfl⟩) (by kernel_rfl) rfl rfl (by first | (intro _; rfl) | (intro h; cases h))

theorem tblOk : TblOk Try.prog tbl := by
  intro t e h
  unfold tbl at h
  split at h
  · cases h; exact ty3
  · cases h; exact ty4
  · cases h; exact ty5
  · cases h; exact ty9
  · cases h; exact ty22
  · cases h; exact ty25
  · cases h; exact ty26
  · cases h; exact ty29
  · cases h; exact ty30
  · cases h; exact ty32
  · cases h; exact ty35
  · cases h; exact ty123
  · cases h; exact ty124
  · cases h; exact ty126
  · cases h; exact ty127
  · cases h; exact ty129
  · cases h; exact ty137
  · cases h; exact ty208
  · cases h

end Go.Proofs.Dev

/- The disk: its files, deeds and states as data. -/
set_option linter.unusedVariables false
set_option linter.unusedSimpArgs false
namespace Go.Proofs.Dev
open Go.Am
set_option maxRecDepth 100000

abbrev int (n : Int) : AVal := .d (.v (.int .i64 n))
abbrev u8 (n : Int) : AVal := .d (.v (.int .u8 n))
abbrev boo (b : Bool) : AVal := .d (.v (.bool b))
abbrev str (s : ByteArray) : AVal := .d (.v (.string s))

/-- Files: names and bytes, as they were born. -/
structure FE where
  k : ByteArray
  v : ByteArray
  b : Nat

structure FM where
  es : List FE
  clock : Nat

def FE.enc (x : FE) : MEnt := ⟨.string x.k, str x.v, x.b⟩
def FM.obj (m : FM) : AObj := .map (m.es.map FE.enc) m.clock

abbrev Fs := List (ByteArray × ByteArray)
def kvs (l : List FE) : Fs := l.map fun x => (x.k, x.v)

def getF : Fs → ByteArray → Option ByteArray
  | [], _ => none
  | (a, v) :: r, k => if k = a then some v else getF r k

def putF : Fs → ByteArray → ByteArray → Fs
  | [], k, v => [(k, v)]
  | (a, x) :: r, k, v => if k = a then (k, v) :: r else (a, x) :: putF r k v

def delF : Fs → ByteArray → Fs
  | [], _ => []
  | (a, x) :: r, k => if k = a then r else (a, x) :: delF r k

def putE (c : Nat) : List FE → ByteArray → ByteArray → List FE
  | [], k, v => [⟨k, v, c⟩]
  | x :: r, k, v => if k = x.k then ⟨k, v, x.b⟩ :: r else x :: putE c r k v

def delE : List FE → ByteArray → List FE
  | [], _ => []
  | x :: r, k => if k = x.k then r else x :: delE r k

theorem kvs_put (c : Nat) (k v : ByteArray) : ∀ l, kvs (putE c l k v) = putF (kvs l) k v
  | [] => rfl
  | x :: r => by
    simp only [putE, kvs, List.map_cons, putF]
    split
    · rfl
    · have := kvs_put c k v r; simp only [kvs] at this; simp [this]

theorem kvs_del (k : ByteArray) : ∀ l, kvs (delE l k) = delF (kvs l) k
  | [] => rfl
  | x :: r => by
    simp only [delE, kvs, List.map_cons, delF]
    split
    · rfl
    · have := kvs_del k r; simp only [kvs] at this; simp [this]

def FM.put (m : FM) (k v : ByteArray) : FM := ⟨putE m.clock m.es k v, if (getF (kvs m.es) k).isSome then m.clock else m.clock + 1⟩
def FM.del (m : FM) (k : ByteArray) : FM := ⟨delE m.es k, m.clock⟩

theorem findE_es (k : ByteArray) (c : Nat) : ∀ (l : List FE) (i : Nat),
    (findE .string (.string k) (l.map FE.enc) i = some none ∧ getF (kvs l) k = none ∧ (∀ v, putE c l k v = l ++ [⟨k, v, c⟩]) ∧ delE l k = l) ∨
    ∃ j x, findE .string (.string k) (l.map FE.enc) i = some (some (i + j, str x.v)) ∧ getF (kvs l) k = some x.v ∧ l[j]? = some x ∧ (∀ v, putE c l k v = l.set j ⟨k, v, x.b⟩) ∧ delE l k = l.eraseIdx j
  | [], i => .inl ⟨rfl, rfl, fun _ => rfl, rfl⟩
  | x :: r, i => by
    by_cases h : k = x.k
    · refine .inr ⟨0, x, ?_, ?_, rfl, fun v => ?_, ?_⟩
      · simp [findE, FE.enc, sameK, h]
      · simp [getF, kvs, h]
      · simp [putE, h]
      · simp [delE, h]
    · rcases findE_es k c r (i + 1) with ⟨h1, h2, h3, h4⟩ | ⟨j, y, h1, h2, h3, h4, h5⟩
      · refine .inl ⟨?_, ?_, fun v => ?_, ?_⟩
        · simp only [List.map_cons, findE, FE.enc, sameK, h, decide_false]; exact h1
        · simp only [kvs, List.map_cons, getF, h, if_false]; exact h2
        · simp [putE, h, h3 v]
        · simp [delE, h, h4]
      · refine .inr ⟨j + 1, y, ?_, ?_, by simpa using h3, fun v => ?_, ?_⟩
        · simp only [List.map_cons, findE, FE.enc, sameK, h, decide_false]; rw [show i + (j + 1) = i + 1 + j by omega]; exact h1
        · simp only [kvs, List.map_cons, getF, h, if_false]; exact h2
        · simp [putE, h, h4 v]
        · simp [delE, h, h5]

section
variable {s : List AVal} {L G : List AObj} {a : Nat} {m : FM} {k v : ByteArray}

theorem lookup_fm (h : G[a]? = some m.obj) (ok : Bool) :
    lookupA tbl { s := s, L := L, G := G } 123 (.p (.g a) .mp) (str k) ok = some (okTup ok (str ((getF (kvs m.es) k).getD ⟨#[]⟩)) (getF (kvs m.es) k).isSome) := by
  rcases findE_es k m.clock m.es 0 with ⟨h1, h2, _⟩ | ⟨j, x, h1, h2, _⟩ <;>
    simp [lookupA, tbl, plainKey, mapA, obj, h, FM.obj, h1, h2, zeroOf, mkV, TyK.agg, zeroA]

theorem where_fm (h : G[a]? = some m.obj) : whereA tbl { s := s, L := L, G := G } 123 (.p (.g a) .mp) (str k) = (findE .string (.string k) (m.es.map FE.enc) 0).map fun r =>
    (.string k, ⟨.string, 1, 16, [.string ⟨#[]⟩]⟩, .g a, m.es.map FE.enc, m.clock, r) := by
  rcases findE_es k m.clock m.es 0 with ⟨h1, h2, _⟩ | ⟨j, x, h1, h2, _⟩ <;>
    simp [whereA, tbl, plainKey, mapA, obj, h, FM.obj, h1]

theorem upd_fm (h : G[a]? = some m.obj) : updA tbl { s := s, L := L, G := G } 123 (.p (.g a) .mp) (str k) (str v) = some (L, G.set a (m.put k v).obj) := by
  rcases findE_es k m.clock m.es 0 with ⟨h1, h2, h3, _⟩ | ⟨j, x, h1, h2, h3, h4, _⟩
  · simp [updA, where_fm h, h1, globOf, AVal.glob, St.setObj, FM.put, FM.obj, h2, h3 v, FE.enc]
  · have hj := (List.getElem?_eq_some_iff.1 h3).1
    have hx := (List.getElem?_eq_some_iff.1 h3).2
    simp [updA, where_fm h, h1, globOf, AVal.glob, St.setObj, FM.put, FM.obj, h2, h4 v, List.map_set, FE.enc, List.getD, h3, hj, hx]

theorem del_fm (h : G[a]? = some m.obj) : delA tbl { s := s, L := L, G := G } 123 (.p (.g a) .mp) (str k) = some (L, G.set a (m.del k).obj) := by
  rcases findE_es k m.clock m.es 0 with ⟨h1, h2, _, h4⟩ | ⟨j, x, h1, h2, h3, _, h5⟩
  · simp [delA, where_fm h, h1, St.setObj, FM.del, FM.obj, h4]
  · simp [delA, where_fm h, h1, St.setObj, FM.del, FM.obj, h5, map_eraseIdx']

theorem len_fm (h : G[a]? = some m.obj) : lenA tbl { s := s, L := L, G := G } 123 (.p (.g a) .mp) = some (m.es.length : Int) := by
  simp [lenA, tbl, obj, h, FM.obj]
end

/-! ### Deeds -/
structure Deed where
  kind : Int
  name : ByteArray
  to : ByteArray
  b : ByteArray
  n : Int

def Deed.enc (x : Deed) : List Dat := [.v (.int .u8 x.kind), .v (.string x.name), .v (.string x.to), .v (.string x.b), .v (.int .i64 x.n)]
def Deed.v (x : Deed) : AVal := .agg [u8 x.kind, str x.name, str x.to, str x.b, int x.n]

/-- What a deed does to files. -/
def doF (f : Fs) (x : Deed) : Fs :=
  if x.kind = 0 then putF f x.name ⟨#[]⟩
  else if x.kind = 1 then putF f x.name (((getF f x.name).getD ⟨#[]⟩) ++ x.b)
  else if x.kind = 2 then putF f x.name (((getF f x.name).getD ⟨#[]⟩).extract 0 x.n.toNat)
  else if x.kind = 3 then putF (delF f x.name) x.to ((getF f x.name).getD ⟨#[]⟩)
  else if x.kind = 4 then delF f x.name
  else f

def FM.do (m : FM) (x : Deed) : FM :=
  if x.kind = 0 then m.put x.name ⟨#[]⟩
  else if x.kind = 1 then m.put x.name (((getF (kvs m.es) x.name).getD ⟨#[]⟩) ++ x.b)
  else if x.kind = 2 then m.put x.name (((getF (kvs m.es) x.name).getD ⟨#[]⟩).extract 0 x.n.toNat)
  else if x.kind = 3 then (m.del x.name).put x.to ((getF (kvs m.es) x.name).getD ⟨#[]⟩)
  else if x.kind = 4 then m.del x.name
  else m

theorem kvs_do (m : FM) (x : Deed) : kvs (m.do x).es = doF (kvs m.es) x := by
  unfold FM.do doF
  split
  · exact kvs_put _ _ _ _
  · split
    · exact kvs_put _ _ _ _
    · split
      · exact kvs_put _ _ _ _
      · split
        · rw [← kvs_del]; exact kvs_put _ _ _ _
        · split
          · exact kvs_del _ _
          · rfl

/-- A deed that can be done. -/
def can (f : Fs) (x : Deed) : Prop :=
  (x.kind = 1 → ((getF f x.name).getD ⟨#[]⟩).size + x.b.size ≤ 9223372036854775807) ∧
  (x.kind = 2 → 0 ≤ x.n ∧ x.n ≤ ((getF f x.name).getD ⟨#[]⟩).size)

end Go.Proofs.Dev

/- The disk's inner functions, walked. -/
set_option linter.unusedVariables false
set_option linter.unusedSimpArgs false
namespace Go.Proofs.Dev
open Go.Am
set_option maxRecDepth 100000

attribute [local simp] runK callOf nextOf stepA evalV St.ev St.get St.put St.next cellsA oneA newVarA wantA okConst constA zeroA fieldA tbl shiftA obj loadA mkV TyK.agg binA binV intBin storeA splA globIf St.setObj
  intsA maxI minI pickA unA convA nilA thenA inBlockA List.range List.range.loop AVal.glob AVal.glob.globs List.replicate retE retA resA frzAll frzV frz1 dataV data1 ownA rowsA oneOrTup runL pureA okTup

theorem pmixed : Try.prog.follows .mixedOrders = true := by kernel_rfl

theorem glob_obj (m : FM) : m.obj.globO = true := by
  show AVal.glob.globs _ = true
  simp only [FM.obj, List.map_map]
  induction m.es with
  | nil => rfl
  | cons x xs ih => simp only [List.map_cons, AVal.glob.globs, Bool.and_eq_true]; exact ⟨rfl, ih⟩



theorem do_ok {G : List AObj} {a : Nat} {m : FM} {x : Deed} (h : G[a]? = some m.obj) (hc : can (kvs m.es) x) :
    ACall Try.prog 67 [.p (.g a) .mp, x.v] G (fun r G' => r = .tup [] ∧ G' = G.set a (m.do x).obj) := by
  have ha := (List.getElem?_eq_some_iff.1 h).1
  have hs : ∀ m' : FM, (G.set a m'.obj)[a]? = some m'.obj := fun m' => by simp [ha]
  obtain ⟨kd, nm, to, b, n⟩ := x
  unfold can at hc
  simp only at hc
  simp only [Deed.v]
  refine ACall.bodyW tblOk Try.func67 (c := _) rfl rfl ?_
  refine w_seq (w_run tblOk fun K hK => ?_)
  simp
  refine hK _ (then_n ?_); clear hK K
  refine w_seq (w_run tblOk fun K hK => ?_)
  simp
  refine hK _ (then_n ?_); clear hK K
  refine w_block ?_
  refine w_seq (w_run tblOk fun K hK => ?_)
  simp
  refine hK _ (then_n ?_); clear hK K
  refine w_cond (t := kd == 0) (by simp) (fun ht => ?_) (fun ht => ?_)
  · refine w_run tblOk fun K hK => ?_
    simp [upd_fm h]
    refine hK _ ?_; clear hK K
    simp at ht
    simp [FM.do, ht]
  simp at ht
  refine w_seq (w_run tblOk fun K hK => ?_)
  simp
  refine hK _ (then_n ?_); clear hK K
  refine w_cond (t := kd == 1) (by simp) (fun ht1 => ?_) (fun ht1 => ?_)
  · simp at ht1
    subst ht1
    refine w_run tblOk fun K hK => ?_
    simp [lookup_fm h, strBin, hc.1, upd_fm h]
    refine hK _ ?_; clear hK K
    simp [FM.do]
  simp at ht1
  refine w_seq (w_run tblOk fun K hK => ?_)
  simp
  refine hK _ (then_n ?_); clear hK K
  refine w_cond (t := kd == 2) (by simp) (fun ht2 => ?_) (fun ht2 => ?_)
  · simp at ht2
    subst ht2
    have hc2 := hc.2 rfl
    refine w_text tblOk pmixed 10 (by kernel_rfl) (by kernel_rfl) fun K hK => ?_
    simp [lookup_fm h, sliceA, bndA, hc2, upd_fm h]
    refine hK _ ?_; clear hK K
    simp [FM.do]
  simp at ht2
  refine w_seq (w_run tblOk fun K hK => ?_)
  simp
  refine hK _ (then_n ?_); clear hK K
  refine w_cond (t := kd == 3) (by simp) (fun ht3 => ?_) (fun ht3 => ?_)
  · simp at ht3
    subst ht3
    refine w_seq (w_run tblOk fun K hK => ?_)
    simp [lookup_fm h]
    refine hK _ (then_n ?_); clear hK K
    refine w_seq (w_run tblOk fun K hK => ?_)
    simp [del_fm h]
    refine hK _ (then_n ?_); clear hK K
    refine w_run tblOk fun K hK => ?_
    simp [upd_fm (hs (m.del nm))]
    refine hK _ ?_; clear hK K
    simp [FM.do]
  simp at ht3
  refine w_seq (w_run tblOk fun K hK => ?_)
  simp
  refine hK _ (then_n ?_); clear hK K
  refine w_cond (t := kd == 4) (by simp) (fun ht4 => ?_) (fun ht4 => ?_)
  · simp at ht4
    subst ht4
    refine w_run tblOk fun K hK => ?_
    simp [del_fm h]
    refine hK _ ?_; clear hK K
    simp [FM.do]
  simp at ht4
  refine w_skip ?_
  simp [FM.do, ht, ht1, ht2, ht3, ht4]
  exact (List.set_getElem_self ha).symm ▸ by
    have := (List.getElem?_eq_some_iff.1 h).2
    rw [← this]; simp
end Go.Proofs.Dev

/- The disk's inner functions, walked: more. -/
set_option linter.unusedVariables false
set_option linter.unusedSimpArgs false
namespace Go.Proofs.Dev
open Go.Am
set_option maxRecDepth 100000

attribute [local simp] runK callOf nextOf stepA evalV St.ev St.get St.put St.next cellsA oneA newVarA wantA okConst constA zeroA fieldA tbl shiftA obj loadA mkV TyK.agg binA binV intBin storeA splA globIf St.setObj
  intsA maxI minI pickA unA convA nilA thenA inBlockA List.range List.range.loop AVal.glob AVal.glob.globs List.replicate retE retA resA frzAll frzV frz1 dataV data1 ownA rowsA oneOrTup runL pureA okTup indexA lenA
  slotsWeak objsWeak AVal.under AVal.under.unders objsBelow AObj.underO

/-- A name that no file may have. -/
def badName (s : ByteArray) : Bool := decide (s = ⟨#[]⟩) || decide (16 < s.size)

theorem may1_ok {G : List AObj} (s : ByteArray) : ACall Try.prog 123 [str s] G (fun r G' => r = boo (badName s) ∧ G' = G) := by
  refine ACall.bodyW tblOk Try.func123 (c := _) rfl rfl ?_
  refine w_seq (w_run tblOk fun K hK => ?_)
  simp
  refine hK _ (then_n ?_); clear hK K
  refine w_seq (w_run tblOk fun K hK => ?_)
  by_cases hb : s = ⟨#[]⟩
  · simp [strBin, hb]
    refine hK _ (then_n ?_); clear hK K
    refine w_ret ?_
    simp [badName, hb] <;> omega
  · simp [strBin, hb]
    refine hK _ (then_n ?_); clear hK K
    refine w_ret ?_
    simp [badName, hb] <;> omega

def strRows (l : List ByteArray) : List (List Dat) := l.map fun s => [.v (.string s)]

theorem callK_p {P : Program} {dst : Option Nat} {K : St → Prop} {f : FuncId} {args : List AVal} {σ : St} {v : AVal} (hA : ACall P f (args.map (dataV (frzAll σ args))) (frzAll σ args).G fun r G' => r = v ∧ G' = (frzAll σ args).G)
    (hg : AVal.glob.globs (args.map (dataV (frzAll σ args))) = true) (h : K ((frzAll σ args).next dst (v, (frzAll σ args).L, (frzAll σ args).G))) : callK P dst K f args σ :=
  callK_pure hA rfl rfl hg h

theorem indexFunc_ok {G : List AObj} (l : List ByteArray) :
    ACall Try.prog 155 [.d (.l (strRows l)), .clo (.func 123) [] []] G (fun r G' => r = int (match l.findIdx? badName with | some i => i | none => -1) ∧ G' = G) := by
  refine ACall.bodyW tblOk Try.func155 (c := _) rfl rfl ?_
  refine AWp.len 0 rfl fun hlen => ?_
  simp only [strRows, List.length_map] at hlen
  refine w_seq (w_run tblOk fun K hK => ?_)
  simp
  refine hK _ (then_n ?_); clear hK K
  refine w_seq (w_seq (w_run tblOk fun K hK => ?_))
  simp
  refine hK _ (then_n ?_); clear hK K
  refine w_block ?_
  refine AWp.loopW (fun i : Nat => { s := [.d (.l (strRows l)), .clo (.func 123) [] [], .any, .any, int 0, .any, .any, int l.length, int i, .any, .any, .any, .any, .any, .any, .any, .any, .any, .any], L := [], G := G })
    (fun i => i ≤ l.length ∧ ∀ j, j < i → (l[j]?).map badName = some false) (fun i => l.length - i) (fun i hi => ?_) 0 (by simp) (Weak.slots (by simp [strRows]) (by simp) (by simp))
  refine w_seq (w_run tblOk fun K hK => ?_)
  simp
  refine hK _ (then_n ?_); clear hK K
  refine w_seq (w_cond (t := decide (i < l.length)) (by simp) (fun ht => w_skip (then_n ?_)) (fun ht => w_exit ?_))
  · simp at ht
    refine w_seq (w_block (w_seq (w_run tblOk fun K hK => ?_)))
    simp
    refine hK _ (then_n ?_); clear hK K
    refine w_seq (w_run tblOk fun K hK => ?_)
    have hrow : (strRows l)[i]? = some [.v (.string l[i])] := by simp [strRows, ht]
    simp [hrow]
    refine callK_p (may1_ok l[i]) (by simp) ?_
    simp
    refine hK _ (then_n ?_); clear hK K
    refine w_cond (t := badName l[i]) (by simp) (fun hb => ?_) (fun hb => w_skip ?_)
    · refine w_seq (w_run tblOk fun K hK => ?_)
      simp
      refine hK _ (then_n ?_); clear hK K
      refine w_ret ?_
      have hfind : l.findIdx? badName = some i := by
        rw [List.findIdx?_eq_some_iff_getElem]
        refine ⟨ht, hb, fun j hj => ?_⟩
        have := hi.2 j hj
        simp [show j < l.length by omega] at this
        simp [this]
      simp [hfind]
    · simp
      refine w_run tblOk fun K hK => ?_
      simp
      refine hK _ ?_; clear hK K
      refine ⟨i + 1, ⟨by omega, fun j hj => ?_⟩, by omega, ?_⟩
      · by_cases hji : j = i
        · subst hji; simp [ht, hb]
        · have := hi.2 j (by omega)
          simpa using this
      · refine Weak.slots ?_ (by simp) (by simp)
        simp
        exact w64 (by omega) (by omega)
  · simp at ht
    have : i = l.length := by omega
    simp
    refine w_seq (w_run tblOk fun K hK => ?_)
    simp
    refine hK _ (then_n ?_); clear hK K
    refine w_ret ?_
    have hfind : l.findIdx? badName = none := by
      rw [List.findIdx?_eq_none_iff]
      intro x hx
      obtain ⟨j, hj, rfl⟩ := List.getElem_of_mem hx
      have := hi.2 j (by omega)
      simpa [hj] using this
    simp [hfind]

theorem containsFunc_ok {G : List AObj} (l : List ByteArray) :
    ACall Try.prog 122 [.d (.l (strRows l)), .clo (.func 123) [] []] G (fun r G' => r = boo (l.any badName) ∧ G' = G) := by
  refine ACall.bodyW tblOk Try.func122 (c := _) rfl rfl ?_
  refine w_seq (w_run tblOk fun K hK => ?_)
  simp
  refine hK _ (then_n ?_); clear hK K
  refine w_seq (w_run tblOk fun K hK => ?_)
  simp
  refine callK_p (indexFunc_ok l) (by simp) ?_
  simp
  refine hK _ (then_n ?_); clear hK K
  refine w_ret ?_
  simp
  cases hf : l.findIdx? badName with
  | none =>
    rw [List.findIdx?_eq_none_iff] at hf
    simp
    intro x hx
    exact hf x hx
  | some i =>
    rw [List.findIdx?_eq_some_iff_getElem] at hf
    simp
    exact ⟨l[i]'hf.1, List.getElem_mem _, hf.2.1⟩

/-- The error of 'may'. -/
def mayE (down : Bool) (l : List ByteArray) : Int := if down then 3 else if l.any badName then 1 else 0

theorem may_nil {G : List AObj} (l : List ByteArray) : ACall Try.prog 69 [.d (.v (.pointer none)), .d (.l (strRows l))] G (fun r G' => r = u8 2 ∧ G' = G) := by
  refine ACall.bodyW tblOk Try.func69 (c := _) rfl rfl ?_
  refine w_seq (w_run tblOk fun K hK => ?_)
  simp
  refine hK _ (then_n ?_); clear hK K
  refine w_seq (w_block (w_seq (w_run tblOk fun K hK => ?_)))
  simp [binA, ptrNil]
  refine hK _ (then_n ?_); clear hK K
  refine w_cond (t := true) (by simp) (fun _ => ?_) (fun h => by cases h)
  refine w_seq (w_run tblOk fun K hK => ?_)
  simp
  refine hK _ (then_n ?_); clear hK K
  refine w_ret ?_
  simp

theorem may_ok {G : List AObj} {i : Nat} {r f ws s armed deeds : AVal} {down : Bool} (h : G[i]? = some (.cells [r, f, ws, s, armed, boo down, deeds])) (l : List ByteArray) :
    ACall Try.prog 69 [.p (.g i) (.ref 0), .d (.l (strRows l))] G (fun r G' => r = u8 (mayE down l) ∧ G' = G) := by
  refine ACall.bodyW tblOk Try.func69 (c := _) rfl rfl ?_
  refine w_seq (w_run tblOk fun K hK => ?_)
  simp
  refine hK _ (then_n ?_); clear hK K
  refine w_seq (w_block (w_seq (w_run tblOk fun K hK => ?_)))
  simp [binA, ptrNil, h]
  refine hK _ (then_n ?_); clear hK K
  refine w_cond (t := false) (by simp) (fun h => by cases h) (fun _ => ?_)
  refine w_seq (w_run tblOk fun K hK => ?_)
  simp [h]
  refine hK _ (then_n ?_); clear hK K
  refine w_cond (t := down) (by simp) (fun hd => ?_) (fun hd => ?_)
  · refine w_seq (w_run tblOk fun K hK => ?_)
    simp
    refine hK _ (then_n ?_); clear hK K
    refine w_ret ?_
    simp [mayE, hd]
  · refine w_seq (w_run tblOk fun K hK => ?_)
    simp
    refine callK_p (containsFunc_ok l) (by simp) ?_
    simp
    refine hK _ (then_n ?_); clear hK K
    refine w_cond (t := l.any badName) (by simp) (fun hb => ?_) (fun hb => w_skip ?_)
    · refine w_seq (w_run tblOk fun K hK => ?_)
      simp
      refine hK _ (then_n ?_); clear hK K
      refine w_ret ?_
      simp only [mayE, hd, hb]
      simp
    · simp
      refine w_seq (w_run tblOk fun K hK => ?_)
      simp
      refine hK _ (then_n ?_); clear hK K
      refine w_ret ?_
      simp only [mayE, hd, hb]
      simp

/-- A deed counted, or the disk goes down. -/
theorem counts_ok {G : List AObj} {i : Nat} {r l ws s : AVal} {down : Bool} {armed deeds : Int} (h : G[i]? = some (.cells [r, l, ws, s, int armed, boo down, int deeds]))
    (ha : 0 ≤ armed ∧ armed ≤ 9223372036854775807) (hd : 0 ≤ deeds ∧ deeds ≤ 9223372036854775806) :
    ACall Try.prog 70 [.p (.g i) (.ref 0)] G (fun x G' => x = boo (decide (armed ≠ 1)) ∧
      G' = G.set i (if armed = 1 then .cells [r, l, ws, s, int 1, boo true, int deeds] else .cells [r, l, ws, s, int (max (armed - 1) 0), boo down, int (deeds + 1)])) := by
  have hi := (List.getElem?_eq_some_iff.1 h).1
  have hs : ∀ x, (G.set i x)[i]? = some x := fun x => by simp [hi]
  refine ACall.bodyW tblOk Try.func70 (c := _) rfl rfl ?_
  refine w_seq (w_run tblOk fun K hK => ?_)
  simp
  refine hK _ (then_n ?_); clear hK K
  refine w_seq (w_seq (w_run tblOk fun K hK => ?_))
  simp [h]
  refine hK _ (then_n ?_); clear hK K
  refine w_cond (t := armed == 1) (by simp) (fun ht => ?_) (fun ht => ?_)
  · simp at ht
    subst ht
    refine w_seq (w_run tblOk fun K hK => ?_)
    simp [h]
    refine hK _ (then_n ?_); clear hK K
    refine w_seq (w_run tblOk fun K hK => ?_)
    simp [h]
    refine hK _ (then_n ?_); clear hK K
    refine w_ret ?_
    simp
  · simp at ht
    refine w_skip (then_n ?_)
    refine w_seq (w_run tblOk fun K hK => ?_)
    simp [h, hs, -List.getElem?_set_self]
    refine hK _ (then_n ?_); clear hK K
    refine w_seq (w_run tblOk fun K hK => ?_)
    simp [h, hs, -List.getElem?_set_self]
    refine hK _ (then_n ?_); clear hK K
    refine w_seq (w_run tblOk fun K hK => ?_)
    simp
    refine hK _ (then_n ?_); clear hK K
    refine w_ret ?_
    have hm : (if armed - 1 < 0 then 0 else armed - 1) = max (armed - 1) 0 := by split <;> omega
    rw [w64 (n := armed - 1) (by omega) (by omega), w64 (n := deeds + 1) (by omega) (by omega)]
    simp [ht, hm]
end Go.Proofs.Dev

/- A disk in memory; deeds done. -/
set_option linter.unusedVariables false
set_option linter.unusedSimpArgs false
namespace Go.Proofs.Dev
open Go.Am
set_option maxRecDepth 100000

attribute [local simp] runK callOf nextOf stepA evalV St.ev St.get St.put St.next cellsA oneA newVarA wantA okConst constA zeroA fieldA tbl shiftA obj loadA mkV TyK.agg binA binV intBin storeA splA globIf St.setObj
  intsA maxI minI pickA unA convA nilA thenA inBlockA List.range List.range.loop AVal.glob AVal.glob.globs List.replicate retE retA resA frzAll frzV frz1 dataV data1 ownA rowsA oneOrTup runL pureA okTup indexA lenA
  slotsWeak objsWeak AVal.under AVal.under.unders objsBelow AObj.underO runP runPs dryA

/-- A disk's state. -/
structure DS where
  room : Int
  last : Fs
  waits : List Deed
  seen : Fs
  armed : Int
  down : Bool
  deeds : Int

/-- Where it lies. -/
structure DK where
  i : Nat
  a : Nat
  b : Nat
  w : Option (Nat × Nat)

def DK.ids (k : DK) : List Nat := k.i :: k.a :: k.b :: (match k.w with | none => [] | some (j, _) => [j])
def wv : Option (Nat × Nat) → AVal
  | none => .nils
  | some (j, g) => .p (.g j) (.own g)

def FM.ok (m : FM) : Prop := (∀ x ∈ m.es, x.b < m.clock) ∧ (m.es.map (·.b)).Nodup

def DS.cells (s : DS) (k : DK) : AObj := .cells [int s.room, .p (.g k.a) .mp, wv k.w, .p (.g k.b) .mp, int s.armed, boo s.down, int s.deeds]

structure DAt (G : List AObj) (k : DK) (s : DS) (ml ms : FM) : Prop where
  o : G[k.i]? = some (s.cells k)
  a : G[k.a]? = some ml.obj
  b : G[k.b]? = some ms.obj
  w : match k.w with
    | none => s.waits = []
    | some (j, g) => G[j]? = some (.arr 5 g (s.waits.map Deed.enc))
  ab : k.a ≠ k.b
  last : kvs ml.es = s.last
  seen : kvs ms.es = s.seen
  okl : ml.ok
  oks : ms.ok

/-- What stays, what is new. -/
structure Fr (G : List AObj) (k : DK) (G' : List AObj) (k' : DK) : Prop where
  i : k'.i = k.i
  len : G.length ≤ G'.length
  keep : ∀ j, j < G.length → j ∉ k.ids → G'[j]? = G[j]?
  ids : ∀ j ∈ k'.ids, j ∈ k.ids ∨ G.length ≤ j

theorem Fr.refl (G : List AObj) (k : DK) : Fr G k G k := ⟨rfl, Nat.le_refl _, fun _ _ _ => rfl, fun _ h => .inl h⟩

theorem Fr.trans {G G1 G2 : List AObj} {k k1 k2 : DK} (h : Fr G k G1 k1) (h' : Fr G1 k1 G2 k2) : Fr G k G2 k2 :=
  ⟨h'.i.trans h.i, Nat.le_trans h.len h'.len, fun j hj hk => by
    rw [h'.keep j (Nat.lt_of_lt_of_le hj h.len) (fun hm => by
      rcases h.ids j hm with h1 | h1
      · exact hk h1
      · omega), h.keep j hj hk], fun j hj => by
    rcases h'.ids j hj with h1 | h1
    · exact h.ids j h1
    · exact .inr (Nat.le_trans h.len h1)⟩

theorem nodup_put (c : Nat) (k v : ByteArray) : ∀ l : List FE, (∀ x ∈ l, x.b < c) → (l.map (·.b)).Nodup → ((putE c l k v).map (·.b)).Nodup ∧ (∀ x ∈ putE c l k v, x.b < c + 1) ∧ ((getF (kvs l) k).isSome = true → ∀ x ∈ putE c l k v, x.b < c)
  | [], _, _ => by simp [putE, getF, kvs]
  | x :: r, h1, h2 => by
    simp only [List.map_cons, List.nodup_cons] at h2
    have ih := nodup_put c k v r (fun y hy => h1 y (by simp [hy])) h2.2
    have hx := h1 x (by simp)
    by_cases hk : k = x.k
    · simp only [putE, hk, if_true]
      refine ⟨by simpa using h2, fun y hy => ?_, fun _ y hy => ?_⟩
      · simp only [List.mem_cons] at hy
        rcases hy with rfl | hy
        · exact Nat.lt_succ_of_lt hx
        · exact Nat.lt_succ_of_lt (h1 y (by simp [hy]))
      · simp only [List.mem_cons] at hy
        rcases hy with rfl | hy
        · exact hx
        · exact h1 y (by simp [hy])
    · simp only [putE, hk, if_false]
      refine ⟨?_, fun y hy => ?_, fun hs y hy => ?_⟩
      · simp only [List.map_cons, List.nodup_cons]
        refine ⟨fun hm => ?_, ih.1⟩
        obtain ⟨y, hy, hyb⟩ := List.mem_map.1 hm
        have key : ∀ l : List FE, y ∈ putE c l k v → y.b = c ∨ y.b ∈ l.map (·.b) := fun l => by
          induction l with
          | nil => intro h; simp [putE] at h; left; rw [h]
          | cons z zs ihz =>
            intro h
            simp only [putE] at h
            split at h
            · simp only [List.mem_cons] at h
              rcases h with rfl | h
              · right; simp
              · right; simp; right; exact ⟨y, h, rfl⟩
            · simp only [List.mem_cons] at h
              rcases h with rfl | h
              · right; simp
              · rcases ihz h with h | h
                · exact .inl h
                · right; simp at h ⊢; right; exact h
        rcases key r hy with h | h
        · omega
        · rw [hyb] at h; exact h2.1 h
      · simp only [List.mem_cons] at hy
        rcases hy with rfl | hy
        · omega
        · exact ih.2.1 y hy
      · simp only [List.mem_cons] at hy
        rcases hy with rfl | hy
        · exact hx
        · refine ih.2.2 ?_ y hy
          simpa [kvs, getF, hk] using hs

theorem FM.ok.put {m : FM} (h : m.ok) (k v : ByteArray) : (m.put k v).ok := by
  have := nodup_put m.clock k v m.es h.1 h.2
  refine ⟨fun x hx => ?_, this.1⟩
  simp only [FM.put] at hx ⊢
  split
  · rename_i hs; exact this.2.2 hs x hx
  · exact this.2.1 x hx

theorem del_sub (k : ByteArray) : ∀ l : List FE, (delE l k).Sublist l
  | [] => .slnil
  | x :: r => by
    simp only [delE]
    split
    · exact List.sublist_cons_self _ _
    · exact (del_sub k r).cons_cons _

theorem FM.ok.del {m : FM} (h : m.ok) (k : ByteArray) : (m.del k).ok :=
  ⟨fun x hx => h.1 x ((del_sub k m.es).subset hx), h.2.sublist ((del_sub k m.es).map _)⟩

theorem FM.ok.do {m : FM} (h : m.ok) (x : Deed) : (m.do x).ok := by
  unfold FM.do
  split
  · exact h.put _ _
  · split
    · exact h.put _ _
    · split
      · exact h.put _ _
      · split
        · exact (h.del _).put _ _
        · split
          · exact h.del _
          · exact h

/-- Numbers are in range. -/
structure DS.ok (s : DS) : Prop where
  armed : 0 ≤ s.armed ∧ s.armed ≤ 9223372036854775807
  deeds : 0 ≤ s.deeds ∧ s.deeds ≤ 1099511627776
  waits : s.waits.length ≤ 1099511627776

def doingS (s : DS) (x : Deed) : Int × DS :=
  if s.armed = 1 then (3, { s with down := true })
  else (0, { s with armed := max (s.armed - 1) 0, deeds := s.deeds + 1, waits := s.waits ++ [x], seen := doF s.seen x })

theorem doing_own {G : List AObj} {k : DK} {s : DS} {ml ms : FM} {x : Deed} {j g : Nat} (h : DAt G k s ml ms) (hw : k.w = some (j, g)) (ok : s.ok) (hc : can s.seen x) :
    ACall Try.prog 71 [.p (.g k.i) (.ref 0), x.v] G (fun r G' => ∃ k' ms', r = u8 (doingS s x).1 ∧ DAt G' k' (doingS s x).2 ml ms' ∧ Fr G k G' k' ∧ k'.w.isSome = true) := by
  obtain ⟨i, a, b, w⟩ := k
  simp only at hw
  subst hw
  obtain ⟨ho, ha, hb, hj, hab, hl, hs, okl, oks⟩ := h
  simp only at ho ha hb hj hab
  have hi := (List.getElem?_eq_some_iff.1 ho).1
  have hjl := (List.getElem?_eq_some_iff.1 hj).1
  have hbl := (List.getElem?_eq_some_iff.1 hb).1
  have hal := (List.getElem?_eq_some_iff.1 ha).1
  have hij : i ≠ j := fun e => by subst e; rw [ho] at hj; cases hj
  have hib : i ≠ b := fun e => by subst e; rw [ho] at hb; cases hb
  have hia : i ≠ a := fun e => by subst e; rw [ho] at ha; cases ha
  have hjb : j ≠ b := fun e => by subst e; rw [hj] at hb; cases hb
  have hja : j ≠ a := fun e => by subst e; rw [hj] at ha; cases ha
  have hc' : can (kvs ms.es) x := hs ▸ hc
  have hdo := fun G => @do_ok G b ms x
  obtain ⟨kd, nm, to, bb, n⟩ := x
  have hcnt := counts_ok (G := G) (i := i) ho ok.armed ⟨ok.deeds.1, by have := ok.deeds.2; omega⟩
  simp only [wv] at hcnt
  have g1 : ∀ x, (G.set i x)[i]? = some x := fun x => by simp [hi]
  have g2 : ∀ x, (G.set i x)[j]? = some (.arr 5 g (s.waits.map Deed.enc)) := fun x => by simp [hij, hj]
  have g3 : ∀ x y, ((G.set i x).set j y)[i]? = some x := fun x y => by simp [hi, Ne.symm hij]
  have g4 : ∀ x y z, (((G.set i x).set j y).set i z)[i]? = some z := fun x y z => by simp [hi]
  have g5 : ∀ x y z, (((G.set i x).set j y).set i z)[b]? = some ms.obj := fun x y z => by simp [hib, hjb, hb]
  by_cases h1 : s.armed = 1
  · refine ACall.mono (Q := fun r G' => r = u8 3 ∧ G' = G.set i (.cells [int s.room, .p (.g a) .mp, .p (.g j) (.own g), .p (.g b) .mp, int 1, boo true, int s.deeds])) ?_ (fun r G' hr => ?_)
    · refine ACall.bodyW tblOk Try.func71 (c := _) rfl rfl ?_
      simp only [Deed.v]
      refine w_seq (w_run tblOk fun K hK => ?_)
      simp
      refine hK _ (then_n ?_); clear hK K
      refine w_seq (w_seq (w_run tblOk fun K hK => ?_))
      simp
      refine callK_any hcnt rfl rfl (by simp) fun r G' ⟨h1, h2⟩ => ?_
      subst h1; subst h2
      simp [h1]
      refine hK _ (then_n ?_); clear hK K
      refine w_cond (t := true) (by simp) (fun _ => ?_) (fun h => by cases h)
      refine w_seq (w_run tblOk fun K hK => ?_)
      simp
      refine hK _ (then_n ?_); clear hK K
      refine w_ret ?_
      simp
    · obtain ⟨rfl, rfl⟩ := hr
      refine ⟨⟨i, a, b, some (j, g)⟩, ms, by simp [doingS, h1], ⟨by simp [doingS, h1, DS.cells, hi, wv], ?_, ?_, ?_, hab, by simp [doingS, h1, hl], by simp [doingS, h1, hs], okl, oks⟩, ⟨rfl, by simp, fun j' hj' hk => ?_, fun j' h => .inl h⟩, rfl⟩
      · simp [hia, ha]
      · simp [hib, hb]
      · simp [hij, hj, doingS, h1]
      · simp [DK.ids] at hk
        rw [List.getElem?_set_ne (by omega)]
  · let c1 : AObj := .cells [int s.room, .p (.g a) .mp, .p (.g j) (.own g), .p (.g b) .mp, int (max (s.armed - 1) 0), boo s.down, int (s.deeds + 1)]
    let c2 : AObj := .cells [int s.room, .p (.g a) .mp, .p (.g j) (.own (g + 1)), .p (.g b) .mp, int (max (s.armed - 1) 0), boo s.down, int (s.deeds + 1)]
    let ar : AObj := .arr 5 (g + 1) (s.waits.map Deed.enc ++ [Deed.enc ⟨kd, nm, to, bb, n⟩])
    refine ACall.mono (Q := fun r G' => r = u8 0 ∧ G' = (((G.set i c1).set j ar).set i c2).set b (ms.do ⟨kd, nm, to, bb, n⟩).obj) ?_ (fun r G' hr => ?_)
    · refine ACall.bodyW tblOk Try.func71 (c := _) rfl rfl ?_
      simp only [Deed.v]
      refine w_seq (w_run tblOk fun K hK => ?_)
      simp
      refine hK _ (then_n ?_); clear hK K
      refine w_seq (w_seq (w_run tblOk fun K hK => ?_))
      simp
      refine callK_any hcnt rfl rfl (by simp) fun r G' ⟨h1, h2⟩ => ?_
      subst h1; subst h2
      simp [h1]
      refine hK _ (then_n ?_); clear hK K
      refine w_cond (t := false) (by simp) (fun h => by cases h) (fun _ => w_skip (then_n ?_))
      refine w_seq (w_drawn tblOk pmixed (.take 0 <| .take 1 <| .take 2 <| .take 3 <| .all [(4, .all [(5, .all [(6, .all [(7, .take 8 <| .take 9 <| .all [(10, .done)])])])]), (5, .all [(4, .all [(6, .all [(7, .take 8 <| .take 9 <| .all [(10, .done)])])]), (6, .all [(4, .all [(7, .take 8 <| .take 9 <| .all [(10, .done)])])])])]) (by kernel_rfl) (by kernel_rfl) fun K hK => ?_)
      have hfit : (s.waits.length + 1) * 64 ≤ 140737488355328 := by have := ok.waits; omega
      simp [g1, g2, g3, buildSliceA, pairsA, rowA, rowsOfA, rowsFit, toDat, toDats, appendA, newsA, hfit, -List.getElem?_set_self]
      refine hK _ (then_n ?_); clear hK K
      refine w_seq (w_drawn tblOk pmixed (.take 0 <| .take 1 <| .take 2 <| .all [(3, .all [(4, .all [(5, .done)])]), (4, .all [(3, .all [(5, .done)])])]) (by kernel_rfl) (by kernel_rfl) fun K hK => ?_)
      simp [g4, -List.getElem?_set_self]
      refine callK_any (hdo _ (g5 _ _ _) hc') rfl rfl (by simp [Deed.v]) fun r G' ⟨h1, h2⟩ => ?_
      subst h1; subst h2
      simp
      refine hK _ (then_n ?_); clear hK K
      refine w_seq (w_run tblOk fun K hK => ?_)
      simp
      refine hK _ (then_n ?_); clear hK K
      refine w_ret ?_
      simp
      rfl
    · obtain ⟨rfl, rfl⟩ := hr
      refine ⟨⟨i, a, b, some (j, g + 1)⟩, ms.do ⟨kd, nm, to, bb, n⟩, by simp [doingS, h1], ⟨?_, ?_, ?_, ?_, hab, by simp [doingS, h1, hl], by simp [doingS, h1, kvs_do, hs], okl, oks.do _⟩, ⟨rfl, by simp, fun j' hj' hk => ?_, fun j' h => .inl ?_⟩, rfl⟩
      · simp [doingS, h1, DS.cells, hi, wv, Ne.symm hib, c2]
      · simp [hia, hja, hab, Ne.symm hab, ha]
      · simp [hbl]
      · simp [hij, hjl, Ne.symm hjb, doingS, h1, ar]
      · simp [DK.ids] at hk
        rw [List.getElem?_set_ne (by omega), List.getElem?_set_ne (by omega), List.getElem?_set_ne (by omega), List.getElem?_set_ne (by omega)]
      · simpa [DK.ids] using h

/-- A nil of deeds, as one that grows. -/
theorem DAt.grow {G : List AObj} {k : DK} {s : DS} {ml ms : FM} (h : DAt G k s ml ms) (hw : k.w = none) :
    (∀ args, Weak { s := args, L := [], G := G } { s := args, L := [], G := G.set k.i (s.cells { k with w := some (G.length, 0) }) ++ [.arr 5 0 []] }) ∧
    DAt (G.set k.i (s.cells { k with w := some (G.length, 0) }) ++ [.arr 5 0 []]) { k with w := some (G.length, 0) } s ml ms ∧
    Fr G k (G.set k.i (s.cells { k with w := some (G.length, 0) }) ++ [.arr 5 0 []]) { k with w := some (G.length, 0) } := by
  obtain ⟨i, a, b, w⟩ := k
  simp only at hw
  subst hw
  obtain ⟨ho, ha, hb, hj, hab, hl, hs, okl, oks⟩ := h
  simp only at ho ha hb hj hab
  have hi := (List.getElem?_eq_some_iff.1 ho).1
  have hbl := (List.getElem?_eq_some_iff.1 hb).1
  have hal := (List.getElem?_eq_some_iff.1 ha).1
  have hib : i ≠ b := fun e => by subst e; rw [ho] at hb; cases hb
  have hia : i ≠ a := fun e => by subst e; rw [ho] at ha; cases ha
  refine ⟨fun args => ?_, ⟨?_, ?_, ?_, ?_, hab, hl, hs, okl, oks⟩, ⟨rfl, by simp, fun j hj' hk => ?_, fun j hj' => ?_⟩⟩
  · exact Weak.nilG i 2 5 ho rfl
  · simp [hi, List.getElem?_append_left]
  · rw [List.getElem?_append_left (by simpa using hal)]; simp [hia, ha]
  · rw [List.getElem?_append_left (by simpa using hbl)]; simp [hib, hb]
  · simp [hj]
  · have hk' : i ≠ j := fun e => hk (by simp [DK.ids, e])
    rw [List.getElem?_append_left (by simpa using hj'), List.getElem?_set_ne hk']
  · simp [DK.ids] at hj' ⊢
    omega

theorem doing_ok {G : List AObj} {k : DK} {s : DS} {ml ms : FM} {x : Deed} (h : DAt G k s ml ms) (ok : s.ok) (hc : can s.seen x) :
    ACall Try.prog 71 [.p (.g k.i) (.ref 0), x.v] G (fun r G' => ∃ k' ms', r = u8 (doingS s x).1 ∧ DAt G' k' (doingS s x).2 ml ms' ∧ Fr G k G' k') := by
  rcases hw : k.w with _ | ⟨j, g⟩
  · obtain ⟨h1, h2, h3⟩ := h.grow hw
    refine ACall.weak (h1 _) ((doing_own (j := G.length) (g := 0) h2 rfl ok hc).mono fun r G' ⟨k', ms', q1, q2, q3, _⟩ => ⟨k', ms', q1, q2, h3.trans q3⟩)
  · exact (doing_own h hw ok hc).mono fun r G' ⟨k', ms', q1, q2, q3, _⟩ => ⟨k', ms', q1, q2, q3⟩

def onS (s : DS) (x : Deed) : Int × DS := if (getF s.seen x.name).isSome then doingS s x else (5, s)

theorem on_ok {G : List AObj} {k : DK} {s : DS} {ml ms : FM} {x : Deed} (h : DAt G k s ml ms) (ok : s.ok) (hc : (getF s.seen x.name).isSome = true → can s.seen x) :
    ACall Try.prog 72 [.p (.g k.i) (.ref 0), x.v] G (fun r G' => ∃ k' ms', r = u8 (onS s x).1 ∧ DAt G' k' (onS s x).2 ml ms' ∧ Fr G k G' k') := by
  have ho := h.o
  have hb := h.b
  have hs := h.seen
  have hdo := doing_ok h ok (x := x)
  obtain ⟨kd, nm, to, bb, n⟩ := x
  simp only [DS.cells] at ho
  refine ACall.bodyW tblOk Try.func72 (c := _) rfl rfl ?_
  simp only [Deed.v]
  refine w_seq (w_run tblOk fun K hK => ?_)
  simp
  refine hK _ (then_n ?_); clear hK K
  refine w_seq (w_seq (w_text tblOk pmixed 11 (by kernel_rfl) (by kernel_rfl) fun K hK => ?_))
  simp [ho, lookup_fm hb, hs]
  refine hK _ (then_n ?_); clear hK K
  refine w_seq (w_run tblOk fun K hK => ?_)
  simp
  refine hK _ (then_n ?_); clear hK K
  refine w_cond (t := !(getF s.seen nm).isSome) (by simp) (fun ht => ?_) (fun ht => w_skip (then_n ?_))
  · simp at ht
    refine w_seq (w_run tblOk fun K hK => ?_)
    simp
    refine hK _ (then_n ?_); clear hK K
    refine w_ret ?_
    have : onS s ⟨kd, nm, to, bb, n⟩ = (5, s) := by simp [onS, ht]
    rw [this]
    exact ⟨rfl, k, ms, rfl, h, .refl _ _⟩
  · simp at ht
    have : onS s ⟨kd, nm, to, bb, n⟩ = doingS s ⟨kd, nm, to, bb, n⟩ := by simp [onS, ht]
    rw [this]
    refine w_seq (w_run tblOk fun K hK => ?_)
    simp
    refine callK_any (hdo (hc (by simpa using ht))) rfl rfl (by simp [Deed.v]) fun r G' hr => ?_
    obtain ⟨k', ms', rfl, h2, h3⟩ := hr
    simp
    refine hK _ (then_n ?_); clear hK K
    refine w_ret ?_
    exact ⟨rfl, k', ms', rfl, h2, h3⟩
end Go.Proofs.Dev

/- The disk's calls, walked. -/
set_option linter.unusedVariables false
set_option linter.unusedSimpArgs false
namespace Go.Proofs.Dev
open Go.Am
set_option maxRecDepth 100000

attribute [local simp] runK callOf nextOf stepA evalV St.ev St.get St.put St.next cellsA oneA newVarA wantA okConst constA zeroA fieldA tbl shiftA obj loadA mkV TyK.agg binA binV intBin storeA splA globIf St.setObj
  intsA maxI minI pickA unA convA nilA thenA inBlockA List.range List.range.loop AVal.glob AVal.glob.globs List.replicate retE retA resA frzAll frzV frz1 dataV data1 ownA rowsA oneOrTup runL pureA okTup indexA lenA
  slotsWeak objsWeak AVal.under AVal.under.unders objsBelow AObj.underO runP runPs dryA buildSliceA pairsA rowA rowsOfA rowsFit toDat toDats ptrNil buildA fillA

def withMay (s : DS) (l : List ByteArray) (k : Int × DS) : Int × DS := if mayE s.down l ≠ 0 then (mayE s.down l, s) else k

abbrev dk (k : Int) (n t b : ByteArray) (i : Int) : Deed := ⟨k, n, t, b, i⟩
abbrev e0 : ByteArray := ⟨#[]⟩

def makeS (s : DS) (n : ByteArray) : Int × DS := withMay s [n] (if (getF s.seen n).isSome then (6, s) else if 64 ≤ s.seen.length then (4, s) else doingS s (dk 0 n e0 e0 0))
def renameS (s : DS) (n t : ByteArray) : Int × DS := withMay s [n, t] (onS s (dk 3 n t e0 0))
def removeS (s : DS) (n : ByteArray) : Int × DS := withMay s [n] (onS s (dk 4 n e0 e0 0))
def cutS (s : DS) (n : ByteArray) (i : Int) : Int × DS :=
  withMay s [n] (if i < 0 ∨ ((getF s.seen n).isSome = true ∧ (((getF s.seen n).getD e0).size : Int) < i) then (1, s) else onS s (dk 2 n e0 e0 i))

/-- What a call does to the disk. -/
def Does (f : Nat) (G : List AObj) (k : DK) (args : List AVal) (ml : FM) (o : Int × DS) : Prop :=
  ACall Try.prog f (.p (.g k.i) (.ref 0) :: args) G (fun r G' => ∃ k' ms', r = u8 o.1 ∧ DAt G' k' o.2 ml ms' ∧ Fr G k G' k')

theorem can_of (f : Fs) (x : Deed) (h1 : x.kind ≠ 1) (h2 : x.kind ≠ 2) : can f x := ⟨fun h => absurd h h1, fun h => absurd h h2⟩

variable {G : List AObj} {k : DK} {s : DS} {ml ms : FM}

theorem rename_ok (h : DAt G k s ml ms) (ok : s.ok) (n t : ByteArray) : Does 30 G k [str n, str t] ml (renameS s n t) := by
  have ho := h.o
  have hb := h.b
  have hs := h.seen
  simp only [DS.cells] at ho
  have hcall := on_ok h ok (x := dk 3 n t e0 0) (fun _ => can_of _ _ (by simp) (by simp))
  simp only [Deed.v] at hcall
  unfold Does
  refine ACall.bodyW tblOk Try.func30 (c := _) rfl rfl ?_
  refine w_seq (w_run tblOk fun K hK => ?_)
  simp
  refine hK _ (then_n ?_); clear hK K
  refine w_seq (w_seq (w_run tblOk fun K hK => ?_))
  simp
  refine callK_any (may_ok ho [n, t]) rfl rfl (by simp) fun r G' ⟨h1, h2⟩ => ?_
  subst h1; subst h2
  simp
  refine hK _ (then_n ?_); clear hK K
  refine w_seq (w_run tblOk fun K hK => ?_)
  simp
  refine hK _ (then_n ?_); clear hK K
  refine w_cond (t := mayE s.down [n, t] != 0) (by simp) (fun ht => ?_) (fun ht => w_skip (then_n ?_))
  · simp at ht
    refine w_seq (w_run tblOk fun K hK => ?_)
    simp
    refine hK _ (then_n ?_); clear hK K
    refine w_ret ?_
    have hsp : renameS s n t = (mayE s.down [n, t], s) := by simp [renameS, withMay, ht]
    rw [hsp]
    exact ⟨rfl, k, ms, rfl, h, .refl _ _⟩
  simp at ht
  have hsp : renameS s n t = onS s (dk 3 n t e0 0) := by simp [renameS, withMay, ht]
  rw [hsp]
  refine w_seq (w_run tblOk fun K hK => ?_)
  simp
  refine callK_any hcall rfl rfl (by simp [Deed.v]) fun r G' hr => ?_
  obtain ⟨k', ms', rfl, h2, h3⟩ := hr
  simp
  refine hK _ (then_n ?_); clear hK K
  refine w_ret ?_
  exact ⟨rfl, k', ms', rfl, h2, h3⟩

theorem remove_ok (h : DAt G k s ml ms) (ok : s.ok) (n : ByteArray) : Does 31 G k [str n] ml (removeS s n) := by
  have ho := h.o
  have hb := h.b
  have hs := h.seen
  simp only [DS.cells] at ho
  have hcall := on_ok h ok (x := dk 4 n e0 e0 0) (fun _ => can_of _ _ (by simp) (by simp))
  simp only [Deed.v] at hcall
  unfold Does
  refine ACall.bodyW tblOk Try.func31 (c := _) rfl rfl ?_
  refine w_seq (w_run tblOk fun K hK => ?_)
  simp
  refine hK _ (then_n ?_); clear hK K
  refine w_seq (w_seq (w_run tblOk fun K hK => ?_))
  simp
  refine callK_any (may_ok ho [n]) rfl rfl (by simp) fun r G' ⟨h1, h2⟩ => ?_
  subst h1; subst h2
  simp
  refine hK _ (then_n ?_); clear hK K
  refine w_seq (w_run tblOk fun K hK => ?_)
  simp
  refine hK _ (then_n ?_); clear hK K
  refine w_cond (t := mayE s.down [n] != 0) (by simp) (fun ht => ?_) (fun ht => w_skip (then_n ?_))
  · simp at ht
    refine w_seq (w_run tblOk fun K hK => ?_)
    simp
    refine hK _ (then_n ?_); clear hK K
    refine w_ret ?_
    have hsp : removeS s n = (mayE s.down [n], s) := by simp [removeS, withMay, ht]
    rw [hsp]
    exact ⟨rfl, k, ms, rfl, h, .refl _ _⟩
  simp at ht
  have hsp : removeS s n = onS s (dk 4 n e0 e0 0) := by simp [removeS, withMay, ht]
  rw [hsp]
  refine w_seq (w_run tblOk fun K hK => ?_)
  simp
  refine callK_any hcall rfl rfl (by simp [Deed.v]) fun r G' hr => ?_
  obtain ⟨k', ms', rfl, h2, h3⟩ := hr
  simp
  refine hK _ (then_n ?_); clear hK K
  refine w_ret ?_
  exact ⟨rfl, k', ms', rfl, h2, h3⟩

theorem make_ok (h : DAt G k s ml ms) (ok : s.ok) (n : ByteArray) : Does 27 G k [str n] ml (makeS s n) := by
  have ho := h.o
  have hb := h.b
  have hs := h.seen
  simp only [DS.cells] at ho
  have hcall := doing_ok h ok (x := dk 0 n e0 e0 0) (can_of _ _ (by simp) (by simp))
  simp only [Deed.v] at hcall
  have hlen : ms.es.length = s.seen.length := by rw [← hs]; simp [kvs]
  unfold Does
  refine ACall.bodyW tblOk Try.func27 (c := _) rfl rfl ?_
  refine w_seq (w_run tblOk fun K hK => ?_)
  simp
  refine hK _ (then_n ?_); clear hK K
  refine w_seq (w_seq (w_run tblOk fun K hK => ?_))
  simp
  refine callK_any (may_ok ho [n]) rfl rfl (by simp) fun r G' ⟨h1, h2⟩ => ?_
  subst h1; subst h2
  simp
  refine hK _ (then_n ?_); clear hK K
  refine w_seq (w_run tblOk fun K hK => ?_)
  simp
  refine hK _ (then_n ?_); clear hK K
  refine w_cond (t := mayE s.down [n] != 0) (by simp) (fun ht => ?_) (fun ht => w_skip (then_n ?_))
  · simp at ht
    refine w_seq (w_run tblOk fun K hK => ?_)
    simp
    refine hK _ (then_n ?_); clear hK K
    refine w_ret ?_
    have hsp : makeS s n = (mayE s.down [n], s) := by simp [makeS, withMay, ht]
    rw [hsp]
    exact ⟨rfl, k, ms, rfl, h, .refl _ _⟩
  simp at ht
  refine w_seq (w_run tblOk fun K hK => ?_)
  simp [ho, lookup_fm hb, hs]
  refine hK _ (then_n ?_); clear hK K
  refine w_seq (w_block ?_)
  refine w_seq (w_run tblOk fun K hK => ?_)
  simp
  refine hK _ (then_n ?_); clear hK K
  refine w_cond (t := (getF s.seen n).isSome) (by simp) (fun h1 => ?_) (fun h1 => ?_)
  · refine w_seq (w_run tblOk fun K hK => ?_)
    simp
    refine hK _ (then_n ?_); clear hK K
    refine w_ret ?_
    have hsp : makeS s n = (6, s) := by simp [makeS, withMay, ht, h1]
    rw [hsp]
    exact ⟨rfl, k, ms, rfl, h, .refl _ _⟩
  have hlen2 := len_fm (s := []) (L := []) hb
  refine w_seq (w_run tblOk fun K hK => ?_)
  simp [ho, hb, FM.obj, hlen]
  refine hK _ (then_n ?_); clear hK K
  refine w_cond (t := decide (64 ≤ s.seen.length)) (by simp <;> omega) (fun h2 => ?_) (fun h2 => w_skip (inBlockA_normal (then_n ?_)))
  · refine w_seq (w_run tblOk fun K hK => ?_)
    simp
    refine hK _ (then_n ?_); clear hK K
    refine w_ret ?_
    simp at h2
    have hsp : makeS s n = (4, s) := by simp [makeS, withMay, ht, h1, h2]
    rw [hsp]
    exact ⟨rfl, k, ms, rfl, h, .refl _ _⟩
  simp at h2
  have h2' : ¬ 64 ≤ s.seen.length := by omega
  have hsp : makeS s n = doingS s (dk 0 n e0 e0 0) := by simp only [makeS, withMay, ht, h1, h2']; simp
  rw [hsp]
  refine w_seq (w_run tblOk fun K hK => ?_)
  simp
  refine callK_any hcall rfl rfl (by simp [Deed.v]) fun r G' hr => ?_
  obtain ⟨k', ms', rfl, h2, h3⟩ := hr
  simp
  refine hK _ (then_n ?_); clear hK K
  refine w_ret ?_
  exact ⟨rfl, k', ms', rfl, h2, h3⟩

theorem cut_ok (h : DAt G k s ml ms) (ok : s.ok) (n : ByteArray) (i : Int) : Does 29 G k [str n, int i] ml (cutS s n i) := by
  have ho := h.o
  have hb := h.b
  have hs := h.seen
  simp only [DS.cells] at ho
  unfold Does
  refine ACall.bodyW tblOk Try.func29 (c := _) rfl rfl ?_
  refine w_seq (w_run tblOk fun K hK => ?_)
  simp
  refine hK _ (then_n ?_); clear hK K
  refine w_seq (w_seq (w_run tblOk fun K hK => ?_))
  simp
  refine callK_any (may_ok ho [n]) rfl rfl (by simp) fun r G' ⟨h1, h2⟩ => ?_
  subst h1; subst h2
  simp
  refine hK _ (then_n ?_); clear hK K
  refine w_seq (w_run tblOk fun K hK => ?_)
  simp
  refine hK _ (then_n ?_); clear hK K
  refine w_cond (t := mayE s.down [n] != 0) (by simp) (fun ht => ?_) (fun ht => w_skip (then_n ?_))
  · simp at ht
    refine w_seq (w_run tblOk fun K hK => ?_)
    simp
    refine hK _ (then_n ?_); clear hK K
    refine w_ret ?_
    have hsp : cutS s n i = (mayE s.down [n], s) := by simp [cutS, withMay, ht]
    rw [hsp]
    exact ⟨rfl, k, ms, rfl, h, .refl _ _⟩
  simp at ht
  refine w_seq (w_run tblOk fun K hK => ?_)
  simp [ho, lookup_fm hb, hs]
  refine hK _ (then_n ?_); clear hK K
  refine w_seq (w_seq (w_run tblOk fun K hK => ?_))
  by_cases h1 : i < 0
  · simp [h1]
    refine hK _ (then_n ?_); clear hK K
    refine w_cond (t := true) (by simp) (fun _ => ?_) (fun h => by cases h)
    refine w_seq (w_run tblOk fun K hK => ?_)
    simp
    refine hK _ (then_n ?_); clear hK K
    refine w_ret ?_
    have hsp : cutS s n i = (1, s) := by simp [cutS, withMay, ht, h1]
    rw [hsp]
    exact ⟨rfl, k, ms, rfl, h, .refl _ _⟩
  cases h2 : getF s.seen n with
  | none =>
    simp [h1, h2]
    refine hK _ (then_n ?_); clear hK K
    refine w_cond (t := false) (by simp) (fun h => by cases h) (fun _ => w_skip (then_n ?_))
    have hcall := on_ok h ok (x := dk 2 n e0 e0 i) (fun hh => by simp [h2] at hh)
    simp only [Deed.v] at hcall
    have hsp : cutS s n i = onS s (dk 2 n e0 e0 i) := by simp [cutS, withMay, ht, h1, h2]
    rw [hsp]
    refine w_seq (w_run tblOk fun K hK => ?_)
    simp
    refine callK_any hcall rfl rfl (by simp [Deed.v]) fun r G' hr => ?_
    obtain ⟨k', ms', rfl, h2, h3⟩ := hr
    simp
    refine hK _ (then_n ?_); clear hK K
    refine w_ret ?_
    exact ⟨rfl, k', ms', rfl, h2, h3⟩
  | some v =>
    simp [h1, h2]
    refine hK _ (then_n ?_); clear hK K
    refine w_cond (t := decide ((v.size : Int) < i)) (by simp) (fun h3 => ?_) (fun h3 => w_skip (then_n ?_))
    · simp at h3
      refine w_seq (w_run tblOk fun K hK => ?_)
      simp
      refine hK _ (then_n ?_); clear hK K
      refine w_ret ?_
      have hsp : cutS s n i = (1, s) := by simp [cutS, withMay, ht, h2, h3]
      rw [hsp]
      exact ⟨rfl, k, ms, rfl, h, .refl _ _⟩
    · simp at h3
      have hcall := on_ok h ok (x := dk 2 n e0 e0 i) (fun hh => ⟨fun h => absurd h (by simp), fun _ => by simp [h2]; omega⟩)
      simp only [Deed.v] at hcall
      have h4 : ¬ (v.size : Int) < i := by omega
      have hsp : cutS s n i = onS s (dk 2 n e0 e0 i) := by simp only [cutS, withMay, ht, h1, h2]; simp [h4]
      rw [hsp]
      refine w_seq (w_run tblOk fun K hK => ?_)
      simp
      refine callK_any hcall rfl rfl (by simp [Deed.v]) fun r G' hr => ?_
      obtain ⟨k', ms', rfl, h2, h3⟩ := hr
      simp
      refine hK _ (then_n ?_); clear hK K
      refine w_ret ?_
      exact ⟨rfl, k', ms', rfl, h2, h3⟩

def readS (s : DS) (n : ByteArray) : Int := if mayE s.down [n] ≠ 0 then mayE s.down [n] else if (getF s.seen n).isSome then 0 else 5

theorem read_ok (h : DAt G k s ml ms) (n : ByteArray) (hsz : ∀ v, getF s.seen n = some v → v.size ≤ 9223372036854775807) :
    ACall Try.prog 26 [.p (.g k.i) (.ref 0), str n] G (fun r G' => r = .tup [.d (.l (if readS s n = 0 then byteRows ((getF s.seen n).getD e0) else [])), u8 (readS s n)] ∧ G' = G) := by
  have ho := h.o
  have hb := h.b
  have hs := h.seen
  simp only [DS.cells] at ho
  refine ACall.bodyW tblOk Try.func26 (c := _) rfl rfl ?_
  refine w_seq (w_run tblOk fun K hK => ?_)
  simp
  refine hK _ (then_n ?_); clear hK K
  refine w_seq (w_seq (w_run tblOk fun K hK => ?_))
  simp
  refine callK_any (may_ok ho [n]) rfl rfl (by simp) fun r G' ⟨h1, h2⟩ => ?_
  subst h1; subst h2
  simp
  refine hK _ (then_n ?_); clear hK K
  refine w_seq (w_run tblOk fun K hK => ?_)
  simp
  refine hK _ (then_n ?_); clear hK K
  refine w_cond (t := mayE s.down [n] != 0) (by simp) (fun ht => ?_) (fun ht => w_skip (then_n ?_))
  · simp at ht
    refine w_seq (w_run tblOk fun K hK => ?_)
    simp
    refine hK _ (then_n ?_); clear hK K
    refine w_ret ?_
    simp [readS, ht]
  simp at ht
  refine w_seq (w_run tblOk fun K hK => ?_)
  simp [ho, lookup_fm hb, hs]
  refine hK _ (then_n ?_); clear hK K
  refine w_seq (w_seq (w_run tblOk fun K hK => ?_))
  simp
  refine hK _ (then_n ?_); clear hK K
  refine w_cond (t := !(getF s.seen n).isSome) (by simp) (fun h1 => ?_) (fun h1 => w_skip (then_n ?_))
  · simp at h1
    refine w_seq (w_run tblOk fun K hK => ?_)
    simp
    refine hK _ (then_n ?_); clear hK K
    refine w_ret ?_
    simp [readS, ht, h1]
  · cases h2 : getF s.seen n with
    | none => simp [h2] at h1
    | some v =>
      have hv := hsz v h2
      refine w_seq (w_run tblOk fun K hK => ?_)
      simp [strBytesA, h2, hv]
      refine hK _ (then_n ?_); clear hK K
      refine w_ret ?_
      simp [readS, ht, h2]

theorem waits_ok (h : DAt G k s ml ms) : ACall Try.prog 18 [.p (.g k.i) (.ref 0)] G (fun r G' => r = int s.waits.length ∧ G' = G) := by
  have ho := h.o
  have hw := h.w
  simp only [DS.cells] at ho
  refine ACall.bodyW tblOk Try.func18 (c := _) rfl rfl ?_
  refine w_seq (w_run tblOk fun K hK => ?_)
  simp
  refine hK _ (then_n ?_); clear hK K
  refine w_seq (w_seq (w_run tblOk fun K hK => ?_))
  simp [binA, isNilPtr, ho]
  refine hK _ (then_n ?_); clear hK K
  refine w_cond (t := false) (by simp) (fun h => by cases h) (fun _ => w_skip (then_n ?_))
  refine w_seq (w_run tblOk fun K hK => ?_)
  obtain ⟨i, a, b, w⟩ := k
  rcases w with _ | ⟨j, g⟩
  · simp only at hw ho
    simp [ho, wv]
    refine hK _ (then_n ?_); clear hK K
    refine w_ret ?_
    simp [hw]
  · simp only at hw ho
    simp [ho, wv, hw]
    refine hK _ (then_n ?_); clear hK K
    refine w_ret ?_
    simp

theorem deeds_ok (h : DAt G k s ml ms) : ACall Try.prog 19 [.p (.g k.i) (.ref 0)] G (fun r G' => r = int s.deeds ∧ G' = G) := by
  have ho := h.o
  simp only [DS.cells] at ho
  refine ACall.bodyW tblOk Try.func19 (c := _) rfl rfl ?_
  refine w_seq (w_run tblOk fun K hK => ?_)
  simp
  refine hK _ (then_n ?_); clear hK K
  refine w_seq (w_seq (w_run tblOk fun K hK => ?_))
  simp [binA, isNilPtr, ho]
  refine hK _ (then_n ?_); clear hK K
  refine w_cond (t := false) (by simp) (fun h => by cases h) (fun _ => w_skip (then_n ?_))
  refine w_seq (w_run tblOk fun K hK => ?_)
  simp [ho]
  refine hK _ (then_n ?_); clear hK K
  refine w_ret ?_
  simp

theorem up_ok (h : DAt G k s ml ms) : ACall Try.prog 25 [.p (.g k.i) (.ref 0)] G (fun r G' => r = boo (!s.down) ∧ G' = G) := by
  have ho := h.o
  simp only [DS.cells] at ho
  refine ACall.bodyW tblOk Try.func25 (c := _) rfl rfl ?_
  refine w_seq (w_run tblOk fun K hK => ?_)
  simp
  refine hK _ (then_n ?_); clear hK K
  refine w_seq (w_run tblOk fun K hK => ?_)
  simp [binA, isNilPtr, ho]
  refine hK _ (then_n ?_); clear hK K
  refine w_ret ?_
  simp

theorem arm_ok (h : DAt G k s ml ms) (n : Int) (hn : 0 ≤ n) : ACall Try.prog 24 [.p (.g k.i) (.ref 0), int n] G (fun r G' => r = .tup [] ∧ DAt G' k { s with armed := n } ml ms ∧ Fr G k G' k) := by
  have ho := h.o
  simp only [DS.cells] at ho
  have hi := (List.getElem?_eq_some_iff.1 ho).1
  have hm : (if n < 0 then 0 else n) = n := by split <;> omega
  refine ACall.mono (Q := fun r G' => r = .tup [] ∧ G' = G.set k.i (({ s with armed := n } : DS).cells k)) ?_ (fun r G' hr => ?_)
  · refine ACall.bodyW tblOk Try.func24 (c := _) rfl rfl ?_
    refine w_seq (w_run tblOk fun K hK => ?_)
    simp [binA, isNilPtr, ho]
    refine hK _ (then_n ?_); clear hK K
    refine w_cond (t := true) (by simp) (fun _ => ?_) (fun h => by cases h)
    refine w_run tblOk fun K hK => ?_
    simp [ho]
    refine hK _ ?_; clear hK K
    simp [DS.cells, hm]
  · obtain ⟨rfl, rfl⟩ := hr
    have e1 : k.i ≠ k.a := fun e => by have := h.a; rw [← e, ho] at this; cases this
    have e2 : k.i ≠ k.b := fun e => by have := h.b; rw [← e, ho] at this; cases this
    refine ⟨rfl, ⟨by simp [hi], by simp [e1, h.a], by simp [e2, h.b], ?_, h.ab, h.last, h.seen, h.okl, h.oks⟩, ⟨rfl, by simp, fun j hj hk => ?_, fun j hj => .inl hj⟩⟩
    · have hw := h.w
      rcases hk : k.w with _ | ⟨j, g⟩
      · rw [hk] at hw; exact hw
      · rw [hk] at hw
        simp only at hw ⊢
        have e3 : k.i ≠ j := fun e => by rw [← e, ho] at hw; cases hw
        simp [e3, hw]
    · have : k.i ≠ j := fun e => hk (by simp [DK.ids, e])
      rw [List.getElem?_set_ne this]

end Go.Proofs.Dev

/- The disk's bytes counted: through a map in whatever order. -/
set_option linter.unusedVariables false
set_option linter.unusedSimpArgs false
namespace Go.Proofs.Dev
open Go.Am
set_option maxRecDepth 100000

attribute [local simp] runK callOf nextOf stepA evalV St.ev St.get St.put St.next cellsA oneA newVarA wantA okConst constA zeroA fieldA tbl shiftA obj loadA mkV TyK.agg binA binV intBin storeA splA globIf St.setObj
  intsA maxI minI pickA unA convA nilA thenA inBlockA List.range List.range.loop AVal.glob AVal.glob.globs List.replicate retE retA resA frzAll frzV frz1 dataV data1 ownA rowsA oneOrTup runL pureA okTup indexA lenA
  slotsWeak objsWeak AVal.under AVal.under.unders objsBelow AObj.underO runP runPs dryA buildSliceA pairsA rowA rowsOfA rowsFit toDat toDats ptrNil buildA fillA isNilPtr

def leftF (l : List FE) (seen : List Nat) : List FE := l.filter fun x => !seen.contains x.b

theorem leftE_enc (l : List FE) (seen : List Nat) : leftE (l.map FE.enc) seen = (leftF l seen).map FE.enc := by
  simp only [leftE, leftF, List.filter_map]
  rfl

theorem next_nil {s : List AVal} {G : List AObj} {b : Nat} {m : FM} {seen : List Nat} (h : G[b]? = some m.obj) (ok : m.ok) (hl : leftF m.es seen = []) :
    nextA { s := s, L := [.iter (.p (.g b) .mp) m.clock seen m.clock], G := G } (.p (.l 0) (.ref 0)) = some [(.tup [boo false], [.iter (.p (.g b) .mp) m.clock seen m.clock], G)] := by
  have hall : (m.es.map FE.enc).all (fun en => decide (en.b < m.clock)) = true := by
    simp only [List.all_map, List.all_eq_true]
    intro x hx
    exact decide_eq_true (ok.1 x hx)
  simp only [nextA, iterA, obj, List.getElem?_cons_zero, mapA, h, FM.obj, hall, leftE_enc, hl]
  simp

theorem next_cons {s : List AVal} {G : List AObj} {b : Nat} {m : FM} {seen : List Nat} (h : G[b]? = some m.obj) (ok : m.ok) (hl : leftF m.es seen ≠ []) :
    nextA { s := s, L := [.iter (.p (.g b) .mp) m.clock seen m.clock], G := G } (.p (.l 0) (.ref 0)) =
      some ((leftF m.es seen).map fun x => (.tup [boo true, str x.k, str x.v], [.iter (.p (.g b) .mp) m.clock (seen ++ [x.b]) m.clock], G)) := by
  have hall : (m.es.map FE.enc).all (fun en => decide (en.b < m.clock)) = true := by
    simp only [List.all_map, List.all_eq_true]
    intro x hx
    exact decide_eq_true (ok.1 x hx)
  simp only [nextA, iterA, obj, List.getElem?_cons_zero, mapA, h, FM.obj, hall, leftE_enc]
  cases hq : leftF m.es seen with
  | nil => exact absurd hq hl
  | cons x xs => simp [FE.enc, keyA, St.setObj, Value.oneCell']

theorem entry_fm {s : List AVal} {G : List AObj} {b : Nat} {m : FM} {seen : List Nat} {x : FE} (h : G[b]? = some m.obj) (ok : m.ok) (hx : x ∈ m.es) :
    entryA { s := s, L := [.iter (.p (.g b) .mp) m.clock (seen ++ [x.b]) m.clock], G := G } (.p (.l 0) (.ref 0)) = some (.tup [str x.k, str x.v]) := by
  have hf : (m.es.map FE.enc).find? (fun e => decide (e.b = x.b)) = some x.enc := by
    have key : ∀ l : List FE, x ∈ l → (l.map (·.b)).Nodup → (l.map FE.enc).find? (fun e => decide (e.b = x.b)) = some x.enc := fun l => by
      induction l with
      | nil => intro h; cases h
      | cons y ys ih =>
        intro h1 h2
        simp only [List.map_cons, List.nodup_cons] at h2
        simp only [List.mem_cons] at h1
        rcases h1 with rfl | h1
        · simp [FE.enc]
        · have hne : ¬ y.b = x.b := fun e => h2.1 (List.mem_map.2 ⟨x, h1, e.symm⟩)
          simp only [List.map_cons, List.find?_cons]
          have : decide (y.enc.b = x.b) = false := decide_eq_false hne
          rw [this]
          exact ih h1 h2.2
    exact key m.es hx ok.2
  simp only [entryA, iterA, obj, List.getElem?_cons_zero, mapA, h, FM.obj, List.getLast?_append, List.getLast?_singleton, Option.some_or, hf]
  simp [FE.enc, Value.oneCell']

theorem leftF_nil (l : List FE) : leftF l [] = l := List.filter_eq_self.2 (by simp)

/-- All bytes. -/
def sizeF : List FE → Int
  | [] => 0
  | x :: xs => x.v.size + sizeF xs

theorem sizeF_nn : ∀ l : List FE, 0 ≤ sizeF l
  | [] => by simp [sizeF]
  | x :: xs => by have := sizeF_nn xs; simp only [sizeF]; omega

theorem left_step {l : List FE} {seen : List Nat} {x : FE} (hn : (l.map (·.b)).Nodup) (hx : x ∈ leftF l seen) :
    sizeF (leftF l seen) = x.v.size + sizeF (leftF l (seen ++ [x.b])) ∧ (leftF l (seen ++ [x.b])).length < (leftF l seen).length := by
  induction l with
  | nil => simp [leftF] at hx
  | cons y ys ih =>
    simp only [List.map_cons, List.nodup_cons] at hn
    simp only [leftF, List.filter_cons] at hx ⊢
    by_cases hy : seen.contains y.b = true
    · have hy2 : (seen ++ [x.b]).contains y.b = true := by simp at hy ⊢; exact .inl hy
      simp only [hy, Bool.not_true, Bool.false_eq_true, if_false] at hx ⊢
      simp only [hy2, Bool.not_true, Bool.false_eq_true, if_false]
      exact ih hn.2 hx
    · simp only [hy, Bool.not_false, if_true] at hx ⊢
      by_cases hyx : y.b = x.b
      · have hsame : y = x := by
          simp only [List.mem_cons] at hx
          rcases hx with rfl | hx
          · rfl
          · exact absurd (List.mem_map.2 ⟨x, (List.mem_filter.1 hx).1, hyx.symm⟩) hn.1
        subst hsame
        have hy2 : (seen ++ [y.b]).contains y.b = true := by simp
        simp only [hy2, Bool.not_true, Bool.false_eq_true, if_false, sizeF, List.length_cons]
        have hrest : ys.filter (fun z => !(seen ++ [y.b]).contains z.b) = ys.filter (fun z => !seen.contains z.b) := by
          apply List.filter_congr
          intro z hz
          have : ¬ z.b = y.b := fun e => hn.1 (List.mem_map.2 ⟨z, hz, e⟩)
          simp [this]
        rw [hrest]
        exact ⟨rfl, by omega⟩
      · have hy2 : (seen ++ [x.b]).contains y.b = false := by simp at hy ⊢; exact ⟨hy, hyx⟩
        have hx' : x ∈ leftF ys seen := by
          simp only [List.mem_cons] at hx
          rcases hx with rfl | hx
          · exact absurd rfl hyx
          · exact hx
        simp only [hy2, Bool.not_false, if_true, sizeF, List.length_cons]
        have := ih hn.2 hx'
        simp only [leftF] at this
        omega

def usedF (f : Fs) : Int := (f.map fun x => (x.2.size : Int)).sum

theorem sizeF_used (l : List FE) : sizeF l = usedF (kvs l) := by
  induction l with
  | nil => rfl
  | cons x xs ih => simp only [sizeF, ih, usedF, kvs, List.map_cons, List.sum_cons]

theorem used_ok {G : List AObj} {k : DK} {s : DS} {ml ms : FM} (h : DAt G k s ml ms) (hu : usedF s.seen ≤ 9223372036854775807) :
    ACall Try.prog 23 [.p (.g k.i) (.ref 0)] G (fun r G' => r = int (usedF s.seen) ∧ G' = G) := by
  have ho := h.o
  have hb := h.b
  have ok := h.oks
  have htot : sizeF ms.es = usedF s.seen := by rw [sizeF_used, h.seen]
  simp only [DS.cells] at ho
  refine ACall.bodyW tblOk Try.func23 (c := _) rfl rfl ?_
  refine w_seq (w_run tblOk fun K hK => ?_)
  simp
  refine hK _ (then_n ?_); clear hK K
  refine w_seq (w_seq (w_run tblOk fun K hK => ?_))
  simp [ho]
  refine hK _ (then_n ?_); clear hK K
  refine w_cond (t := false) (by simp) (fun h => by cases h) (fun _ => w_skip (then_n ?_))
  refine w_seq (w_run tblOk fun K hK => ?_)
  simp
  refine hK _ (then_n ?_); clear hK K
  refine w_seq (w_seq (w_run tblOk fun K hK => ?_))
  simp [ho, rangeA, mapA, hb, FM.obj]
  refine hK _ (then_n ?_); clear hK K
  refine w_block ?_
  refine AWp.loopW (fun seen : List Nat => { s := [.p (.g k.i) (.ref 0), .any, int 0, int (sizeF ms.es - sizeF (leftF ms.es seen)), .any, .any, .any, .any, .any, .any, .any, .any, .p (.l 0) (.ref 0), .any, .any, .any, .any, .any, .any, .any, .any, .any], L := [.iter (.p (.g k.b) .mp) ms.clock seen ms.clock], G := G })
    (fun seen => 0 ≤ sizeF ms.es - sizeF (leftF ms.es seen)) (fun seen => (leftF ms.es seen).length) (fun seen hseen => ?_) [] (by rw [leftF_nil]; omega) (Weak.slots (by simp [leftF_nil]) (by simp) (by simp))
  by_cases hl : leftF ms.es seen = []
  · refine w_seq (w_run tblOk fun K hK => ?_)
    simp [next_nil hb ok hl]
    refine hK _ (then_n ?_); clear hK K
    refine w_seq (w_cond (t := false) (by simp) (fun h => by cases h) (fun _ => w_exit ?_))
    simp [hl, sizeF, htot]
    refine w_seq (w_run tblOk fun K hK => ?_)
    simp
    refine hK _ (then_n ?_); clear hK K
    refine w_ret ?_
    simp
  · refine w_seq (w_run tblOk fun K hK => ?_)
    simp [next_cons hb ok hl]
    intro x hx
    have hxm : x ∈ ms.es := (List.mem_filter.1 hx).1
    have hst := left_step ok.2 hx
    have hnn := sizeF_nn (leftF ms.es (seen ++ [x.b]))
    refine hK _ (then_n ?_); clear hK K
    refine w_seq (w_cond (t := true) (by simp) (fun _ => w_skip (then_n ?_)) (fun h => by cases h))
    refine w_block (w_seq (w_run tblOk fun K hK => ?_))
    simp [entry_fm hb ok hxm]
    refine hK _ (then_n ?_); clear hK K
    refine w_run tblOk fun K hK => ?_
    simp
    refine hK _ ?_; clear hK K
    refine ⟨seen ++ [x.b], by omega, hst.2, ?_⟩
    refine Weak.slots ?_ (by simp) (by simp)
    simp
    rw [w64 (by omega) (by omega)]
    omega
end Go.Proofs.Dev

/- The disk's calls, walked: bytes appended, a new disk. -/
set_option linter.unusedVariables false
set_option linter.unusedSimpArgs false
namespace Go.Proofs.Dev
open Go.Am
set_option maxRecDepth 100000

attribute [local simp] runK callOf nextOf stepA evalV St.ev St.get St.put St.next cellsA oneA newVarA wantA okConst constA zeroA fieldA tbl shiftA obj loadA mkV TyK.agg binA binV intBin storeA splA globIf St.setObj
  intsA maxI minI pickA unA convA nilA thenA inBlockA List.range List.range.loop AVal.glob AVal.glob.globs List.replicate retE retA resA frzAll frzV frz1 dataV data1 ownA rowsA oneOrTup runL pureA okTup indexA lenA
  slotsWeak objsWeak AVal.under AVal.under.unders objsBelow AObj.underO runP runPs dryA buildSliceA pairsA rowA rowsOfA rowsFit toDat toDats ptrNil buildA fillA isNilPtr

theorem bytesOf_rows : ∀ l : List UInt8, bytesOf (l.map fun b => [.v (.int .u8 b.toNat)]) = some (l.map fun b => (b.toNat : Int))
  | [] => rfl
  | x :: xs => by simp [bytesOf, bytesOf_rows xs]

theorem strOf_ints (l : List UInt8) : ∀ acc : ByteArray, (l.map fun b => (b.toNat : Int)).foldl (fun r n => r.push (UInt8.ofNat n.toNat)) acc = ⟨acc.data ++ l.toArray⟩ := by
  induction l with
  | nil => intro acc; simp
  | cons x xs ih =>
    intro acc
    simp only [List.map_cons, List.foldl_cons, ih, Int.toNat_natCast, UInt8.ofNat_toNat]
    congr 1
    simp [ByteArray.push]

theorem strOf_bytes (B : ByteArray) : strOfInts (B.data.toList.map fun b => (b.toNat : Int)) = B := by
  unfold strOfInts
  rw [strOf_ints]
  cases B with
  | mk d => simp [ByteArray.empty, ByteArray.emptyWithCapacity] <;> rfl

theorem bytesOf_byteRows (B : ByteArray) : bytesOf (byteRows B) = some (B.data.toList.map fun b => (b.toNat : Int)) := bytesOf_rows _

theorem len_byteRows (B : ByteArray) : (byteRows B).length = B.size := by
  unfold byteRows
  rw [List.length_map]
  rfl

theorem usedF_nn : ∀ f : Fs, 0 ≤ usedF f
  | [] => by simp [usedF]
  | x :: xs => by have := usedF_nn xs; simp only [usedF, List.map_cons, List.sum_cons] at this ⊢; omega

theorem size_le_used {f : Fs} {k v : ByteArray} (h : getF f k = some v) : (v.size : Int) ≤ usedF f := by
  induction f with
  | nil => simp [getF] at h
  | cons x xs ih =>
    obtain ⟨a, y⟩ := x
    have hn := usedF_nn xs
    simp only [usedF, List.map_cons, List.sum_cons] at hn ⊢
    simp only [getF] at h
    split at h
    · simp at h; subst h; omega
    · have := ih h; simp only [usedF] at this; omega

def appendS (s : DS) (n b : ByteArray) : Int × DS :=
  withMay s [n] (if (getF s.seen n).isSome = true ∧ s.room - usedF s.seen < b.size then (4, s) else onS s (dk 1 n e0 b 0))

variable {G : List AObj} {k : DK} {s : DS} {ml ms : FM}

theorem append_ok (h : DAt G k s ml ms) (ok : s.ok) (n b : ByteArray) (hr : usedF s.seen ≤ s.room ∧ s.room ≤ 1073741824) :
    Does 28 G k [str n, .d (.l (byteRows b))] ml (appendS s n b) := by
  have ho := h.o
  have hb := h.b
  have hs := h.seen
  have hu := usedF_nn s.seen
  have huse := used_ok h (by omega)
  simp only [DS.cells] at ho
  have tail : (getF s.seen n).isSome = true ∧ s.room - usedF s.seen < b.size ∨ ((¬ ((getF s.seen n).isSome = true ∧ s.room - usedF s.seen < b.size)) ∧ ACall Try.prog 72 [.p (.g k.i) (.ref 0), .agg [u8 1, str n, str e0, str b, int 0]] G
      (fun r G' => ∃ k' ms', r = u8 (onS s (dk 1 n e0 b 0)).1 ∧ DAt G' k' (onS s (dk 1 n e0 b 0)).2 ml ms' ∧ Fr G k G' k')) := by
    by_cases hh : (getF s.seen n).isSome = true ∧ s.room - usedF s.seen < b.size
    · exact .inl hh
    · refine .inr ⟨hh, ?_⟩
      have := on_ok h ok (x := dk 1 n e0 b 0) (fun hsome => ⟨fun _ => ?_, fun hk => absurd hk (by simp)⟩)
      · exact this
      · cases hq : getF s.seen n with
        | none => simp [hq] at hsome
        | some v =>
          have := size_le_used hq
          simp only [hq, Option.isSome_some, true_and] at hh
          simp [hq]
          omega
  unfold Does
  refine ACall.bodyW tblOk Try.func28 (c := _) rfl rfl ?_
  refine w_seq (w_run tblOk fun K hK => ?_)
  simp
  refine hK _ (then_n ?_); clear hK K
  refine w_seq (w_seq (w_run tblOk fun K hK => ?_))
  simp
  refine callK_any (may_ok ho [n]) rfl rfl (by simp) fun r G' ⟨h1, h2⟩ => ?_
  subst h1; subst h2
  simp
  refine hK _ (then_n ?_); clear hK K
  refine w_seq (w_run tblOk fun K hK => ?_)
  simp
  refine hK _ (then_n ?_); clear hK K
  refine w_cond (t := mayE s.down [n] != 0) (by simp) (fun ht => ?_) (fun ht => w_skip (then_n ?_))
  · simp at ht
    refine w_seq (w_run tblOk fun K hK => ?_)
    simp
    refine hK _ (then_n ?_); clear hK K
    refine w_ret ?_
    have hsp : appendS s n b = (mayE s.down [n], s) := by simp [appendS, withMay, ht]
    rw [hsp]
    exact ⟨rfl, k, ms, rfl, h, .refl _ _⟩
  simp at ht
  refine w_seq (w_seq (w_run tblOk fun K hK => ?_))
  simp [ho, lookup_fm hb, hs]
  refine hK _ (then_n ?_); clear hK K
  refine w_seq (w_drawn tblOk pmixed (.take 0 <| .take 1 <| .take 2 <| .take 3 <| .take 4 <| .take 5 <| .take 6 <| .take 8 <| .all [(7, .all [(9, .all [(10, .all [(11, .take 12 <| .done)])])]), (9, .all [(7, .all [(10, .all [(11, .take 12 <| .done)])])])]) (by kernel_rfl) (by kernel_rfl) fun K hK => ?_)
  cases hq : getF s.seen n with
  | none =>
    have ⟨_, hcall⟩ := tail.resolve_left (by simp [hq])
    simp [hq]
    refine hK _ (then_n ?_); clear hK K
    refine w_cond (t := false) (by simp) (fun h => by cases h) (fun _ => w_skip (then_n ?_))
    have hsp : appendS s n b = onS s (dk 1 n e0 b 0) := by simp [appendS, withMay, ht, hq]
    rw [hsp]
    refine w_seq (w_run tblOk fun K hK => ?_)
    simp [bytesOf_byteRows, strOf_bytes]
    refine callK_any hcall rfl rfl (by simp) fun r G' hr => ?_
    obtain ⟨k', ms', rfl, h2, h3⟩ := hr
    simp
    refine hK _ (then_n ?_); clear hK K
    refine w_ret ?_
    exact ⟨rfl, k', ms', rfl, h2, h3⟩
  | some v =>
    simp [hq, ho, len_byteRows]
    have hw := w64 (n := s.room - usedF s.seen) (by omega) (by omega)
    constructor <;>
    · refine callK_any huse rfl rfl (by simp) fun r G' ⟨h1, h2⟩ => ?_
      subst h1; subst h2
      simp [hw, len_byteRows, ho]
      refine hK _ (then_n ?_); clear hK K
      refine w_cond (t := decide (s.room - usedF s.seen < (b.size : Int))) (by simp) (fun h1 => ?_) (fun h1 => w_skip (then_n ?_))
      · simp at h1
        refine w_seq (w_run tblOk fun K hK => ?_)
        simp
        refine hK _ (then_n ?_); clear hK K
        refine w_ret ?_
        have hsp : appendS s n b = (4, s) := by simp [appendS, withMay, ht, hq, h1]
        rw [hsp]
        exact ⟨rfl, k, ms, rfl, h, .refl _ _⟩
      · simp at h1
        have h2 : ¬ s.room - usedF s.seen < (b.size : Int) := by omega
        have ⟨_, hcall⟩ := tail.resolve_left (by simp [hq]; omega)
        have hsp : appendS s n b = onS s (dk 1 n e0 b 0) := by simp only [appendS, withMay, ht, hq, h2]; simp
        rw [hsp]
        refine w_seq (w_run tblOk fun K hK => ?_)
        simp [bytesOf_byteRows, strOf_bytes]
        refine callK_any hcall rfl rfl (by simp) fun r G' hr => ?_
        obtain ⟨k', ms', rfl, h2, h3⟩ := hr
        simp
        refine hK _ (then_n ?_); clear hK K
        refine w_ret ?_
        exact ⟨rfl, k', ms', rfl, h2, h3⟩

/-- A new disk. -/
def newS (room : Int) : DS := ⟨room, [], [], [], 0, false, 0⟩

theorem new_ok {G : List AObj} (room : Int) (h : 0 ≤ room ∧ room ≤ 1073741824) :
    ACall Try.prog 15 [int room] G (fun r G' => r = .tup [.p (.g (G.length + 2)) (.ref 0), u8 0] ∧ DAt G' ⟨G.length + 2, G.length, G.length + 1, none⟩ (newS room) ⟨[], 0⟩ ⟨[], 0⟩ ∧ (∀ j, j < G.length → G'[j]? = G[j]?) ∧ G'.length = G.length + 3) := by
  refine ACall.mono (Q := fun r G' => r = .tup [.p (.g (G.length + 2)) (.ref 0), u8 0] ∧ G' = G ++ [.map [] 0, .map [] 0, (newS room).cells ⟨G.length + 2, G.length, G.length + 1, none⟩]) ?_ (fun r G' hr => ?_)
  · refine ACall.bodyW tblOk Try.func15 (c := _) rfl rfl ?_
    refine w_seq (w_run tblOk fun K hK => ?_)
    simp
    refine hK _ (then_n ?_); clear hK K
    have h1 : ¬ room < 0 := by omega
    have h2 : ¬ 1073741824 < room := by omega
    refine w_seq (w_seq (w_run tblOk fun K hK => ?_))
    simp [h1, h2]
    refine hK _ (then_n ?_); clear hK K
    refine w_cond (t := false) (by simp [h1, h2]) (fun h => by cases h) (fun _ => w_skip (then_n ?_))
    refine w_seq (w_run tblOk fun K hK => ?_)
    simp [partA]
    refine hK _ (then_n ?_); clear hK K
    refine AWp.weak (Weak.prom 0 rfl rfl) (AWp.weak (Weak.prom 1 rfl rfl) (AWp.weak (Weak.prom 2 rfl rfl) (w_ret ?_)))
    simp [promS, AVal.ren, AVal.ren.rens, AObj.ren]
    rfl
  · obtain ⟨rfl, rfl⟩ := hr
    refine ⟨rfl, ⟨by simp, by simp [FM.obj], by simp [FM.obj], rfl, by simp, rfl, rfl, ⟨by simp, by simp⟩, ⟨by simp, by simp⟩⟩, fun j hj => ?_, by simp⟩
    rw [List.getElem?_append_left hj]
end Go.Proofs.Dev
