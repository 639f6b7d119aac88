/- The abstract machine: each operation does what the model's does. Seventh part: copy, conversions, maps. -/
import Derived.Test.YtpionejhjfmobaaDoorAmI
import Derived.Laws.LoneSync
set_option linter.unusedVariables false
set_option linter.unusedSimpArgs false
namespace Go.Am
section
variable {P : Program} {σ : AHeap} {γ : Gm} {w : World}

theorem copy_sound (R : Rel P σ γ w) {dt xt ty : TypeId} {ts : List TypeId} {d d' x x' : Value} (hd : VR σ.base γ d d') (hx : VR σ.base γ x x') {r : Value × AHeap} (h : aCopy P σ dt d x = some r) :
    OpOk P σ γ w r (Builtin.copy_ (dt :: ts).toArray ty #[d', x']) := by
  unfold aCopy at h
  split at h
  · rename_i e base dlen cap hu
    rw [Option.bind_eq_some_iff] at h
    obtain ⟨sz, hsz, h⟩ := h
    rw [Option.bind_eq_some_iff] at h
    obtain ⟨n, hn, h⟩ := h
    rw [Option.bind_eq_some_iff] at h
    obtain ⟨cs, hcs, h⟩ := h
    obtain ⟨cs', hL, h1, hr⟩ := first_sound R hx hcs
    have hnr := lenOf_sound (P := P) hx hn
    have hmin : Nat.min n dlen = min n dlen := rfl
    obtain ⟨base', cap', rfl⟩ : ∃ base' cap', d' = .slice base' dlen cap' := by cases hd <;> exact ⟨_, _, rfl⟩
    split at h
    · injection h with h; subst h
      cases hd
      refine OpOk.pure R (v' := goInt 0) ?_ (.int _ _)
      simp only [Builtin.copy_, List.getElem?_toArray, List.getElem?_cons_zero, List.getElem?_cons_succ, Sem.run_bind, run_underlying hu, Result.andThen_ok, run_size hsz, Sem.run_pure, hnr w]
      have := hr w rfl
      simp only [Nat.min_zero] at this
      simp only [hmin, Nat.min_zero, this, Result.andThen_ok]
      rfl
    · rename_i a
      have key : ∀ {w' : World} {a' : Addr}, base' = some a' → (storeCells a' cs').run P w = .ok () w' → (Builtin.copy_ (dt :: ts).toArray ty #[.slice base' dlen cap', x']).run P w = .ok (goInt (min n dlen : Nat)) w' := by
        intro w' a' hb hst
        subst hb
        simp only [Builtin.copy_, List.getElem?_toArray, List.getElem?_cons_zero, List.getElem?_cons_succ, Sem.run_bind, run_underlying hu, Result.andThen_ok, run_size hsz, Sem.run_pure, hnr w, hmin, hr w rfl, hst]
      obtain ⟨a', rfl⟩ : ∃ a', base' = some a' := by cases hd <;> exact ⟨_, rfl⟩
      split at h
      · rename_i hnil
        injection h with h; subst h; subst hnil
        have : cs' = [] := List.eq_nil_of_length_eq_zero (by have := hL.1; simpa using this.symm)
        subst this
        exact OpOk.pure R (key rfl rfl) (.int _ _)
      · rename_i hne
        rw [Option.map_eq_some_iff] at h
        obtain ⟨σ', hw, rfl⟩ := h
        have hA : AR σ γ a a' := by
          cases hd with
          | slOld _ _ _ hb hs _ => exact .ptrOld _ hb hs
          | slNew b o _ _ _ e hb hg _ _ _ => exact .ptrNew b o e hb hg
          | slEmpty _ _ _ _ _ =>
            exfalso
            apply hne
            have : min n 0 * sz = 0 := by simp
            unfold firstOf at hcs
            split at hcs
            · injection hcs with hcs; exact hcs.symm
            · rw [if_pos this] at hcs; injection hcs with hcs; exact hcs.symm
            · injection hcs with hcs; rw [← hcs]; simp [cellsOfBytes]
            · cases hcs
        obtain ⟨w', hst, R', F, G⟩ := wr_sound R hA hL h1 hw
        exact ⟨γ, w', _, key rfl hst, .int _ _, R', F, G, NewB.refl σ γ w⟩
  · cases h

/-! ### Conversions -/
theorem bytes_cons {c : Value} {cs : List Value} {l : List UInt8} (h : bytesOfCells (c :: cs) = some l) : ∃ n l', c = .int .u8 n ∧ bytesOfCells cs = some l' ∧ l = UInt8.ofNat n.toNat :: l' := by
  unfold bytesOfCells at h
  split at h
  · rename_i h1; cases h1
  · rename_i n cs' h1
    injection h1 with h1 h2; subst h1; subst h2
    rw [Option.map_eq_some_iff] at h
    obtain ⟨l', h3, h4⟩ := h
    exact ⟨n, l', rfl, h3, h4.symm⟩
  · cases h

theorem bytes_run (F : Value → ByteArray → Sem (ForInStep ByteArray)) (hF : ∀ n s, F (.int .u8 n) s = pure (.yield (s.push (UInt8.ofNat n.toNat)))) : ∀ (cs : List Value) (l : List UInt8), bytesOfCells cs = some l → ∀ (s : ByteArray),
    (forIn cs s F : Sem ByteArray).run P w = .ok (l.foldl ByteArray.push s) w := by
  intro cs
  induction cs with
  | nil => intro l h s; simp [bytesOfCells] at h; subst h; rfl
  | cons c cs ih =>
    intro l h s
    obtain ⟨n, l', rfl, h1, rfl⟩ := bytes_cons h
    simp only [List.forIn_cons, hF, Sem.run_bind, Sem.run_pure, Result.andThen_ok, List.foldl_cons]
    exact ih l' h1 _

theorem push_all (l : List UInt8) : l.foldl ByteArray.push ByteArray.empty = ⟨l.toArray⟩ := by
  have : ∀ (l : List UInt8) (a : Array UInt8), l.foldl ByteArray.push ⟨a⟩ = ⟨a ++ l.toArray⟩ := by
    intro l
    induction l with
    | nil => intro a; simp
    | cons b l ih => intro a; simp only [List.foldl_cons]; rw [show (⟨a⟩ : ByteArray).push b = ⟨a.push b⟩ from rfl, ih]; simp
  have := this l #[]
  rw [Array.empty_append] at this
  exact this

theorem bytes_const : ∀ (cs : List Value) (l : List UInt8), bytesOfCells cs = some l → ∀ c ∈ cs, constCell c = true := by
  intro cs
  induction cs with
  | nil => intro l h; simp
  | cons c cs ih =>
    intro l h
    obtain ⟨n, l', rfl, h1, rfl⟩ := bytes_cons h
    intro d hd
    rcases List.mem_cons.1 hd with rfl | hd
    · rfl
    · exact ih l' h1 d hd

theorem LR.eq_of_const {base : Nat} {l l' : List Value} (h : LR base γ l l') (hc : ∀ c ∈ l, constCell c = true) : l' = l := by
  apply List.ext_getElem?
  intro i
  cases hi : l[i]? with
  | none => rw [List.getElem?_eq_none_iff] at hi ⊢; have := h.1; omega
  | some v =>
    obtain ⟨v', hv', hvr⟩ := h.get hi
    rw [hv', hvr.eq_of_const (hc v (List.mem_of_getElem? hi))]

theorem freeze_push (w : World) (C : Array Value) (e : TypeId) : ((w.alloc (.cells C e)).freeze ⟨w.heap.size, C.size, none⟩ 1).heap = w.heap.push (.cells C e (C.size, C.size + 1)) := by
  unfold World.freeze
  simp only [Nat.reduceEqDiff, if_false, World.alloc]
  apply Array.ext
  · simp
  · intro k h1 h2
    simp only [Array.getElem_modify, Array.getElem_push]
    by_cases hk : w.heap.size = k
    · subst hk; simp
    · have : k < w.heap.size := by simp at h2; omega
      simp [hk, this]

/-! ### Memory seen as other memory -/
theorem shape_of_cell {w : World} {a : Addr} {v : Value} (h : w.cell? a = some v) : ∃ e n, w.shape? a.block = some (e, n) ∧ a.off < n := by
  unfold World.cell? at h
  split at h
  · rename_i c e fz hc
    refine ⟨e, c.size, by unfold World.shape?; rw [hc], ?_⟩
    split at h
    · cases h
    · exact (Array.getElem?_eq_some_iff.1 h).1
  · cases h
theorem sameLayout_self (P : Program) (u : TypeId) : sameLayout P P.depth u u = true := by
  unfold Program.depth
  simp [sameLayout]
theorem liesAt_self {u : TypeId} {N off n k : Nat} (hk : P.cellsOf u = k) (hk0 : 0 < k) (ho : off % k = 0) (hb : off / k + n ≤ N / k) : liesAt P P.depth u (N / P.cellsOf u) off u n = true := by
  have h1 := sameLayout_self P u
  have hd : P.depth = (2 * (P.types.size + Made.depth) + 1) + 1 := rfl
  rw [hd, liesAt, hk]
  have : rowAt P (fun x => sameLayout P P.depth x u) P.depth u (N / k) off n = true := by
    conv => lhs; arg 3; rw [hd]
    rw [rowAt]
    simp only [hk]
    rw [if_neg (by omega)]
    simp [ho, hb, h1]
  rw [this]; rfl
theorem run_from_unsafe {src dst u e : TypeId} {N k : Nat} (hs : P.underlying src = some .unsafePointer) (hd : P.underlying dst = some (.pointer u)) (hz : szOf P u = some k) {a : Addr} {w : World} (hsh : w.shape? a.block = some (e, N))
    (hl : liesAt P P.depth e (N / P.cellsOf e) a.off u 1 = true) : (convert src dst (.pointer (some a))).run P w = .ok (.pointer (some a)) w := by
  simp only [convert, Sem.run_bind, run_underlying hs, run_underlying hd, Result.andThen_ok, Conv.unsafePointer, Conv.seenAt, viewAt, run_shape, hsh, Option.isSome_some, if_true, Sem.run_pure, run_size hz, variablesAt, run_program, hl, Bool.or_true]
theorem conv_unsafe_sound (R : Rel P σ γ w) {s d t : TypeId} {a : Addr} {x' : Value} (hs : P.underlying s = some (.pointer t)) (hd : P.underlying d = some .unsafePointer) (hx : VR σ.base γ (.pointer (some a)) x') {n : Nat} (hz : szOf P t = some (n + 1)) (hr : (rd σ a 1).isSome = true) :
    OpOk P σ γ w (.pointer (some a), σ) (convert s d x') := by
  obtain ⟨a', rfl⟩ := ptr_inv hx
  obtain ⟨cs, hcs⟩ := Option.isSome_iff_exists.1 hr
  obtain ⟨hlen, _, cs', hL, hc⟩ := rd_sound R (hx : AR σ γ a a') hcs
  have hl : 0 < cs'.length := by have := hL.1; omega
  have hcell := hc 0 _ (List.getElem?_eq_getElem hl)
  have ha : a'.add 0 = a' := by cases a'; rfl
  rw [ha] at hcell
  refine OpOk.pure R (run_convert_to_unsafe hs hd ?_ hcell) hx
  obtain ⟨i, hi, hi2⟩ := szOf_some hz
  rw [hi, Option.map_some, hi2]; rfl
theorem conv_back_sound (R : Rel P σ γ w) {s d u : TypeId} {a : Addr} {x' : Value} (hs : P.underlying s = some .unsafePointer) (hd : P.underlying d = some (.pointer u)) (hx : VR σ.base γ (.pointer (some a)) x') {n ch : Nat} {c : List Value} (hb : ¬ a.block < σ.base)
    (hg : σ.get a.block = .cells c u ch) (hz : szOf P u = some (n + 1)) (ho : a.off = 0) (hlen : n + 1 ≤ c.length) : OpOk P σ γ w (.pointer (some a), σ) (convert s d x') := by
  cases hx with
  | ptrOld _ h _ => exact absurd h hb
  | ptrNew b o e h hge =>
    simp only at hg ho
    subst ho
    obtain ⟨C, fz, h1, h2, h3, h4, h5, h6, h7⟩ := R.cells b c u ch e hg hge
    have hE : e.E = n + 1 := by rw [hz] at h3; injection h3 with h3; exact h3.symm
    have hal := e.al
    rw [hE] at hal
    refine OpOk.pure R (run_from_unsafe (N := C.size) hs hd hz (by unfold World.shape?; rw [h1]) ?_) (.ptrNew b 0 e h hge)
    have hk : P.cellsOf u = n + 1 := by
      obtain ⟨i, hi, hi2⟩ := szOf_some hz
      unfold Program.cellsOf; rw [hi]; exact hi2
    refine liesAt_self hk (by omega) (by simpa using hal) ?_
    simp only [Nat.zero_add]
    rw [h2]
    have : (e.s + (n + 1)) / (n + 1) ≤ e.N / (n + 1) := Nat.div_le_div_right (by omega)
    rw [Nat.add_div_right _ (by omega)] at this
    exact this
theorem loadBytes_run : ∀ (n : Nat) (a : Addr) (acc : ByteArray) (cs : List Value) (l : List UInt8) (w : World), cs.length = n → bytesOfCells cs = some l → (∀ (j : Nat) v, cs[j]? = some v → w.cell? (a.add j) = some v) →
    (loadBytes a acc n).run P w = .ok (l.foldl ByteArray.push acc) w := by
  intro n
  induction n with
  | zero =>
    intro a acc cs l w hl hb _
    have : cs = [] := List.eq_nil_of_length_eq_zero hl
    subst this
    simp [bytesOfCells] at hb; subst hb; rfl
  | succ n ih =>
    intro a acc cs l w hl hb hc
    cases cs with
    | nil => simp at hl
    | cons v cs =>
      obtain ⟨m, l', rfl, h1, rfl⟩ := bytes_cons hb
      have h0 := hc 0 _ rfl
      have ha : a.add 0 = a := by cases a; rfl
      rw [ha] at h0
      have hld : (load a).run P w = .ok (.int .u8 m) w := by
        rw [run_load, h0]
      simp only [loadBytes, Sem.run_bind, hld, Result.andThen_ok, List.foldl_cons]
      refine ih (a.add 1) _ cs l' w (by simpa using hl) h1 (fun j v hv => ?_)
      have := hc (j + 1) v (by simpa using hv)
      rw [← this]
      congr 1
      cases a
      simp [Addr.add, Nat.add_comm, Nat.add_left_comm]
theorem freeze_heap (w : World) (a : Addr) (n : Nat) (r : Nat) (h : a.block ≠ r) : (w.freeze a n).heap[r]? = w.heap[r]? := by
  unfold World.freeze
  split
  · rfl
  · simp only [Array.getElem?_modify, if_neg h]
theorem freeze_size (w : World) (a : Addr) (n : Nat) : (w.freeze a n).heap.size = w.heap.size := by
  unfold World.freeze
  split
  · rfl
  · simp
theorem freeze_os (w : World) (a : Addr) (n : Nat) : (w.freeze a n).os = w.os ∧ (w.freeze a n).tape = w.tape ∧ (w.freeze a n).output = w.output := by
  unfold World.freeze
  split <;> exact ⟨rfl, rfl, rfl⟩
theorem giveUp_get {ch b i : Nat} (h : ((σ.kill ch b 0).put b .dead).get i ≠ .dead) : i ≠ b ∧ ((σ.kill ch b 0).put b .dead).get i = σ.get i ∧ σ.get i ≠ .dead ∧ ∀ c el, σ.get i ≠ .cells c el ch := by
  have hib : i ≠ b := by intro e; subst e; exact h (by simp [AHeap.put])
  have h1 : ((σ.kill ch b 0).put b .dead).get i = (σ.kill ch b 0).get i := by simp [AHeap.put, hib]
  rw [h1] at h ⊢
  have h2 := kill_alive h
  refine ⟨hib, h2, by rw [← h2]; exact h, fun c el hc => ?_⟩
  rw [hc] at h2
  exact (kill_short h2 hib).2 rfl
theorem Rel.giveUp (R : Rel P σ γ w) {b ch : Nat} {c : List Value} {el : TypeId} {e : GEnt} (hg : σ.get b = .cells c el ch) (hge : γ b = some e) {a : Addr} {n : Nat} (ha : a.block = e.B) : Rel P ((σ.kill ch b 0).put b .dead) γ (w.freeze a n) := by
  have hne : ∀ i ei, ((σ.kill ch b 0).put b .dead).get i ≠ .dead → γ i = some ei → ei.B ≠ e.B := by
    intro i ei hi hei hB
    obtain ⟨h1, h2, h3, h4⟩ := giveUp_get hi
    obtain ⟨c1, el1, c2, el2, ch1, g1, g2, _⟩ := R.sep i b ei e hei hge hB h1 h3 (by rw [hg]; simp)
    rw [hg] at g2; injection g2 with _ _ g2
    subst g2
    exact h4 _ _ g1
  obtain ⟨o1, o2, o3⟩ := freeze_os w a n
  have hdom := R.dom b e hge
  exact {
    os := o1.trans R.os
    tape := o2.trans R.tape
    out := o3.trans R.out
    size := by rw [freeze_size]; exact R.size
    old := fun i hi => by rw [freeze_heap _ _ _ _ (by have h : i < σ.base := hi; omega)]; exact R.old i hi
    next := R.next
    fresh := fun i hi => by
      by_cases h : ((σ.kill ch b 0).put b .dead).get i = .dead
      · exact h
      · exact absurd (R.fresh i hi) (giveUp_get h).2.2.1
    chain := fun i c el ch' h => R.chain i c el ch' (by rw [← (giveUp_get (i := i) (by rw [h]; simp)).2.1]; exact h)
    dom := fun i e he => by rw [freeze_size]; exact R.dom i e he
    cells := fun i c el ch' ei h he => by
      have h1 := hne i ei (by rw [h]; simp) he
      rw [freeze_heap _ _ _ _ (by rw [ha]; exact fun x => h1 x.symm)]
      exact R.cells i c el ch' ei (by rw [← (giveUp_get (i := i) (by rw [h]; simp)).2.1]; exact h) he
    map := fun i es k ei h he => by
      have h1 := hne i ei (by rw [h]; simp) he
      rw [freeze_heap _ _ _ _ (by rw [ha]; exact fun x => h1 x.symm)]
      exact R.map i es k ei (by rw [← (giveUp_get (i := i) (by rw [h]; simp)).2.1]; exact h) he
    sep := fun i j ei ej hi hj hB hij h1 h2 => by
      obtain ⟨_, a1, a2, _⟩ := giveUp_get h1
      obtain ⟨_, b1, b2, _⟩ := giveUp_get h2
      rw [a1, b1]
      exact R.sep i j ei ej hi hj hB hij a2 b2 }
theorem unsafeString_def (pt : TypeId) (ts : List TypeId) (ty : TypeId) (q : Option Addr) (v : Value) : Builtin.unsafeString_ (pt :: ts).toArray ty #[.pointer q, v] =
      (do
        let n ← asInt v
        if n < 0 then runtimePanic (.error "unsafe.String: len out of range")
        if n > IntKind.i64.max then unsupported (.unsafePointer "String: a length above the largest int")
        match q with
        | none =>
          if n = 0 then pure (.string .empty)
          else runtimePanic (.error "unsafe.String: ptr is nil and len is not zero")
        | some a =>
          if n = 0 then pure (.string .empty)
          else if ← variablesAt a (← elemOf pt) n.toNat then do
            let s ← loadBytes a .empty n.toNat
            freeze a n.toNat
            pure (.string s)
          else unsupported (.unsafePointer "String: not so many bytes at ptr")) := rfl
theorem unsafeString_sound (R : Rel P σ γ w) {pt : TypeId} {ts : List TypeId} {ty : TypeId} {p p' n n' : Value} (hp : VR σ.base γ p p') (hn : VR σ.base γ n n') {r : Value × AHeap} (h : aUnsafeString P σ pt p n = some r) :
    OpOk P σ γ w r (Builtin.unsafeString_ (pt :: ts).toArray ty #[p', n']) := by
  have hpt : (pt :: ts).toArray[0]? = some pt := by simp
  unfold aUnsafeString at h
  split at h
  · rename_i k m
    obtain rfl := hp.eq_of_const rfl; obtain rfl := hn.eq_of_const rfl
    split at h
    · rename_i hm
      injection h with h; subst h; subst hm
      refine OpOk.pure R (v' := .string .empty) ?_ (.string _)
      rw [unsafeString_def]
      rfl
    · cases h
  · rename_i a k m
    obtain rfl := hn.eq_of_const rfl
    split at h
    · rename_i e hu
      split at h
      · rename_i hc
        obtain ⟨hsp, hb, hm0, hm1, hz⟩ := hc
        split at h
        · rename_i c el ch hg
          split at h
          · rename_i hcc
            obtain ⟨rfl, hlen⟩ := hcc
            rw [Option.map_eq_some_iff] at h
            obtain ⟨l, hl, rfl⟩ := h
            cases hp with
            | ptrOld _ h _ => exact absurd h hb
            | ptrNew b o e hbb hge =>
              simp only at hg hlen hl
              obtain ⟨C, fz, h1, h2, h3, h4, h5, h6, h7⟩ := R.cells b c el ch e hg hge
              have hE : e.E = 1 := by rw [hz] at h3; injection h3 with h3; exact h3.symm
              have hk : P.cellsOf el = 1 := by
                obtain ⟨i, hi, hi2⟩ := szOf_some hz
                unfold Program.cellsOf; rw [hi]; exact hi2
              have hA : AR σ γ ⟨b, o, none⟩ ⟨e.B, o + e.s, none⟩ := .ptrNew b o e hbb hge
              have hrd : rd σ ⟨b, o, none⟩ m.toNat = some ((c.drop o).take m.toNat) := by
                unfold rd
                rw [if_neg (by simp), if_neg hb]
                simp only [hg]
                rw [if_pos hlen]
              obtain ⟨g1, _, cs', hL, hcell⟩ := rd_sound R hA hrd
              obtain rfl := hL.eq_of_const (bytes_const _ l hl)
              have hload := loadBytes_run (P := P) m.toNat ⟨e.B, o + e.s, none⟩ .empty _ l w g1 hl hcell
              have hlies : liesAt P P.depth el (C.size / P.cellsOf el) (o + e.s) el m.toNat = true := by
                refine liesAt_self hk (by omega) (Nat.mod_one _) ?_
                rw [Nat.div_one, Nat.div_one, h2]; omega
              have hfr : (Go.freeze ⟨e.B, o + e.s, none⟩ m.toNat).run P w = .ok () (w.freeze ⟨e.B, o + e.s, none⟩ m.toNat) := rfl
              refine ⟨γ, w.freeze ⟨e.B, o + e.s, none⟩ m.toNat, .string ⟨l.toArray⟩, ?_, .string _, R.giveUp hg hge rfl, ?_, ⟨rfl, Nat.le_refl _, Gm.le_refl γ, fun _ _ h => .inl h, fun i hi hd => ?_⟩, NewB.refl σ γ w⟩
              · have hmax : ¬ (m > IntKind.i64.max) := by
                  have : IntKind.i64.max = 9223372036854775807 := rfl
                  rw [this]; omega
                have hsh : w.shape? e.B = some (el, C.size) := by unfold World.shape?; rw [h1]
                have hneg : ¬ m < 0 := by omega
                have hm0' : ¬ m = 0 := by omega
                have hmax' : ¬ (9223372036854775807 : Int) < m := by omega
                have hmx : IntKind.i64.max = 9223372036854775807 := rfl
                rw [unsafeString_def]
                have hl2 : l.foldl ByteArray.push ByteArray.empty = ⟨l.toArray⟩ := push_all l
                simp [asInt, asIntOf, hmx, hmax', hneg, hm0', variablesAt, hsh, elemOf, run_underlying hu, hlies, hload, hl2]
              · refine ⟨by rw [freeze_size]; exact Nat.le_refl _, fun B hB hne => ?_⟩
                rw [freeze_heap]
                exact fun x => hne b e hge (by rw [hg]; simp) x
              · by_cases hx : ((σ.kill ch b 0).put b .dead).get i = .dead
                · exact hx
                · exact absurd hd (giveUp_get hx).2.2.1
          · cases h
        · cases h
      · cases h
    · cases h
  · cases h
theorem sliceData_sound (R : Rel P σ γ w) {ts : Array TypeId} {ty : TypeId} {x x' v : Value} (hx : VR σ.base γ x x') (h : aSliceData x = some v) : OpPure P σ γ w v (Builtin.unsafeSliceData_ ts ty #[x']) := by
  unfold aSliceData at h
  split at h
  · injection h with h; subst h
    cases hx
    exact ⟨.pointer none, rfl, .ptr0⟩
  · rename_i a n c
    split at h
    · rename_i hn
      injection h with h; subst h
      cases hx with
      | slOld _ _ _ hb hs hn' =>
        refine ⟨.pointer (some a), ?_, .ptrOld _ hb hs⟩
        show (Sem.run P (if c ≠ 0 then _ else _) w) = _
        rw [if_pos (by omega)]; rfl
      | slNew b o _ _ c' e hb hg hn' hc hN =>
        refine ⟨.pointer (some ⟨e.B, o + e.s, none⟩), ?_, .ptrNew b o e hb hg⟩
        show (Sem.run P (if c' ≠ 0 then _ else _) w) = _
        rw [if_pos (by omega)]; rfl
      | slEmpty => omega
    · cases h
  · cases h

theorem conv_sound (R : Rel P σ γ w) {s d : TypeId} {x x' : Value} (hx : VR σ.base γ x x') {r : Value × AHeap} (h : aConv P σ s d x = some r) : OpOk P σ γ w r (convert s d x') := by
  unfold aConv at h
  split at h
  · rename_i ds k kx n hs hd
    obtain rfl := hx.eq_of_const rfl
    injection h with h; subst h
    refine OpOk.pure R (v' := .int k (k.wrap n)) ?_ (.int _ _)
    simp only [convert, Sem.run_bind, run_underlying hs, run_underlying hd, Result.andThen_ok]
    rfl
  · rename_i ds s0 hs hd
    obtain rfl := hx.eq_of_const rfl
    injection h with h; subst h
    refine OpOk.pure R (v' := .string s0) ?_ (.string _)
    simp only [convert, Sem.run_bind, run_underlying hs, run_underlying hd, Result.andThen_ok]
    cases ds <;> rfl
  · rename_i e n c hs hd
    split at h
    · rename_i he
      injection h with h; subst h
      cases hx
      refine OpOk.pure R (v' := .string .empty) ?_ (.string _)
      simp only [convert, Sem.run_bind, run_underlying hs, run_underlying hd, Result.andThen_ok, run_underlying he, Conv.bytesToString, Sem.run_pure]
    · cases h
  · rename_i e a n c hs hd
    split at h
    · rename_i he
      rw [Option.bind_eq_some_iff] at h
      obtain ⟨cs, hcs, h⟩ := h
      rw [Option.map_eq_some_iff] at h
      obtain ⟨l, hl, rfl⟩ := h
      have run : ∀ (a' : Addr) (c' : Nat), (loadCells a' n).run P w = .ok cs.toArray w → (convert s d (.slice (some a') n c')).run P w = .ok (.string ⟨l.toArray⟩) w := by
        intro a' c' hld
        simp only [convert, Sem.run_bind, run_underlying hs, run_underlying hd, Result.andThen_ok, run_underlying he, Conv.bytesToString, hld]
        rw [← Array.forIn_toList]
        rw [List.toList_toArray, bytes_run _ (fun n s => rfl) cs l hl ByteArray.empty, push_all]
        rfl
      have fin : ∀ a', AR σ γ a a' → (loadCells a' n).run P w = .ok cs.toArray w := by
        intro a' hA
        obtain ⟨hlen, h1, cs', hL, hc⟩ := rd_sound R hA hcs
        obtain rfl := hL.eq_of_const (bytes_const cs l hl)
        have hr := run_loadCells_list (P := P) w a' cs' hc
        rw [hlen] at hr
        exact hr
      cases hx with
      | slOld _ _ _ hb hs' _ => exact OpOk.pure R (run _ _ (fin _ (.ptrOld _ hb hs'))) (.string _)
      | slNew b o _ _ _ ge hb hg _ _ _ => exact OpOk.pure R (run _ _ (fin _ (.ptrNew b o ge hb hg))) (.string _)
      | slEmpty _ a' _ _ _ =>
        have hnil : cs = [] := by
          unfold rd at hcs
          split at hcs
          · cases hcs
          · split at hcs
            · simp [rdOld] at hcs; exact hcs
            · split at hcs
              · split at hcs
                · simp at hcs; exact hcs
                · cases hcs
              · cases hcs
        subst hnil
        exact OpOk.pure R (run a' 0 rfl) (.string _)
    · cases h
  · rename_i e s0 hs hd
    obtain rfl := hx.eq_of_const rfl
    split at h
    · rename_i he
      split at h
      · rename_i hc
        obtain ⟨hle, hE⟩ := hc
        injection h with h; subst h
        have hcap : s0.size ≤ growCap w s0.size 0 e := by unfold growCap; omega
        have hch : (choose (.appendCap s0.size 0 e)).run P w = .ok (growCap w s0.size 0 e) w.drew := by
          rw [run_choose, if_neg (by simp [Question.forced])]
          rfl
        generalize hcc : growCap w s0.size 0 e = cap at *
        have hCs : ((s0.data.map fun (b : UInt8) => Value.int .u8 b.toNat) ++ Array.replicate (cap - s0.size) (Value.int .u8 0)).size = cap := by
          simp only [Array.size_append, Array.size_map, Array.size_replicate]
          have : s0.data.size = s0.size := rfl
          omega
        generalize hCd : ((s0.data.map fun (b : UInt8) => Value.int .u8 b.toNat) ++ Array.replicate (cap - s0.size) (Value.int .u8 0)) = C at *
        have hlen : (cellsOfBytes s0).length = s0.size := by simp [cellsOfBytes]
        have hpush := freeze_push w.drew C e
        have hRel := R.pushNew (w' := ((w.drew.alloc (.cells C e)).freeze ⟨w.drew.heap.size, C.size, none⟩ 1)) (c := cellsOfBytes s0) (ch := σ.next) hpush
          rfl rfl rfl hE (Nat.le_refl _) (by omega) (fun o ho => by simp only; omega)
          (by
            have : C.toList.take (cellsOfBytes s0).length = cellsOfBytes s0 := by
              rw [← hCd, hlen]
              simp only [Array.toList_append, Array.toList_map]
              rw [List.take_left' (by simp)]
              rfl
            rw [this]
            exact LR.ofConst (cellsOfBytes_const s0)) (fun v hv => by have := cellsOfBytes_const s0 v hv; cases v <;> simp_all [constCell, Value.oneC])
        refine ⟨_, _, .slice (some ⟨w.heap.size, 0, none⟩) s0.size cap, ?_, ?_, hRel, Fram.pushNew hpush, Grows.push R _ _, NewB.put (Nat.le_refl _)⟩
        · simp only [convert, Sem.run_bind, run_underlying hs, run_underlying hd, Result.andThen_ok, run_underlying he, Conv.stringToBytes, hch, hCd, newRow, run_newObj, Sem.run_pure, World.alloc_eq, markStringish, run_shape]
          have hsh : (w.drew.alloc (.cells C e)).shape? w.drew.heap.size = some (e, C.size) := by
            have h2 : (w.drew.alloc (.cells C e)).heap[w.drew.heap.size]? = some (.cells C e) := by
              exact Array.getElem?_push_size
            unfold World.shape?
            rw [h2]
          rw [hsh]
          rfl
        · have := VR.slNew (base := σ.base) (γ := γ.put σ.next ⟨w.drew.heap.size, 0, C.size, 1, Nat.zero_mod _⟩) σ.next 0 s0.size (s0.size + 1) cap _ R.next (Gm.put_same ..) hcap (fun h => by omega) (by simp only [Nat.zero_add]; omega)
          simpa using this
      · cases h
    · cases h
  · rename_i t a hs hd
    split at h
    · rename_i n hz
      split at h
      · rename_i hr
        injection h with h; subst h
        exact conv_unsafe_sound R hs hd hx hz hr
      · cases h
    · cases h
  · rename_i u a hs hd
    split at h
    · cases h
    · rename_i hb
      split at h
      · rename_i c e ch n hg hz
        split at h
        · rename_i hc
          obtain ⟨rfl, ho, _, hl⟩ := hc
          injection h with h; subst h
          exact conv_back_sound R hs hd hx hb hg hz ho hl
        · cases h
      · cases h
  · cases h

/-! ### Maps -/
theorem VR.ofScalar {base : Nat} {v : Value} (h : scalarKey v = true) : VR base γ v v := by
  cases v with
  | bool b => exact .bool b
  | int k n => exact .int k n
  | string s => exact .string s
  | agg cs =>
    simp only [scalarKey, Array.all_eq_true_iff_forall_mem] at h
    have h' : ∀ (i : Nat) v, cs[i]? = some v → constCell v = true := fun i v hv => by
      have := h v (Array.mem_of_getElem? hv)
      cases v <;> simp_all [constCell]
    exact .agg _ _ rfl (fun i v hv => by have := h' i v hv; cases v <;> simp_all [constCell, Value.oneC]) (fun i v v' hv hv' => by
      rw [hv] at hv'; injection hv' with e; subst e; exact VR.ofConstCell (h' i v hv))
  | _ => simp [scalarKey] at h

theorem VR.eq_of_scalar {base : Nat} {v v' : Value} (h : VR base γ v v') (hs : scalarKey v = true) : v' = v := by
  cases v with
  | agg cs =>
    obtain ⟨cs', rfl, hL, _⟩ := h.aggInv
    simp only [scalarKey, Array.all_eq_true_iff_forall_mem] at hs
    have := hL.eq_of_const (fun c hc => by have := hs c (by simpa using hc); cases c <;> simp_all [constCell])
    congr 1
    exact Array.ext' this
  | _ => first | exact h.eq_of_const rfl | simp [scalarKey] at hs

theorem checkKey_run (empty : Bool) : ∀ (d : Nat) {t : TypeId} {v : Value}, plainKey P d t v = true → (Instr.checkKey empty d t v).run P w = .ok () w := by
  intro d
  induction d with
  | zero => intro t v h; simp [plainKey] at h
  | succ d ih =>
    intro t v h
    unfold plainKey at h
    split at h
    · rename_i hu; simp only [Instr.checkKey, Sem.run_bind, run_underlying hu, Result.andThen_ok, Sem.run_pure]
    · rename_i hu; simp only [Instr.checkKey, Sem.run_bind, run_underlying hu, Result.andThen_ok, Sem.run_pure]
    · rename_i hu; simp only [Instr.checkKey, Sem.run_bind, run_underlying hu, Result.andThen_ok, Sem.run_pure]
    · rename_i fs cs hu
      simp only [Instr.checkKey, Sem.run_bind, run_underlying hu, Result.andThen_ok]
      rw [← Array.forIn_toList]
      generalize fs.toList = l at h
      clear hu
      induction l with
      | nil => rfl
      | cons f l ihl =>
        simp only [List.all_cons, Bool.and_eq_true, Bool.or_eq_true, decide_eq_true_eq] at h
        obtain ⟨h1, h2⟩ := h
        simp only [List.forIn_cons, Sem.run_bind]
        by_cases hf : f.name = "_"
        · simp only [hf, ne_eq, not_true_eq_false, if_false, Sem.run_pure, Result.andThen_ok]
          exact ihl h2
        · rcases h1 with h1 | h1
          · exact absurd h1 hf
          · split at h1
            · rename_i u hu
              have hp : (part f.type cs f.offset).run P w = .ok u w := by
                unfold aPart at hu
                split at hu
                · rename_i hag
                  rw [Option.map_eq_some_iff] at hu
                  obtain ⟨n, hn, rfl⟩ := hu
                  simp [part, run_agg hag, run_size hn]
                · rename_i hag
                  simp only [part, Sem.run_bind, run_agg hag, Result.andThen_ok]
                  simp [hu]
                · cases hu
              simp only [ne_eq, hf, not_false_eq_true, if_true, Sem.run_bind, hp, Result.andThen_ok, ih h1, Sem.run_pure]
              exact ihl h2
            · cases h1
    · rename_i len e cs hu
      split at h
      · rename_i n hn
        simp only [Instr.checkKey, Sem.run_bind, run_underlying hu, Result.andThen_ok]
        simp only [Std.Legacy.Range.forIn_eq_forIn_range', Std.Legacy.Range.size, Nat.sub_zero, Nat.add_one_sub_one, Nat.div_one]
        rw [List.range_eq_range'] at h
        generalize List.range' 0 len = l at h
        clear hu
        induction l with
        | nil => rfl
        | cons i l ihl =>
          simp only [List.all_cons, Bool.and_eq_true] at h
          obtain ⟨h1, h2⟩ := h
          simp only [List.forIn_cons, Sem.run_bind]
          split at h1
          · rename_i u hu
            have hp : (part e cs (i * n)).run P w = .ok u w := by
              unfold aPart at hu
              split at hu
              · rename_i hag
                rw [Option.map_eq_some_iff] at hu
                obtain ⟨n, hn, rfl⟩ := hu
                simp [part, run_agg hag, run_size hn]
              · rename_i hag
                simp only [part, Sem.run_bind, run_agg hag, Result.andThen_ok]
                simp [hu]
              · cases hu
            simp only [Sem.run_bind, run_size hn, hp, Result.andThen_ok, ih h1, Sem.run_pure]
            exact ihl h2
          · cases h1
      · cases h
    · cases h

theorem findAsking_run {kt : TypeId} {k : Value} (hk : scalarKey k = true) : ∀ {es : List MapEntry} {i : Nat} {r : Option (Nat × Value)}, (∀ e ∈ es, scalarKey e.key = true) → aFind P kt k es i = some r →
    (Instr.findAsking kt k es i).run P w = .ok r w := by
  intro es
  induction es with
  | nil => intro i r _ h; simp [aFind] at h; subst h; rfl
  | cons e es ih =>
    intro i r hs h
    unfold aFind at h
    have he := fun b (hb : aEq P Op.maxDepth kt k e.key = some b) => eq_sound (P := P) (w := w) (γ := fun _ => none) (base := 0) _ (VR.ofScalar hk) (VR.ofScalar (hs e (by simp))) hb
    split at h
    · rename_i hb
      injection h with h; subst h
      simp only [Instr.findAsking, Sem.run_bind, Op.equal, he _ hb, Result.andThen_ok, if_true, Sem.run_pure]
    · rename_i hb
      simp only [Instr.findAsking, Sem.run_bind, Op.equal, he _ hb, Result.andThen_ok, Bool.false_eq_true, if_false]
      exact ih (fun e he => hs e (by simp [he])) h
    · cases h

theorem sameNow_eq {kt : TypeId} {d : TypeDesc} (hu : P.underlying kt = some d) {x y : Value} {b : Bool} (h : Instr.sameNow d x y = some b) : aEq P Op.maxDepth kt x y = some b := by
  have hm : Op.maxDepth = 9999 + 1 := rfl
  rw [hm]
  unfold Instr.sameNow at h
  split at h
  · split at h
    · rename_i hk
      injection h with h; subst h
      simp only [aEq, hu, if_pos hk]
      congr 1
    · cases h
  · injection h with h; subst h
    simp only [aEq, hu, beq_bytes]
  · injection h with h; subst h
    simp only [aEq, hu]
  · cases h

theorem findNow_eq {kt : TypeId} {d : TypeDesc} (hu : P.underlying kt = some d) {k : Value} : ∀ {es : List MapEntry} {i : Nat} {r : Option (Nat × Value)}, Instr.findNow d k es i = some r → aFind P kt k es i = some r := by
  intro es
  induction es with
  | nil => intro i r h; simp [Instr.findNow] at h; subst h; rfl
  | cons e es ih =>
    intro i r h
    unfold Instr.findNow at h
    unfold aFind
    split at h
    · rename_i hb; rw [sameNow_eq hu hb]; exact h
    · rename_i hb; rw [sameNow_eq hu hb]; exact ih h
    · cases h

theorem findKey_run {kt : TypeId} {d : TypeDesc} (hu : P.underlying kt = some d) {k : Value} (hk : scalarKey k = true) {es : List MapEntry} {r : Option (Nat × Value)} (hs : ∀ e ∈ es, scalarKey e.key = true) (h : aFind P kt k es 0 = some r) :
    (Instr.findKey kt k es).run P w = .ok r w := by
  simp only [Instr.findKey, Sem.run_bind, run_underlying hu, Result.andThen_ok]
  cases hn : Instr.findNow d k es 0 with
  | some r' => have := findNow_eq hu hn; rw [h] at this; injection this with this; subst this; rfl
  | none => exact findAsking_run hk hs h

theorem plainKey_underlying {d : Nat} {kt : TypeId} {k : Value} (h : plainKey P d kt k = true) : ∃ u, P.underlying kt = some u := by
  cases d with
  | zero => simp [plainKey] at h
  | succ d =>
    unfold plainKey at h
    cases hu : P.underlying kt with
    | some u => exact ⟨u, rfl⟩
    | none => rw [hu] at h; simp at h

/-- The same search, among the model's entries. -/
theorem find_rel {base : Nat} {kt : TypeId} {k : Value} : ∀ {es es' : List MapEntry} {i : Nat} {r : Option (Nat × Value)}, ER base γ es es' → aFind P kt k es i = some r →
    (r = none ∧ aFind P kt k es' i = some none) ∨ ∃ j v v', r = some (j, v) ∧ aFind P kt k es' i = some (some (j, v')) ∧ VR base γ v v' := by
  intro es
  induction es with
  | nil =>
    intro es' i r hE h
    cases es' with
    | nil => simp [aFind] at h; exact .inl ⟨h.symm, rfl⟩
    | cons e l => have := hE.1; simp at this
  | cons e es ih =>
    intro es' i r hE h
    cases es' with
    | nil => have := hE.1; simp at this
    | cons e' es' =>
      obtain ⟨hk, _, _, hv⟩ := hE.2 0 e e' (by simp) (by simp)
      unfold aFind at h ⊢
      rw [hk]
      split at h
      · rename_i hb; injection h with h; subst h; exact .inr ⟨i, e.val, e'.val, rfl, rfl, hv⟩
      · rename_i hb; exact ih ⟨by have := hE.1; simpa using this, fun j x y hx hy => hE.2 (j + 1) x y (by simpa using hx) (by simpa using hy)⟩ h
      · cases h

theorem ER.scalar {base : Nat} {es es' : List MapEntry} (h : ER base γ es es') : ∀ e ∈ es', scalarKey e.key = true := by
  intro e' he
  obtain ⟨i, hi⟩ := List.getElem?_of_mem he
  have hl : i < es.length := by
    rcases Nat.lt_or_ge i es.length with h1 | h1
    · exact h1
    · rw [List.getElem?_eq_none (by have := h.1; omega)] at hi; cases hi
  obtain ⟨a, b, _⟩ := h.2 i _ _ (List.getElem?_eq_getElem hl) hi
  rw [a]; exact b

theorem map_inv {r : Nat} {v : Value} {base : Nat} (h : VR base γ (.map (some r)) v) : ∃ e, γ r = some e ∧ v = .map (some e.B) := by
  cases h with
  | map b e h hg => exact ⟨e, hg, rfl⟩

theorem run_getMap {r : Nat} {es : Array MapEntry} {c : Nat} (h : w.heap[r]? = some (.map es c)) : (getObj r).run P w = .ok (.map es c) w := by
  simp only [getObj, Sem.run, h]

theorem lookup_sound (hz : ZeroOk P) (R : Rel P σ γ w) {t : TypeId} {x x' k k' v : Value} {ok : Bool} (hx : VR σ.base γ x x') (hk : VR σ.base γ k k') (h : aLookup P σ t x k ok = some v) :
    OpPure P σ γ w v (Instr.lookup t x' k' ok) := by
  have pair : ∀ {v v' : Value} (b : Bool), VR σ.base γ v v' → VR σ.base γ (if ok then .tuple #[v, .bool b] else v) (if ok then .tuple #[v', .bool b] else v') := by
    intro v v' b hv
    cases ok
    · exact hv
    · exact .tuple _ _ rfl (fun i a a' ha ha' => by
        match i with
        | 0 => simp at ha ha'; subst ha; subst ha'; exact hv
        | 1 => simp at ha ha'; subst ha; subst ha'; exact .bool b
        | i + 2 => simp at ha)
  unfold aLookup at h
  split at h
  · rename_i kt e hu
    split at h
    · rename_i hpk
      simp only [Bool.and_eq_true] at hpk
      obtain rfl := hk.eq_of_scalar hpk.2
      have hck := fun b => checkKey_run (P := P) (w := w) b 10000 hpk.1
      obtain ⟨uk, huk⟩ := plainKey_underlying hpk.1
      split at h
      · rw [Option.map_eq_some_iff] at h
        obtain ⟨z, hzz, rfl⟩ := h
        cases hx
        refine OpPure.intro R ?_ (pair false (VR.ofConst (hz.const hzz)))
        simp only [Instr.lookup, Sem.run_bind, run_underlying hu, Result.andThen_ok, Sem.run_pure, hck]
        rw [findKey_run (es := []) (r := none) huk hpk.2 (by simp) rfl]
        simp only [Result.andThen_ok, Sem.run_bind, run_zero hzz, Sem.run_pure]
      · rename_i r
        split at h
        · cases h
        · split at h
          · rename_i es clock hget
            obtain ⟨ge, hg, rfl⟩ := map_inv hx
            obtain ⟨es', hes, hER⟩ := R.map _ _ _ _ hget hg
            rw [Option.bind_eq_some_iff] at h
            obtain ⟨q, hq, h⟩ := h
            rcases find_rel hER hq with ⟨rfl, hf⟩ | ⟨j, u, u', rfl, hf, hvu⟩
            · simp only at h
              rw [Option.map_eq_some_iff] at h
              obtain ⟨z, hzz, rfl⟩ := h
              refine OpPure.intro R ?_ (pair false (VR.ofConst (hz.const hzz)))
              simp only [Instr.lookup, Sem.run_bind, run_underlying hu, Result.andThen_ok, Sem.run_pure, run_getMap hes, hck]
              rw [findKey_run huk hpk.2 hER.scalar hf]
              simp only [Result.andThen_ok, Sem.run_bind, run_zero hzz, Sem.run_pure]
            · simp only [Option.some.injEq] at h
              subst h
              refine OpPure.intro R ?_ (pair true hvu)
              simp only [Instr.lookup, Sem.run_bind, run_underlying hu, Result.andThen_ok, Sem.run_pure, run_getMap hes, hck]
              rw [findKey_run huk hpk.2 hER.scalar hf]
              simp only [Result.andThen_ok]
              rfl
          · cases h
      · cases h
    · cases h
  · cases h

/-- A map turns. -/
theorem Rel.mapPut (R : Rel P σ γ w) {r : Nat} {es es2 : List MapEntry} {k k2 : Nat} {e : GEnt} {es2' : Array MapEntry} (hg : σ.get r = .map es k) (he : γ r = some e) (hE : ER σ.base γ es2 es2'.toList) :
    Rel P (σ.put r (.map es2 k2)) γ { w with heap := w.heap.setIfInBounds e.B (.map es2' k2) } := by
  have hB := R.dom r e he
  obtain ⟨es0, h0, _⟩ := R.map _ _ _ _ hg he
  have hget : ∀ B, B ≠ e.B → (w.heap.setIfInBounds e.B (.map es2' k2))[B]? = w.heap[B]? := fun B hne => by
    rw [Array.getElem?_setIfInBounds, if_neg (Ne.symm hne)]
  have hsame : (w.heap.setIfInBounds e.B (.map es2' k2))[e.B]? = some (.map es2' k2) := by
    rw [Array.getElem?_setIfInBounds]; simp [hB.2.2.2]
  have hother : ∀ i e', γ i = some e' → i ≠ r → σ.get i ≠ .dead → e'.B ≠ e.B := by
    intro i e' hi hir hnd hBB
    obtain ⟨c, el, c', el', ch, h1, h2, _⟩ := R.sep i r e' e hi he hBB hir hnd (by rw [hg]; simp)
    rw [hg] at h2; cases h2
  exact {
    os := R.os
    tape := R.tape
    out := R.out
    size := by show σ.base ≤ (w.heap.setIfInBounds e.B (.map es2' k2)).size; simpa using R.size
    old := fun i hi => by
      have h2 : i < σ.base := hi
      show (w.heap.setIfInBounds e.B (.map es2' k2))[i]? = _
      rw [hget i (by omega)]; exact R.old i hi
    next := R.next
    fresh := fun i hi => by rw [put_get_other _ _ (by have := hB.2.1; have : σ.next ≤ i := hi; omega)]; exact R.fresh i hi
    chain := fun i c el ch h => by
      by_cases hir : i = r
      · subst hir; rw [put_get_same] at h; cases h
      · rw [put_get_other _ _ hir] at h; exact R.chain i c el ch h
    dom := fun i e' h => by show σ.base ≤ i ∧ i < σ.next ∧ σ.base ≤ e'.B ∧ e'.B < (w.heap.setIfInBounds e.B (.map es2' k2)).size; have := R.dom i e' h; simpa using this
    cells := fun i c el ch e' h hi => by
      by_cases hir : i = r
      · subst hir; rw [put_get_same] at h; cases h
      · rw [put_get_other _ _ hir] at h
        obtain ⟨C, fz, a1, rest⟩ := R.cells i c el ch e' h hi
        exact ⟨C, fz, (hget _ (hother i e' hi hir (by rw [h]; simp))).trans a1, rest⟩
    map := fun i es k e' h hi => by
      by_cases hir : i = r
      · subst hir; rw [put_get_same] at h; injection h with h1 h2; subst h1; subst h2
        rw [he] at hi; injection hi with hi; subst hi
        exact ⟨es2', hsame, hE⟩
      · rw [put_get_other _ _ hir] at h
        obtain ⟨es', a1, a2⟩ := R.map i es k e' h hi
        exact ⟨es', (hget _ (hother i e' hi hir (by rw [h]; simp))).trans a1, a2⟩
    sep := fun i j ei ej hei hej hBB hij hi hj => by
      by_cases h1 : i = r
      · subst h1
        rw [he] at hei; injection hei with hei; subst hei
        rw [put_get_other _ _ (Ne.symm hij)] at hj
        exact absurd hBB.symm (hother j ej hej (Ne.symm hij) hj)
      · rw [put_get_other _ _ h1] at hi ⊢
        by_cases h2 : j = r
        · subst h2
          rw [he] at hej; injection hej with hej; subst hej
          exact absurd hBB (hother i ei hei h1 hi)
        · rw [put_get_other _ _ h2] at hj ⊢
          exact R.sep i j ei ej hei hej hBB hij hi hj }

theorem mapPut_Fram {r : Nat} {es : List MapEntry} {k : Nat} {e : GEnt} {o : Obj} (hg : σ.get r = .map es k) (he : γ r = some e) : Fram σ γ w { w with heap := w.heap.setIfInBounds e.B o } :=
  ⟨by simp, fun B _ hne => by
    show (w.heap.setIfInBounds e.B o)[B]? = _
    rw [Array.getElem?_setIfInBounds, if_neg (hne r e he (by rw [hg]; simp))]⟩
theorem mapPut_Grows {r : Nat} {es es2 : List MapEntry} {k k2 : Nat} (hg : σ.get r = .map es k) : Grows σ (σ.put r (.map es2 k2)) γ γ :=
  ⟨rfl, Nat.le_refl _, Gm.le_refl γ, fun _ _ h => .inl h, fun i hi hd => by rw [put_get_other _ _ (by intro h; subst h; rw [hg] at hd; cases hd)]; exact hd⟩

theorem run_setMap {r : Nat} {es : Array MapEntry} {c : Nat} {o : Obj} (h : w.heap[r]? = some (.map es c)) : (setObj r o).run P w = .ok () { w with heap := w.heap.setIfInBounds r o } := by
  simp only [setObj, Sem.run, h]

theorem ER.snoc {base : Nat} {es es' : List MapEntry} (h : ER base γ es es') {k v v' : Value} {b : Nat} (hk : scalarKey k = true) (hv : VR base γ v v') :
    ER base γ (es ++ [{ key := k, val := v, born := b }]) (es' ++ [{ key := k, val := v', born := b }]) := by
  refine ⟨by simp [h.1], fun i e e' hi hi' => ?_⟩
  by_cases hl : i < es.length
  · rw [List.getElem?_append_left hl] at hi
    rw [List.getElem?_append_left (by have := h.1; omega)] at hi'
    exact h.2 i e e' hi hi'
  · rw [List.getElem?_append_right (by omega)] at hi
    rw [List.getElem?_append_right (by have := h.1; omega), ← h.1] at hi'
    have : i - es.length = 0 := by
      rcases Nat.eq_zero_or_pos (i - es.length) with h0 | h0
      · exact h0
      · rw [List.getElem?_eq_none (by simp; omega)] at hi; cases hi
    rw [this] at hi hi'
    simp at hi hi'
    subst hi; subst hi'
    exact ⟨rfl, hk, rfl, hv⟩

theorem ER.modify {base : Nat} {es es' : List MapEntry} (h : ER base γ es es') (j : Nat) (f f' : MapEntry → MapEntry) (hf : ∀ e e', e'.key = e.key → scalarKey e.key = true → e'.born = e.born → VR base γ e.val e'.val →
      (f' e').key = (f e).key ∧ scalarKey (f e).key = true ∧ (f' e').born = (f e).born ∧ VR base γ (f e).val (f' e').val) : ER base γ (es.modify j f) (es'.modify j f') := by
  refine ⟨by simp [h.1], fun i e e' hi hi' => ?_⟩
  rw [List.getElem?_modify] at hi hi'
  by_cases hij : j = i
  · subst hij
    simp only [if_true] at hi hi'
    cases he : es[j]? with
    | none => rw [he] at hi; simp at hi
    | some a =>
      cases he' : es'[j]? with
      | none => rw [he'] at hi'; simp at hi'
      | some a' =>
        rw [he] at hi; rw [he'] at hi'
        simp at hi hi'
        subst hi; subst hi'
        obtain ⟨a1, a2, a3, a4⟩ := h.2 j a a' he he'
        exact hf a a' a1 a2 a3 a4
  · simp only [hij, if_false] at hi hi'
    simp at hi hi'
    exact h.2 i e e' hi hi'

theorem toList_modifyA (es : Array MapEntry) (j : Nat) (f : MapEntry → MapEntry) : (es.modify j f).toList = es.toList.modify j f := by
  apply List.ext_getElem?
  intro i
  rw [List.getElem?_modify]
  simp only [Array.getElem?_toList, Array.getElem?_modify]
  split <;> simp_all

theorem stays_run {old new : Value} (h : Instr.sameBits 10000 old new = true) : (Instr.keyThatStays old new).run P w = .ok new w := by
  simp [Instr.keyThatStays, h]

theorem ER.keyAt {base : Nat} {es : List MapEntry} {es' : Array MapEntry} (h : ER base γ es es'.toList) {j : Nat} {k : Value} (hs : ((es[j]?).any fun e => Instr.sameBits 10000 e.key k) = true) :
    Instr.sameBits 10000 (((es'[j]?).map (·.key)).getD k) k = true ∧ ((es'[j]?).map (fun x => (x.born : Int))).getD 0 = ((es[j]?).map (fun x => (x.born : Int))).getD 0 := by
  cases he : es[j]? with
  | none => rw [he] at hs; simp at hs
  | some e =>
    rw [he] at hs
    simp at hs
    have hl : j < es'.toList.length := by
      have := h.1
      rcases Nat.lt_or_ge j es.length with h1 | h1
      · omega
      · rw [List.getElem?_eq_none h1] at he; cases he
    obtain ⟨a1, _, a3, _⟩ := h.2 j e _ he (List.getElem?_eq_getElem hl)
    have he' : es'[j]? = some es'.toList[j] := by rw [← Array.getElem?_toList]; exact List.getElem?_eq_getElem hl
    rw [he']
    simp only [Option.map_some, Option.getD_some]
    rw [a1, a3]
    exact ⟨hs, rfl⟩

theorem mapUpdate_sound (R : Rel P σ γ w) {t : TypeId} {x x' k k' v v' : Value} (hx : VR σ.base γ x x') (hk : VR σ.base γ k k') (hv : VR σ.base γ v v') {σ' : AHeap} (h : aMapUpdate P σ t x k v = some σ') :
    ∃ w', (Instr.mapUpdate t x' k' v').run P w = .ok () w' ∧ Rel P σ' γ w' ∧ Fram σ γ w w' ∧ Grows σ σ' γ γ := by
  unfold aMapUpdate at h
  split at h
  · rename_i kt e r hu
    split at h
    · rename_i hpk
      simp only [Bool.and_eq_true] at hpk
      obtain rfl := hk.eq_of_scalar hpk.1.2
      have hck := fun b => checkKey_run (P := P) (w := w) b 10000 hpk.1.1
      obtain ⟨uk, huk⟩ := plainKey_underlying hpk.1.1
      split at h
      · cases h
      · split at h
        · rename_i es clock hget
          obtain ⟨ge, hg, rfl⟩ := map_inv hx
          obtain ⟨es', hes, hER⟩ := R.map _ _ _ _ hget hg
          rw [Option.bind_eq_some_iff] at h
          obtain ⟨q, hq, h⟩ := h
          rcases find_rel hER hq with ⟨rfl, hf⟩ | ⟨j, u, u', rfl, hf, hvu⟩
          · simp only [Option.some.injEq] at h
            subst h
            refine ⟨_, ?_, R.mapPut hget hg (es2' := es'.push { key := k', val := v', born := clock }) (by simpa using hER.snoc hpk.1.2 hv), mapPut_Fram hget hg, mapPut_Grows hget⟩
            simp only [Instr.mapUpdate, Sem.run_bind, run_underlying hu, Result.andThen_ok, run_getMap hes, hck]
            rw [findKey_run huk hpk.1.2 hER.scalar hf]
            simp only [Result.andThen_ok, run_setMap hes]
          · simp only at h
            split at h
            · rename_i hsb
              simp only [Option.some.injEq] at h
              subst h
              obtain ⟨hsb', _⟩ := hER.keyAt hsb
              refine ⟨_, ?_, R.mapPut hget hg (es2' := es'.modify j fun e => { e with key := k', val := v' }) (by
                rw [toList_modifyA]
                exact hER.modify j _ _ (fun a a' h1 h2 h3 h4 => ⟨rfl, hpk.1.2, h3, hv⟩)), mapPut_Fram hget hg, mapPut_Grows hget⟩
              simp only [Instr.mapUpdate, Sem.run_bind, run_underlying hu, Result.andThen_ok, run_getMap hes, hck]
              rw [findKey_run huk hpk.1.2 hER.scalar hf]
              simp only [Sem.run_bind, Result.andThen_ok, stays_run hsb', run_setMap hes]
            · cases h
        · cases h
    · cases h
  · cases h

theorem mapEntry_sound (hz : ZeroOk P) (R : Rel P σ γ w) {t : TypeId} {x x' k k' : Value} (hx : VR σ.base γ x x') (hk : VR σ.base γ k k') {r : Value × AHeap} (h : aMapEntry P σ t x k = some r) :
    OpOk P σ γ w r (Instr.mapEntry t x' k') := by
  have pair : ∀ {v v' : Value} (n : Int), VR σ.base γ v v' → VR σ.base γ (.tuple #[v, goInt n]) (.tuple #[v', goInt n]) := by
    intro v v' n hv
    exact .tuple _ _ rfl (fun i a a' ha ha' => by
      match i with
      | 0 => simp at ha ha'; subst ha; subst ha'; exact hv
      | 1 => simp at ha ha'; subst ha; subst ha'; exact .int _ _
      | i + 2 => simp at ha)
  unfold aMapEntry at h
  split at h
  · rename_i kt e r hu
    split at h
    · rename_i hpk
      simp only [Bool.and_eq_true] at hpk
      obtain rfl := hk.eq_of_scalar hpk.2
      have hck := fun b => checkKey_run (P := P) (w := w) b 10000 hpk.1
      obtain ⟨uk, huk⟩ := plainKey_underlying hpk.1
      split at h
      · cases h
      · split at h
        · rename_i es clock hget
          obtain ⟨ge, hg, rfl⟩ := map_inv hx
          obtain ⟨es', hes, hER⟩ := R.map _ _ _ _ hget hg
          rw [Option.bind_eq_some_iff] at h
          obtain ⟨q, hq, h⟩ := h
          rcases find_rel hER hq with ⟨rfl, hf⟩ | ⟨j, u, u', rfl, hf, hvu⟩
          · simp only at h
            rw [Option.map_eq_some_iff] at h
            obtain ⟨z, hzz, rfl⟩ := h
            refine ⟨γ, _, _, ?_, pair clock (VR.ofConst (hz.const hzz)), R.mapPut hget hg (es2' := es'.push { key := k', val := z, born := clock }) (by simpa using hER.snoc hpk.2 (VR.ofConst (hz.const hzz))), mapPut_Fram hget hg, mapPut_Grows hget, NewB.refl σ γ w⟩
            simp only [Instr.mapEntry, Sem.run_bind, run_underlying hu, Result.andThen_ok, run_getMap hes, hck]
            rw [findKey_run huk hpk.2 hER.scalar hf]
            simp only [Sem.run_bind, Result.andThen_ok, run_zero hzz, run_setMap hes, Sem.run_pure]
          · simp only at h
            split at h
            · rename_i hsb
              simp only [Option.some.injEq] at h
              subst h
              obtain ⟨hsb', hborn⟩ := hER.keyAt hsb
              refine ⟨γ, _, _, ?_, pair _ hvu, R.mapPut hget hg (es2' := es'.modify j fun e => { e with key := k' }) (by
                rw [toList_modifyA]
                exact hER.modify j _ _ (fun a a' h1 h2 h3 h4 => ⟨rfl, hpk.2, h3, h4⟩)), mapPut_Fram hget hg, mapPut_Grows hget, NewB.refl σ γ w⟩
              simp only [Instr.mapEntry, Sem.run_bind, run_underlying hu, Result.andThen_ok, run_getMap hes, hck]
              rw [findKey_run huk hpk.2 hER.scalar hf]
              simp only [Sem.run_bind, Result.andThen_ok, stays_run hsb', run_setMap hes, Sem.run_pure, hborn]
            · cases h
        · cases h
    · cases h
  · cases h

theorem findIdx_rel {base : Nat} {es es' : List MapEntry} (h : ER base γ es es') (b : Int) : es'.findIdx? (fun e => (e.born : Int) == b) = es.findIdx? (fun e => (e.born : Int) == b) := by
  induction es generalizing es' with
  | nil => cases es' with
    | nil => rfl
    | cons e l => have := h.1; simp at this
  | cons e es ih =>
    cases es' with
    | nil => have := h.1; simp at this
    | cons e' es' =>
      obtain ⟨_, _, hb, _⟩ := h.2 0 e e' (by simp) (by simp)
      have := ih (es' := es') ⟨by have := h.1; simpa using this, fun j x y hx hy => h.2 (j + 1) x y (by simpa using hx) (by simpa using hy)⟩
      simp only [List.findIdx?_cons, hb, this]

theorem entryStore_sound (R : Rel P σ γ w) {t : TypeId} {x x' s s' v v' : Value} (hx : VR σ.base γ x x') (hs : VR σ.base γ s s') (hv : VR σ.base γ v v') {σ' : AHeap} (h : aEntryStore σ x s v = some σ') :
    ∃ w', (Instr.entryStore t x' s' v').run P w = .ok () w' ∧ Rel P σ' γ w' ∧ Fram σ γ w w' ∧ Grows σ σ' γ γ := by
  unfold aEntryStore at h
  split at h
  · rename_i r kk born
    obtain rfl := hs.eq_of_const rfl
    split at h
    · split at h
      · cases h
      · split at h
        · rename_i es clock hget
          obtain ⟨ge, hg, rfl⟩ := map_inv hx
          obtain ⟨es', hes, hER⟩ := R.map _ _ _ _ hget hg
          rw [Option.map_eq_some_iff] at h
          obtain ⟨j, hj, rfl⟩ := h
          refine ⟨_, ?_, R.mapPut hget hg (es2' := es'.modify j fun e => { e with val := v' }) (by
            rw [toList_modifyA]
            exact hER.modify j _ _ (fun a a' h1 h2 h3 h4 => ⟨h1, h2, h3, hv⟩)), mapPut_Fram hget hg, mapPut_Grows hget⟩
          have hj' : es'.findIdx? (fun e => (e.born : Int) == born) = some j := by
            rw [← hj, ← findIdx_rel hER born]
            obtain ⟨l⟩ := es'
            simp
          simp only [Instr.entryStore, Sem.run_bind, Result.andThen_ok, run_getMap hes, asInt, asIntOf, Sem.run_pure, hj', run_setMap hes]
        · cases h
    · cases h
  · cases h

theorem len_sound (R : Rel P σ γ w) {t ty : TypeId} {ts : List TypeId} {x x' v : Value} {xs : List Value} (hx : VR σ.base γ x x') (h : aLen P σ t x = some v) : OpPure P σ γ w v (Builtin.len_ (t :: ts).toArray ty (x' :: xs).toArray) := by
  unfold aLen at h
  have e1 : ∀ {d : TypeDesc}, P.underlying t = some d → (underlying t).run P w = .ok d w := fun hu => run_underlying hu w
  split at h
  · rename_i s hu
    obtain rfl := hx.eq_of_const rfl
    injection h with h; subst h
    refine OpPure.intro R (v' := goInt s.size) ?_ (.int _ _)
    simp only [Builtin.len_, List.getElem?_toArray, List.getElem?_cons_zero, Sem.run_bind, e1 hu, Result.andThen_ok, Sem.run_pure]
  · rename_i n hu hu2
    injection h with h; subst h
    refine OpPure.intro R (v' := goInt n) ?_ (.int _ _)
    simp only [Builtin.len_, List.getElem?_toArray, List.getElem?_cons_zero, Sem.run_bind, e1 hu2, Result.andThen_ok, Sem.run_pure]
  · rename_i e a n c hu
    injection h with h; subst h
    refine OpPure.intro R (v' := goInt n) ?_ (.int _ _)
    obtain ⟨a', c', rfl⟩ : ∃ a' c', x' = .slice a' n c' := by cases hx <;> exact ⟨_, _, rfl⟩
    simp only [Builtin.len_, List.getElem?_toArray, List.getElem?_cons_zero, Sem.run_bind, e1 hu, Result.andThen_ok, Sem.run_pure]
  · rename_i hu
    injection h with h; subst h
    cases hx
    refine OpPure.intro R (v' := goInt 0) ?_ (.int _ _)
    simp only [Builtin.len_, List.getElem?_toArray, List.getElem?_cons_zero, Sem.run_bind, e1 hu, Result.andThen_ok, Sem.run_pure]
  · rename_i r hu
    split at h
    · cases h
    · split at h
      · rename_i es clock hget
        injection h with h; subst h
        obtain ⟨ge, hg, rfl⟩ := map_inv hx
        obtain ⟨es', hes, hER⟩ := R.map _ _ _ _ hget hg
        refine OpPure.intro R (v' := goInt es.length) ?_ (.int _ _)
        have : es'.size = es.length := by have := hER.1; simpa using this.symm
        simp only [Builtin.len_, List.getElem?_toArray, List.getElem?_cons_zero, Sem.run_bind, e1 hu, Result.andThen_ok, run_getMap hes, Sem.run_pure, this]
      · cases h
  · cases h

theorem delete_sound (R : Rel P σ γ w) {t ty : TypeId} {ts : List TypeId} {x x' k k' : Value} {xs : List Value} (hx : VR σ.base γ x x') (hk : VR σ.base γ k k') {r : Value × AHeap} (h : aDelete P σ t x k = some r) :
    OpOk P σ γ w r (Builtin.delete_ (t :: ts).toArray ty (x' :: k' :: xs).toArray) := by
  unfold aDelete at h
  split at h
  · rename_i kt e r hu
    split at h
    · rename_i hpk
      simp only [Bool.and_eq_true] at hpk
      obtain rfl := hk.eq_of_scalar hpk.2
      have hck := fun b => checkKey_run (P := P) (w := w) b 10000 hpk.1
      obtain ⟨uk, huk⟩ := plainKey_underlying hpk.1
      split at h
      · cases h
      · split at h
        · rename_i es clock hget
          obtain ⟨ge, hg, rfl⟩ := map_inv hx
          obtain ⟨es', hes, hER⟩ := R.map _ _ _ _ hget hg
          rw [Option.bind_eq_some_iff] at h
          obtain ⟨q, hq, h⟩ := h
          rcases find_rel hER hq with ⟨rfl, hf⟩ | ⟨j, u, u', rfl, hf, hvu⟩
          · simp only [Option.some.injEq] at h
            subst h
            have hsame : ({ w with heap := w.heap.setIfInBounds ge.B (.map es' clock) } : World) = w := by
              have : w.heap.setIfInBounds ge.B (.map es' clock) = w.heap := by
                apply Array.ext_getElem?
                intro i
                rw [Array.getElem?_setIfInBounds]
                split
                · rename_i hi; subst hi; rw [hes]; simp [(R.dom _ _ hg).2.2.2]
                · rfl
              rw [this]
            refine OpOk.pure R (v' := .tuple #[]) ?_ (.tuple _ _ rfl (fun i v v' hv => by simp at hv))
            simp only [Builtin.delete_, List.getElem?_toArray, List.getElem?_cons_zero, List.getElem?_cons_succ, Sem.run_bind, run_underlying hu, Result.andThen_ok, run_getMap hes, hck]
            rw [findKey_run huk hpk.2 hER.scalar hf]
            simp only [Sem.run_bind, Result.andThen_ok, run_setMap hes, Sem.run_pure, hsame]
          · simp only [Option.some.injEq] at h
            subst h
            refine ⟨γ, _, _, ?_, .tuple _ _ rfl (fun i v v' hv => by simp at hv), R.mapPut hget hg (es2' := es'.eraseIdxIfInBounds j) (k2 := clock) ?_, mapPut_Fram hget hg, mapPut_Grows hget, NewB.refl σ γ w⟩
            · simp only [Builtin.delete_, List.getElem?_toArray, List.getElem?_cons_zero, List.getElem?_cons_succ, Sem.run_bind, run_underlying hu, Result.andThen_ok, run_getMap hes, hck]
              rw [findKey_run huk hpk.2 hER.scalar hf]
              simp only [Sem.run_bind, Result.andThen_ok, run_setMap hes, Sem.run_pure]
            · have htl : (es'.eraseIdxIfInBounds j).toList = es'.toList.eraseIdx j := by
                unfold Array.eraseIdxIfInBounds
                split
                · simp
                · rename_i hj
                  rw [List.eraseIdx_of_length_le (by simp; omega)]
              rw [htl]
              refine ⟨by simp only [List.length_eraseIdx, hER.1], fun i a a' ha ha' => ?_⟩
              rw [List.getElem?_eraseIdx] at ha ha'
              by_cases hi : i < j
              · simp only [hi, if_true] at ha ha'; exact hER.2 i a a' ha ha'
              · simp only [hi, if_false] at ha ha'; exact hER.2 _ a a' ha ha'
        · cases h
    · cases h
  · cases h

end
end Go.Am
