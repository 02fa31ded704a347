/- What a decoder holds; keys in a row of their own. -/
import Derived.Test.YtbjckccgbmimpabDoorK10
namespace Go.Proofs.YtbjckccgbmimpabDoor
open Go.RowKit Go.Proofs.YtbjckccgbmimpabDoorW.PrintWords Go.Proofs.YtbjckccgbmimpabDoorW.PrintLast Go.Proofs.YtbjckccgbmimpabDoorW.PrintMore

abbrev Key := Int × Int × Int
def keyVals (k : Key) : List Value := [.int .i64 k.1, .int .i32 k.2.1, .int .i64 k.2.2]
def kcs (ks : List Key) : List Value := ks.flatMap keyVals
theorem kcs_snoc (ks : List Key) (k : Key) : kcs (ks ++ [k]) = kcs ks ++ keyVals k := by simp [kcs]
theorem kcs_length (ks : List Key) : (kcs ks).length = ks.length * 3 := by
  induction ks with
  | nil => rfl
  | cons a r ih => simp only [kcs, List.flatMap_cons, List.length_append, List.length_cons] at ih ⊢; simp only [keyVals, List.length_cons, List.length_nil]; omega
def bz (l : List UInt8) : List Int := l.map fun b => (b.toNat : Int)
theorem bz_length (l : List UInt8) : (bz l).length = l.length := by simp [bz]
theorem bz_append (l r : List UInt8) : bz (l ++ r) = bz l ++ bz r := by simp [bz]
theorem Tryd.info30 : (Tryd.prog.info? 30).map (fun i => (i.zero, i.size, i.bytes)) = some (some (.agg #[.int .i64 0, .int .i32 0, .int .i64 0]), 3, 24) := by kernel_rfl

theorem append_key {ops : Array Oper} {rest : List Oper} {o : Oper} {a : Act} {Q : Exit → Act → World → Prop} {w0 W : World} (base : Nat) (hgd : o.guard = none) (s x : Operand)
    (ho : o.op = .call { callee := .builtin .append, args := #[s, x], argTypes := #[26, 26] }) (v : Value) (ks : List Key) (k : Key) (r : Nat) (hs : a.eval s = v) (hx : a.eval x = .slice (some ⟨r, 0, none⟩) 1 1) (hr : r = W.heap.size)
    (HO : W.ownsRow base 30 3 v ks.length (kcs ks)) (HB : Below base w0 W) (hbase : base ≤ W.heap.size) (hl : ks.length + 1 ≤ 1000000000)
    (h : ∀ v1 w1, w1.ownsRow base 30 3 v1 (ks ++ [k]).length (kcs (ks ++ [k])) → Below base w0 w1 → W.grownBy w1 v.ownBlock → wpList Tryd.prog ops Q rest (a.put o.dst v1) w1) :
    wpList Tryd.prog ops Q (o :: rest) a (W.alloc (.cells #[.int .i64 k.1, .int .i32 k.2.1, .int .i64 k.2.2] 30)) := by
  subst hr
  obtain ⟨i0, hi, hz0, hz1, hz2⟩ := info_parts Tryd.info30
  refine wpList_append_own_at (W.alloc (.cells #[.int .i64 k.1, .int .i32 k.2.1, .int .i64 k.2.2] 30)) hgd s x 26 ho base 30 i0 _ 3 24 Tryd.underlying26 hi hz0 hz1 hz2 rfl (by omega) v ks.length (kcs ks) hs (HO.alloc _) ⟨W.heap.size, 0, none⟩ 1 1 (keyVals k) hx rfl
    (World.news_of_block (cs := #[.int .i64 k.1, .int .i32 k.2.1, .int .i64 k.2.2]) (t := 30) (fr := (0, 0)) (heap_alloc_new W _)) (by intro u hu; simp only [keyVals, List.mem_cons, List.not_mem_nil, or_false] at hu; rcases hu with rfl | rfl | rfl <;> rfl)
    (by simp only [maxLen]; omega) (by omega) (by simp; omega) ?_
  intro v1 w1 hown hg _ _
  exact h v1 w1 (by rw [kcs_snoc, List.length_append]; exact hown) ((HB.alloc hbase _).grown hg (by simp; omega) (own_base HO)) (World.grownBy.trans (World.grownBy_alloc W _ _) hg)

/-- A row of bytes of one's own, read. -/
theorem own_RB {w : World} {base : Nat} {v : Value} {l : List UInt8} (h : w.ownsRow base 5 1 v (bz l).length (nums .u8 (bz l))) : ∃ A c, v = .slice A l.length c ∧ l.length ≤ c ∧ RB w A l := by
  obtain ⟨A, c, rfl, hr⟩ := own_reads h
  rw [bz_length] at hr h ⊢
  refine ⟨A, c, rfl, ?_, rfl, hr.2.1, fun hp => ?_⟩
  · rcases h.2 with ⟨he, hn⟩ | ⟨g, cap, cur, he, _, _, hc, _⟩
    · omega
    · injection he with _ _ he; omega
  · obtain ⟨ad, he, hc⟩ := hr.2.2 hp
    refine ⟨ad, he, fun j hj => ?_⟩
    rw [hc j hj]
    simp [bz, List.getD_eq_getElem?_getD, List.getElem?_eq_getElem hj]

/-- A decoder, and what waits. -/
structure Dec (W : World) (base g : Nat) (v : Value) (l : List UInt8) : Prop where
  blk : W.heap[g]? = some (.cells #[v] 51 (0, 0))
  ge : base ≤ g
  own : W.ownsRow base 5 1 v (bz l).length (nums .u8 (bz l))
theorem own_blk {w : World} {base e size n : Nat} {v : Value} {xs : List Value} (h : w.ownsRow base e size v n xs) {k : Nat} (hk : v.ownBlock = some k) : ∃ cur, w.heap[k]? = some (.cells cur e (0, 0)) := by
  rcases h.2 with ⟨rfl, _⟩ | ⟨g, cap, cur, rfl, _, hh, _⟩
  · simp [Value.ownBlock] at hk
  · simp only [Value.ownBlock, Option.some.injEq] at hk
    subst hk
    exact ⟨cur, hh⟩
theorem Dec.ne {W : World} {base g : Nat} {v : Value} {l : List UInt8} (h : Dec W base g v l) : some g ≠ v.ownBlock := fun e => by
  obtain ⟨cur, hc⟩ := own_blk h.own e.symm
  rw [h.blk] at hc
  injection hc with hc
  injection hc with _ ht
  exact absurd ht (by decide)
/-- What is written elsewhere leaves a row alone. -/
theorem own_kept {w w' : World} {base e size n : Nat} {v : Value} {xs : List Value} {S : Nat → Prop} (h : w.ownsRow base e size v n xs) (hk : Kept w w' S) (hS : ∀ k, v.ownBlock = some k → ¬ S k) : w'.ownsRow base e size v n xs := by
  refine ⟨h.1, ?_⟩
  rcases h.2 with h2 | ⟨g, cap, cur, rfl, hg, hh, r⟩
  · exact .inl h2
  · exact .inr ⟨g, cap, cur, rfl, hg, blk_kept hh hk (hS g rfl), r⟩
theorem Dec.kept {W W' : World} {base g : Nat} {v : Value} {l : List UInt8} {S : Nat → Prop} (h : Dec W base g v l) (hk : Kept W W' S) (hg : ¬ S g) (hS : ∀ k, v.ownBlock = some k → ¬ S k) : Dec W' base g v l :=
  ⟨blk_kept h.blk hk hg, h.ge, own_kept h.own hk hS⟩
def lenOfV : Value → Nat | .slice _ n _ => n | _ => 0

/-- What Feed comes to. -/
structure Fed (W W' : World) (base g : Nat) (v : Value) (r : List UInt8) (kv : Value) (ks : List Key) : Prop where
  dec : ∃ v', Dec W' base g v' r ∧ ∀ k, v'.ownBlock = some k → W.heap.size ≤ k
  keys : W'.ownsRow W.heap.size 30 3 kv ks.length (kcs ks)
  kept : Kept W W' (fun k => k = g ∨ some k = v.ownBlock)
  below : Below base W W'
def FeedPost (W : World) (base g : Nat) (v : Value) (all : List UInt8) (e : Ending) (W' : World) : Prop :=
  ∃ kv, e = .returned kv ∧ Fed W W' base g v (Kp.keysOf all).2 kv (Kp.keysOf all).1
theorem FeedPost.mk {W : World} {base g : Nat} {v : Value} {all : List UInt8} {kv : Value} {W' : World} (h : Fed W W' base g v (Kp.keysOf all).2 kv (Kp.keysOf all).1) : FeedPost W base g v all (.returned kv) W' := ⟨kv, rfl, h⟩
theorem own_ne_blk {w : World} {base e size n : Nat} {v : Value} {xs : List Value} (h : w.ownsRow base e size v n xs) {g t : Nat} {cs : Array Value} (hg : w.heap[g]? = some (.cells cs t (0, 0))) (ht : e ≠ t) : ∀ k, v.ownBlock = some k → k ≠ g := fun k hk hkg => by
  subst hkg
  obtain ⟨cur, hc⟩ := own_blk h hk
  rw [hg] at hc
  injection hc with hc
  injection hc with _ h2
  exact ht h2.symm
theorem blk_set {w : World} {g t : Nat} {v : Value} (h : w.heap[g]? = some (.cells #[v] t (0, 0))) (u : Value) : (w.setCell ⟨g, 0, none⟩ u).heap[g]? = some (.cells #[u] t (0, 0)) := by
  simp only [World.setCell, Array.getElem?_modify, h]
  simp
theorem fed_done {W w1 wr w5 : World} {base g : Nat} {v v5 vo : Value} {l r : List UInt8} {ks : List Key} (hd : Dec W base g v l) (hg1 : W.grownBy w1 v.ownBlock) (hb1 : Below base W w1) (hbase : base ≤ W.heap.size)
    (hb : Below w1.heap.size w1 wr) (ho : wr.ownsRow w1.heap.size 30 3 vo ks.length (kcs ks)) (hg5 : (wr.alloc (.cells #[] 5)).grownBy w5 (some wr.heap.size))
    (o5 : w5.ownsRow W.heap.size 5 1 v5 (bz r).length (nums .u8 (bz r))) (ob : v5.ownBlock = some wr.heap.size ∨ ∃ b, v5.ownBlock = some b ∧ wr.heap.size ≤ b) :
    w5.heap[g]? = some (.cells #[v] 51 (0, 0)) ∧ Fed W (w5.setCell ⟨g, 0, none⟩ v5) base g v r vo ks := by
  have s1 : W.heap.size ≤ w1.heap.size := hb1.size
  have s2 : w1.heap.size ≤ wr.heap.size := hb.size
  have g1 := blk_grown hd.blk hg1 hd.ne
  have gr := blk_below g1 hb
  have gz := blk_alloc gr (.cells #[] 5)
  have hgl := blk_lt gr
  have g5 := blk_grown gz hg5 (by simp; omega)
  have obk : ∀ k, v5.ownBlock = some k → wr.heap.size ≤ k := fun k hk => by
    rcases ob with h | ⟨b, h, hle⟩
    · rw [h] at hk; injection hk with hk; omega
    · rw [h] at hk; injection hk with hk; omega
  have kg : Kept w5 (w5.setCell ⟨g, 0, none⟩ v5) (fun k => k = g) := Kept.setCell (S := fun k => k = g) (Kept.refl w5 _) (p := ⟨g, 0, none⟩) (.inl rfl) _
  refine ⟨g5, ⟨v5, ⟨blk_set g5 v5, hd.ge, own_kept (own_less o5 hbase) kg (fun k hk => by have := obk k hk; omega)⟩, fun k hk => by have := obk k hk; omega⟩, ?_, ?_, ?_⟩
  · have oz := ho.alloc (.cells #[] 5)
    have o6 : w5.ownsRow w1.heap.size 30 3 vo ks.length (kcs ks) := by
      refine oz.kept hg5 ?_
      cases hvo : vo.ownBlock with
      | none => exact .inl rfl
      | some k => exact .inr (fun h => by
          injection h with h
          have := own_lt ho k hvo
          omega)
    exact own_less (own_kept o6 kg (own_ne_blk o6 g5 (by decide))) s1
  · refine Kept.setCell ?_ (.inl (.inl rfl)) _
    refine Kept.of_grown hg5 ((((Kept.of_grown hg1 (Kept.refl W _) (fun k hk => .inl (.inr hk.symm))).below hb)).alloc _) (fun k hk => .inr ?_)
    injection hk with hk
    omega
  · refine Below.setCell ?_ hd.ge _
    refine Below.grown (((hb1.trans (hb.mono (Nat.le_trans hbase s1)))).alloc (by omega) (.cells #[] 5)) hg5 (by simp; omega) (fun k hk => ?_)
    injection hk with hk
    omega
theorem own_empty {W : World} {base r : Nat} (hb : base ≤ W.heap.size) (hr : r = W.heap.size) : (W.alloc (.cells #[] 5)).ownsRow base 5 1 (.slice (some ⟨r, 0, none⟩) 0 0) ([] : List Int).length (nums .u8 []) := by
  subst hr
  exact own_lit W base 5 .u8 [] hb (by decide)
theorem fed_done' {W w1 wr w5 : World} {base g r : Nat} {v v5 vo : Value} {l rest : List UInt8} {ks : List Key} (hr : r = wr.heap.size) (hd : Dec W base g v l) (hg1 : W.grownBy w1 v.ownBlock) (hb1 : Below base W w1) (hbase : base ≤ W.heap.size)
    (hb : Below w1.heap.size w1 wr) (ho : wr.ownsRow w1.heap.size 30 3 vo ks.length (kcs ks)) (hg5 : (wr.alloc (.cells #[] 5)).grownBy w5 (Value.slice (some ⟨r, 0, none⟩) 0 0).ownBlock)
    (o5 : w5.ownsRow W.heap.size 5 1 v5 ([] ++ bz rest).length (nums .u8 ([] ++ bz rest))) (ob : v5.ownBlock = (Value.slice (some ⟨r, 0, none⟩) 0 0).ownBlock ∨ ∃ b, v5.ownBlock = some b ∧ (wr.alloc (.cells #[] 5)).heap.size ≤ b) :
    Hid (w5.cell? ⟨g, 0, none⟩ = some v) ∧ Hid (w5.frozen? ⟨g, 0, none⟩ = false) ∧ Hid (Fed W (w5.setCell ⟨g, 0, none⟩ v5) base g v rest vo ks) := by
  subst hr
  obtain ⟨h1, h2⟩ := fed_done hd hg1 hb1 hbase hb ho hg5 o5 (by
    rcases ob with h | ⟨b, h, hle⟩
    · exact .inl h
    · refine .inr ⟨b, h, ?_⟩
      have e : (wr.alloc (.cells #[] 5)).heap.size = wr.heap.size + 1 := by simp
      omega)
  exact ⟨(blk_cell h1 0).trans rfl, blk_frozen h1 0, h2⟩
end Go.Proofs.YtbjckccgbmimpabDoor
