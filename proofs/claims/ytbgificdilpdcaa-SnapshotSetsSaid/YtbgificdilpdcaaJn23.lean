/- Ascending runs of one length on plain arrays. No condition. The stable sort of signed votes. Conditions: sizes. slices.SortStableFunc of signed votes. Conditions: sizes. slices.CompactFunc of signed votes. Conditions: sizes. slices.CompactFunc of signed votes, on slices that are being collected. Conditions: sizes. cloneVote of package snapshot. Conditions: sizes. -/
import Derived.Test.YtbgificdilpdcaaJn19
import Derived.Test.YtbgificdilpdcaaStbW2
import Derived.Test.YtbgificdilpdcaaJn18
import Derived.Test.YtbgificdilpdcaaJn17
namespace Go.Proofs.Ytbgificdilpdcaa
section
open Go.Sort
section
variable {α : Type} [Inhabited α] {lt : α → α → Bool}
/-- From a on, each run of bs elements is ascending. -/
def Runs (lt : α → α → Bool) (bs n : Nat) (d : Array α) (a : Nat) : Prop := ∀ k, SortedIn lt (a + k * bs) (min (a + k * bs + bs) n) d
theorem Runs.head {bs n : Nat} {d : Array α} {a : Nat} (h : Runs lt bs n d a) : SortedIn lt a (min (a + bs) n) d := by
  have := h 0
  rw [Nat.zero_mul, Nat.add_zero] at this
  exact this
theorem Runs.tail {bs n : Nat} {d : Array α} {a : Nat} (h : Runs lt bs n d a) : Runs lt bs n d (a + bs) := by
  intro k
  have := h (k + 1)
  rw [Nat.succ_mul, show a + (k * bs + bs) = a + bs + k * bs by omega] at this
  exact this
theorem Runs.cons {bs n : Nat} {d : Array α} {a : Nat} (h : SortedIn lt a (min (a + bs) n) d) (h2 : Runs lt bs n d (a + bs)) : Runs lt bs n d a := by
  intro k
  cases k with
  | zero => rw [Nat.zero_mul, Nat.add_zero]; exact h
  | succ k =>
    have := h2 k
    rw [Nat.succ_mul, show a + (k * bs + bs) = a + bs + k * bs by omega]
    exact this
theorem Runs.last {bs n : Nat} {d : Array α} {a : Nat} (h : SortedIn lt a n d) (hn : n ≤ a + bs) : Runs lt bs n d a := by
  refine Runs.cons (by rw [Nat.min_eq_right hn]; exact h) (fun k => sorted_empty ?_)
  have := Nat.zero_le (k * bs)
  have := Nat.min_le_right (a + bs + k * bs + bs) n
  omega
theorem Runs.out {bs n lo hi : Nat} {d e : Array α} {a : Nat} (h : Runs lt bs n d a) (hp : PermIn lo hi d e) (ho : hi ≤ a) : Runs lt bs n e a := fun k => sorted_perm_out (h k) hp (.inr (by omega))
/-- Up to a the runs are done. -/
def Dn (lt : α → α → Bool) (bs n : Nat) (d : Array α) (a : Nat) : Prop := ∀ d' : Array α, (∀ t, t < a → d'[t]! = d[t]!) → Runs lt bs n d' a → Runs lt bs n d' 0
theorem Dn.start (bs n : Nat) (d : Array α) : Dn lt bs n d 0 := fun _ _ h => h
theorem Dn.next {bs n hi : Nat} {d e : Array α} {a : Nat} (h : Dn lt bs n d a) (hp : PermIn a hi d e) (hs : SortedIn lt a (a + bs) e) : Dn lt bs n e (a + bs) := by
  intro d' h1 h2
  refine h d' (fun t ht => by rw [h1 t (by omega)]; exact hp.2.1 t (.inl ht)) (Runs.cons ?_ h2)
  intro p q h3 h4 h5
  have h6 := Nat.min_le_left (a + bs) n
  rw [h1 p (by omega), h1 q (by omega)]
  exact hs p q h3 h4 (by omega)
theorem Dn.last {bs n hi : Nat} {d e : Array α} {a : Nat} (h : Dn lt bs n d a) (hp : PermIn a hi d e) (hs : SortedIn lt a n e) (hn : n ≤ a + bs) : Runs lt bs n e 0 := h e (fun t ht => hp.2.1 t (.inl ht)) (Runs.last hs hn)
theorem Runs.all {bs n : Nat} {d : Array α} (h : Runs lt bs n d 0) (hn : n ≤ bs) : SortedIn lt 0 n d := by
  have := h.head
  rw [Nat.zero_add, Nat.min_eq_right hn] at this
  exact this
end
end

section
open Go.RowKit Go.Sort Go.Shelf
section
variable {M : Nat → Prop} {w0 W : World} {g S : Nat}
theorem insS_sorts {n a b cap : Nat} {d : Array (VE M w0)} {w : World} (h : VS w0 g S d w) (hM : M g) (hn : d.size = n) (hab : a ≤ b) (hb : b ≤ n) (hsz : n < 4611686018427387904) : Calls Try.prog 71 #[.slice (some ⟨g, 0, none⟩) n cap, .int .i64 a, .int .i64 b, .func (.func 19) #[] #[]] w (SymPost w0 g S a b d) := by
  refine (insS_any (cap := cap) h hM hn hab hb hsz).mono ?_
  rintro e w' ⟨rfl, h1⟩
  have h2 := insertionSort_holds (lt := ltW) swoW d a b hab (by omega)
  exact ⟨rfl, _, h1, h2.1, h2.2⟩

set_option maxHeartbeats 16000000 in
set_option maxRecDepth 1000000 in
theorem stableS_any {n cap : Nat} {d : Array (VE M w0)} {w : World} (h : VS w0 g S d w) (hM : M g) (hn : d.size = n) (hsz : n < 1000000000000) : Calls Try.prog 52 #[.slice (some ⟨g, 0, none⟩) n cap, .int .i64 n, .func (.func 19) #[] #[]] w (SymPost w0 g S 0 n d) := by
  have S0 := Lib.hid h
  have HM := Lib.hid hM
  have HDN := Lib.hid hn
  clear h
  go_enter Try.func52, Try.ntmps52
  go_wp2
  go_loopg [7, 8] n (fun kx s7 s8 wr => ∃ (a : Nat) (dk : Array (VE M w0)), s7 = .int .i64 a ∧ s8 = .int .i64 ((a : Int) + 20) ∧ a ≤ n ∧ n - a ≤ kx ∧ Hid (VS w0 g S dk wr) ∧ Hid (PermIn 0 n d dk ∧ Dn ltW 20 n dk a))
  case atStart => exact ⟨0, d, rfl, rfl, by omega, by omega, S0, Lib.hid ⟨permIn_refl d 0 n, Dn.start _ _ _⟩⟩
  case round =>
    clear S0
    obtain ⟨a, dk, rfl, rfl, han, hkx, S1, HP⟩ := hrel
    have hsk : dk.size = n := by rw [HP.out.1.1]; exact hn
    by_cases hlt : a + 20 ≤ n
    · have hltz : (a : Int) + 20 ≤ (n : Int) := by omega
      have CS := Lib.hid (insS_sorts (a := a) (b := a + 20) (cap := cap) S1.out hM hsk (by omega) hlt (by omega))
      rw [show ((a + 20 : Nat) : Int) = (a : Int) + 20 by omega] at CS
      go_wp2_with fail
      refine CS.out.mono ?_
      rintro e w2 ⟨rfl, d2, h2, hp2, hs2⟩
      have S2 := Lib.hid h2
      have HP2 := Lib.hid (show PermIn 0 n d d2 ∧ Dn ltW 20 n d2 (a + 20) from ⟨permIn_trans _ _ _ _ _ HP.out.1 (permIn_mono _ _ a (a + 20) 0 n (by omega) hlt (by omega) hp2), HP.out.2.next hp2 hs2⟩)
      clear h2 hp2 hs2 CS S1
      go_wp2
      go_roundg (n - (a + 20))
      case measure => omega
      case rel => exact ⟨a + 20, d2, by first | rfl | go_num, by first | rfl | go_num, hlt, by omega, S2, HP2⟩
    · have hltz : ¬ (a : Int) + 20 ≤ (n : Int) := by omega
      have CS := Lib.hid (insS_sorts (a := a) (b := n) (cap := cap) S1.out hM hsk han (Nat.le_refl _) (by omega))
      go_wp2_with fail
      refine CS.out.mono ?_
      rintro e w2 ⟨rfl, d2, h2, hp2, hs2⟩
      have S0 := Lib.hid h2
      have HQ := Lib.hid (show PermIn 0 n d d2 ∧ Runs ltW 20 n d2 0 from ⟨permIn_trans _ _ _ _ _ HP.out.1 (permIn_mono _ _ a n 0 n (by omega) (Nat.le_refl _) (by omega) hp2), HP.out.2.last hp2 hs2 (by omega)⟩)
      clear h2 hp2 hs2 CS S1 HP hsk han hkx hltz hlt
      go_wp2
      go_loopg [6] n (fun kx s6 wr => ∃ (bs : Nat) (dk : Array (VE M w0)), s6 = .int .i64 bs ∧ 0 < bs ∧ bs ≤ 2 * n + 20 ∧ n - bs ≤ kx ∧ Hid (VS w0 g S dk wr) ∧ Hid (PermIn 0 n d dk ∧ Runs ltW bs n dk 0))
      case atStart => exact ⟨20, d2, rfl, by omega, by omega, by omega, S0, HQ⟩
      case round =>
        clear S0 HQ
        obtain ⟨bs, dk, rfl, hbs, hbs2, hkx, S1, HQ⟩ := hrel
        by_cases hbn : bs < n
        · have hbz : (bs : Int) < (n : Int) := by omega
          go_wp2
          go_loopg [7, 8] n (fun kx s7 s8 wr => ∃ (a : Nat) (dj : Array (VE M w0)), s7 = .int .i64 a ∧ s8 = .int .i64 ((a : Int) + 2 * (bs : Int)) ∧ a ≤ n ∧ n - a ≤ kx ∧ Hid (VS w0 g S dj wr) ∧ Hid (PermIn 0 n d dj ∧ Dn ltW (2 * bs) n dj a ∧ Runs ltW bs n dj a))
          case atStart => exact ⟨0, dk, rfl, by first | rfl | go_num, by omega, by omega, S1, Lib.hid ⟨HQ.out.1, Dn.start _ _ _, HQ.out.2⟩⟩
          case round =>
            clear S1 HQ
            obtain ⟨a, dj, rfl, rfl, han, hkx2, S2, HR⟩ := hrel
            have hsj : dj.size = n := by rw [HR.out.1.1]; exact hn
            by_cases hlt : a + 2 * bs ≤ n
            · have hltz : (a : Int) + 2 * (bs : Int) ≤ (n : Int) := by omega
              have hh1 := HR.out.2.2.head
              have hh2 := HR.out.2.2.tail.head
              rw [Nat.min_eq_left (by omega)] at hh1 hh2
              have CS := Lib.hid (symS_any (g := g) (S := S) (cap := cap) hM (by omega) (2 * bs) a (a + bs) (a + bs + bs) (by omega) S2.out hsj (by omega) (by omega) (by omega) hh1 hh2)
              rw [show ((a + bs + bs : Nat) : Int) = (a : Int) + 2 * (bs : Int) by omega, show ((a + bs : Nat) : Int) = (a : Int) + (bs : Int) by omega] at CS
              clear hh1 hh2
              go_wp2_with fail
              refine CS.out.mono ?_
              rintro e w3 ⟨rfl, d3, h3, hp3, hs3⟩
              have S3 := Lib.hid h3
              have HR3 := Lib.hid (show PermIn 0 n d d3 ∧ Dn ltW (2 * bs) n d3 (a + 2 * bs) ∧ Runs ltW bs n d3 (a + 2 * bs) from by
                rw [show a + bs + bs = a + 2 * bs by omega] at hp3 hs3
                refine ⟨permIn_trans _ _ _ _ _ HR.out.1 (permIn_mono _ _ a (a + 2 * bs) 0 n (by omega) hlt (by omega) hp3), HR.out.2.1.next hp3 hs3, ?_⟩
                have := (HR.out.2.2.tail.tail).out (hp3) (by omega)
                rw [show a + bs + bs = a + 2 * bs by omega] at this
                exact this)
              clear h3 hp3 hs3 CS S2
              go_wp2
              go_roundg (n - (a + 2 * bs))
              case measure => omega
              case rel => exact ⟨a + 2 * bs, d3, by first | rfl | go_num, by first | rfl | go_num, hlt, by omega, S3, HR3⟩
            · have hltz : ¬ (a : Int) + 2 * (bs : Int) ≤ (n : Int) := by omega
              by_cases hm : a + bs < n
              · have hmz : (a : Int) + (bs : Int) < (n : Int) := by omega
                have hh1 := HR.out.2.2.head
                have hh2 := HR.out.2.2.tail.head
                rw [Nat.min_eq_left (by omega)] at hh1
                rw [Nat.min_eq_right (by omega)] at hh2
                have CS := Lib.hid (symS_any (g := g) (S := S) (cap := cap) hM (by omega) n a (a + bs) n (by omega) S2.out hsj (by omega) hm (Nat.le_refl _) hh1 hh2)
                rw [show ((a + bs : Nat) : Int) = (a : Int) + (bs : Int) by omega] at CS
                clear hh1 hh2
                go_wp2_with fail
                refine CS.out.mono ?_
                rintro e w3 ⟨rfl, d3, h3, hp3, hs3⟩
                have S3 := Lib.hid h3
                have HQ3 := Lib.hid (show PermIn 0 n d d3 ∧ Runs ltW (2 * bs) n d3 0 from ⟨permIn_trans _ _ _ _ _ HR.out.1 (permIn_mono _ _ a n 0 n (by omega) (Nat.le_refl _) (by omega) hp3), HR.out.2.1.last hp3 hs3 (by omega)⟩)
                clear h3 hp3 hs3 CS S2
                go_wp2
                go_roundg (n - 2 * bs)
                case measure => omega
                case rel => exact ⟨2 * bs, d3, by first | rfl | go_num | (congr 1; omega), by omega, by omega, by omega, S3, HQ3⟩
              · have hmz : ¬ (a : Int) + (bs : Int) < (n : Int) := by omega
                have HQ3 := Lib.hid (show PermIn 0 n d dj ∧ Runs ltW (2 * bs) n dj 0 from by
                  have hh1 := HR.out.2.2.head
                  rw [Nat.min_eq_right (by omega)] at hh1
                  exact ⟨HR.out.1, HR.out.2.1.last (permIn_refl dj a n) hh1 (by omega)⟩)
                go_wp2
                go_roundg (n - 2 * bs)
                case measure => omega
                case rel => exact ⟨2 * bs, dj, by first | rfl | go_num | (congr 1; omega), by omega, by omega, by omega, S2, HQ3⟩
        · have hbz : ¬ (bs : Int) < (n : Int) := by omega
          go_wp2
          go_end0
          exact ⟨rfl, dk, S1.out, HQ.out.1, HQ.out.2.all (by omega)⟩

set_option maxRecDepth 1000000 in
theorem sortStableS_any {n cap : Nat} {d : Array (VE M w0)} {w : World} (h : VS w0 g S d w) (hM : M g) (hn : d.size = n) (hsz : n < 1000000000000) : Calls Try.prog 18 #[.slice (some ⟨g, 0, none⟩) n cap, .func (.func 19) #[] #[]] w (SymPost w0 g S 0 n d) := by
  have CS := Lib.hid (stableS_any (cap := cap) h hM hn hsz)
  clear h
  go_enter Try.func18, Try.ntmps18
  go_wp2_with fail
  refine CS.out.mono ?_
  rintro e w2 ⟨rfl, h2⟩
  have H2 := Lib.hid h2
  clear h2
  go_wp2
  go_end0
  exact ⟨rfl, H2.out⟩
end
end

section
open Go.RowKit Go.Sort Go.Shelf

def SortVPost (w : World) (M : Nat → Prop) (A : Option Addr) (c : Nat) (l : List SignedS) (e : Ending) (w' : World) : Prop := e = .returned (.tuple #[]) ∧ SgM w' M A c (sortL lessS l) ∧ Upd (OwnB (.slice A l.length c)) w w'
theorem sortV_fit {l : List SignedS} (h : ∀ s ∈ l, s.vote.Fit) : ∀ s ∈ sortL lessS l, s.vote.Fit := fun s hs => h s ((sortL_perm l).mem_iff.1 hs)
theorem insV_asc {x : SignedS} (hx : x.vote.Fit) : ∀ {l : List SignedS}, (∀ s ∈ l, s.vote.Fit) → AscL lessS l → AscL lessS (insL lessS x l)
  | [], _, _ => by simp [insL, AscL]
  | y :: l, hf, h => by
    have hy : y.vote.Fit := hf y (by simp)
    have hfl : ∀ s ∈ l, s.vote.Fit := fun s hs => hf s (by simp [hs])
    unfold insL
    unfold AscL at *
    rw [List.pairwise_cons] at h
    by_cases hc : lessS y x = true
    · rw [if_pos hc, List.pairwise_cons]
      refine ⟨fun z hz => ?_, insV_asc hx hfl h.2⟩
      have := (insL_perm x l).mem_iff.1 hz
      rcases List.mem_cons.1 this with rfl | hz'
      · exact lessS_asymm hy hx hc
      · exact h.1 z hz'
    · rw [if_neg hc, List.pairwise_cons]
      have hxy : lessS y x = false := by simpa using hc
      refine ⟨fun z hz => ?_, List.pairwise_cons.2 h⟩
      rcases List.mem_cons.1 hz with rfl | hz'
      · exact hxy
      · exact lessS_ntrans (hfl z hz') hy hx (h.1 z hz') hxy
theorem sortV_asc : ∀ {l : List SignedS}, (∀ s ∈ l, s.vote.Fit) → AscL lessS (sortL lessS l)
  | [], _ => by simp [sortL, AscL]
  | x :: l, h => insV_asc (h x (by simp)) (sortV_fit (fun s hs => h s (by simp [hs]))) (sortV_asc (fun s hs => h s (by simp [hs])))
theorem ascV_unique : ∀ {l m : List SignedS}, (∀ s ∈ l, s.vote.Fit) → AscL lessS l → AscL lessS m → l.Perm m → l = m
  | [], m, _, _, _, hp => (List.Perm.nil_eq hp)
  | x :: l, [], _, _, _, hp => by have := hp.length_eq; simp at this
  | x :: l, y :: m, hf, h1, h2, hp => by
    unfold AscL at h1 h2
    rw [List.pairwise_cons] at h1 h2
    have hx : x ∈ y :: m := hp.mem_iff.1 (by simp)
    have hy : y ∈ x :: l := hp.mem_iff.2 (by simp)
    have e : x = y := by
      rcases List.mem_cons.1 hx with h | h
      · exact h
      · rcases List.mem_cons.1 hy with h' | h'
        · exact h'.symm
        · exact (lessS_total (hf y hy) (hf x (by simp)) (h1.1 y h') (h2.1 x h)).symm
    subst e
    rw [ascV_unique (fun s hs => hf s (by simp [hs])) h1.2 h2.2 (List.Perm.cons_inv hp)]
theorem sortV_unique {l m : List SignedS} (hf : ∀ s ∈ l, s.vote.Fit) (h1 : AscL lessS m) (hp : m.Perm l) : m = sortL lessS l :=
  ascV_unique (fun s hs => hf s (hp.mem_iff.1 hs)) h1 (sortV_asc hf) (hp.trans (sortL_perm l).symm)
theorem flat_row {l : List SignedS} {us : List Value} (hf : ∀ s ∈ l, s.vote.Fit) (_hl : us.length = l.length) {i : Nat} {s : SignedS} {u : Value} (hs : l[i]? = some s) (hu : us[i]? = some u) {j : Nat} (hj : j < 23) : (List.zipWith rowS l us).flatten[i * 23 + j]? = (rowS s u)[j]? := by
  have hrow : (List.zipWith rowS l us)[i]? = some (rowS s u) := by rw [List.getElem?_zipWith, hs, hu]
  exact flatten_at (zip_rows hf) hrow hj

theorem flat_len : ∀ (L : List (List Value)), (∀ r ∈ L, r.length = 23) → L.flatten.length = L.length * 23
  | [], _ => by simp
  | r :: L, h => by
    have := flat_len L (fun x hx => h x (by simp [hx]))
    rw [List.flatten_cons, List.length_append, h r (by simp), this, List.length_cons]
    omega
set_option maxRecDepth 100000 in
theorem SortV_any {w : World} {M : Nat → Prop} {A : Option Addr} {c : Nat} {l : List SignedS} (hT : SgM w M A c l) (hM : ∀ k, OwnB (.slice A l.length c) k → M k) (hs : l.length ≤ 100000000) : Calls Try.prog 18 #[.slice A l.length c, fnV 19] w (SortVPost w M A c l) := by
  have HT := hT
  obtain ⟨hf, us, e1, e2, e3⟩ := hT
  rcases Nat.eq_zero_or_pos l.length with h0 | h0
  · have hl : l = [] := List.eq_nil_of_length_eq_zero h0
    subst hl
    refine (sortStable0 A c (fnV 19) w).mono ?_
    rintro e w' ⟨rfl, rfl⟩
    exact ⟨rfl, HT, Upd.refl _ _⟩
  · rcases e2.2 with ⟨_, hz⟩ | ⟨g, cap, cur, hv, hb, hn, hcm, hcs, hx⟩
    · omega
    injection hv with hA _ hc
    subst hA
    subst hc
    have hMg : M g := hM g (by simp [OwnB, Value.ownBlock])
    obtain ⟨r, hr, hrx⟩ := list_choose (R := fun (i : Nat) (y : VE M w) => us[i]? = some y.1.2 ∧ l[i]? = some y.1.1) (List.range l.length) (fun i hi => by
      have hi' : i < l.length := List.mem_range.1 hi
      obtain ⟨u, hu1, hu2⟩ := e3 i _ (List.getElem?_eq_getElem hi')
      exact ⟨⟨(l[i], u), hf _ (List.getElem_mem _), hu2⟩, hu1, List.getElem?_eq_getElem hi'⟩)
    rw [List.length_range] at hr
    have hri : ∀ i (y : VE M w), r[i]? = some y → us[i]? = some y.1.2 ∧ l[i]? = some y.1.1 := fun i y hy => by
      have hi : i < l.length := by rw [← hr]; exact (List.getElem?_eq_some_iff.1 hy).1
      obtain ⟨z, hz, hz2⟩ := hrx i i (by rw [List.getElem?_range hi])
      rw [hy] at hz
      rw [Option.some.inj hz]
      exact hz2
    have hrl : r.map (·.1.1) = l := by
      apply List.ext_getElem?
      intro i
      rw [List.getElem?_map]
      cases hc : r[i]? with
      | none =>
        have : l[i]? = none := by rw [List.getElem?_eq_none_iff] at hc ⊢; omega
        rw [this]; rfl
      | some y => rw [(hri i y hc).2]; rfl
    have hds : r.toArray.size = l.length := by simp [hr]
    have hH : HoldsK encW 23 w g 0 r.toArray := by
      intro t ht
      rw [size_flatK, hds] at ht
      refine ⟨?_, hb.frozen _⟩
      have hi : t / 23 < l.length := by omega
      have hj : t % 23 < 23 := Nat.mod_lt _ (by omega)
      have hri' : r[t / 23]? = some r[t / 23] := List.getElem?_eq_getElem (by omega)
      obtain ⟨q1, q2⟩ := hri _ _ hri'
      have hfl := flat_row hf e1 q2 q1 hj
      have htt : t / 23 * 23 + t % 23 = t := by omega
      rw [htt] at hfl
      have hlen : (rowS r[t / 23].1.1 r[t / 23].1.2).length = 23 := rowS_len r[t / 23].2.1 _
      have hget : (rowS r[t / 23].1.1 r[t / 23].1.2)[t % 23]? = some ((rowS r[t / 23].1.1 r[t / 23].1.2)[t % 23]'(by rw [hlen]; exact hj)) := List.getElem?_eq_getElem _
      rw [hget, ← hx, List.getElem?_take] at hfl
      have hcur : cur[t]? = some ((rowS r[t / 23].1.1 r[t / 23].1.2)[t % 23]'(by rw [hlen]; exact hj)) := by
        rw [if_pos ht] at hfl
        simpa using hfl
      rw [Nat.zero_add, hb.cell, hcur, get_flatK _ _ _ _ (by rw [hds]; exact ht)]
      have e4 : r.toArray[t / 23]! = r[t / 23] := by rw [getElem!_pos _ _ (by rw [hds]; exact hi)]; simp
      rw [e4]
      show some _ = some ((rowS r[t / 23].1.1 r[t / 23].1.2)[t % 23]!)
      rw [getElem!_pos (rowS r[t / 23].1.1 r[t / 23].1.2) (t % 23) (by rw [hlen]; exact hj)]
    have hVS : VS w g cur.size r.toArray w := ⟨hH, Upd.refl _ _, cur, hb, rfl⟩
    have hcon := sortStableS_any (cap := c) (n := l.length) hVS hMg hds (by omega)
    refine Calls.mono (show Calls Try.prog 18 #[.slice (some ⟨g, 0, none⟩) l.length c, fnV 19] w _ from hcon) ?_
    rintro e w' ⟨rfl, d', hV', ⟨p1, _, p3⟩, hsrt⟩
    have hd' : d'.size = l.length := by rw [p1, hds]
    have hperm : d'.toList.Perm r := by
      have q1 : d'.extract 0 l.length = d' := by rw [← hd']; simp
      have q2 : r.toArray.extract 0 l.length = r.toArray := by rw [← hds]; simp
      rw [q1, q2] at p3
      exact p3
    have hl' : d'.toList.map (·.1.1) = sortL lessS l := by
      refine sortV_unique hf ?_ (by rw [← hrl]; exact hperm.map _)
      unfold AscL
      rw [List.pairwise_map, List.pairwise_iff_getElem]
      intro i j hi hj hij
      have := hsrt i j (Nat.zero_le _) hij (by rw [← hd']; simpa using hj)
      have f1 : d'[i]! = d'.toList[i] := by rw [getElem!_pos _ i (by simpa using hi)]; simp
      have f2 : d'[j]! = d'.toList[j] := by rw [getElem!_pos _ j (by simpa using hj)]; simp
      rw [f1, f2] at this
      exact this
    have hupM : Upd M w w' := hV'.upd.mono (fun k _ e => by rw [show k = g from e]; exact hMg)
    have hsl : (sortL lessS l).length = l.length := sortL_len l
    refine ⟨rfl, ⟨sortV_fit hf, d'.toList.map (·.1.2), by simp [hsl, hd'], ?_, fun i s hs' => ?_⟩, hV'.upd.mono (fun k _ e => by rw [show k = g from e]; simp [OwnB, Value.ownBlock])⟩
    · rw [hsl]
      obtain ⟨cur', hb', hs'⟩ := hV'.row
      have hzl : (List.zipWith rowS (sortL lessS l) (d'.toList.map (·.1.2))).length = l.length := by simp [hsl, hd']
      have hrows : ∀ r ∈ List.zipWith rowS (sortL lessS l) (d'.toList.map (·.1.2)), r.length = 23 := zip_rows (sortV_fit hf)
      have hflen : (List.zipWith rowS (sortL lessS l) (d'.toList.map (·.1.2))).flatten.length = l.length * 23 := by
        rw [flat_len _ hrows, hzl]
      refine ⟨hflen, .inr ⟨g, c, cur', rfl, hb', hn, hcm, by rw [hs']; exact hcs, ?_⟩⟩
      apply List.ext_getElem?
      intro t
      rw [List.getElem?_take]
      by_cases ht : t < l.length * 23
      · rw [if_pos ht]
        have hi : t / 23 < l.length := by omega
        have hj : t % 23 < 23 := Nat.mod_lt _ (by omega)
        have hh := hV'.holds t (by rw [size_flatK, hd']; exact ht)
        rw [Nat.zero_add, hb'.cell, get_flatK _ _ _ _ (by rw [hd']; exact ht)] at hh
        have hid : t / 23 < d'.size := by omega
        have e4 : d'[t / 23]! = d'[t / 23] := getElem!_pos d' (t / 23) hid
        have k1 : (sortL lessS l)[t / 23]? = some d'[t / 23].1.1 := by rw [← hl', List.getElem?_map, Array.getElem?_toList, Array.getElem?_eq_getElem hid]; rfl
        have k2 : (d'.toList.map (·.1.2))[t / 23]? = some d'[t / 23].1.2 := by rw [List.getElem?_map, Array.getElem?_toList, Array.getElem?_eq_getElem hid]; rfl
        have k3 := flat_row (sortV_fit hf) (by simp [hsl, hd']) k1 k2 hj
        rw [show t / 23 * 23 + t % 23 = t by omega] at k3
        have hlen : (rowS d'[t / 23].1.1 d'[t / 23].1.2).length = 23 := rowS_len d'[t / 23].2.1 _
        rw [k3, Array.getElem?_toList, hh.1, e4, List.getElem?_eq_getElem (by rw [hlen]; exact hj)]
        show some ((rowS d'[t / 23].1.1 d'[t / 23].1.2)[t % 23]!) = _
        rw [getElem!_pos (rowS d'[t / 23].1.1 d'[t / 23].1.2) (t % 23) (by rw [hlen]; exact hj)]
      · rw [if_neg ht, List.getElem?_eq_none (by rw [hflen]; omega)]
    · rw [← hl', List.getElem?_map] at hs'
      obtain ⟨y, hy, rfl⟩ := Option.map_eq_some_iff.1 hs'
      exact ⟨y.1.2, by rw [List.getElem?_map, hy]; rfl, y.2.2.upd hupM⟩
end

section
open Go.RowKit Go.Sort Go.Shelf

section
variable {M : Nat → Prop} {w0 W : World} {g S : Nat} {d : Array (VE M w0)}
theorem setMany_set (i : Nat) (x : VE M w0) (hi : i < d.size) : setMany (flatK encW 23 d) (i * 23) (encW x) = flatK encW 23 (d.setIfInBounds i x) := by
  refine ext_get! (by simp) fun t ht => ?_
  have ht' : t < d.size * 23 := by simpa using ht
  rw [get_setMany _ _ _ t (by simpa using ht'), get_flatK _ _ _ t ht', get_flatK _ _ _ t (by simpa using ht'), encW_len]
  by_cases h : i * 23 ≤ t ∧ t < i * 23 + 23
  · rw [if_pos h, show t / 23 = i by omega, show t % 23 = t - i * 23 by omega]
    have : (d.setIfInBounds i x)[i]! = x := by rw [getElem!_pos _ i (by simpa using hi)]; simp
    rw [this]
  · rw [if_neg h]
    have hne : i ≠ t / 23 := by omega
    have : (d.setIfInBounds i x)[t / 23]! = d[t / 23]! := by
      rw [getElem!_pos _ (t / 23) (by simp; omega), getElem!_pos d (t / 23) (by omega), Array.getElem_setIfInBounds, if_neg hne]
    rw [this]
theorem VS.set (h : VS w0 g S d W) {i : Nat} (hi : i < d.size) (x : VE M w0) : VS w0 g S (d.setIfInBounds i x) (W.setCells g (i * 23) (encW x)) := by
  refine ⟨?_, upd_setCells g _ _ _ h.upd (.inl rfl), ?_⟩
  · have h1 := holds_setCells_c h.holds (i * 23) (encW x) (by rw [encW_len, size_flatK]; exact rowK_bnd d 23 i hi)
    rw [setMany_set i x hi, Nat.zero_add] at h1
    exact h1
  · obtain ⟨cur, hb, hs⟩ := h.row
    obtain ⟨c1, h1, e1⟩ := blk_setCells (encW x) (i * 23) _ _ hb
    exact ⟨c1, h1, by rw [e1, hs]⟩
theorem VS.ld2 (h : VS w0 g S d W) {a b : Nat} (hi : a + b < d.size) (p : UpdBy W) : Sem.run Try.prog (loadCellsFrom ⟨g, a * 23 + b * 23, none⟩ 0 23 #[]) p.w' = .ok (encW d[a + b]!).toArray p.w' := by
  rw [show a * 23 + b * 23 = (a + b) * 23 by omega]
  exact h.ld hi p
theorem VS.load2 (h : VS w0 g S d W) {a b : Nat} (hi : a + b < d.size) : Sem.run Try.prog (loadCellsFrom ⟨g, a * 23 + b * 23, none⟩ 0 23 #[]) W = .ok (encW d[a + b]!).toArray W := by
  rw [show a * 23 + b * 23 = (a + b) * 23 by omega]
  exact h.load hi
theorem VS.eq (h : VS w0 g S d W) (hM : M g) (x y : VE M w0) (p : UpdBy W) : Calls Try.prog 23 #[.agg (encW x).toArray, .agg (encW y).toArray] p.w' fun e w'' => e = .returned (.bool (decide (x.1.1 = y.1.1))) ∧ ∃ q : UpdBy W, w'' = q.w' := by
  have hu : Upd M w0 p.w' := (h.upd.mono (fun k _ e => by rw [show k = g from e]; exact hM)).trans p.h (fun _ _ f => f.elim)
  refine (equalVotes_any x.2.1 y.2.1 p.w' (x.2.2.upd hu).now (y.2.2.upd hu).now).mono ?_
  rintro e w'' ⟨rfl, h2⟩
  exact ⟨rfl, ⟨w'', p.h.trans h2 (fun _ _ f => f)⟩, rfl⟩
theorem zero_cells (n : Nat) : (Builtin.zeroCells (Value.agg zeroRow).cells n).toList.length = n * 23 ∧ ∀ v ∈ (Builtin.zeroCells (Value.agg zeroRow).cells n).toList, v.oneCell' = true := by
  have hz : (Value.agg zeroRow).cells = zeroRow := rfl
  have hall := row_one zeroS (u := nilV) rfl
  rw [List.all_toArray, List.all_eq_true] at hall
  refine ⟨?_, ?_⟩
  · rw [hz]
    simp [Builtin.zeroCells, zeroRow_size]
  · intro v hv
    rw [hz] at hv
    unfold Builtin.zeroCells at hv
    simp only [Array.toList_map, List.mem_map] at hv
    obtain ⟨i, hi, rfl⟩ := hv
    have h1 : zeroRow.size = 23 := zeroRow_size
    have h2 : i % zeroRow.size < zeroRow.size := Nat.mod_lt _ (by omega)
    rw [getElem!_pos zeroRow _ h2]
    exact hall _ (Array.getElem_mem_toList h2)
theorem run_clear_v {w : World} {g b n : Nat} (hn : 0 < n) {cur : Array Value} (hb : Blk w g 38 cur) (hs : b + n * 23 ≤ cur.size) : ∃ w', (∀ ty c, (Builtin.clear_ #[22] ty #[.slice (some ⟨g, b, none⟩) n c]).run Try.prog w = .ok (.tuple #[]) w') ∧ (∃ cur', Blk w' g 38 cur' ∧ cur'.size = cur.size ∧ ∀ t, t < b → cur'[t]? = cur[t]?) ∧ Upd (fun k => k = g) w w' := by
  obtain ⟨z1, z2⟩ := zero_cells n
  have hst := run_storeCells_at Try.prog g b 38 (Builtin.zeroCells (Value.agg zeroRow).cells n).toList 0 cur w hb (by rw [z1]; omega) z2
  have hv : ∀ w, (zeroValue 38).run Try.prog w = .ok (.agg zeroRow) w := fun w => by kernel_rfl
  obtain ⟨m, rfl⟩ : ∃ m, n = m + 1 := ⟨n - 1, by omega⟩
  rw [Nat.add_zero] at hst
  refine ⟨w.setRow g (cur.toList.take b ++ (Builtin.zeroCells (Value.agg zeroRow).cells (m + 1)).toList ++ cur.toList.drop (b + (Builtin.zeroCells (Value.agg zeroRow).cells (m + 1)).toList.length)).toArray, fun ty c => ?_, ⟨_, hb.row _, ?_, ?_⟩, (Upd.refl (fun k => k = g) w).setRow (.inl rfl) _⟩
  · simp [Builtin.clear_, run_underlying Try.underlying22, hv, hst]
  · have h1 : (cur.toList.take b ++ (Builtin.zeroCells (Value.agg zeroRow).cells (m + 1)).toList ++ cur.toList.drop (b + (Builtin.zeroCells (Value.agg zeroRow).cells (m + 1)).toList.length)).length = cur.size := by
      rw [List.length_append, List.length_append, List.length_take, List.length_drop, z1, Array.length_toList]
      omega
    simpa using h1
  · intro t ht
    rw [List.getElem?_toArray, List.append_assoc, List.getElem?_append_left (by rw [List.length_take, Array.length_toList]; omega), List.getElem?_take, if_pos ht, Array.getElem?_toList]

/-- While it is compacted: the first q are what was kept of the first p + 1; from p on the votes are as they were. -/
structure CpV (l : List SignedS) (n p q : Nat) (d dk : Array (VE M w0)) : Prop where
  size : dk.size = n
  len : (compL (l.take (p + 1))).length = q
  le : q ≤ p
  head : (dk.toList.take q).map (·.1.1) = compL (l.take (p + 1))
  rest : ∀ i, p ≤ i → i < n → dk[i]! = d[i]!
variable {l : List SignedS} {n p q : Nat} {dk : Array (VE M w0)} {s t : SignedS}
theorem CpV.skip (h : CpV l n p q d dk) (h1 : l[p]? = some s) (h2 : l[p + 1]? = some t) (he : s = t) : CpV l n (p + 1) q d dk := by
  have e : compL (l.take (p + 1 + 1)) = compL (l.take (p + 1)) := by rw [comp_next h1 h2, if_pos he]
  exact ⟨h.size, by rw [e]; exact h.len, Nat.le_succ_of_le h.le, by rw [e]; exact h.head, fun i hi => h.rest i (by omega)⟩
theorem CpV.keep (h : CpV l n p q d dk) (h1 : l[p]? = some s) (h2 : l[p + 1]? = some t) (he : s ≠ t) (hp : p + 1 < n) (hx : dk[p + 1]!.1.1 = t) : CpV l n (p + 1) (q + 1) d (dk.setIfInBounds q dk[p + 1]!) := by
  have e : compL (l.take (p + 1 + 1)) = compL (l.take (p + 1)) ++ [t] := by rw [comp_next h1 h2, if_neg he]
  have hq := h.le
  have hsz := h.size
  refine ⟨by simp [hsz], by rw [e]; simp [h.len], by omega, ?_, fun i hi hi2 => ?_⟩
  · rw [e, ← h.head]
    have hqs : q < (dk.setIfInBounds q dk[p + 1]!).toList.length := by simp; omega
    rw [List.take_succ_eq_append_getElem hqs, List.map_append]
    congr 1
    · rw [Array.toList_setIfInBounds, List.take_set, List.set_eq_of_length_le (by simp; omega)]
    · simp [hx]
  · rw [← h.rest i (by omega) hi2, getElem!_pos _ i (by simp; omega), getElem!_pos dk i (by omega), Array.getElem_setIfInBounds, if_neg (by omega)]
end

def CompVPost (w : World) (M : Nat → Prop) (A : Option Addr) (c : Nat) (l : List SignedS) (e : Ending) (w' : World) : Prop := e = .returned (.slice A (compL l).length c) ∧ SgM w' M A c (compL l) ∧ Upd (OwnB (.slice A l.length c)) w w'
/-- What the walk shows: the first q votes of the block. -/
def CpPost (w0 : World) (M : Nat → Prop) (g S cap : Nat) (l : List SignedS) (e : Ending) (w' : World) : Prop := e = .returned (.slice (some ⟨g, 0, none⟩) (compL l).length cap) ∧ ∃ d' : Array (VE M w0), (compL l).length ≤ d'.size ∧ (d'.toList.take (compL l).length).map (·.1.1) = compL l ∧ Upd (fun k => k = g) w0 w' ∧ ∃ cur, Blk w' g 38 cur ∧ cur.size = S ∧ ∀ t, t < (compL l).length * 23 → cur[t]? = some (flatK encW 23 d')[t]!
section
variable {M : Nat → Prop} {w0 : World} {g S : Nat} {d : Array (VE M w0)}
theorem VS.post {W : World} {l : List SignedS} {cap : Nat} {dk : Array (VE M w0)} (h : VS w0 g S dk W) (hq : (compL l).length ≤ dk.size) (hh : (dk.toList.take (compL l).length).map (·.1.1) = compL l) : CpPost w0 M g S cap l (.returned (.slice (some ⟨g, 0, none⟩) (compL l).length cap)) W := by
  obtain ⟨cur, hb, hs⟩ := h.row
  refine ⟨rfl, dk, hq, hh, h.upd, cur, hb, hs, fun t ht => ?_⟩
  have := (h.holds t (by rw [size_flatK]; have := Nat.mul_le_mul_right 23 hq; omega)).1
  rw [Nat.zero_add, hb.cell] at this
  exact this
set_option maxHeartbeats 16000000 in
set_option maxRecDepth 1000000 in
theorem compV_walk {n cap : Nat} {w : World} {l : List SignedS} (h : VS w0 g S d w) (hM : M g) (hn : d.size = n) (hl : l.length = n) (hdl : ∀ i, i < n → l[i]? = some d[i]!.1.1) (h2 : 2 ≤ n) (hS : n * 23 ≤ S) (hcap : n ≤ cap) (_hcm : cap ≤ 9223372036854775807) (hsz : n < 1000000000000) : Calls Try.prog 22 #[.slice (some ⟨g, 0, none⟩) n cap, .func (.func 23) #[] #[]] w (CpPost w0 M g S cap l) := by
  have aE : ∀ w, (isAgg 38).run Try.prog w = .ok true w := fun w => by kernel_rfl
  have zE : ∀ w, (Go.sizeOf 38).run Try.prog w = .ok 23 w := fun w => by kernel_rfl
  obtain ⟨kk, hkk⟩ : ∃ k, k = 23 := ⟨_, rfl⟩
  rw [← hkk] at zE
  have HK := Lib.hid hkk
  have S0 := Lib.hid h
  have HM := Lib.hid hM
  have HDL := Lib.hid hdl
  have HL := Lib.hid hl
  have HSS := Lib.hid hS
  have t0 : decide ((n : Int) < 2) = false := by simp; omega
  have t0' : decide (n < 2) = false := by simp; omega
  have t0z : ¬ (n : Int) < 2 := by omega
  clear h hdl hl hkk hS
  go_enter Try.func22, Try.ntmps22
  go_wp2
  clear t0 t0' t0z
  go_loopg [5] n (fun kx s5 wr => ∃ k : Nat, s5 = .int .i64 ((k : Int) + 1) ∧ k + 1 ≤ n ∧ n - k ≤ kx ∧ Hid (VS w0 g S d wr) ∧ Hid (compL (l.take (k + 1)) = l.take (k + 1)))
  case atStart => exact ⟨0, rfl, by omega, by omega, S0, Lib.hid (comp_one l)⟩
  case round =>
    clear S0
    obtain ⟨k, rfl, hk, hkx, S1, HCP⟩ := hrel
    by_cases hlt : k + 1 < n
    · have hltz : (k : Int) + 1 < (n : Int) := by omega
      by_cases hEQ : d[k + 1]!.1.1 = d[k]!.1.1
      · have HE := Lib.hid hEQ
        have ea1 : (((k : Int) + 1)).toNat = k + 1 := by omega
        have pa1 : (0 : Int) ≤ (k : Int) + 1 := by omega
        have ba1 : (k : Int) + 1 < (n : Int) := by omega
        have ra1 : IntKind.i64.wrap ((k : Int) + 1) = (k : Int) + 1 := by rw [IntKind.wrap_i64]; omega
        have ec1 : (((k : Int))).toNat = k := by omega
        have pc1 : (0 : Int) ≤ (k : Int) := by omega
        have bc1 : (k : Int) < (n : Int) := by omega
        have rc1 : IntKind.i64.wrap ((k : Int)) = (k : Int) := by rw [IntKind.wrap_i64]; omega
        have l1a := fun p : UpdBy wr => S1.out.ld (i := k + 1) (by omega) p
        have l1b := fun p : UpdBy wr => S1.out.ld (i := k) (by omega) p
        have hc1 := fun p : UpdBy wr => S1.out.eq HM.out d[k + 1]! d[k]! p
        have hb1 : decide ((d[k + 1]!).1.1 = (d[k]!).1.1) = true := by simpa using hEQ
        rw [hb1] at hc1
        obtain ⟨ex1, hex1⟩ : ∃ l, l = (encW d[k + 1]!).toArray := ⟨_, rfl⟩
        obtain ⟨ey1, hey1⟩ : ∃ l, l = (encW d[k]!).toArray := ⟨_, rfl⟩
        rw [← hex1] at l1a hc1
        rw [← hey1] at l1b hc1
        clear hex1 hey1
        rw [← HK.out] at l1a l1b
        go_wp2_with fail
        refine wp_region_quiet_upd (by kernel_rfl) (by kernel_rfl) ?_
        repeat (quiet_step (exact hc1 _))
        refine wpQuiet_nil ?_
        intro w3 hw'
        have hq : Upd NoF wr w3 := by obtain ⟨p, rfl⟩ := hw'; exact p.h
        clear hw'
        have S2 := Lib.hid (S1.out.same hq)
        clear l1a l1b hc1 hq
        clear hEQ hb1
        obtain ⟨k0, hk0⟩ : ∃ x, x = k + 1 := ⟨_, rfl⟩
        obtain ⟨n2, hn2⟩ : ∃ x, x = n - k0 := ⟨_, rfl⟩
        have HN2 := Lib.hid (show ((n - (k + 1) : Nat)) = n2 by rw [hn2, hk0])
        have y1 : (k : Int) + 1 = (k0 : Int) := by omega
        have Y1 := Lib.hid y1
        have b1 : k0 + n2 ≤ n := by omega
        have b2 : n ≤ k0 + n2 := by omega
        have b3 : 1 ≤ k0 := by omega
        have b4 : 1 ≤ n2 := by omega
        have HK0 := Lib.hid hk0
        clear y1 hn2 hk0
        have CP0 := Lib.hid (show CpV l n k0 k0 d d from by
          have e1 := HDL.out k (by omega)
          have e2 := HDL.out (k + 1) (by omega)
          have e3 : compL (l.take (k + 1 + 1)) = l.take (k + 1) := by rw [comp_next e1 e2, if_pos HE.out.symm]; exact HCP.out
          rw [HK0.out]
          have hlen : (l.take (k + 1)).length = k + 1 := by simp; have := HL.out; omega
          refine ⟨hn, by rw [e3]; exact hlen, Nat.le_refl _, ?_, fun _ _ _ => rfl⟩
          rw [e3]
          apply List.ext_getElem?
          intro i
          rw [List.getElem?_map, List.getElem?_take, List.getElem?_take]
          by_cases hi : i < k + 1
          · rw [if_pos hi, if_pos hi, HDL.out i (by omega), Array.getElem?_toList, Array.getElem?_eq_getElem (by omega), getElem!_pos d i (by omega)]
            rfl
          · rw [if_neg hi, if_neg hi]
            rfl)
        clear HCP HE S1
        go_wp2_with fail
        rw [HN2.out, Y1.out, ← HK0.out]
        generalize cap - k0 = c2
        clear HK0 Y1 HN2
        clear ea1 pa1 ba1 ra1 ec1 pc1 bc1 rc1
        go_loopg [5, 7] n (fun kx s5 s7 wr => ∃ (j q : Nat) (dk : Array (VE M w0)), s5 = .int .i64 q ∧ s7 = .int .i64 ((j : Int) + 1) ∧ j + 1 ≤ n2 ∧ n2 - j ≤ kx ∧ Hid (VS w0 g S dk wr) ∧ Hid (CpV l n (k0 + j) q d dk))
        case atStart => exact ⟨0, k0, d, rfl, rfl, b4, by omega, S2, CP0⟩
        case round =>
          clear S2 CP0
          obtain ⟨j, q, dk, rfl, rfl, hj, hkx, S3, CP⟩ := hrel
          have hsk : dk.size = n := CP.out.size
          have hqp : q ≤ k0 + j := CP.out.le
          by_cases hlt : j + 1 < n2
          · have hltz : (j : Int) + 1 < (n2 : Int) := by omega
            have G1 := Lib.hid (show l[k0 + j]? = some dk[k0 + j]!.1.1 from by rw [CP.out.rest _ (Nat.le_refl _) (by omega)]; exact HDL.out _ (by omega))
            have G2 := Lib.hid (show l[k0 + j + 1]? = some dk[k0 + (j + 1)]!.1.1 from by rw [CP.out.rest (k0 + (j + 1)) (by omega) (by omega)]; exact HDL.out _ (by omega))
            by_cases hEQ : dk[k0 + (j + 1)]!.1.1 = dk[k0 + j]!.1.1
            · have HE := Lib.hid hEQ
              have ea2 : (((j : Int) + 1)).toNat = j + 1 := by omega
              have pa2 : (0 : Int) ≤ (j : Int) + 1 := by omega
              have ba2 : (j : Int) + 1 < (n2 : Int) := by omega
              have ra2 : IntKind.i64.wrap ((j : Int) + 1) = (j : Int) + 1 := by rw [IntKind.wrap_i64]; omega
              have ec2 : (((j : Int))).toNat = j := by omega
              have pc2 : (0 : Int) ≤ (j : Int) := by omega
              have bc2 : (j : Int) < (n2 : Int) := by omega
              have rc2 : IntKind.i64.wrap ((j : Int)) = (j : Int) := by rw [IntKind.wrap_i64]; omega
              have l2a := fun p : UpdBy wr => S3.out.ld2 (a := k0) (b := j + 1) (by omega) p
              have l2b := fun p : UpdBy wr => S3.out.ld2 (a := k0) (b := j) (by omega) p
              have hc2 := fun p : UpdBy wr => S3.out.eq HM.out dk[k0 + (j + 1)]! dk[k0 + j]! p
              have hb2 : decide ((dk[k0 + (j + 1)]!).1.1 = (dk[k0 + j]!).1.1) = true := by simpa using hEQ
              rw [hb2] at hc2
              obtain ⟨ex2, hex2⟩ : ∃ l, l = (encW dk[k0 + (j + 1)]!).toArray := ⟨_, rfl⟩
              obtain ⟨ey2, hey2⟩ : ∃ l, l = (encW dk[k0 + j]!).toArray := ⟨_, rfl⟩
              rw [← hex2] at l2a hc2
              rw [← hey2] at l2b hc2
              clear hex2 hey2
              rw [← HK.out] at l2a l2b
              go_wp2_with fail
              refine wp_region_quiet_upd (by kernel_rfl) (by kernel_rfl) ?_
              repeat (quiet_step (exact hc2 _))
              refine wpQuiet_nil ?_
              intro w4 hw'
              have hq : Upd NoF wr w4 := by obtain ⟨p, rfl⟩ := hw'; exact p.h
              clear hw'
              have S4 := Lib.hid (S3.out.same hq)
              clear l2a l2b hc2 hq
              clear hEQ hb2
              go_wp2
              go_roundg (n2 - (j + 1))
              case measure => omega
              case rel => exact ⟨j + 1, q, dk, rfl, by first | rfl | go_num, by omega, by omega, S4, Lib.hid (by rw [show k0 + (j + 1) = k0 + j + 1 by omega]; exact CP.out.skip G1.out G2.out HE.out.symm)⟩
            · have HE := Lib.hid hEQ
              have ea2 : (((j : Int) + 1)).toNat = j + 1 := by omega
              have pa2 : (0 : Int) ≤ (j : Int) + 1 := by omega
              have ba2 : (j : Int) + 1 < (n2 : Int) := by omega
              have ra2 : IntKind.i64.wrap ((j : Int) + 1) = (j : Int) + 1 := by rw [IntKind.wrap_i64]; omega
              have ec2 : (((j : Int))).toNat = j := by omega
              have pc2 : (0 : Int) ≤ (j : Int) := by omega
              have bc2 : (j : Int) < (n2 : Int) := by omega
              have rc2 : IntKind.i64.wrap ((j : Int)) = (j : Int) := by rw [IntKind.wrap_i64]; omega
              have l2a := fun p : UpdBy wr => S3.out.ld2 (a := k0) (b := j + 1) (by omega) p
              have l2b := fun p : UpdBy wr => S3.out.ld2 (a := k0) (b := j) (by omega) p
              have hc2 := fun p : UpdBy wr => S3.out.eq HM.out dk[k0 + (j + 1)]! dk[k0 + j]! p
              have hb2 : decide ((dk[k0 + (j + 1)]!).1.1 = (dk[k0 + j]!).1.1) = false := by simpa using hEQ
              rw [hb2] at hc2
              obtain ⟨ex2, hex2⟩ : ∃ l, l = (encW dk[k0 + (j + 1)]!).toArray := ⟨_, rfl⟩
              obtain ⟨ey2, hey2⟩ : ∃ l, l = (encW dk[k0 + j]!).toArray := ⟨_, rfl⟩
              rw [← hex2] at l2a hc2
              rw [← hey2] at l2b hc2
              clear hex2 hey2
              rw [← HK.out] at l2a l2b
              go_wp2_with fail
              refine wp_region_quiet_upd (by kernel_rfl) (by kernel_rfl) ?_
              repeat (quiet_step (exact hc2 _))
              refine wpQuiet_nil ?_
              intro w4 hw'
              have hq : Upd NoF wr w4 := by obtain ⟨p, rfl⟩ := hw'; exact p.h
              clear hw'
              have S4 := Lib.hid (S3.out.same hq)
              clear l2a l2b hc2 hq
              clear hEQ hb2
              have ea5 : (((q : Int))).toNat = q := by omega
              have pa5 : (0 : Int) ≤ (q : Int) := by omega
              have ba5 : (q : Int) < (n : Int) := by omega
              have ra5 : IntKind.i64.wrap ((q : Int)) = (q : Int) := by rw [IntKind.wrap_i64]; omega
              have ec5 : (((j : Int) + 1)).toNat = j + 1 := by omega
              have pc5 : (0 : Int) ≤ (j : Int) + 1 := by omega
              have bc5 : (j : Int) + 1 < (n2 : Int) := by omega
              have rc5 : IntKind.i64.wrap ((j : Int) + 1) = (j : Int) + 1 := by rw [IntKind.wrap_i64]; omega
              have S5 := Lib.hid (S4.out.set (i := q) (by omega) dk[k0 + (j + 1)]!)
              have l5 := S4.out.load2 (a := k0) (b := j + 1) (by omega)
              have s5 := S4.out.st1 (i := q) (by omega) dk[k0 + (j + 1)]!
              have n5 : (encW dk[k0 + (j + 1)]!).length = 23 := encW_len _
              have CPK := Lib.hid (CP.out.keep G1.out G2.out (fun e => HE.out e.symm) (by omega) (by rw [show k0 + j + 1 = k0 + (j + 1) by omega]))
              rw [show k0 + j + 1 = k0 + (j + 1) by omega] at CPK
              generalize dk.setIfInBounds q dk[k0 + (j + 1)]! = dn at S5 CPK
              generalize encW dk[k0 + (j + 1)]! = cX at S5 l5 s5 n5
              rw [← HK.out] at S5 l5 s5 n5
              go_wp2_with fail
              clear l5 s5
              generalize w4.setCells g (q * kk) cX = w5 at S5 ⊢
              go_wp2
              go_roundg (n2 - (j + 1))
              case measure => omega
              case rel => exact ⟨j + 1, q + 1, dn, by first | rfl | go_num, by first | rfl | go_num, by omega, by omega, S5, CPK⟩
          · have hltz : ¬ (j : Int) + 1 < (n2 : Int) := by omega
            have hp : k0 + j + 1 = n := by omega
            have hq0 : 0 < n - q := by omega
            obtain ⟨cur, hb, hcs⟩ := S3.out.row
            obtain ⟨w5, hc1, ⟨cur', hb', hs', hlow⟩, hu5⟩ := run_clear_v (b := q * 23) (n := n - q) hq0 hb (by rw [hcs]; have := HSS.out; omega)
            have hql : (compL l).length = q := by
              have := CP.out.len
              rw [hp, List.take_of_length_le (by have := HL.out; omega)] at this
              exact this
            have POST := Lib.hid (show CpPost w0 M g S cap l (.returned (.slice (some ⟨g, 0, none⟩) q cap)) w5 from by
              have hh := CP.out.head
              rw [hp, List.take_of_length_le (l := l) (by have := HL.out; omega)] at hh
              refine ⟨by rw [hql], dk, by omega, by rw [hql]; exact hh, S3.out.upd.trans hu5 (fun _ _ f => f), cur', hb', by rw [hs', hcs], fun t ht => ?_⟩
              rw [hql] at ht
              rw [hlow t ht]
              have := (S3.out.holds t (by rw [size_flatK]; have := Nat.mul_le_mul_right 23 (show q ≤ dk.size by omega); omega)).1
              rw [Nat.zero_add, hb.cell] at this
              exact this)
            rw [← HK.out] at hc1
            clear hb hcs hb' hs' hlow hu5 hql hp
            have hqn : q ≤ n := by omega
            have hqz : (q : Int) ≤ (n : Int) := by omega
            have hqc : q ≤ cap := by omega
            go_wp2
            go_ret
            exact POST.out
      · have HE := Lib.hid hEQ
        have ea1 : (((k : Int) + 1)).toNat = k + 1 := by omega
        have pa1 : (0 : Int) ≤ (k : Int) + 1 := by omega
        have ba1 : (k : Int) + 1 < (n : Int) := by omega
        have ra1 : IntKind.i64.wrap ((k : Int) + 1) = (k : Int) + 1 := by rw [IntKind.wrap_i64]; omega
        have ec1 : (((k : Int))).toNat = k := by omega
        have pc1 : (0 : Int) ≤ (k : Int) := by omega
        have bc1 : (k : Int) < (n : Int) := by omega
        have rc1 : IntKind.i64.wrap ((k : Int)) = (k : Int) := by rw [IntKind.wrap_i64]; omega
        have l1a := fun p : UpdBy wr => S1.out.ld (i := k + 1) (by omega) p
        have l1b := fun p : UpdBy wr => S1.out.ld (i := k) (by omega) p
        have hc1 := fun p : UpdBy wr => S1.out.eq HM.out d[k + 1]! d[k]! p
        have hb1 : decide ((d[k + 1]!).1.1 = (d[k]!).1.1) = false := by simpa using hEQ
        rw [hb1] at hc1
        obtain ⟨ex1, hex1⟩ : ∃ l, l = (encW d[k + 1]!).toArray := ⟨_, rfl⟩
        obtain ⟨ey1, hey1⟩ : ∃ l, l = (encW d[k]!).toArray := ⟨_, rfl⟩
        rw [← hex1] at l1a hc1
        rw [← hey1] at l1b hc1
        clear hex1 hey1
        rw [← HK.out] at l1a l1b
        go_wp2_with fail
        refine wp_region_quiet_upd (by kernel_rfl) (by kernel_rfl) ?_
        repeat (quiet_step (exact hc1 _))
        refine wpQuiet_nil ?_
        intro w3 hw'
        have hq : Upd NoF wr w3 := by obtain ⟨p, rfl⟩ := hw'; exact p.h
        clear hw'
        have S2 := Lib.hid (S1.out.same hq)
        clear l1a l1b hc1 hq
        clear hEQ hb1
        have HN := Lib.hid (comp_two (HDL.out k (by omega)) (HDL.out (k + 1) (by omega)) (fun e => HE.out e.symm) HCP.out)
        go_wp2
        go_roundg (n - (k + 1))
        case measure => omega
        case rel => exact ⟨k + 1, by first | rfl | go_num, by omega, by omega, S2, HN⟩
    · have hltz : ¬ (k : Int) + 1 < (n : Int) := by omega
      have hkn : k + 1 = n := by omega
      have hcl : compL l = l := by
        have := HCP.out
        rw [hkn, List.take_of_length_le (by have := HL.out; omega)] at this
        exact this
      have POST := Lib.hid (show CpPost w0 M g S cap l (.returned (.slice (some ⟨g, 0, none⟩) n cap)) wr from by
        have hln := HL.out
        have := VS.post (l := l) (cap := cap) S1.out (by rw [hcl]; omega) (by
          rw [hcl, hln]
          apply List.ext_getElem?
          intro i
          rw [List.getElem?_map, List.getElem?_take]
          by_cases hi : i < n
          · rw [if_pos hi, HDL.out i hi, Array.getElem?_toList, Array.getElem?_eq_getElem (by omega), getElem!_pos d i (by omega)]
            rfl
          · rw [if_neg hi, List.getElem?_eq_none (by omega)]
            rfl)
        rw [hcl, hln] at this
        exact this)
      clear hkn hcl
      go_wp2
      go_ret
      exact POST.out
end
end

section
open Go.RowKit Go.Sort Go.Shelf

theorem sgm_vs {w : World} {M : Nat → Prop} {A : Option Addr} {c : Nat} {l : List SignedS} (hT : SgM w M A c l) (h0 : 0 < l.length) : ∃ (g : Nat) (cur : Array Value) (d : Array (VE M w)), A = some ⟨g, 0, none⟩ ∧ l.length ≤ c ∧ c ≤ maxLen ∧ c * 23 ≤ cur.size ∧ d.size = l.length ∧ (∀ i, i < l.length → l[i]? = some d[i]!.1.1) ∧ VS w g cur.size d w := by
  obtain ⟨hf, us, e1, e2, e3⟩ := hT
  rcases e2.2 with ⟨_, hz⟩ | ⟨g, cap, cur, hv, hb, hn, hcm, hcs, hx⟩
  · omega
  injection hv with hA _ hc
  subst hA
  subst hc
  obtain ⟨r, hr, hrx⟩ := list_choose (R := fun (i : Nat) (y : VE M w) => us[i]? = some y.1.2 ∧ l[i]? = some y.1.1) (List.range l.length) (fun i hi => by
    have hi' : i < l.length := List.mem_range.1 hi
    obtain ⟨u, hu1, hu2⟩ := e3 i _ (List.getElem?_eq_getElem hi')
    exact ⟨⟨(l[i], u), hf _ (List.getElem_mem _), hu2⟩, hu1, List.getElem?_eq_getElem hi'⟩)
  rw [List.length_range] at hr
  have hri : ∀ i (y : VE M w), r[i]? = some y → us[i]? = some y.1.2 ∧ l[i]? = some y.1.1 := fun i y hy => by
    have hi : i < l.length := by rw [← hr]; exact (List.getElem?_eq_some_iff.1 hy).1
    obtain ⟨z, hz, hz2⟩ := hrx i i (by rw [List.getElem?_range hi])
    rw [hy] at hz
    rw [Option.some.inj hz]
    exact hz2
  have hds : r.toArray.size = l.length := by simp [hr]
  have hget : ∀ i (hi : i < r.length), r.toArray[i]! = r[i] := fun i hi => by rw [getElem!_pos r.toArray i (by simpa using hi)]; simp
  refine ⟨g, cur, r.toArray, rfl, hn, hcm, hcs, hds, fun i hi => ?_, ?_, Upd.refl _ _, cur, hb, rfl⟩
  · rw [hget i (by omega)]
    exact (hri i _ (List.getElem?_eq_getElem (by omega))).2
  · intro t ht
    rw [size_flatK, hds] at ht
    refine ⟨?_, hb.frozen _⟩
    have hi : t / 23 < r.length := by omega
    have hj : t % 23 < 23 := Nat.mod_lt _ (by omega)
    obtain ⟨q1, q2⟩ := hri _ _ (List.getElem?_eq_getElem hi)
    have hfl := flat_row hf e1 q2 q1 hj
    rw [show t / 23 * 23 + t % 23 = t by omega] at hfl
    have hlen : (rowS r[t / 23].1.1 r[t / 23].1.2).length = 23 := rowS_len r[t / 23].2.1 _
    have hg2 : (rowS r[t / 23].1.1 r[t / 23].1.2)[t % 23]? = some ((rowS r[t / 23].1.1 r[t / 23].1.2)[t % 23]'(by rw [hlen]; exact hj)) := List.getElem?_eq_getElem _
    rw [hg2, ← hx, List.getElem?_take, if_pos ht, Array.getElem?_toList] at hfl
    rw [Nat.zero_add, hb.cell, hfl, get_flatK _ _ _ _ (by rw [hds]; exact ht), hget _ hi]
    show _ = some ((rowS r[t / 23].1.1 r[t / 23].1.2)[t % 23]!)
    rw [getElem!_pos (rowS r[t / 23].1.1 r[t / 23].1.2) (t % 23) (by rw [hlen]; exact hj)]
theorem vs_sgm {w w' : World} {M : Nat → Prop} {g c : Nat} {l : List SignedS} {d' : Array (VE M w)} {cur : Array Value} (hq : l.length ≤ d'.size) (hh : (d'.toList.take l.length).map (·.1.1) = l) (hu : Upd M w w') (hb : Blk w' g 38 cur) (hn : l.length ≤ c) (hcm : c ≤ maxLen) (hcs : c * 23 ≤ cur.size) (hx : ∀ t, t < l.length * 23 → cur[t]? = some (flatK encW 23 d')[t]!) : SgM w' M (some ⟨g, 0, none⟩) c l := by
  have hfit : ∀ s ∈ l, s.vote.Fit := fun s hs => by
    rw [← hh] at hs
    obtain ⟨y, _, rfl⟩ := List.mem_map.1 hs
    exact y.2.1
  have hat : ∀ i, i < l.length → ∃ h : i < d'.size, l[i]? = some d'[i].1.1 ∧ ((d'.toList.take l.length).map (·.1.2))[i]? = some d'[i].1.2 := fun i hi => by
    refine ⟨by omega, ?_, ?_⟩
    · conv => lhs; rw [← hh]
      rw [List.getElem?_map, List.getElem?_take, if_pos hi, Array.getElem?_toList, Array.getElem?_eq_getElem (by omega)]
      rfl
    · rw [List.getElem?_map, List.getElem?_take, if_pos hi, Array.getElem?_toList, Array.getElem?_eq_getElem (by omega)]
      rfl
  have hul : ((d'.toList.take l.length).map (·.1.2)).length = l.length := by simp; omega
  refine ⟨hfit, (d'.toList.take l.length).map (·.1.2), hul, ?_, fun i s hs => ?_⟩
  · have hrows : ∀ r ∈ List.zipWith rowS l ((d'.toList.take l.length).map (·.1.2)), r.length = 23 := zip_rows hfit
    have hflen : (List.zipWith rowS l ((d'.toList.take l.length).map (·.1.2))).flatten.length = l.length * 23 := by
      rw [flat_len _ hrows, List.length_zipWith, hul, Nat.min_self]
    refine ⟨hflen, .inr ⟨g, c, cur, rfl, hb, hn, hcm, hcs, ?_⟩⟩
    apply List.ext_getElem?
    intro t
    rw [List.getElem?_take]
    by_cases ht : t < l.length * 23
    · rw [if_pos ht]
      have hj : t % 23 < 23 := Nat.mod_lt _ (by omega)
      obtain ⟨hid, k1, k2⟩ := hat (t / 23) (by omega)
      have k3 := flat_row hfit hul k1 k2 hj
      rw [show t / 23 * 23 + t % 23 = t by omega] at k3
      have hlen : (rowS d'[t / 23].1.1 d'[t / 23].1.2).length = 23 := rowS_len d'[t / 23].2.1 _
      rw [k3, Array.getElem?_toList, hx t ht, get_flatK _ _ _ _ (by have := Nat.mul_le_mul_right 23 hq; omega), getElem!_pos d' (t / 23) hid, List.getElem?_eq_getElem (by rw [hlen]; exact hj)]
      show some ((rowS d'[t / 23].1.1 d'[t / 23].1.2)[t % 23]!) = _
      rw [getElem!_pos (rowS d'[t / 23].1.1 d'[t / 23].1.2) (t % 23) (by rw [hlen]; exact hj)]
    · rw [if_neg ht, List.getElem?_eq_none (by rw [hflen]; omega)]
  · obtain ⟨hid, k1, k2⟩ := hat i (List.getElem?_eq_some_iff.1 hs).1
    rw [k1] at hs
    rw [← Option.some.inj hs]
    exact ⟨_, k2, d'[i].2.2.upd hu⟩
set_option maxRecDepth 100000 in
theorem CompactV_any {w : World} {M : Nat → Prop} {A : Option Addr} {c : Nat} {l : List SignedS} (hT : SgM w M A c l) (hM : ∀ k, OwnB (.slice A l.length c) k → M k) (hs : l.length ≤ 100000000) : Calls Try.prog 22 #[.slice A l.length c, fnV 23] w (CompVPost w M A c l) := by
  rcases Nat.lt_or_ge l.length 2 with h2 | h2
  · have HC := Lib.hid (comp_small h2)
    have HTX := Lib.hid hT
    obtain ⟨n, hn⟩ : ∃ n, l.length = n := ⟨_, rfl⟩
    have HN := Lib.hid hn
    rw [hn] at h2 hs ⊢
    have t0 : decide ((n : Int) < 2) = true := by simp; omega
    have t0' : decide (n < 2) = true := by simp; omega
    unfold fnV
    clear hM hn hT
    go_enter Try.func22, Try.ntmps22
    go_wp2
    go_ret
    unfold CompVPost
    rw [HC.out]
    exact ⟨by rw [HN.out]; rfl, HTX.out, Upd.refl _ _⟩
  obtain ⟨g, cur, d, rfl, hn, hcm, hcs, hds, hdl, hV⟩ := sgm_vs hT (by omega)
  have hMg : M g := hM g (by simp [OwnB, Value.ownBlock])
  refine Calls.mono (show Calls Try.prog 22 #[.slice (some ⟨g, 0, none⟩) l.length c, .func (.func 23) #[] #[]] w _ from compV_walk hV hMg hds rfl hdl h2 (by have := Nat.mul_le_mul_right 23 hn; omega) hn hcm (by omega)) ?_
  rintro e w' ⟨rfl, d', hq, hh, hu, cur', hb', hs', hx'⟩
  have hlen := comp_len l
  exact ⟨rfl, vs_sgm hq hh (hu.mono (fun k _ e => by rw [show k = g from e]; exact hMg)) hb' (by omega) hcm (by rw [hs']; exact hcs) hx', hu.mono (fun k _ e => by rw [show k = g from e]; simp [OwnB, Value.ownBlock])⟩
end

section
open Go.RowKit

theorem row_put {s : SignedS} (hf : s.vote.Fit) (u v : Value) : (rowS s u).toArray.setIfInBounds 22 v = (rowS s v).toArray := by
  have hl : (voteCells s.vote).length = 22 := by have := rowS_len hf u; unfold rowS at this; simp at this; omega
  unfold rowS
  rw [List.setIfInBounds_toArray]
  congr 1
  rw [List.set_append, if_neg (by omega), hl]
  rfl
/-- What cloneVote returns. -/
def CvPost (w : World) (s : SignedS) (e : Ending) (w' : World) : Prop := ∃ A c, e = .returned (.agg (rowS s (.slice A s.sig.length c)).toArray) ∧ OwnU w' (.slice A s.sig.length c) s.sig ∧ OwnN w (.slice A s.sig.length c) ∧ Upd NoF w w'
set_option maxRecDepth 100000 in
set_option maxHeartbeats 4000000 in
theorem cloneVote_any {s : SignedS} {u : Value} (hf : s.vote.Fit) (w : World) (hu : Rd w 1 u s.sig.length (s.sig.map byteV)) (hs : s.sig.length ≤ 140737488355328) : Calls Try.prog 48 #[.agg (rowS s u).toArray] w (CvPost w s) := by
  obtain ⟨A, c, rfl, hlc, hcm⟩ := hu.slice
  have HF := Lib.hid hf
  have HCL := Lib.hid (fun W (h : Upd NoF w W) => clone_any (.slice A s.sig.length c) s.sig W (hu.keep h) hs)
  obtain ⟨ra, hra⟩ : ∃ row, (rowS s (.slice A s.sig.length c)).toArray = row := ⟨_, rfl⟩
  rw [hra]
  have HRA := Lib.hid hra
  have BA := Lib.hid (Blk.new w 38 ra)
  have UA := Lib.hid ((Upd.refl NoF w).alloc (.cells ra 38))
  have sz : (w.alloc (.cells ra 38)).heap.size = w.heap.size + 1 := by simp
  clear hf hu hra hlc hcm hs
  obtain ⟨w1, hw1⟩ : ∃ x, x = w.alloc (.cells ra 38) := ⟨_, rfl⟩
  rw [← hw1] at BA UA sz
  go_enter Try.func48, Try.ntmps48
  go_wp2_with (first
    | (rw [← hw1]; refine wpList_alloc_row rfl 38 rfl zeroRow alloc_signed ?_; intro w2 hb2 hu2 hs2; have B2 := Lib.hid (hu2.blk BA.out (fun f => f)); have R2 := Lib.hid hb2; have U2 := Lib.hid (UA.out.trans hu2 (fun _ _ f => f)); have x0 : w2.cell? ⟨w.heap.size, 22, none⟩ = some (.slice A s.sig.length c) := (by have := range_sig HF.out (range_blk (cs := rowS s (.slice A s.sig.length c)) (by rw [HRA.out]; exact B2.out)); simpa using this); clear hb2 hu2 hs2 hw1))
  refine (HCL.out _ U2.out).mono ?_
  rintro e w3 ⟨A3, c3, rfl, hn3⟩
  have B3 := Lib.hid (hn3.2.2.blk B2.out (fun f => f))
  have R3 := Lib.hid (hn3.2.2.blk R2.out (fun f => f))
  have U3 := Lib.hid (U2.out.trans hn3.2.2 (fun _ _ f => f))
  have N3 := Lib.hid hn3
  have s2 := U2.out.size
  have x1 : w3.frozen? ⟨w.heap.size, 22, none⟩ = false := B3.out.frozen 22
  have x2 : w3.cell? ⟨w.heap.size, 22, none⟩ = some (.slice A s.sig.length c) := by have := range_sig HF.out (range_blk (cs := rowS s (.slice A s.sig.length c)) (by rw [HRA.out]; exact B3.out)); simpa using this
  rw [sz] at R3
  have nA : ¬ OwnB (.slice A3 s.sig.length c3) w.heap.size := hn3.1.blk_ne B3.out (by decide)
  have nR : ¬ OwnB (.slice A3 s.sig.length c3) (w.heap.size + 1) := hn3.1.blk_ne R3.out (by decide)
  have B4 := Lib.hid (show Blk (w3.setCell ⟨w.heap.size, 22, none⟩ (.slice A3 s.sig.length c3)) w.heap.size 38 (rowS s (.slice A3 s.sig.length c3)).toArray from by
    have := B3.out.put 22 (.slice A3 s.sig.length c3)
    rw [← HRA.out, row_put HF.out] at this
    exact this)
  have HUS := (Upd.refl (fun k => k = w.heap.size) w3).setCell (p := ⟨w.heap.size, 22, none⟩) (.inl rfl) (.slice A3 s.sig.length c3)
  have R4 := Lib.hid (HUS.blk R3.out (fun e => by have e : w.heap.size + 1 = w.heap.size := e; omega))
  have O4 := Lib.hid (hn3.1.upd HUS (fun k hk e => nA (by rw [← show k = w.heap.size from e]; exact hk)))
  have U4 := Lib.hid (U3.out.trans HUS (fun k hk e => by have e : k = w.heap.size := e; omega))
  obtain ⟨rb, hrb⟩ : ∃ row, (rowS s (.slice A3 s.sig.length c3)).toArray = row := ⟨_, rfl⟩
  have HRB := Lib.hid hrb
  have RSB := Lib.hid (show zeroRow.size = rb.size ∧ (Try.prog.info? 38).map (·.size) = some rb.size ∧ rb.all (·.oneCell') = true from by
    rw [← hrb]
    exact ⟨by rw [zeroRow_size]; simp [rowS_len HF.out], row_info HF.out _, row_one _ rfl⟩)
  have HO3 := Lib.hid (show OwnN w (.slice A3 s.sig.length c3) from fun k hk => Nat.le_trans s2 (hn3.2.1 k hk))
  rw [hrb] at B4
  clear hn3 hrb
  go_wp2_with (first
    | (refine wpList_load_signed rfl (.tmp 1) rfl w.heap.size 0 rfl s (.slice A3 s.sig.length c3) HF.out (range_blk (cs := rowS s (.slice A3 s.sig.length c3)) (by rw [HRB.out]; exact B4.out)) (.agg rb) (by rw [HRB.out]) ?_)
    | (refine wpList_store_row rfl 38 (.tmp 2) (.tmp 7) rfl (w.heap.size + 1) rfl rb rfl 38 _ R4.out RSB.out.1 RSB.out.2.1 RSB.out.2.2 ?_; intro w5 hb5 hu5 hs5; have B5 := Lib.hid hb5; have U5 := Lib.hid hu5; clear hb5 hu5 hs5))
  refine bodyPost_ret (results_cell_row Try.results48 _ _ (w.heap.size + 1) 38 rb (0, 0) _ rfl B5.out Try.underlying38 rfl (by rw [signed_size, ← HRB.out]; simp [rowS_len HF.out])) rfl ⟨A3, c3, by rw [HRB.out], ?_, HO3.out, ?_⟩
  · exact O4.out.upd U5.out (fun k hk e => nR (by rw [← show k = w.heap.size + 1 from e]; exact hk))
  · exact U4.out.trans U5.out (fun k hk e => by have e : k = w.heap.size + 1 := e; omega)
end
end Go.Proofs.Ytbgificdilpdcaa
