import Derived.Test.YtpgjihkaocahbaaGreatGLaLb0
namespace Go.Lan
open Go.Proofs
def round_sum.k (_ : Prims) (c147 : LExact → Int → LExact) (c147ok : LExact → Int → Bool) (c148 : LExact → Int) (c148ok : LExact → Bool) (c169 : LExact → Int → LExact) (c169ok : LExact → Int → Bool) (c174 : LExact → Bool) (c175 : Int → Int → Int → Int × Int) (c175ok : Int → Int → Int → Bool) (c176 : Int → Int → Int → Int × Int) (c176ok : Int → Int → Int → Bool) (a : LExact) (b : LExact) (k : LExact → R) : R :=
  cond (c174 a)
    (cond (c174 a)
       (k b)
       (cond (c148ok b)
          (let x4 := IntKind.i64.wrap (126 - (c148 b))
           let x5 := c147 b x4
           cond (c147ok b x4)
             (cond (decide (a.e > x5.e))
                (let x7 := IntKind.i64.wrap (a.e - x5.e)
                 let x8 := c147 a x7
                 cond (c147ok a x7)
                   (cond (x5.neg == x8.neg)
                      (let x10 := c175 x5.lo x8.lo 0
                       cond (c175ok x5.lo x8.lo 0)
                         (cond (c175ok x5.hi x8.hi x10.2)
                            (k (⟨x5.neg, (c175 x5.hi x8.hi x10.2).1, x10.1, x5.e, x8.more⟩ : LExact))
                            (none))
                         (none))
                      (cond x8.more
                         (let x12 := c176 x5.lo x8.lo 1
                          cond (c176ok x5.lo x8.lo 1)
                            (let x13 := c176 x5.hi x8.hi x12.2
                             cond (c176ok x5.hi x8.hi x12.2)
                               (cond ((x13.2 : Int) != 0)
                                  (let x16 := c176 0 x12.1 0
                                   cond (c176ok 0 x12.1 0)
                                     (cond (c176ok 0 x13.1 x16.2)
                                        (k (⟨(!x5.neg), (c176 0 x13.1 x16.2).1, x16.1, x5.e, x8.more⟩ : LExact))
                                        (none))
                                     (none))
                                  (k (⟨x5.neg, x13.1, x12.1, x5.e, x8.more⟩ : LExact)))
                               (none))
                            (none))
                         (let x18 := c176 x5.lo x8.lo 0
                          cond (c176ok x5.lo x8.lo 0)
                            (let x19 := c176 x5.hi x8.hi x18.2
                             cond (c176ok x5.hi x8.hi x18.2)
                               (cond ((x19.2 : Int) != 0)
                                  (let x22 := c176 0 x18.1 0
                                   cond (c176ok 0 x18.1 0)
                                     (cond (c176ok 0 x19.1 x22.2)
                                        (k (⟨(!x5.neg), (c176 0 x19.1 x22.2).1, x22.1, x5.e, x8.more⟩ : LExact))
                                        (none))
                                     (none))
                                  (k (⟨x5.neg, x19.1, x18.1, x5.e, x8.more⟩ : LExact)))
                               (none))
                            (none))))
                   (none))
                (let x24 := IntKind.i64.wrap (x5.e - a.e)
                 let x25 := c169 a x24
                 cond (c169ok a x24)
                   (cond (x5.neg == x25.neg)
                      (let x27 := c175 x5.lo x25.lo 0
                       cond (c175ok x5.lo x25.lo 0)
                         (cond (c175ok x5.hi x25.hi x27.2)
                            (k (⟨x5.neg, (c175 x5.hi x25.hi x27.2).1, x27.1, x5.e, x25.more⟩ : LExact))
                            (none))
                         (none))
                      (cond x25.more
                         (let x29 := c176 x5.lo x25.lo 1
                          cond (c176ok x5.lo x25.lo 1)
                            (let x30 := c176 x5.hi x25.hi x29.2
                             cond (c176ok x5.hi x25.hi x29.2)
                               (cond ((x30.2 : Int) != 0)
                                  (let x33 := c176 0 x29.1 0
                                   cond (c176ok 0 x29.1 0)
                                     (cond (c176ok 0 x30.1 x33.2)
                                        (k (⟨(!x5.neg), (c176 0 x30.1 x33.2).1, x33.1, x5.e, x25.more⟩ : LExact))
                                        (none))
                                     (none))
                                  (k (⟨x5.neg, x30.1, x29.1, x5.e, x25.more⟩ : LExact)))
                               (none))
                            (none))
                         (let x35 := c176 x5.lo x25.lo 0
                          cond (c176ok x5.lo x25.lo 0)
                            (let x36 := c176 x5.hi x25.hi x35.2
                             cond (c176ok x5.hi x25.hi x35.2)
                               (cond ((x36.2 : Int) != 0)
                                  (let x39 := c176 0 x35.1 0
                                   cond (c176ok 0 x35.1 0)
                                     (cond (c176ok 0 x36.1 x39.2)
                                        (k (⟨(!x5.neg), (c176 0 x36.1 x39.2).1, x39.1, x5.e, x25.more⟩ : LExact))
                                        (none))
                                     (none))
                                  (k (⟨x5.neg, x36.1, x35.1, x5.e, x25.more⟩ : LExact)))
                               (none))
                            (none))))
                   (none)))
             (none))
          (none)))
    (cond (!(c174 b))
       (cond (c148ok a)
          (cond (c148ok b)
             (cond (decide ((IntKind.i64.wrap (a.e + (c148 a))) < (IntKind.i64.wrap (b.e + (c148 b)))))
                (cond (c174 a)
                   (k b)
                   (cond (c148ok b)
                      (let x50 := IntKind.i64.wrap (126 - (c148 b))
                       let x51 := c147 b x50
                       cond (c147ok b x50)
                         (cond (decide (a.e > x51.e))
                            (let x53 := IntKind.i64.wrap (a.e - x51.e)
                             let x54 := c147 a x53
                             cond (c147ok a x53)
                               (cond (x51.neg == x54.neg)
                                  (let x56 := c175 x51.lo x54.lo 0
                                   cond (c175ok x51.lo x54.lo 0)
                                     (cond (c175ok x51.hi x54.hi x56.2)
                                        (k (⟨x51.neg, (c175 x51.hi x54.hi x56.2).1, x56.1, x51.e, x54.more⟩ : LExact))
                                        (none))
                                     (none))
                                  (cond x54.more
                                     (let x58 := c176 x51.lo x54.lo 1
                                      cond (c176ok x51.lo x54.lo 1)
                                        (let x59 := c176 x51.hi x54.hi x58.2
                                         cond (c176ok x51.hi x54.hi x58.2)
                                           (cond ((x59.2 : Int) != 0)
                                              (let x62 := c176 0 x58.1 0
                                               cond (c176ok 0 x58.1 0)
                                                 (cond (c176ok 0 x59.1 x62.2)
                                                    (k (⟨(!x51.neg), (c176 0 x59.1 x62.2).1, x62.1, x51.e, x54.more⟩ : LExact))
                                                    (none))
                                                 (none))
                                              (k (⟨x51.neg, x59.1, x58.1, x51.e, x54.more⟩ : LExact)))
                                           (none))
                                        (none))
                                     (let x64 := c176 x51.lo x54.lo 0
                                      cond (c176ok x51.lo x54.lo 0)
                                        (let x65 := c176 x51.hi x54.hi x64.2
                                         cond (c176ok x51.hi x54.hi x64.2)
                                           (cond ((x65.2 : Int) != 0)
                                              (let x68 := c176 0 x64.1 0
                                               cond (c176ok 0 x64.1 0)
                                                 (cond (c176ok 0 x65.1 x68.2)
                                                    (k (⟨(!x51.neg), (c176 0 x65.1 x68.2).1, x68.1, x51.e, x54.more⟩ : LExact))
                                                    (none))
                                                 (none))
                                              (k (⟨x51.neg, x65.1, x64.1, x51.e, x54.more⟩ : LExact)))
                                           (none))
                                        (none))))
                               (none))
                            (let x70 := IntKind.i64.wrap (x51.e - a.e)
                             let x71 := c169 a x70
                             cond (c169ok a x70)
                               (cond (x51.neg == x71.neg)
                                  (let x73 := c175 x51.lo x71.lo 0
                                   cond (c175ok x51.lo x71.lo 0)
                                     (cond (c175ok x51.hi x71.hi x73.2)
                                        (k (⟨x51.neg, (c175 x51.hi x71.hi x73.2).1, x73.1, x51.e, x71.more⟩ : LExact))
                                        (none))
                                     (none))
                                  (cond x71.more
                                     (let x75 := c176 x51.lo x71.lo 1
                                      cond (c176ok x51.lo x71.lo 1)
                                        (let x76 := c176 x51.hi x71.hi x75.2
                                         cond (c176ok x51.hi x71.hi x75.2)
                                           (cond ((x76.2 : Int) != 0)
                                              (let x79 := c176 0 x75.1 0
                                               cond (c176ok 0 x75.1 0)
                                                 (cond (c176ok 0 x76.1 x79.2)
                                                    (k (⟨(!x51.neg), (c176 0 x76.1 x79.2).1, x79.1, x51.e, x71.more⟩ : LExact))
                                                    (none))
                                                 (none))
                                              (k (⟨x51.neg, x76.1, x75.1, x51.e, x71.more⟩ : LExact)))
                                           (none))
                                        (none))
                                     (let x81 := c176 x51.lo x71.lo 0
                                      cond (c176ok x51.lo x71.lo 0)
                                        (let x82 := c176 x51.hi x71.hi x81.2
                                         cond (c176ok x51.hi x71.hi x81.2)
                                           (cond ((x82.2 : Int) != 0)
                                              (let x85 := c176 0 x81.1 0
                                               cond (c176ok 0 x81.1 0)
                                                 (cond (c176ok 0 x82.1 x85.2)
                                                    (k (⟨(!x51.neg), (c176 0 x82.1 x85.2).1, x85.1, x51.e, x71.more⟩ : LExact))
                                                    (none))
                                                 (none))
                                              (k (⟨x51.neg, x82.1, x81.1, x51.e, x71.more⟩ : LExact)))
                                           (none))
                                        (none))))
                               (none)))
                         (none))
                      (none)))
                (cond (c174 b)
                   (k a)
                   (cond (c148ok a)
                      (let x89 := IntKind.i64.wrap (126 - (c148 a))
                       let x90 := c147 a x89
                       cond (c147ok a x89)
                         (cond (decide (b.e > x90.e))
                            (let x92 := IntKind.i64.wrap (b.e - x90.e)
                             let x93 := c147 b x92
                             cond (c147ok b x92)
                               (cond (x90.neg == x93.neg)
                                  (let x95 := c175 x90.lo x93.lo 0
                                   cond (c175ok x90.lo x93.lo 0)
                                     (cond (c175ok x90.hi x93.hi x95.2)
                                        (k (⟨x90.neg, (c175 x90.hi x93.hi x95.2).1, x95.1, x90.e, x93.more⟩ : LExact))
                                        (none))
                                     (none))
                                  (cond x93.more
                                     (let x97 := c176 x90.lo x93.lo 1
                                      cond (c176ok x90.lo x93.lo 1)
                                        (let x98 := c176 x90.hi x93.hi x97.2
                                         cond (c176ok x90.hi x93.hi x97.2)
                                           (cond ((x98.2 : Int) != 0)
                                              (let x101 := c176 0 x97.1 0
                                               cond (c176ok 0 x97.1 0)
                                                 (cond (c176ok 0 x98.1 x101.2)
                                                    (k (⟨(!x90.neg), (c176 0 x98.1 x101.2).1, x101.1, x90.e, x93.more⟩ : LExact))
                                                    (none))
                                                 (none))
                                              (k (⟨x90.neg, x98.1, x97.1, x90.e, x93.more⟩ : LExact)))
                                           (none))
                                        (none))
                                     (let x103 := c176 x90.lo x93.lo 0
                                      cond (c176ok x90.lo x93.lo 0)
                                        (let x104 := c176 x90.hi x93.hi x103.2
                                         cond (c176ok x90.hi x93.hi x103.2)
                                           (cond ((x104.2 : Int) != 0)
                                              (let x107 := c176 0 x103.1 0
                                               cond (c176ok 0 x103.1 0)
                                                 (cond (c176ok 0 x104.1 x107.2)
                                                    (k (⟨(!x90.neg), (c176 0 x104.1 x107.2).1, x107.1, x90.e, x93.more⟩ : LExact))
                                                    (none))
                                                 (none))
                                              (k (⟨x90.neg, x104.1, x103.1, x90.e, x93.more⟩ : LExact)))
                                           (none))
                                        (none))))
                               (none))
                            (let x109 := IntKind.i64.wrap (x90.e - b.e)
                             let x110 := c169 b x109
                             cond (c169ok b x109)
                               (cond (x90.neg == x110.neg)
                                  (let x112 := c175 x90.lo x110.lo 0
                                   cond (c175ok x90.lo x110.lo 0)
                                     (cond (c175ok x90.hi x110.hi x112.2)
                                        (k (⟨x90.neg, (c175 x90.hi x110.hi x112.2).1, x112.1, x90.e, x110.more⟩ : LExact))
                                        (none))
                                     (none))
                                  (cond x110.more
                                     (let x114 := c176 x90.lo x110.lo 1
                                      cond (c176ok x90.lo x110.lo 1)
                                        (let x115 := c176 x90.hi x110.hi x114.2
                                         cond (c176ok x90.hi x110.hi x114.2)
                                           (cond ((x115.2 : Int) != 0)
                                              (let x118 := c176 0 x114.1 0
                                               cond (c176ok 0 x114.1 0)
                                                 (cond (c176ok 0 x115.1 x118.2)
                                                    (k (⟨(!x90.neg), (c176 0 x115.1 x118.2).1, x118.1, x90.e, x110.more⟩ : LExact))
                                                    (none))
                                                 (none))
                                              (k (⟨x90.neg, x115.1, x114.1, x90.e, x110.more⟩ : LExact)))
                                           (none))
                                        (none))
                                     (let x120 := c176 x90.lo x110.lo 0
                                      cond (c176ok x90.lo x110.lo 0)
                                        (let x121 := c176 x90.hi x110.hi x120.2
                                         cond (c176ok x90.hi x110.hi x120.2)
                                           (cond ((x121.2 : Int) != 0)
                                              (let x124 := c176 0 x120.1 0
                                               cond (c176ok 0 x120.1 0)
                                                 (cond (c176ok 0 x121.1 x124.2)
                                                    (k (⟨(!x90.neg), (c176 0 x121.1 x124.2).1, x124.1, x90.e, x110.more⟩ : LExact))
                                                    (none))
                                                 (none))
                                              (k (⟨x90.neg, x121.1, x120.1, x90.e, x110.more⟩ : LExact)))
                                           (none))
                                        (none))))
                               (none)))
                         (none))
                      (none))))
             (none))
          (none))
       (cond (c174 b)
          (k a)
          (cond (c148ok a)
             (let x128 := IntKind.i64.wrap (126 - (c148 a))
              let x129 := c147 a x128
              cond (c147ok a x128)
                (cond (decide (b.e > x129.e))
                   (let x131 := IntKind.i64.wrap (b.e - x129.e)
                    let x132 := c147 b x131
                    cond (c147ok b x131)
                      (cond (x129.neg == x132.neg)
                         (let x134 := c175 x129.lo x132.lo 0
                          cond (c175ok x129.lo x132.lo 0)
                            (cond (c175ok x129.hi x132.hi x134.2)
                               (k (⟨x129.neg, (c175 x129.hi x132.hi x134.2).1, x134.1, x129.e, x132.more⟩ : LExact))
                               (none))
                            (none))
                         (cond x132.more
                            (let x136 := c176 x129.lo x132.lo 1
                             cond (c176ok x129.lo x132.lo 1)
                               (let x137 := c176 x129.hi x132.hi x136.2
                                cond (c176ok x129.hi x132.hi x136.2)
                                  (cond ((x137.2 : Int) != 0)
                                     (let x140 := c176 0 x136.1 0
                                      cond (c176ok 0 x136.1 0)
                                        (cond (c176ok 0 x137.1 x140.2)
                                           (k (⟨(!x129.neg), (c176 0 x137.1 x140.2).1, x140.1, x129.e, x132.more⟩ : LExact))
                                           (none))
                                        (none))
                                     (k (⟨x129.neg, x137.1, x136.1, x129.e, x132.more⟩ : LExact)))
                                  (none))
                               (none))
                            (let x142 := c176 x129.lo x132.lo 0
                             cond (c176ok x129.lo x132.lo 0)
                               (let x143 := c176 x129.hi x132.hi x142.2
                                cond (c176ok x129.hi x132.hi x142.2)
                                  (cond ((x143.2 : Int) != 0)
                                     (let x146 := c176 0 x142.1 0
                                      cond (c176ok 0 x142.1 0)
                                        (cond (c176ok 0 x143.1 x146.2)
                                           (k (⟨(!x129.neg), (c176 0 x143.1 x146.2).1, x146.1, x129.e, x132.more⟩ : LExact))
                                           (none))
                                        (none))
                                     (k (⟨x129.neg, x143.1, x142.1, x129.e, x132.more⟩ : LExact)))
                                  (none))
                               (none))))
                      (none))
                   (let x148 := IntKind.i64.wrap (x129.e - b.e)
                    let x149 := c169 b x148
                    cond (c169ok b x148)
                      (cond (x129.neg == x149.neg)
                         (let x151 := c175 x129.lo x149.lo 0
                          cond (c175ok x129.lo x149.lo 0)
                            (cond (c175ok x129.hi x149.hi x151.2)
                               (k (⟨x129.neg, (c175 x129.hi x149.hi x151.2).1, x151.1, x129.e, x149.more⟩ : LExact))
                               (none))
                            (none))
                         (cond x149.more
                            (let x153 := c176 x129.lo x149.lo 1
                             cond (c176ok x129.lo x149.lo 1)
                               (let x154 := c176 x129.hi x149.hi x153.2
                                cond (c176ok x129.hi x149.hi x153.2)
                                  (cond ((x154.2 : Int) != 0)
                                     (let x157 := c176 0 x153.1 0
                                      cond (c176ok 0 x153.1 0)
                                        (cond (c176ok 0 x154.1 x157.2)
                                           (k (⟨(!x129.neg), (c176 0 x154.1 x157.2).1, x157.1, x129.e, x149.more⟩ : LExact))
                                           (none))
                                        (none))
                                     (k (⟨x129.neg, x154.1, x153.1, x129.e, x149.more⟩ : LExact)))
                                  (none))
                               (none))
                            (let x159 := c176 x129.lo x149.lo 0
                             cond (c176ok x129.lo x149.lo 0)
                               (let x160 := c176 x129.hi x149.hi x159.2
                                cond (c176ok x129.hi x149.hi x159.2)
                                  (cond ((x160.2 : Int) != 0)
                                     (let x163 := c176 0 x159.1 0
                                      cond (c176ok 0 x159.1 0)
                                        (cond (c176ok 0 x160.1 x163.2)
                                           (k (⟨(!x129.neg), (c176 0 x160.1 x163.2).1, x163.1, x129.e, x149.more⟩ : LExact))
                                           (none))
                                        (none))
                                     (k (⟨x129.neg, x160.1, x159.1, x129.e, x149.more⟩ : LExact)))
                                  (none))
                               (none))))
                      (none)))
                (none))
             (none))))
def round_sum (M : Prims) (a : LExact) (b : LExact) : LExact :=
  cond (round_exact_zero M a)
    (cond (round_exact_zero M a)
       (b)
       (let x5 := round_exact_left M b (IntKind.i64.wrap (126 - (round_exact_length M b)))
        cond (decide (a.e > x5.e))
          (let x8 := round_exact_left M a (IntKind.i64.wrap (a.e - x5.e))
           cond (x5.neg == x8.neg)
             (let x10 := add64 x5.lo x8.lo 0
              (⟨x5.neg, (add64 x5.hi x8.hi x10.2).1, x10.1, x5.e, x8.more⟩ : LExact))
             (cond x8.more
                (let x12 := sub64 x5.lo x8.lo 1
                 let x13 := sub64 x5.hi x8.hi x12.2
                 cond ((x13.2 : Int) != 0)
                   (let x16 := sub64 0 x12.1 0
                    (⟨(!x5.neg), (sub64 0 x13.1 x16.2).1, x16.1, x5.e, x8.more⟩ : LExact))
                   ((⟨x5.neg, x13.1, x12.1, x5.e, x8.more⟩ : LExact)))
                (let x18 := sub64 x5.lo x8.lo 0
                 let x19 := sub64 x5.hi x8.hi x18.2
                 cond ((x19.2 : Int) != 0)
                   (let x22 := sub64 0 x18.1 0
                    (⟨(!x5.neg), (sub64 0 x19.1 x22.2).1, x22.1, x5.e, x8.more⟩ : LExact))
                   ((⟨x5.neg, x19.1, x18.1, x5.e, x8.more⟩ : LExact)))))
          (let x25 := round_exact_right M a (IntKind.i64.wrap (x5.e - a.e))
           cond (x5.neg == x25.neg)
             (let x27 := add64 x5.lo x25.lo 0
              (⟨x5.neg, (add64 x5.hi x25.hi x27.2).1, x27.1, x5.e, x25.more⟩ : LExact))
             (cond x25.more
                (let x29 := sub64 x5.lo x25.lo 1
                 let x30 := sub64 x5.hi x25.hi x29.2
                 cond ((x30.2 : Int) != 0)
                   (let x33 := sub64 0 x29.1 0
                    (⟨(!x5.neg), (sub64 0 x30.1 x33.2).1, x33.1, x5.e, x25.more⟩ : LExact))
                   ((⟨x5.neg, x30.1, x29.1, x5.e, x25.more⟩ : LExact)))
                (let x35 := sub64 x5.lo x25.lo 0
                 let x36 := sub64 x5.hi x25.hi x35.2
                 cond ((x36.2 : Int) != 0)
                   (let x39 := sub64 0 x35.1 0
                    (⟨(!x5.neg), (sub64 0 x36.1 x39.2).1, x39.1, x5.e, x25.more⟩ : LExact))
                   ((⟨x5.neg, x36.1, x35.1, x5.e, x25.more⟩ : LExact)))))))
    (cond (!(round_exact_zero M b))
       (cond (decide ((IntKind.i64.wrap (a.e + (round_exact_length M a))) < (IntKind.i64.wrap (b.e + (round_exact_length M b)))))
          (cond (round_exact_zero M a)
             (b)
             (let x51 := round_exact_left M b (IntKind.i64.wrap (126 - (round_exact_length M b)))
              cond (decide (a.e > x51.e))
                (let x54 := round_exact_left M a (IntKind.i64.wrap (a.e - x51.e))
                 cond (x51.neg == x54.neg)
                   (let x56 := add64 x51.lo x54.lo 0
                    (⟨x51.neg, (add64 x51.hi x54.hi x56.2).1, x56.1, x51.e, x54.more⟩ : LExact))
                   (cond x54.more
                      (let x58 := sub64 x51.lo x54.lo 1
                       let x59 := sub64 x51.hi x54.hi x58.2
                       cond ((x59.2 : Int) != 0)
                         (let x62 := sub64 0 x58.1 0
                          (⟨(!x51.neg), (sub64 0 x59.1 x62.2).1, x62.1, x51.e, x54.more⟩ : LExact))
                         ((⟨x51.neg, x59.1, x58.1, x51.e, x54.more⟩ : LExact)))
                      (let x64 := sub64 x51.lo x54.lo 0
                       let x65 := sub64 x51.hi x54.hi x64.2
                       cond ((x65.2 : Int) != 0)
                         (let x68 := sub64 0 x64.1 0
                          (⟨(!x51.neg), (sub64 0 x65.1 x68.2).1, x68.1, x51.e, x54.more⟩ : LExact))
                         ((⟨x51.neg, x65.1, x64.1, x51.e, x54.more⟩ : LExact)))))
                (let x71 := round_exact_right M a (IntKind.i64.wrap (x51.e - a.e))
                 cond (x51.neg == x71.neg)
                   (let x73 := add64 x51.lo x71.lo 0
                    (⟨x51.neg, (add64 x51.hi x71.hi x73.2).1, x73.1, x51.e, x71.more⟩ : LExact))
                   (cond x71.more
                      (let x75 := sub64 x51.lo x71.lo 1
                       let x76 := sub64 x51.hi x71.hi x75.2
                       cond ((x76.2 : Int) != 0)
                         (let x79 := sub64 0 x75.1 0
                          (⟨(!x51.neg), (sub64 0 x76.1 x79.2).1, x79.1, x51.e, x71.more⟩ : LExact))
                         ((⟨x51.neg, x76.1, x75.1, x51.e, x71.more⟩ : LExact)))
                      (let x81 := sub64 x51.lo x71.lo 0
                       let x82 := sub64 x51.hi x71.hi x81.2
                       cond ((x82.2 : Int) != 0)
                         (let x85 := sub64 0 x81.1 0
                          (⟨(!x51.neg), (sub64 0 x82.1 x85.2).1, x85.1, x51.e, x71.more⟩ : LExact))
                         ((⟨x51.neg, x82.1, x81.1, x51.e, x71.more⟩ : LExact)))))))
          (cond (round_exact_zero M b)
             (a)
             (let x90 := round_exact_left M a (IntKind.i64.wrap (126 - (round_exact_length M a)))
              cond (decide (b.e > x90.e))
                (let x93 := round_exact_left M b (IntKind.i64.wrap (b.e - x90.e))
                 cond (x90.neg == x93.neg)
                   (let x95 := add64 x90.lo x93.lo 0
                    (⟨x90.neg, (add64 x90.hi x93.hi x95.2).1, x95.1, x90.e, x93.more⟩ : LExact))
                   (cond x93.more
                      (let x97 := sub64 x90.lo x93.lo 1
                       let x98 := sub64 x90.hi x93.hi x97.2
                       cond ((x98.2 : Int) != 0)
                         (let x101 := sub64 0 x97.1 0
                          (⟨(!x90.neg), (sub64 0 x98.1 x101.2).1, x101.1, x90.e, x93.more⟩ : LExact))
                         ((⟨x90.neg, x98.1, x97.1, x90.e, x93.more⟩ : LExact)))
                      (let x103 := sub64 x90.lo x93.lo 0
                       let x104 := sub64 x90.hi x93.hi x103.2
                       cond ((x104.2 : Int) != 0)
                         (let x107 := sub64 0 x103.1 0
                          (⟨(!x90.neg), (sub64 0 x104.1 x107.2).1, x107.1, x90.e, x93.more⟩ : LExact))
                         ((⟨x90.neg, x104.1, x103.1, x90.e, x93.more⟩ : LExact)))))
                (let x110 := round_exact_right M b (IntKind.i64.wrap (x90.e - b.e))
                 cond (x90.neg == x110.neg)
                   (let x112 := add64 x90.lo x110.lo 0
                    (⟨x90.neg, (add64 x90.hi x110.hi x112.2).1, x112.1, x90.e, x110.more⟩ : LExact))
                   (cond x110.more
                      (let x114 := sub64 x90.lo x110.lo 1
                       let x115 := sub64 x90.hi x110.hi x114.2
                       cond ((x115.2 : Int) != 0)
                         (let x118 := sub64 0 x114.1 0
                          (⟨(!x90.neg), (sub64 0 x115.1 x118.2).1, x118.1, x90.e, x110.more⟩ : LExact))
                         ((⟨x90.neg, x115.1, x114.1, x90.e, x110.more⟩ : LExact)))
                      (let x120 := sub64 x90.lo x110.lo 0
                       let x121 := sub64 x90.hi x110.hi x120.2
                       cond ((x121.2 : Int) != 0)
                         (let x124 := sub64 0 x120.1 0
                          (⟨(!x90.neg), (sub64 0 x121.1 x124.2).1, x124.1, x90.e, x110.more⟩ : LExact))
                         ((⟨x90.neg, x121.1, x120.1, x90.e, x110.more⟩ : LExact))))))))
       (cond (round_exact_zero M b)
          (a)
          (let x129 := round_exact_left M a (IntKind.i64.wrap (126 - (round_exact_length M a)))
           cond (decide (b.e > x129.e))
             (let x132 := round_exact_left M b (IntKind.i64.wrap (b.e - x129.e))
              cond (x129.neg == x132.neg)
                (let x134 := add64 x129.lo x132.lo 0
                 (⟨x129.neg, (add64 x129.hi x132.hi x134.2).1, x134.1, x129.e, x132.more⟩ : LExact))
                (cond x132.more
                   (let x136 := sub64 x129.lo x132.lo 1
                    let x137 := sub64 x129.hi x132.hi x136.2
                    cond ((x137.2 : Int) != 0)
                      (let x140 := sub64 0 x136.1 0
                       (⟨(!x129.neg), (sub64 0 x137.1 x140.2).1, x140.1, x129.e, x132.more⟩ : LExact))
                      ((⟨x129.neg, x137.1, x136.1, x129.e, x132.more⟩ : LExact)))
                   (let x142 := sub64 x129.lo x132.lo 0
                    let x143 := sub64 x129.hi x132.hi x142.2
                    cond ((x143.2 : Int) != 0)
                      (let x146 := sub64 0 x142.1 0
                       (⟨(!x129.neg), (sub64 0 x143.1 x146.2).1, x146.1, x129.e, x132.more⟩ : LExact))
                      ((⟨x129.neg, x143.1, x142.1, x129.e, x132.more⟩ : LExact)))))
             (let x149 := round_exact_right M b (IntKind.i64.wrap (x129.e - b.e))
              cond (x129.neg == x149.neg)
                (let x151 := add64 x129.lo x149.lo 0
                 (⟨x129.neg, (add64 x129.hi x149.hi x151.2).1, x151.1, x129.e, x149.more⟩ : LExact))
                (cond x149.more
                   (let x153 := sub64 x129.lo x149.lo 1
                    let x154 := sub64 x129.hi x149.hi x153.2
                    cond ((x154.2 : Int) != 0)
                      (let x157 := sub64 0 x153.1 0
                       (⟨(!x129.neg), (sub64 0 x154.1 x157.2).1, x157.1, x129.e, x149.more⟩ : LExact))
                      ((⟨x129.neg, x154.1, x153.1, x129.e, x149.more⟩ : LExact)))
                   (let x159 := sub64 x129.lo x149.lo 0
                    let x160 := sub64 x129.hi x149.hi x159.2
                    cond ((x160.2 : Int) != 0)
                      (let x163 := sub64 0 x159.1 0
                       (⟨(!x129.neg), (sub64 0 x160.1 x163.2).1, x163.1, x129.e, x149.more⟩ : LExact))
                      ((⟨x129.neg, x160.1, x159.1, x129.e, x149.more⟩ : LExact))))))))
def round_sum.ok (M : Prims) (a : LExact) (b : LExact) : Bool :=
  cond (round_exact_zero M a)
    (cond (round_exact_zero M a)
       (true)
       (cond (round_exact_length.ok M b)
          (let x4 := IntKind.i64.wrap (126 - (round_exact_length M b))
           let x5 := round_exact_left M b x4
           cond (round_exact_left.ok M b x4)
             (cond (decide (a.e > x5.e))
                (let x7 := IntKind.i64.wrap (a.e - x5.e)
                 let x8 := round_exact_left M a x7
                 cond (round_exact_left.ok M a x7)
                   (cond (x5.neg == x8.neg)
                      (cond (add64.ok x5.lo x8.lo 0)
                         (cond (add64.ok x5.hi x8.hi (add64 x5.lo x8.lo 0).2)
                            (true)
                            (false))
                         (false))
                      (cond x8.more
                         (let x12 := sub64 x5.lo x8.lo 1
                          cond (sub64.ok x5.lo x8.lo 1)
                            (let x13 := sub64 x5.hi x8.hi x12.2
                             cond (sub64.ok x5.hi x8.hi x12.2)
                               (cond ((x13.2 : Int) != 0)
                                  (cond (sub64.ok 0 x12.1 0)
                                     (cond (sub64.ok 0 x13.1 (sub64 0 x12.1 0).2)
                                        (true)
                                        (false))
                                     (false))
                                  (true))
                               (false))
                            (false))
                         (let x18 := sub64 x5.lo x8.lo 0
                          cond (sub64.ok x5.lo x8.lo 0)
                            (let x19 := sub64 x5.hi x8.hi x18.2
                             cond (sub64.ok x5.hi x8.hi x18.2)
                               (cond ((x19.2 : Int) != 0)
                                  (cond (sub64.ok 0 x18.1 0)
                                     (cond (sub64.ok 0 x19.1 (sub64 0 x18.1 0).2)
                                        (true)
                                        (false))
                                     (false))
                                  (true))
                               (false))
                            (false))))
                   (false))
                (let x24 := IntKind.i64.wrap (x5.e - a.e)
                 let x25 := round_exact_right M a x24
                 cond (round_exact_right.ok M a x24)
                   (cond (x5.neg == x25.neg)
                      (cond (add64.ok x5.lo x25.lo 0)
                         (cond (add64.ok x5.hi x25.hi (add64 x5.lo x25.lo 0).2)
                            (true)
                            (false))
                         (false))
                      (cond x25.more
                         (let x29 := sub64 x5.lo x25.lo 1
                          cond (sub64.ok x5.lo x25.lo 1)
                            (let x30 := sub64 x5.hi x25.hi x29.2
                             cond (sub64.ok x5.hi x25.hi x29.2)
                               (cond ((x30.2 : Int) != 0)
                                  (cond (sub64.ok 0 x29.1 0)
                                     (cond (sub64.ok 0 x30.1 (sub64 0 x29.1 0).2)
                                        (true)
                                        (false))
                                     (false))
                                  (true))
                               (false))
                            (false))
                         (let x35 := sub64 x5.lo x25.lo 0
                          cond (sub64.ok x5.lo x25.lo 0)
                            (let x36 := sub64 x5.hi x25.hi x35.2
                             cond (sub64.ok x5.hi x25.hi x35.2)
                               (cond ((x36.2 : Int) != 0)
                                  (cond (sub64.ok 0 x35.1 0)
                                     (cond (sub64.ok 0 x36.1 (sub64 0 x35.1 0).2)
                                        (true)
                                        (false))
                                     (false))
                                  (true))
                               (false))
                            (false))))
                   (false)))
             (false))
          (false)))
    (cond (!(round_exact_zero M b))
       (cond (round_exact_length.ok M a)
          (cond (round_exact_length.ok M b)
             (cond (decide ((IntKind.i64.wrap (a.e + (round_exact_length M a))) < (IntKind.i64.wrap (b.e + (round_exact_length M b)))))
                (cond (round_exact_zero M a)
                   (true)
                   (cond (round_exact_length.ok M b)
                      (let x50 := IntKind.i64.wrap (126 - (round_exact_length M b))
                       let x51 := round_exact_left M b x50
                       cond (round_exact_left.ok M b x50)
                         (cond (decide (a.e > x51.e))
                            (let x53 := IntKind.i64.wrap (a.e - x51.e)
                             let x54 := round_exact_left M a x53
                             cond (round_exact_left.ok M a x53)
                               (cond (x51.neg == x54.neg)
                                  (cond (add64.ok x51.lo x54.lo 0)
                                     (cond (add64.ok x51.hi x54.hi (add64 x51.lo x54.lo 0).2)
                                        (true)
                                        (false))
                                     (false))
                                  (cond x54.more
                                     (let x58 := sub64 x51.lo x54.lo 1
                                      cond (sub64.ok x51.lo x54.lo 1)
                                        (let x59 := sub64 x51.hi x54.hi x58.2
                                         cond (sub64.ok x51.hi x54.hi x58.2)
                                           (cond ((x59.2 : Int) != 0)
                                              (cond (sub64.ok 0 x58.1 0)
                                                 (cond (sub64.ok 0 x59.1 (sub64 0 x58.1 0).2)
                                                    (true)
                                                    (false))
                                                 (false))
                                              (true))
                                           (false))
                                        (false))
                                     (let x64 := sub64 x51.lo x54.lo 0
                                      cond (sub64.ok x51.lo x54.lo 0)
                                        (let x65 := sub64 x51.hi x54.hi x64.2
                                         cond (sub64.ok x51.hi x54.hi x64.2)
                                           (cond ((x65.2 : Int) != 0)
                                              (cond (sub64.ok 0 x64.1 0)
                                                 (cond (sub64.ok 0 x65.1 (sub64 0 x64.1 0).2)
                                                    (true)
                                                    (false))
                                                 (false))
                                              (true))
                                           (false))
                                        (false))))
                               (false))
                            (let x70 := IntKind.i64.wrap (x51.e - a.e)
                             let x71 := round_exact_right M a x70
                             cond (round_exact_right.ok M a x70)
                               (cond (x51.neg == x71.neg)
                                  (cond (add64.ok x51.lo x71.lo 0)
                                     (cond (add64.ok x51.hi x71.hi (add64 x51.lo x71.lo 0).2)
                                        (true)
                                        (false))
                                     (false))
                                  (cond x71.more
                                     (let x75 := sub64 x51.lo x71.lo 1
                                      cond (sub64.ok x51.lo x71.lo 1)
                                        (let x76 := sub64 x51.hi x71.hi x75.2
                                         cond (sub64.ok x51.hi x71.hi x75.2)
                                           (cond ((x76.2 : Int) != 0)
                                              (cond (sub64.ok 0 x75.1 0)
                                                 (cond (sub64.ok 0 x76.1 (sub64 0 x75.1 0).2)
                                                    (true)
                                                    (false))
                                                 (false))
                                              (true))
                                           (false))
                                        (false))
                                     (let x81 := sub64 x51.lo x71.lo 0
                                      cond (sub64.ok x51.lo x71.lo 0)
                                        (let x82 := sub64 x51.hi x71.hi x81.2
                                         cond (sub64.ok x51.hi x71.hi x81.2)
                                           (cond ((x82.2 : Int) != 0)
                                              (cond (sub64.ok 0 x81.1 0)
                                                 (cond (sub64.ok 0 x82.1 (sub64 0 x81.1 0).2)
                                                    (true)
                                                    (false))
                                                 (false))
                                              (true))
                                           (false))
                                        (false))))
                               (false)))
                         (false))
                      (false)))
                (cond (round_exact_zero M b)
                   (true)
                   (cond (round_exact_length.ok M a)
                      (let x89 := IntKind.i64.wrap (126 - (round_exact_length M a))
                       let x90 := round_exact_left M a x89
                       cond (round_exact_left.ok M a x89)
                         (cond (decide (b.e > x90.e))
                            (let x92 := IntKind.i64.wrap (b.e - x90.e)
                             let x93 := round_exact_left M b x92
                             cond (round_exact_left.ok M b x92)
                               (cond (x90.neg == x93.neg)
                                  (cond (add64.ok x90.lo x93.lo 0)
                                     (cond (add64.ok x90.hi x93.hi (add64 x90.lo x93.lo 0).2)
                                        (true)
                                        (false))
                                     (false))
                                  (cond x93.more
                                     (let x97 := sub64 x90.lo x93.lo 1
                                      cond (sub64.ok x90.lo x93.lo 1)
                                        (let x98 := sub64 x90.hi x93.hi x97.2
                                         cond (sub64.ok x90.hi x93.hi x97.2)
                                           (cond ((x98.2 : Int) != 0)
                                              (cond (sub64.ok 0 x97.1 0)
                                                 (cond (sub64.ok 0 x98.1 (sub64 0 x97.1 0).2)
                                                    (true)
                                                    (false))
                                                 (false))
                                              (true))
                                           (false))
                                        (false))
                                     (let x103 := sub64 x90.lo x93.lo 0
                                      cond (sub64.ok x90.lo x93.lo 0)
                                        (let x104 := sub64 x90.hi x93.hi x103.2
                                         cond (sub64.ok x90.hi x93.hi x103.2)
                                           (cond ((x104.2 : Int) != 0)
                                              (cond (sub64.ok 0 x103.1 0)
                                                 (cond (sub64.ok 0 x104.1 (sub64 0 x103.1 0).2)
                                                    (true)
                                                    (false))
                                                 (false))
                                              (true))
                                           (false))
                                        (false))))
                               (false))
                            (let x109 := IntKind.i64.wrap (x90.e - b.e)
                             let x110 := round_exact_right M b x109
                             cond (round_exact_right.ok M b x109)
                               (cond (x90.neg == x110.neg)
                                  (cond (add64.ok x90.lo x110.lo 0)
                                     (cond (add64.ok x90.hi x110.hi (add64 x90.lo x110.lo 0).2)
                                        (true)
                                        (false))
                                     (false))
                                  (cond x110.more
                                     (let x114 := sub64 x90.lo x110.lo 1
                                      cond (sub64.ok x90.lo x110.lo 1)
                                        (let x115 := sub64 x90.hi x110.hi x114.2
                                         cond (sub64.ok x90.hi x110.hi x114.2)
                                           (cond ((x115.2 : Int) != 0)
                                              (cond (sub64.ok 0 x114.1 0)
                                                 (cond (sub64.ok 0 x115.1 (sub64 0 x114.1 0).2)
                                                    (true)
                                                    (false))
                                                 (false))
                                              (true))
                                           (false))
                                        (false))
                                     (let x120 := sub64 x90.lo x110.lo 0
                                      cond (sub64.ok x90.lo x110.lo 0)
                                        (let x121 := sub64 x90.hi x110.hi x120.2
                                         cond (sub64.ok x90.hi x110.hi x120.2)
                                           (cond ((x121.2 : Int) != 0)
                                              (cond (sub64.ok 0 x120.1 0)
                                                 (cond (sub64.ok 0 x121.1 (sub64 0 x120.1 0).2)
                                                    (true)
                                                    (false))
                                                 (false))
                                              (true))
                                           (false))
                                        (false))))
                               (false)))
                         (false))
                      (false))))
             (false))
          (false))
       (cond (round_exact_zero M b)
          (true)
          (cond (round_exact_length.ok M a)
             (let x128 := IntKind.i64.wrap (126 - (round_exact_length M a))
              let x129 := round_exact_left M a x128
              cond (round_exact_left.ok M a x128)
                (cond (decide (b.e > x129.e))
                   (let x131 := IntKind.i64.wrap (b.e - x129.e)
                    let x132 := round_exact_left M b x131
                    cond (round_exact_left.ok M b x131)
                      (cond (x129.neg == x132.neg)
                         (cond (add64.ok x129.lo x132.lo 0)
                            (cond (add64.ok x129.hi x132.hi (add64 x129.lo x132.lo 0).2)
                               (true)
                               (false))
                            (false))
                         (cond x132.more
                            (let x136 := sub64 x129.lo x132.lo 1
                             cond (sub64.ok x129.lo x132.lo 1)
                               (let x137 := sub64 x129.hi x132.hi x136.2
                                cond (sub64.ok x129.hi x132.hi x136.2)
                                  (cond ((x137.2 : Int) != 0)
                                     (cond (sub64.ok 0 x136.1 0)
                                        (cond (sub64.ok 0 x137.1 (sub64 0 x136.1 0).2)
                                           (true)
                                           (false))
                                        (false))
                                     (true))
                                  (false))
                               (false))
                            (let x142 := sub64 x129.lo x132.lo 0
                             cond (sub64.ok x129.lo x132.lo 0)
                               (let x143 := sub64 x129.hi x132.hi x142.2
                                cond (sub64.ok x129.hi x132.hi x142.2)
                                  (cond ((x143.2 : Int) != 0)
                                     (cond (sub64.ok 0 x142.1 0)
                                        (cond (sub64.ok 0 x143.1 (sub64 0 x142.1 0).2)
                                           (true)
                                           (false))
                                        (false))
                                     (true))
                                  (false))
                               (false))))
                      (false))
                   (let x148 := IntKind.i64.wrap (x129.e - b.e)
                    let x149 := round_exact_right M b x148
                    cond (round_exact_right.ok M b x148)
                      (cond (x129.neg == x149.neg)
                         (cond (add64.ok x129.lo x149.lo 0)
                            (cond (add64.ok x129.hi x149.hi (add64 x129.lo x149.lo 0).2)
                               (true)
                               (false))
                            (false))
                         (cond x149.more
                            (let x153 := sub64 x129.lo x149.lo 1
                             cond (sub64.ok x129.lo x149.lo 1)
                               (let x154 := sub64 x129.hi x149.hi x153.2
                                cond (sub64.ok x129.hi x149.hi x153.2)
                                  (cond ((x154.2 : Int) != 0)
                                     (cond (sub64.ok 0 x153.1 0)
                                        (cond (sub64.ok 0 x154.1 (sub64 0 x153.1 0).2)
                                           (true)
                                           (false))
                                        (false))
                                     (true))
                                  (false))
                               (false))
                            (let x159 := sub64 x129.lo x149.lo 0
                             cond (sub64.ok x129.lo x149.lo 0)
                               (let x160 := sub64 x129.hi x149.hi x159.2
                                cond (sub64.ok x129.hi x149.hi x159.2)
                                  (cond ((x160.2 : Int) != 0)
                                     (cond (sub64.ok 0 x159.1 0)
                                        (cond (sub64.ok 0 x160.1 (sub64 0 x159.1 0).2)
                                           (true)
                                           (false))
                                        (false))
                                     (true))
                                  (false))
                               (false))))
                      (false)))
                (false))
             (false))))
def round_sum.fns (c147 : LExact → Int → LExact) (c147ok : LExact → Int → Bool) (c148 : LExact → Int) (c148ok : LExact → Bool) (c169 : LExact → Int → LExact) (c169ok : LExact → Int → Bool) (c174 : LExact → Bool) (c175 : Int → Int → Int → Int × Int) (c175ok : Int → Int → Int → Bool) (c176 : Int → Int → Int → Int × Int) (c176ok : Int → Int → Int → Bool) : FuncId → List Value → Option (Bool × Value) := ifId 147 (round_exact_left.ph c147 c147ok) <| ifId 148 (round_exact_length.ph c148 c148ok) <| ifId 169 (round_exact_right.ph c169 c169ok) <| ifId 174 (round_exact_zero.ph c174) <| ifId 175 (add64.ph c175 c175ok) <| ifId 176 (sub64.ph c176 c176ok) <| noFns
theorem round_sum.fnsOK : PureFns Tryz.prog (round_sum.fns (round_exact_left M0) (round_exact_left.ok M0) (round_exact_length M0) (round_exact_length.ok M0) (round_exact_right M0) (round_exact_right.ok M0) (round_exact_zero M0) add64 add64.ok sub64 sub64.ok) := ifIdOK round_exact_left.phOK <| ifIdOK round_exact_length.phOK <| ifIdOK round_exact_right.phOK <| ifIdOK round_exact_zero.phOK <| ifIdOK add64.phOK <| ifIdOK sub64.phOK <| noFnsOK
theorem round_sum.ev (M : Prims) (c147 : LExact → Int → LExact) (c147ok : LExact → Int → Bool) (c148 : LExact → Int) (c148ok : LExact → Bool) (c169 : LExact → Int → LExact) (c169ok : LExact → Int → Bool) (c174 : LExact → Bool) (c175 : Int → Int → Int → Int × Int) (c175ok : Int → Int → Int → Bool) (c176 : Int → Int → Int → Int × Int) (c176ok : Int → Int → Int → Bool)  (a : LExact) (b : LExact) : evP tab M (round_sum.fns c147 c147ok c148 c148ok c169 c169ok c174 c175 c175ok c176 c176ok) noLoops 300 Tryz.f153 [a.val, b.val] = round_sum.k M c147 c147ok c148 c148ok c169 c169ok c174 c175 c175ok c176 c176ok  a b (fun r => some (r.val, [])) := by kernel_rfl
theorem round_sum.k_eq (M : Prims) (a : LExact) (b : LExact) (k : LExact → R) : round_sum.ok M a b = true → round_sum.k M (round_exact_left M) (round_exact_left.ok M) (round_exact_length M) (round_exact_length.ok M) (round_exact_right M) (round_exact_right.ok M) (round_exact_zero M) add64 add64.ok sub64 sub64.ok a b k = k (round_sum M a b) := by
  unfold round_sum.ok round_sum.k round_sum
  exact kC (kC (fun _ => rfl) (kL (kL (kC (kL (kC (kL (kL (fun _ => rfl))) (kC (kL (kL (kC (kL (kL (fun _ => rfl))) (fun _ => rfl)))) (kL (kL (kC (kL (kL (fun _ => rfl))) (fun _ => rfl))))))) (kL (kC (kL (kL (fun _ => rfl))) (kC (kL (kL (kC (kL (kL (fun _ => rfl))) (fun _ => rfl)))) (kL (kL (kC (kL (kL (fun _ => rfl))) (fun _ => rfl))))))))))) (kC (kL (kL (kC (kC (fun _ => rfl) (kL (kL (kC (kL (kC (kL (kL (fun _ => rfl))) (kC (kL (kL (kC (kL (kL (fun _ => rfl))) (fun _ => rfl)))) (kL (kL (kC (kL (kL (fun _ => rfl))) (fun _ => rfl))))))) (kL (kC (kL (kL (fun _ => rfl))) (kC (kL (kL (kC (kL (kL (fun _ => rfl))) (fun _ => rfl)))) (kL (kL (kC (kL (kL (fun _ => rfl))) (fun _ => rfl))))))))))) (kC (fun _ => rfl) (kL (kL (kC (kL (kC (kL (kL (fun _ => rfl))) (kC (kL (kL (kC (kL (kL (fun _ => rfl))) (fun _ => rfl)))) (kL (kL (kC (kL (kL (fun _ => rfl))) (fun _ => rfl))))))) (kL (kC (kL (kL (fun _ => rfl))) (kC (kL (kL (kC (kL (kL (fun _ => rfl))) (fun _ => rfl)))) (kL (kL (kC (kL (kL (fun _ => rfl))) (fun _ => rfl)))))))))))))) (kC (fun _ => rfl) (kL (kL (kC (kL (kC (kL (kL (fun _ => rfl))) (kC (kL (kL (kC (kL (kL (fun _ => rfl))) (fun _ => rfl)))) (kL (kL (kC (kL (kL (fun _ => rfl))) (fun _ => rfl))))))) (kL (kC (kL (kL (fun _ => rfl))) (kC (kL (kL (kC (kL (kL (fun _ => rfl))) (fun _ => rfl)))) (kL (kL (kC (kL (kL (fun _ => rfl))) (fun _ => rfl))))))))))))
theorem round_sum.call (a : LExact) (b : LExact) (h : round_sum.ok M0 a b = true) : PureOK Tryz.prog 153 [a.val, b.val] ((round_sum M0 a b).val) :=
  evP_sound (P := Tryz.prog) mixed tabOK round_sum.fnsOK Tryz.func153 rfl (Λ := noLoops) (c := Tryz.f153.body.getD .skip) rfl (noLoopsOK _) rfl (Nat.zero_le 1) rfl rfl ((round_sum.ev M0 (round_exact_left M0) (round_exact_left.ok M0) (round_exact_length M0) (round_exact_length.ok M0) (round_exact_right M0) (round_exact_right.ok M0) (round_exact_zero M0) add64 add64.ok sub64 sub64.ok a b).trans (round_sum.k_eq M0 a b _ h))
def round_sum.ph (c153 : LExact → LExact → LExact) (c153ok : LExact → LExact → Bool) : Ph := fun args => match args with
  | [.agg ⟨[.bool a0_0, .int .u64 a0_1, .int .u64 a0_2, .int .i64 a0_3, .bool a0_4]⟩, .agg ⟨[.bool a1_0, .int .u64 a1_1, .int .u64 a1_2, .int .i64 a1_3, .bool a1_4]⟩] => some (c153ok (⟨a0_0, a0_1, a0_2, a0_3, a0_4⟩ : LExact) (⟨a1_0, a1_1, a1_2, a1_3, a1_4⟩ : LExact), (c153 (⟨a0_0, a0_1, a0_2, a0_3, a0_4⟩ : LExact) (⟨a1_0, a1_1, a1_2, a1_3, a1_4⟩ : LExact)).val)
  | _ => none
theorem round_sum.phOK : PhOK Tryz.prog 153 (round_sum.ph (round_sum M0) (round_sum.ok M0)) := ⟨by
  intro args v h
  unfold round_sum.ph at h
  split at h
  · rename_i a0_0 a0_1 a0_2 a0_3 a0_4 a1_0 a1_1 a1_2 a1_3 a1_4
    simp only [Option.some.injEq, Prod.mk.injEq] at h
    obtain ⟨hok, rfl⟩ := h
    exact ⟨rfl, rfl, round_sum.call (⟨a0_0, a0_1, a0_2, a0_3, a0_4⟩ : LExact) (⟨a1_0, a1_1, a1_2, a1_3, a1_4⟩ : LExact) hok⟩
  · cases h⟩
def math_normalize.k (M : Prims) (c168 : Nat → Nat) (c168ok : Nat → Bool) (x : Nat) (k : Nat × Int → R) : R :=
  cond (c168ok x)
    (cond (M.lt (c168 x) 4503599627370496)
       (k ((M.mul x 4841369599423283200), (-52)))
       (k (x, 0)))
    (none)
def math_normalize (M : Prims) (x : Nat) : Nat × Int :=
  cond (M.lt (math_Abs M x) 4503599627370496)
    (((M.mul x 4841369599423283200), (-52)))
    ((x, 0))
def math_normalize.ok (M : Prims) (x : Nat) : Bool :=
  cond (math_Abs.ok M x)
    (true)
    (false)
def math_normalize.fns (c168 : Nat → Nat) (c168ok : Nat → Bool) : FuncId → List Value → Option (Bool × Value) := ifId 168 (math_Abs.ph c168 c168ok) <| noFns
theorem math_normalize.fnsOK : PureFns Tryz.prog (math_normalize.fns (math_Abs M0) (math_Abs.ok M0)) := ifIdOK math_Abs.phOK <| noFnsOK
theorem math_normalize.ev (M : Prims) (c168 : Nat → Nat) (c168ok : Nat → Bool)  (x : Nat) : evP tab M (math_normalize.fns c168 c168ok) noLoops 300 Tryz.f195 [(.float .f64 x)] = math_normalize.k M c168 c168ok  x (fun r => some (.tuple ⟨[(.float .f64 r.1), (.int .i64 r.2)]⟩, [])) := by kernel_rfl
theorem math_normalize.k_eq (M : Prims) (x : Nat) (k : Nat × Int → R) : math_normalize.ok M x = true → math_normalize.k M (math_Abs M) (math_Abs.ok M) x k = k (math_normalize M x) := by
  unfold math_normalize.ok math_normalize.k math_normalize
  exact kL (fun _ => pC rfl rfl)
theorem math_normalize.call (x : Nat) (h : math_normalize.ok M0 x = true) : PureOK Tryz.prog 195 [(.float .f64 x)] (.tuple ⟨[(.float .f64 ((math_normalize M0 x).1)), (.int .i64 ((math_normalize M0 x).2))]⟩) :=
  evP_sound (P := Tryz.prog) mixed tabOK math_normalize.fnsOK Tryz.func195 rfl (Λ := noLoops) (c := Tryz.f195.body.getD .skip) rfl (noLoopsOK _) rfl (Nat.zero_le 1) rfl rfl ((math_normalize.ev M0 (math_Abs M0) (math_Abs.ok M0) x).trans (math_normalize.k_eq M0 x _ h))
def math_normalize.ph (c195 : Nat → Nat × Int) (c195ok : Nat → Bool) : Ph := fun args => match args with
  | [.float .f64 a0_] => some (c195ok a0_, .tuple ⟨[(.float .f64 ((c195 a0_).1)), (.int .i64 ((c195 a0_).2))]⟩)
  | _ => none
theorem math_normalize.phOK : PhOK Tryz.prog 195 (math_normalize.ph (math_normalize M0) (math_normalize.ok M0)) := ⟨by
  intro args v h
  unfold math_normalize.ph at h
  split at h
  · rename_i a0_
    simp only [Option.some.injEq, Prod.mk.injEq] at h
    obtain ⟨hok, rfl⟩ := h
    exact ⟨rfl, rfl, math_normalize.call a0_ hok⟩
  · cases h⟩
end Go.Lan

namespace Go.Lan
open Go.Proofs
def math_Copysign.k (M : Prims) (c115 : Int → Nat) (c48 : Nat → Int) (c48ok : Nat → Bool) (f : Nat) (sign : Nat) (k : Nat → R) : R :=
  cond (c48ok f)
    (cond (c48ok sign)
       (k (c115 (M.or .u64 (M.andNot .u64 (c48 f) 9223372036854775808) (M.and .u64 (c48 sign) 9223372036854775808))))
       (none))
    (none)
def math_Copysign (M : Prims) (f : Nat) (sign : Nat) : Nat :=
  (f64from (M.or .u64 (M.andNot .u64 (f64bits f) 9223372036854775808) (M.and .u64 (f64bits sign) 9223372036854775808)))
def math_Copysign.ok (_ : Prims) (f : Nat) (sign : Nat) : Bool :=
  cond (f64bits.ok f)
    (cond (f64bits.ok sign)
       (true)
       (false))
    (false)
def math_Copysign.fns (c115 : Int → Nat) (c48 : Nat → Int) (c48ok : Nat → Bool) : FuncId → List Value → Option (Bool × Value) := ifId 115 (f64from.ph c115) <| ifId 48 (f64bits.ph c48 c48ok) <| noFns
theorem math_Copysign.fnsOK : PureFns Tryz.prog (math_Copysign.fns f64from f64bits f64bits.ok) := ifIdOK f64from.phOK <| ifIdOK f64bits.phOK <| noFnsOK
theorem math_Copysign.ev (M : Prims) (c115 : Int → Nat) (c48 : Nat → Int) (c48ok : Nat → Bool)  (f : Nat) (sign : Nat) : evP tab M (math_Copysign.fns c115 c48 c48ok) noLoops 300 Tryz.f196 [(.float .f64 f), (.float .f64 sign)] = math_Copysign.k M c115 c48 c48ok  f sign (fun r => some ((.float .f64 r), [])) := by kernel_rfl
theorem math_Copysign.k_eq (M : Prims) (f : Nat) (sign : Nat) (k : Nat → R) : math_Copysign.ok M f sign = true → math_Copysign.k M f64from f64bits f64bits.ok f sign k = k (math_Copysign M f sign) := by
  unfold math_Copysign.ok math_Copysign.k math_Copysign
  exact kL (kL (fun _ => rfl))
theorem math_Copysign.call (f : Nat) (sign : Nat) (h : math_Copysign.ok M0 f sign = true) : PureOK Tryz.prog 196 [(.float .f64 f), (.float .f64 sign)] (.float .f64 (math_Copysign M0 f sign)) :=
  evP_sound (P := Tryz.prog) mixed tabOK math_Copysign.fnsOK Tryz.func196 rfl (Λ := noLoops) (c := Tryz.f196.body.getD .skip) rfl (noLoopsOK _) rfl (Nat.zero_le 1) rfl rfl ((math_Copysign.ev M0 f64from f64bits f64bits.ok f sign).trans (math_Copysign.k_eq M0 f sign _ h))
def math_Copysign.ph (c196 : Nat → Nat → Nat) (c196ok : Nat → Nat → Bool) : Ph := fun args => match args with
  | [.float .f64 a0_, .float .f64 a1_] => some (c196ok a0_ a1_, (.float .f64 (c196 a0_ a1_)))
  | _ => none
theorem math_Copysign.phOK : PhOK Tryz.prog 196 (math_Copysign.ph (math_Copysign M0) (math_Copysign.ok M0)) := ⟨by
  intro args v h
  unfold math_Copysign.ph at h
  split at h
  · rename_i a0_ a1_
    simp only [Option.some.injEq, Prod.mk.injEq] at h
    obtain ⟨hok, rfl⟩ := h
    exact ⟨rfl, rfl, math_Copysign.call a0_ a1_ hok⟩
  · cases h⟩
def math_Inf.k (_ : Prims) (c115 : Int → Nat) (sign : Int) (k : Nat → R) : R :=
  cond (decide (sign ≥ 0))
    (k (c115 9218868437227405312))
    (k (c115 18442240474082181120))
def math_Inf (_ : Prims) (sign : Int) : Nat :=
  cond (decide (sign ≥ 0))
    ((f64from 9218868437227405312))
    ((f64from 18442240474082181120))
def math_Inf.fns (c115 : Int → Nat) : FuncId → List Value → Option (Bool × Value) := ifId 115 (f64from.ph c115) <| noFns
theorem math_Inf.fnsOK : PureFns Tryz.prog (math_Inf.fns f64from) := ifIdOK f64from.phOK <| noFnsOK
theorem math_Inf.ev (M : Prims) (c115 : Int → Nat)  (sign : Int) : evP tab M (math_Inf.fns c115) noLoops 300 Tryz.f67 [(.int .i64 sign)] = math_Inf.k M c115  sign (fun r => some ((.float .f64 r), [])) := by kernel_rfl
theorem math_Inf.k_eq (M : Prims) (sign : Int) (k : Nat → R) : math_Inf.k M f64from sign k = k (math_Inf M sign) := by
  unfold math_Inf.k math_Inf
  exact pC rfl rfl
theorem math_Inf.call (sign : Int) : PureOK Tryz.prog 67 [(.int .i64 sign)] (.float .f64 (math_Inf M0 sign)) :=
  evP_sound (P := Tryz.prog) mixed tabOK math_Inf.fnsOK Tryz.func67 rfl (Λ := noLoops) (c := Tryz.f67.body.getD .skip) rfl (noLoopsOK _) rfl (Nat.zero_le 1) rfl rfl ((math_Inf.ev M0 f64from sign).trans (math_Inf.k_eq M0 sign _))
def math_Inf.ph (c67 : Int → Nat) : Ph := fun args => match args with
  | [.int .i64 a0_] => some (true, (.float .f64 (c67 a0_)))
  | _ => none
theorem math_Inf.phOK : PhOK Tryz.prog 67 (math_Inf.ph (math_Inf M0)) := ⟨by
  intro args v h
  unfold math_Inf.ph at h
  split at h
  · rename_i a0_
    simp only [Option.some.injEq, Prod.mk.injEq, true_and] at h
    subst h
    exact ⟨rfl, rfl, math_Inf.call a0_⟩
  · cases h⟩
def math_ldexp.k (M : Prims) (c115 : Int → Nat) (c138 : Nat → Int → Bool) (c138ok : Nat → Int → Bool) (c143 : Nat → Bool) (c195 : Nat → Nat × Int) (c195ok : Nat → Bool) (c196 : Nat → Nat → Nat) (c196ok : Nat → Nat → Bool) (c48 : Nat → Int) (c48ok : Nat → Bool) (c67 : Int → Nat) (frac : Nat) (exp : Int) (k : Nat → R) : R :=
  cond (M.eq frac 0)
    (k frac)
    (cond (c138ok frac 0)
       (cond (c138 frac 0)
          (k frac)
          (cond (c143 frac)
             (k frac)
             (let x4 := c195 frac
              cond (c195ok frac)
                (let x6 := c48 x4.1
                 cond (c48ok x4.1)
                   (let x11 := IntKind.i64.wrap ((IntKind.i64.wrap (exp + x4.2)) + (IntKind.i64.wrap ((M.and .i64 (IntKind.i64.wrap (shrV .u64 x6 52)) 2047) - 1023)))
                    cond (decide (x11 < (-1075)))
                      (cond (c196ok 0 x4.1)
                         (k (c196 0 x4.1))
                         (none))
                      (cond (decide (x11 > 1023))
                         (cond (M.lt x4.1 0)
                            (k (c67 (-1)))
                            (k (c67 1)))
                         (cond (decide (x11 < (-1022)))
                            (k (M.mul 4368491638549381120 (c115 (M.or .u64 (M.andNot .u64 x6 9218868437227405312) (shlV .u64 (IntKind.u64.wrap (IntKind.i64.wrap ((IntKind.i64.wrap (x11 + 53)) + 1023))) 52)))))
                            (k (M.mul 4607182418800017408 (c115 (M.or .u64 (M.andNot .u64 x6 9218868437227405312) (shlV .u64 (IntKind.u64.wrap (IntKind.i64.wrap (x11 + 1023))) 52))))))))
                   (none))
                (none))))
       (none))
def math_ldexp (M : Prims) (frac : Nat) (exp : Int) : Nat :=
  cond (M.eq frac 0)
    (frac)
    (cond (math_IsInf M frac 0)
       (frac)
       (cond (math_IsNaN M frac)
          (frac)
          (let x4 := math_normalize M frac
           let x6 := f64bits x4.1
           let x11 := IntKind.i64.wrap ((IntKind.i64.wrap (exp + x4.2)) + (IntKind.i64.wrap ((M.and .i64 (IntKind.i64.wrap (shrV .u64 x6 52)) 2047) - 1023)))
           cond (decide (x11 < (-1075)))
             ((math_Copysign M 0 x4.1))
             (cond (decide (x11 > 1023))
                (cond (M.lt x4.1 0)
                   ((math_Inf M (-1)))
                   ((math_Inf M 1)))
                (cond (decide (x11 < (-1022)))
                   ((M.mul 4368491638549381120 (f64from (M.or .u64 (M.andNot .u64 x6 9218868437227405312) (shlV .u64 (IntKind.u64.wrap (IntKind.i64.wrap ((IntKind.i64.wrap (x11 + 53)) + 1023))) 52)))))
                   ((M.mul 4607182418800017408 (f64from (M.or .u64 (M.andNot .u64 x6 9218868437227405312) (shlV .u64 (IntKind.u64.wrap (IntKind.i64.wrap (x11 + 1023))) 52))))))))))
def math_ldexp.ok (M : Prims) (frac : Nat) (exp : Int) : Bool :=
  cond (M.eq frac 0)
    (true)
    (cond (math_IsInf.ok M frac 0)
       (cond (math_IsInf M frac 0)
          (true)
          (cond (math_IsNaN M frac)
             (true)
             (let x4 := math_normalize M frac
              cond (math_normalize.ok M frac)
                (cond (f64bits.ok x4.1)
                   (cond (decide ((IntKind.i64.wrap ((IntKind.i64.wrap (exp + x4.2)) + (IntKind.i64.wrap ((M.and .i64 (IntKind.i64.wrap (shrV .u64 (f64bits x4.1) 52)) 2047) - 1023)))) < (-1075)))
                      (cond (math_Copysign.ok M 0 x4.1)
                         (true)
                         (false))
                      (true))
                   (false))
                (false))))
       (false))
def math_ldexp.fns (c115 : Int → Nat) (c138 : Nat → Int → Bool) (c138ok : Nat → Int → Bool) (c143 : Nat → Bool) (c195 : Nat → Nat × Int) (c195ok : Nat → Bool) (c196 : Nat → Nat → Nat) (c196ok : Nat → Nat → Bool) (c48 : Nat → Int) (c48ok : Nat → Bool) (c67 : Int → Nat) : FuncId → List Value → Option (Bool × Value) := ifId 115 (f64from.ph c115) <| ifId 138 (math_IsInf.ph c138 c138ok) <| ifId 143 (math_IsNaN.ph c143) <| ifId 195 (math_normalize.ph c195 c195ok) <| ifId 196 (math_Copysign.ph c196 c196ok) <| ifId 48 (f64bits.ph c48 c48ok) <| ifId 67 (math_Inf.ph c67) <| noFns
theorem math_ldexp.fnsOK : PureFns Tryz.prog (math_ldexp.fns f64from (math_IsInf M0) (math_IsInf.ok M0) (math_IsNaN M0) (math_normalize M0) (math_normalize.ok M0) (math_Copysign M0) (math_Copysign.ok M0) f64bits f64bits.ok (math_Inf M0)) := ifIdOK f64from.phOK <| ifIdOK math_IsInf.phOK <| ifIdOK math_IsNaN.phOK <| ifIdOK math_normalize.phOK <| ifIdOK math_Copysign.phOK <| ifIdOK f64bits.phOK <| ifIdOK math_Inf.phOK <| noFnsOK
theorem math_ldexp.ev (M : Prims) (c115 : Int → Nat) (c138 : Nat → Int → Bool) (c138ok : Nat → Int → Bool) (c143 : Nat → Bool) (c195 : Nat → Nat × Int) (c195ok : Nat → Bool) (c196 : Nat → Nat → Nat) (c196ok : Nat → Nat → Bool) (c48 : Nat → Int) (c48ok : Nat → Bool) (c67 : Int → Nat)  (frac : Nat) (exp : Int) : evP tab M (math_ldexp.fns c115 c138 c138ok c143 c195 c195ok c196 c196ok c48 c48ok c67) noLoops 300 Tryz.f183 [(.float .f64 frac), (.int .i64 exp)] = math_ldexp.k M c115 c138 c138ok c143 c195 c195ok c196 c196ok c48 c48ok c67  frac exp (fun r => some ((.float .f64 r), [])) := by kernel_rfl
theorem math_ldexp.k_eq (M : Prims) (frac : Nat) (exp : Int) (k : Nat → R) : math_ldexp.ok M frac exp = true → math_ldexp.k M f64from (math_IsInf M) (math_IsInf.ok M) (math_IsNaN M) (math_normalize M) (math_normalize.ok M) (math_Copysign M) (math_Copysign.ok M) f64bits f64bits.ok (math_Inf M) frac exp k = k (math_ldexp M frac exp) := by
  unfold math_ldexp.ok math_ldexp.k math_ldexp
  exact kC (fun _ => rfl) (kL (kC (fun _ => rfl) (kC (fun _ => rfl) (kL (kL (kC (kL (fun _ => rfl)) (fun _ => pC (pC rfl rfl) (pC rfl rfl))))))))
theorem math_ldexp.call (frac : Nat) (exp : Int) (h : math_ldexp.ok M0 frac exp = true) : PureOK Tryz.prog 183 [(.float .f64 frac), (.int .i64 exp)] (.float .f64 (math_ldexp M0 frac exp)) :=
  evP_sound (P := Tryz.prog) mixed tabOK math_ldexp.fnsOK Tryz.func183 rfl (Λ := noLoops) (c := Tryz.f183.body.getD .skip) rfl (noLoopsOK _) rfl (Nat.zero_le 1) rfl rfl ((math_ldexp.ev M0 f64from (math_IsInf M0) (math_IsInf.ok M0) (math_IsNaN M0) (math_normalize M0) (math_normalize.ok M0) (math_Copysign M0) (math_Copysign.ok M0) f64bits f64bits.ok (math_Inf M0) frac exp).trans (math_ldexp.k_eq M0 frac exp _ h))
def math_ldexp.ph (c183 : Nat → Int → Nat) (c183ok : Nat → Int → Bool) : Ph := fun args => match args with
  | [.float .f64 a0_, .int .i64 a1_] => some (c183ok a0_ a1_, (.float .f64 (c183 a0_ a1_)))
  | _ => none
theorem math_ldexp.phOK : PhOK Tryz.prog 183 (math_ldexp.ph (math_ldexp M0) (math_ldexp.ok M0)) := ⟨by
  intro args v h
  unfold math_ldexp.ph at h
  split at h
  · rename_i a0_ a1_
    simp only [Option.some.injEq, Prod.mk.injEq] at h
    obtain ⟨hok, rfl⟩ := h
    exact ⟨rfl, rfl, math_ldexp.call a0_ a1_ hok⟩
  · cases h⟩
def math_Ldexp.k (_ : Prims) (c183 : Nat → Int → Nat) (c183ok : Nat → Int → Bool) (frac : Nat) (exp : Int) (k : Nat → R) : R :=
  cond (c183ok frac exp)
    (k (c183 frac exp))
    (none)
def math_Ldexp (M : Prims) (frac : Nat) (exp : Int) : Nat :=
  (math_ldexp M frac exp)
def math_Ldexp.ok (M : Prims) (frac : Nat) (exp : Int) : Bool :=
  cond (math_ldexp.ok M frac exp)
    (true)
    (false)
def math_Ldexp.fns (c183 : Nat → Int → Nat) (c183ok : Nat → Int → Bool) : FuncId → List Value → Option (Bool × Value) := ifId 183 (math_ldexp.ph c183 c183ok) <| noFns
theorem math_Ldexp.fnsOK : PureFns Tryz.prog (math_Ldexp.fns (math_ldexp M0) (math_ldexp.ok M0)) := ifIdOK math_ldexp.phOK <| noFnsOK
theorem math_Ldexp.ev (M : Prims) (c183 : Nat → Int → Nat) (c183ok : Nat → Int → Bool)  (frac : Nat) (exp : Int) : evP tab M (math_Ldexp.fns c183 c183ok) noLoops 300 Tryz.f170 [(.float .f64 frac), (.int .i64 exp)] = math_Ldexp.k M c183 c183ok  frac exp (fun r => some ((.float .f64 r), [])) := by kernel_rfl
theorem math_Ldexp.k_eq (M : Prims) (frac : Nat) (exp : Int) (k : Nat → R) : math_Ldexp.ok M frac exp = true → math_Ldexp.k M (math_ldexp M) (math_ldexp.ok M) frac exp k = k (math_Ldexp M frac exp) := by
  unfold math_Ldexp.ok math_Ldexp.k math_Ldexp
  exact kL (fun _ => rfl)
theorem math_Ldexp.call (frac : Nat) (exp : Int) (h : math_Ldexp.ok M0 frac exp = true) : PureOK Tryz.prog 170 [(.float .f64 frac), (.int .i64 exp)] (.float .f64 (math_Ldexp M0 frac exp)) :=
  evP_sound (P := Tryz.prog) mixed tabOK math_Ldexp.fnsOK Tryz.func170 rfl (Λ := noLoops) (c := Tryz.f170.body.getD .skip) rfl (noLoopsOK _) rfl (Nat.zero_le 1) rfl rfl ((math_Ldexp.ev M0 (math_ldexp M0) (math_ldexp.ok M0) frac exp).trans (math_Ldexp.k_eq M0 frac exp _ h))
def math_Ldexp.ph (c170 : Nat → Int → Nat) (c170ok : Nat → Int → Bool) : Ph := fun args => match args with
  | [.float .f64 a0_, .int .i64 a1_] => some (c170ok a0_ a1_, (.float .f64 (c170 a0_ a1_)))
  | _ => none
theorem math_Ldexp.phOK : PhOK Tryz.prog 170 (math_Ldexp.ph (math_Ldexp M0) (math_Ldexp.ok M0)) := ⟨by
  intro args v h
  unfold math_Ldexp.ph at h
  split at h
  · rename_i a0_ a1_
    simp only [Option.some.injEq, Prod.mk.injEq] at h
    obtain ⟨hok, rfl⟩ := h
    exact ⟨rfl, rfl, math_Ldexp.call a0_ a1_ hok⟩
  · cases h⟩
def round_plain.k (M : Prims) (x : Nat) (k : Nat → R) : R :=
  k (M.add x 0)
def round_plain (M : Prims) (x : Nat) : Nat :=
  (M.add x 0)
def round_plain.fns : FuncId → List Value → Option (Bool × Value) := noFns
theorem round_plain.fnsOK : PureFns Tryz.prog round_plain.fns := noFnsOK
theorem round_plain.ev (M : Prims)   (x : Nat) : evP tab M round_plain.fns noLoops 300 Tryz.f171 [(.float .f64 x)] = round_plain.k M   x (fun r => some ((.float .f64 r), [])) := by kernel_rfl
theorem round_plain.k_eq (M : Prims) (x : Nat) (k : Nat → R) : round_plain.k M  x k = k (round_plain M x) := by
  unfold round_plain.k round_plain
  exact rfl
theorem round_plain.call (x : Nat) : PureOK Tryz.prog 171 [(.float .f64 x)] (.float .f64 (round_plain M0 x)) :=
  evP_sound (P := Tryz.prog) mixed tabOK round_plain.fnsOK Tryz.func171 rfl (Λ := noLoops) (c := Tryz.f171.body.getD .skip) rfl (noLoopsOK _) rfl (Nat.zero_le 1) rfl rfl ((round_plain.ev M0  x).trans (round_plain.k_eq M0 x _))
def round_plain.ph (c171 : Nat → Nat) : Ph := fun args => match args with
  | [.float .f64 a0_] => some (true, (.float .f64 (c171 a0_)))
  | _ => none
theorem round_plain.phOK : PhOK Tryz.prog 171 (round_plain.ph (round_plain M0)) := ⟨by
  intro args v h
  unfold round_plain.ph at h
  split at h
  · rename_i a0_
    simp only [Option.some.injEq, Prod.mk.injEq, true_and] at h
    subst h
    exact ⟨rfl, rfl, round_plain.call a0_⟩
  · cases h⟩
def round_exact_to.k (M : Prims) (c138 : Nat → Int → Bool) (c138ok : Nat → Int → Bool) (c148 : LExact → Int) (c148ok : LExact → Bool) (c169 : LExact → Int → LExact) (c169ok : LExact → Int → Bool) (c170 : Nat → Int → Nat) (c170ok : Nat → Int → Bool) (c171 : Nat → Nat) (x : LExact) (down : Bool) (k : Nat → R) : R :=
  let x1 := x.neg == down
  cond (c148ok x)
    (let x3 := IntKind.i64.wrap ((c148 x) - 53)
     let x4 := IntKind.i64.wrap ((-1074) - x.e)
     let x5 := if x4 > x3 then x4 else x3
     cond (decide (x5 > 0))
       (let x7 := c169 x x5
        cond (c169ok x x5)
          (cond x7.more
             (cond x1
                (let x9 := M.ofInt (IntKind.u64.wrap (x7.lo + 1))
                 let x10 := c170 x9 x7.e
                 cond (c170ok x9 x7.e)
                   (cond (c138ok x10 0)
                      (cond (c138 x10 0)
                         (cond (!x1)
                            (cond x7.neg
                               (k (c171 (M.neg 9218868437227405311)))
                               (k (c171 9218868437227405311)))
                            (cond x7.neg
                               (k (c171 (M.neg x10)))
                               (k (c171 x10))))
                         (cond x7.neg
                            (k (c171 (M.neg x10)))
                            (k (c171 x10))))
                      (none))
                   (none))
                (let x22 := M.ofInt x7.lo
                 let x23 := c170 x22 x7.e
                 cond (c170ok x22 x7.e)
                   (cond (c138ok x23 0)
                      (cond (c138 x23 0)
                         (cond (!x1)
                            (cond x7.neg
                               (k (c171 (M.neg 9218868437227405311)))
                               (k (c171 9218868437227405311)))
                            (cond x7.neg
                               (k (c171 (M.neg x23)))
                               (k (c171 x23))))
                         (cond x7.neg
                            (k (c171 (M.neg x23)))
                            (k (c171 x23))))
                      (none))
                   (none)))
             (let x35 := M.ofInt x7.lo
              let x36 := c170 x35 x7.e
              cond (c170ok x35 x7.e)
                (cond (c138ok x36 0)
                   (cond (c138 x36 0)
                      (cond (!x1)
                         (cond x7.neg
                            (k (c171 (M.neg 9218868437227405311)))
                            (k (c171 9218868437227405311)))
                         (cond x7.neg
                            (k (c171 (M.neg x36)))
                            (k (c171 x36))))
                      (cond x7.neg
                         (k (c171 (M.neg x36)))
                         (k (c171 x36))))
                   (none))
                (none)))
          (none))
       (cond x.more
          (cond x1
             (let x49 := M.ofInt (IntKind.u64.wrap (x.lo + 1))
              let x50 := c170 x49 x.e
              cond (c170ok x49 x.e)
                (cond (c138ok x50 0)
                   (cond (c138 x50 0)
                      (cond (!x1)
                         (cond x.neg
                            (k (c171 (M.neg 9218868437227405311)))
                            (k (c171 9218868437227405311)))
                         (cond x.neg
                            (k (c171 (M.neg x50)))
                            (k (c171 x50))))
                      (cond x.neg
                         (k (c171 (M.neg x50)))
                         (k (c171 x50))))
                   (none))
                (none))
             (let x62 := M.ofInt x.lo
              let x63 := c170 x62 x.e
              cond (c170ok x62 x.e)
                (cond (c138ok x63 0)
                   (cond (c138 x63 0)
                      (cond (!x1)
                         (cond x.neg
                            (k (c171 (M.neg 9218868437227405311)))
                            (k (c171 9218868437227405311)))
                         (cond x.neg
                            (k (c171 (M.neg x63)))
                            (k (c171 x63))))
                      (cond x.neg
                         (k (c171 (M.neg x63)))
                         (k (c171 x63))))
                   (none))
                (none)))
          (let x75 := M.ofInt x.lo
           let x76 := c170 x75 x.e
           cond (c170ok x75 x.e)
             (cond (c138ok x76 0)
                (cond (c138 x76 0)
                   (cond (!x1)
                      (cond x.neg
                         (k (c171 (M.neg 9218868437227405311)))
                         (k (c171 9218868437227405311)))
                      (cond x.neg
                         (k (c171 (M.neg x76)))
                         (k (c171 x76))))
                   (cond x.neg
                      (k (c171 (M.neg x76)))
                      (k (c171 x76))))
                (none))
             (none))))
    (none)
def round_exact_to (M : Prims) (x : LExact) (down : Bool) : Nat :=
  let x1 := x.neg == down
  let x3 := IntKind.i64.wrap ((round_exact_length M x) - 53)
  let x4 := IntKind.i64.wrap ((-1074) - x.e)
  let x5 := if x4 > x3 then x4 else x3
  cond (decide (x5 > 0))
    (let x7 := round_exact_right M x x5
     cond x7.more
       (cond x1
          (let x10 := math_Ldexp M (M.ofInt (IntKind.u64.wrap (x7.lo + 1))) x7.e
           cond (math_IsInf M x10 0)
             (cond (!x1)
                (cond x7.neg
                   ((round_plain M (M.neg 9218868437227405311)))
                   ((round_plain M 9218868437227405311)))
                (cond x7.neg
                   ((round_plain M (M.neg x10)))
                   ((round_plain M x10))))
             (cond x7.neg
                ((round_plain M (M.neg x10)))
                ((round_plain M x10))))
          (let x23 := math_Ldexp M (M.ofInt x7.lo) x7.e
           cond (math_IsInf M x23 0)
             (cond (!x1)
                (cond x7.neg
                   ((round_plain M (M.neg 9218868437227405311)))
                   ((round_plain M 9218868437227405311)))
                (cond x7.neg
                   ((round_plain M (M.neg x23)))
                   ((round_plain M x23))))
             (cond x7.neg
                ((round_plain M (M.neg x23)))
                ((round_plain M x23)))))
       (let x36 := math_Ldexp M (M.ofInt x7.lo) x7.e
        cond (math_IsInf M x36 0)
          (cond (!x1)
             (cond x7.neg
                ((round_plain M (M.neg 9218868437227405311)))
                ((round_plain M 9218868437227405311)))
             (cond x7.neg
                ((round_plain M (M.neg x36)))
                ((round_plain M x36))))
          (cond x7.neg
             ((round_plain M (M.neg x36)))
             ((round_plain M x36)))))
    (cond x.more
       (cond x1
          (let x50 := math_Ldexp M (M.ofInt (IntKind.u64.wrap (x.lo + 1))) x.e
           cond (math_IsInf M x50 0)
             (cond (!x1)
                (cond x.neg
                   ((round_plain M (M.neg 9218868437227405311)))
                   ((round_plain M 9218868437227405311)))
                (cond x.neg
                   ((round_plain M (M.neg x50)))
                   ((round_plain M x50))))
             (cond x.neg
                ((round_plain M (M.neg x50)))
                ((round_plain M x50))))
          (let x63 := math_Ldexp M (M.ofInt x.lo) x.e
           cond (math_IsInf M x63 0)
             (cond (!x1)
                (cond x.neg
                   ((round_plain M (M.neg 9218868437227405311)))
                   ((round_plain M 9218868437227405311)))
                (cond x.neg
                   ((round_plain M (M.neg x63)))
                   ((round_plain M x63))))
             (cond x.neg
                ((round_plain M (M.neg x63)))
                ((round_plain M x63)))))
       (let x76 := math_Ldexp M (M.ofInt x.lo) x.e
        cond (math_IsInf M x76 0)
          (cond (!x1)
             (cond x.neg
                ((round_plain M (M.neg 9218868437227405311)))
                ((round_plain M 9218868437227405311)))
             (cond x.neg
                ((round_plain M (M.neg x76)))
                ((round_plain M x76))))
          (cond x.neg
             ((round_plain M (M.neg x76)))
             ((round_plain M x76)))))
def round_exact_to.ok (M : Prims) (x : LExact) (down : Bool) : Bool :=
  let x1 := x.neg == down
  cond (round_exact_length.ok M x)
    (let x3 := IntKind.i64.wrap ((round_exact_length M x) - 53)
     let x4 := IntKind.i64.wrap ((-1074) - x.e)
     let x5 := if x4 > x3 then x4 else x3
     cond (decide (x5 > 0))
       (let x7 := round_exact_right M x x5
        cond (round_exact_right.ok M x x5)
          (cond x7.more
             (cond x1
                (let x9 := M.ofInt (IntKind.u64.wrap (x7.lo + 1))
                 cond (math_Ldexp.ok M x9 x7.e)
                   (cond (math_IsInf.ok M (math_Ldexp M x9 x7.e) 0)
                      (true)
                      (false))
                   (false))
                (let x22 := M.ofInt x7.lo
                 cond (math_Ldexp.ok M x22 x7.e)
                   (cond (math_IsInf.ok M (math_Ldexp M x22 x7.e) 0)
                      (true)
                      (false))
                   (false)))
             (let x35 := M.ofInt x7.lo
              cond (math_Ldexp.ok M x35 x7.e)
                (cond (math_IsInf.ok M (math_Ldexp M x35 x7.e) 0)
                   (true)
                   (false))
                (false)))
          (false))
       (cond x.more
          (cond x1
             (let x49 := M.ofInt (IntKind.u64.wrap (x.lo + 1))
              cond (math_Ldexp.ok M x49 x.e)
                (cond (math_IsInf.ok M (math_Ldexp M x49 x.e) 0)
                   (true)
                   (false))
                (false))
             (let x62 := M.ofInt x.lo
              cond (math_Ldexp.ok M x62 x.e)
                (cond (math_IsInf.ok M (math_Ldexp M x62 x.e) 0)
                   (true)
                   (false))
                (false)))
          (let x75 := M.ofInt x.lo
           cond (math_Ldexp.ok M x75 x.e)
             (cond (math_IsInf.ok M (math_Ldexp M x75 x.e) 0)
                (true)
                (false))
             (false))))
    (false)
def round_exact_to.fns (c138 : Nat → Int → Bool) (c138ok : Nat → Int → Bool) (c148 : LExact → Int) (c148ok : LExact → Bool) (c169 : LExact → Int → LExact) (c169ok : LExact → Int → Bool) (c170 : Nat → Int → Nat) (c170ok : Nat → Int → Bool) (c171 : Nat → Nat) : FuncId → List Value → Option (Bool × Value) := ifId 138 (math_IsInf.ph c138 c138ok) <| ifId 148 (round_exact_length.ph c148 c148ok) <| ifId 169 (round_exact_right.ph c169 c169ok) <| ifId 170 (math_Ldexp.ph c170 c170ok) <| ifId 171 (round_plain.ph c171) <| noFns
theorem round_exact_to.fnsOK : PureFns Tryz.prog (round_exact_to.fns (math_IsInf M0) (math_IsInf.ok M0) (round_exact_length M0) (round_exact_length.ok M0) (round_exact_right M0) (round_exact_right.ok M0) (math_Ldexp M0) (math_Ldexp.ok M0) (round_plain M0)) := ifIdOK math_IsInf.phOK <| ifIdOK round_exact_length.phOK <| ifIdOK round_exact_right.phOK <| ifIdOK math_Ldexp.phOK <| ifIdOK round_plain.phOK <| noFnsOK
theorem round_exact_to.ev (M : Prims) (c138 : Nat → Int → Bool) (c138ok : Nat → Int → Bool) (c148 : LExact → Int) (c148ok : LExact → Bool) (c169 : LExact → Int → LExact) (c169ok : LExact → Int → Bool) (c170 : Nat → Int → Nat) (c170ok : Nat → Int → Bool) (c171 : Nat → Nat)  (x : LExact) (down : Bool) : evP tab M (round_exact_to.fns c138 c138ok c148 c148ok c169 c169ok c170 c170ok c171) noLoops 300 Tryz.f142 [x.val, (.bool down)] = round_exact_to.k M c138 c138ok c148 c148ok c169 c169ok c170 c170ok c171  x down (fun r => some ((.float .f64 r), [])) := by kernel_rfl
theorem round_exact_to.k_eq (M : Prims) (x : LExact) (down : Bool) (k : Nat → R) : round_exact_to.ok M x down = true → round_exact_to.k M (math_IsInf M) (math_IsInf.ok M) (round_exact_length M) (round_exact_length.ok M) (round_exact_right M) (round_exact_right.ok M) (math_Ldexp M) (math_Ldexp.ok M) (round_plain M) x down k = k (round_exact_to M x down) := by
  unfold round_exact_to.ok round_exact_to.k round_exact_to
  exact kL (kC (kL (kC (kC (kL (kL (fun _ => pC (pC (pC rfl rfl) (pC rfl rfl)) (pC rfl rfl)))) (kL (kL (fun _ => pC (pC (pC rfl rfl) (pC rfl rfl)) (pC rfl rfl))))) (kL (kL (fun _ => pC (pC (pC rfl rfl) (pC rfl rfl)) (pC rfl rfl)))))) (kC (kC (kL (kL (fun _ => pC (pC (pC rfl rfl) (pC rfl rfl)) (pC rfl rfl)))) (kL (kL (fun _ => pC (pC (pC rfl rfl) (pC rfl rfl)) (pC rfl rfl))))) (kL (kL (fun _ => pC (pC (pC rfl rfl) (pC rfl rfl)) (pC rfl rfl))))))
theorem round_exact_to.call (x : LExact) (down : Bool) (h : round_exact_to.ok M0 x down = true) : PureOK Tryz.prog 142 [x.val, (.bool down)] (.float .f64 (round_exact_to M0 x down)) :=
  evP_sound (P := Tryz.prog) mixed tabOK round_exact_to.fnsOK Tryz.func142 rfl (Λ := noLoops) (c := Tryz.f142.body.getD .skip) rfl (noLoopsOK _) rfl (Nat.zero_le 1) rfl rfl ((round_exact_to.ev M0 (math_IsInf M0) (math_IsInf.ok M0) (round_exact_length M0) (round_exact_length.ok M0) (round_exact_right M0) (round_exact_right.ok M0) (math_Ldexp M0) (math_Ldexp.ok M0) (round_plain M0) x down).trans (round_exact_to.k_eq M0 x down _ h))
def round_exact_to.ph (c142 : LExact → Bool → Nat) (c142ok : LExact → Bool → Bool) : Ph := fun args => match args with
  | [.agg ⟨[.bool a0_0, .int .u64 a0_1, .int .u64 a0_2, .int .i64 a0_3, .bool a0_4]⟩, .bool a1_] => some (c142ok (⟨a0_0, a0_1, a0_2, a0_3, a0_4⟩ : LExact) a1_, (.float .f64 (c142 (⟨a0_0, a0_1, a0_2, a0_3, a0_4⟩ : LExact) a1_)))
  | _ => none
theorem round_exact_to.phOK : PhOK Tryz.prog 142 (round_exact_to.ph (round_exact_to M0) (round_exact_to.ok M0)) := ⟨by
  intro args v h
  unfold round_exact_to.ph at h
  split at h
  · rename_i a0_0 a0_1 a0_2 a0_3 a0_4 a1_
    simp only [Option.some.injEq, Prod.mk.injEq] at h
    obtain ⟨hok, rfl⟩ := h
    exact ⟨rfl, rfl, round_exact_to.call (⟨a0_0, a0_1, a0_2, a0_3, a0_4⟩ : LExact) a1_ hok⟩
  · cases h⟩
def round_Add.k (_ : Prims) (c139 : Nat → Nat → Bool) (c139ok : Nat → Nat → Bool) (c140 : Nat → LExact) (c140ok : Nat → Bool) (c142 : LExact → Bool → Nat) (c142ok : LExact → Bool → Bool) (c153 : LExact → LExact → LExact) (c153ok : LExact → LExact → Bool) (a : Nat) (b : Nat) (down : Bool) (k : Nat × Int → R) : R :=
  cond (c139ok a b)
    (cond (!(c139 a b))
       (k (0, 10))
       (let x3 := c140 a
        cond (c140ok a)
          (let x4 := c140 b
           cond (c140ok b)
             (let x5 := c153 x3 x4
              cond (c153ok x3 x4)
                (cond (c142ok x5 down)
                   (k ((c142 x5 down), 0))
                   (none))
                (none))
             (none))
          (none)))
    (none)
def round_Add (M : Prims) (a : Nat) (b : Nat) (down : Bool) : Nat × Int :=
  cond (!(round_two M a b))
    ((0, 10))
    (((round_exact_to M (round_sum M (round_split M a) (round_split M b)) down), 0))
def round_Add.ok (M : Prims) (a : Nat) (b : Nat) (down : Bool) : Bool :=
  cond (round_two.ok M a b)
    (cond (!(round_two M a b))
       (true)
       (let x3 := round_split M a
        cond (round_split.ok M a)
          (let x4 := round_split M b
           cond (round_split.ok M b)
             (cond (round_sum.ok M x3 x4)
                (cond (round_exact_to.ok M (round_sum M x3 x4) down)
                   (true)
                   (false))
                (false))
             (false))
          (false)))
    (false)
def round_Add.fns (c139 : Nat → Nat → Bool) (c139ok : Nat → Nat → Bool) (c140 : Nat → LExact) (c140ok : Nat → Bool) (c142 : LExact → Bool → Nat) (c142ok : LExact → Bool → Bool) (c153 : LExact → LExact → LExact) (c153ok : LExact → LExact → Bool) : FuncId → List Value → Option (Bool × Value) := ifId 139 (round_two.ph c139 c139ok) <| ifId 140 (round_split.ph c140 c140ok) <| ifId 142 (round_exact_to.ph c142 c142ok) <| ifId 153 (round_sum.ph c153 c153ok) <| noFns
theorem round_Add.fnsOK : PureFns Tryz.prog (round_Add.fns (round_two M0) (round_two.ok M0) (round_split M0) (round_split.ok M0) (round_exact_to M0) (round_exact_to.ok M0) (round_sum M0) (round_sum.ok M0)) := ifIdOK round_two.phOK <| ifIdOK round_split.phOK <| ifIdOK round_exact_to.phOK <| ifIdOK round_sum.phOK <| noFnsOK
theorem round_Add.ev (M : Prims) (c139 : Nat → Nat → Bool) (c139ok : Nat → Nat → Bool) (c140 : Nat → LExact) (c140ok : Nat → Bool) (c142 : LExact → Bool → Nat) (c142ok : LExact → Bool → Bool) (c153 : LExact → LExact → LExact) (c153ok : LExact → LExact → Bool)  (a : Nat) (b : Nat) (down : Bool) : evP tab M (round_Add.fns c139 c139ok c140 c140ok c142 c142ok c153 c153ok) noLoops 300 Tryz.f110 [(.float .f64 a), (.float .f64 b), (.bool down)] = round_Add.k M c139 c139ok c140 c140ok c142 c142ok c153 c153ok  a b down (fun r => some (.tuple ⟨[(.float .f64 r.1), (.int .i64 r.2)]⟩, [])) := by kernel_rfl
theorem round_Add.k_eq (M : Prims) (a : Nat) (b : Nat) (down : Bool) (k : Nat × Int → R) : round_Add.ok M a b down = true → round_Add.k M (round_two M) (round_two.ok M) (round_split M) (round_split.ok M) (round_exact_to M) (round_exact_to.ok M) (round_sum M) (round_sum.ok M) a b down k = k (round_Add M a b down) := by
  unfold round_Add.ok round_Add.k round_Add
  exact kL (kC (fun _ => rfl) (kL (kL (kL (kL (fun _ => rfl))))))
theorem round_Add.call (a : Nat) (b : Nat) (down : Bool) (h : round_Add.ok M0 a b down = true) : PureOK Tryz.prog 110 [(.float .f64 a), (.float .f64 b), (.bool down)] (.tuple ⟨[(.float .f64 ((round_Add M0 a b down).1)), (.int .i64 ((round_Add M0 a b down).2))]⟩) :=
  evP_sound (P := Tryz.prog) mixed tabOK round_Add.fnsOK Tryz.func110 rfl (Λ := noLoops) (c := Tryz.f110.body.getD .skip) rfl (noLoopsOK _) rfl (Nat.zero_le 1) rfl rfl ((round_Add.ev M0 (round_two M0) (round_two.ok M0) (round_split M0) (round_split.ok M0) (round_exact_to M0) (round_exact_to.ok M0) (round_sum M0) (round_sum.ok M0) a b down).trans (round_Add.k_eq M0 a b down _ h))
def round_Add.ph (c110 : Nat → Nat → Bool → Nat × Int) (c110ok : Nat → Nat → Bool → Bool) : Ph := fun args => match args with
  | [.float .f64 a0_, .float .f64 a1_, .bool a2_] => some (c110ok a0_ a1_ a2_, .tuple ⟨[(.float .f64 ((c110 a0_ a1_ a2_).1)), (.int .i64 ((c110 a0_ a1_ a2_).2))]⟩)
  | _ => none
theorem round_Add.phOK : PhOK Tryz.prog 110 (round_Add.ph (round_Add M0) (round_Add.ok M0)) := ⟨by
  intro args v h
  unfold round_Add.ph at h
  split at h
  · rename_i a0_ a1_ a2_
    simp only [Option.some.injEq, Prod.mk.injEq] at h
    obtain ⟨hok, rfl⟩ := h
    exact ⟨rfl, rfl, round_Add.call a0_ a1_ a2_ hok⟩
  · cases h⟩
def span_low.k (_ : Prims) (c67 : Int → Nat) (x : Nat) (e : Int) (k : Nat → R) : R :=
  cond ((e : Int) != 0)
    (k (c67 (-1)))
    (k x)
def span_low (M : Prims) (x : Nat) (e : Int) : Nat :=
  cond ((e : Int) != 0)
    ((math_Inf M (-1)))
    (x)
def span_low.fns (c67 : Int → Nat) : FuncId → List Value → Option (Bool × Value) := ifId 67 (math_Inf.ph c67) <| noFns
theorem span_low.fnsOK : PureFns Tryz.prog (span_low.fns (math_Inf M0)) := ifIdOK math_Inf.phOK <| noFnsOK
theorem span_low.ev (M : Prims) (c67 : Int → Nat)  (x : Nat) (e : Int) : evP tab M (span_low.fns c67) noLoops 300 Tryz.f109 [(.float .f64 x), (.int .i64 e)] = span_low.k M c67  x e (fun r => some ((.float .f64 r), [])) := by kernel_rfl
theorem span_low.k_eq (M : Prims) (x : Nat) (e : Int) (k : Nat → R) : span_low.k M (math_Inf M) x e k = k (span_low M x e) := by
  unfold span_low.k span_low
  exact pC rfl rfl
theorem span_low.call (x : Nat) (e : Int) : PureOK Tryz.prog 109 [(.float .f64 x), (.int .i64 e)] (.float .f64 (span_low M0 x e)) :=
  evP_sound (P := Tryz.prog) mixed tabOK span_low.fnsOK Tryz.func109 rfl (Λ := noLoops) (c := Tryz.f109.body.getD .skip) rfl (noLoopsOK _) rfl (Nat.zero_le 1) rfl rfl ((span_low.ev M0 (math_Inf M0) x e).trans (span_low.k_eq M0 x e _))
def span_low.ph (c109 : Nat → Int → Nat) : Ph := fun args => match args with
  | [.float .f64 a0_, .int .i64 a1_] => some (true, (.float .f64 (c109 a0_ a1_)))
  | _ => none
theorem span_low.phOK : PhOK Tryz.prog 109 (span_low.ph (span_low M0)) := ⟨by
  intro args v h
  unfold span_low.ph at h
  split at h
  · rename_i a0_ a1_
    simp only [Option.some.injEq, Prod.mk.injEq, true_and] at h
    subst h
    exact ⟨rfl, rfl, span_low.call a0_ a1_⟩
  · cases h⟩
def span_high.k (_ : Prims) (c67 : Int → Nat) (x : Nat) (e : Int) (k : Nat → R) : R :=
  cond ((e : Int) != 0)
    (k (c67 1))
    (k x)
def span_high (M : Prims) (x : Nat) (e : Int) : Nat :=
  cond ((e : Int) != 0)
    ((math_Inf M 1))
    (x)
def span_high.fns (c67 : Int → Nat) : FuncId → List Value → Option (Bool × Value) := ifId 67 (math_Inf.ph c67) <| noFns
theorem span_high.fnsOK : PureFns Tryz.prog (span_high.fns (math_Inf M0)) := ifIdOK math_Inf.phOK <| noFnsOK
theorem span_high.ev (M : Prims) (c67 : Int → Nat)  (x : Nat) (e : Int) : evP tab M (span_high.fns c67) noLoops 300 Tryz.f111 [(.float .f64 x), (.int .i64 e)] = span_high.k M c67  x e (fun r => some ((.float .f64 r), [])) := by kernel_rfl
theorem span_high.k_eq (M : Prims) (x : Nat) (e : Int) (k : Nat → R) : span_high.k M (math_Inf M) x e k = k (span_high M x e) := by
  unfold span_high.k span_high
  exact pC rfl rfl
theorem span_high.call (x : Nat) (e : Int) : PureOK Tryz.prog 111 [(.float .f64 x), (.int .i64 e)] (.float .f64 (span_high M0 x e)) :=
  evP_sound (P := Tryz.prog) mixed tabOK span_high.fnsOK Tryz.func111 rfl (Λ := noLoops) (c := Tryz.f111.body.getD .skip) rfl (noLoopsOK _) rfl (Nat.zero_le 1) rfl rfl ((span_high.ev M0 (math_Inf M0) x e).trans (span_high.k_eq M0 x e _))
def span_high.ph (c111 : Nat → Int → Nat) : Ph := fun args => match args with
  | [.float .f64 a0_, .int .i64 a1_] => some (true, (.float .f64 (c111 a0_ a1_)))
  | _ => none
theorem span_high.phOK : PhOK Tryz.prog 111 (span_high.ph (span_high M0)) := ⟨by
  intro args v h
  unfold span_high.ph at h
  split at h
  · rename_i a0_ a1_
    simp only [Option.some.injEq, Prod.mk.injEq, true_and] at h
    subst h
    exact ⟨rfl, rfl, span_high.call a0_ a1_⟩
  · cases h⟩
def span_Add.k (_ : Prims) (c109 : Nat → Int → Nat) (c110 : Nat → Nat → Bool → Nat × Int) (c110ok : Nat → Nat → Bool → Bool) (c111 : Nat → Int → Nat) (a : LSpan) (b : LSpan) (k : LSpan → R) : R :=
  let x1 := c110 a.lo b.lo true
  cond (c110ok a.lo b.lo true)
    (let x3 := c110 a.hi b.hi false
     cond (c110ok a.hi b.hi false)
       (k (⟨(c109 x1.1 x1.2), (c111 x3.1 x3.2)⟩ : LSpan))
       (none))
    (none)
def span_Add (M : Prims) (a : LSpan) (b : LSpan) : LSpan :=
  let x1 := round_Add M a.lo b.lo true
  let x3 := round_Add M a.hi b.hi false
  (⟨(span_low M x1.1 x1.2), (span_high M x3.1 x3.2)⟩ : LSpan)
def span_Add.ok (M : Prims) (a : LSpan) (b : LSpan) : Bool :=
  cond (round_Add.ok M a.lo b.lo true)
    (cond (round_Add.ok M a.hi b.hi false)
       (true)
       (false))
    (false)
def span_Add.fns (c109 : Nat → Int → Nat) (c110 : Nat → Nat → Bool → Nat × Int) (c110ok : Nat → Nat → Bool → Bool) (c111 : Nat → Int → Nat) : FuncId → List Value → Option (Bool × Value) := ifId 109 (span_low.ph c109) <| ifId 110 (round_Add.ph c110 c110ok) <| ifId 111 (span_high.ph c111) <| noFns
theorem span_Add.fnsOK : PureFns Tryz.prog (span_Add.fns (span_low M0) (round_Add M0) (round_Add.ok M0) (span_high M0)) := ifIdOK span_low.phOK <| ifIdOK round_Add.phOK <| ifIdOK span_high.phOK <| noFnsOK
theorem span_Add.ev (M : Prims) (c109 : Nat → Int → Nat) (c110 : Nat → Nat → Bool → Nat × Int) (c110ok : Nat → Nat → Bool → Bool) (c111 : Nat → Int → Nat)  (a : LSpan) (b : LSpan) : evP tab M (span_Add.fns c109 c110 c110ok c111) noLoops 300 Tryz.f62 [a.val, b.val] = span_Add.k M c109 c110 c110ok c111  a b (fun r => some (r.val, [])) := by kernel_rfl
theorem span_Add.k_eq (M : Prims) (a : LSpan) (b : LSpan) (k : LSpan → R) : span_Add.ok M a b = true → span_Add.k M (span_low M) (round_Add M) (round_Add.ok M) (span_high M) a b k = k (span_Add M a b) := by
  unfold span_Add.ok span_Add.k span_Add
  exact kL (kL (fun _ => rfl))
theorem span_Add.call (a : LSpan) (b : LSpan) (h : span_Add.ok M0 a b = true) : PureOK Tryz.prog 62 [a.val, b.val] ((span_Add M0 a b).val) :=
  evP_sound (P := Tryz.prog) mixed tabOK span_Add.fnsOK Tryz.func62 rfl (Λ := noLoops) (c := Tryz.f62.body.getD .skip) rfl (noLoopsOK _) rfl (Nat.zero_le 1) rfl rfl ((span_Add.ev M0 (span_low M0) (round_Add M0) (round_Add.ok M0) (span_high M0) a b).trans (span_Add.k_eq M0 a b _ h))
def span_Add.ph (c62 : LSpan → LSpan → LSpan) (c62ok : LSpan → LSpan → Bool) : Ph := fun args => match args with
  | [.agg ⟨[.float .f64 a0_0, .float .f64 a0_1]⟩, .agg ⟨[.float .f64 a1_0, .float .f64 a1_1]⟩] => some (c62ok (⟨a0_0, a0_1⟩ : LSpan) (⟨a1_0, a1_1⟩ : LSpan), (c62 (⟨a0_0, a0_1⟩ : LSpan) (⟨a1_0, a1_1⟩ : LSpan)).val)
  | _ => none
theorem span_Add.phOK : PhOK Tryz.prog 62 (span_Add.ph (span_Add M0) (span_Add.ok M0)) := ⟨by
  intro args v h
  unfold span_Add.ph at h
  split at h
  · rename_i a0_0 a0_1 a1_0 a1_1
    simp only [Option.some.injEq, Prod.mk.injEq] at h
    obtain ⟨hok, rfl⟩ := h
    exact ⟨rfl, rfl, span_Add.call (⟨a0_0, a0_1⟩ : LSpan) (⟨a1_0, a1_1⟩ : LSpan) hok⟩
  · cases h⟩
def span_Sub.k (_ : Prims) (c103 : LSpan → LSpan) (c62 : LSpan → LSpan → LSpan) (c62ok : LSpan → LSpan → Bool) (a : LSpan) (b : LSpan) (k : LSpan → R) : R :=
  let x1 := c103 b
  cond (c62ok a x1)
    (k (c62 a x1))
    (none)
def span_Sub (M : Prims) (a : LSpan) (b : LSpan) : LSpan :=
  (span_Add M a (span_Neg M b))
def span_Sub.ok (M : Prims) (a : LSpan) (b : LSpan) : Bool :=
  cond (span_Add.ok M a (span_Neg M b))
    (true)
    (false)
def span_Sub.fns (c103 : LSpan → LSpan) (c62 : LSpan → LSpan → LSpan) (c62ok : LSpan → LSpan → Bool) : FuncId → List Value → Option (Bool × Value) := ifId 103 (span_Neg.ph c103) <| ifId 62 (span_Add.ph c62 c62ok) <| noFns
theorem span_Sub.fnsOK : PureFns Tryz.prog (span_Sub.fns (span_Neg M0) (span_Add M0) (span_Add.ok M0)) := ifIdOK span_Neg.phOK <| ifIdOK span_Add.phOK <| noFnsOK
theorem span_Sub.ev (M : Prims) (c103 : LSpan → LSpan) (c62 : LSpan → LSpan → LSpan) (c62ok : LSpan → LSpan → Bool)  (a : LSpan) (b : LSpan) : evP tab M (span_Sub.fns c103 c62 c62ok) noLoops 300 Tryz.f54 [a.val, b.val] = span_Sub.k M c103 c62 c62ok  a b (fun r => some (r.val, [])) := by kernel_rfl
theorem span_Sub.k_eq (M : Prims) (a : LSpan) (b : LSpan) (k : LSpan → R) : span_Sub.ok M a b = true → span_Sub.k M (span_Neg M) (span_Add M) (span_Add.ok M) a b k = k (span_Sub M a b) := by
  unfold span_Sub.ok span_Sub.k span_Sub
  exact kL (fun _ => rfl)
theorem span_Sub.call (a : LSpan) (b : LSpan) (h : span_Sub.ok M0 a b = true) : PureOK Tryz.prog 54 [a.val, b.val] ((span_Sub M0 a b).val) :=
  evP_sound (P := Tryz.prog) mixed tabOK span_Sub.fnsOK Tryz.func54 rfl (Λ := noLoops) (c := Tryz.f54.body.getD .skip) rfl (noLoopsOK _) rfl (Nat.zero_le 1) rfl rfl ((span_Sub.ev M0 (span_Neg M0) (span_Add M0) (span_Add.ok M0) a b).trans (span_Sub.k_eq M0 a b _ h))
def span_Sub.ph (c54 : LSpan → LSpan → LSpan) (c54ok : LSpan → LSpan → Bool) : Ph := fun args => match args with
  | [.agg ⟨[.float .f64 a0_0, .float .f64 a0_1]⟩, .agg ⟨[.float .f64 a1_0, .float .f64 a1_1]⟩] => some (c54ok (⟨a0_0, a0_1⟩ : LSpan) (⟨a1_0, a1_1⟩ : LSpan), (c54 (⟨a0_0, a0_1⟩ : LSpan) (⟨a1_0, a1_1⟩ : LSpan)).val)
  | _ => none
theorem span_Sub.phOK : PhOK Tryz.prog 54 (span_Sub.ph (span_Sub M0) (span_Sub.ok M0)) := ⟨by
  intro args v h
  unfold span_Sub.ph at h
  split at h
  · rename_i a0_0 a0_1 a1_0 a1_1
    simp only [Option.some.injEq, Prod.mk.injEq] at h
    obtain ⟨hok, rfl⟩ := h
    exact ⟨rfl, rfl, span_Sub.call (⟨a0_0, a0_1⟩ : LSpan) (⟨a1_0, a1_1⟩ : LSpan) hok⟩
  · cases h⟩
def vec_each_Sub.k (_ : Prims) (c54 : LSpan → LSpan → LSpan) (c54ok : LSpan → LSpan → Bool) (a : LV3) (b : LV3) (k : LV3 → R) : R :=
  cond (c54ok a.p0 b.p0)
    (cond (c54ok a.p1 b.p1)
       (cond (c54ok a.p2 b.p2)
          (k (⟨(c54 a.p0 b.p0), (c54 a.p1 b.p1), (c54 a.p2 b.p2)⟩ : LV3))
          (none))
       (none))
    (none)
def vec_each_Sub (M : Prims) (a : LV3) (b : LV3) : LV3 :=
  (⟨(span_Sub M a.p0 b.p0), (span_Sub M a.p1 b.p1), (span_Sub M a.p2 b.p2)⟩ : LV3)
def vec_each_Sub.ok (M : Prims) (a : LV3) (b : LV3) : Bool :=
  cond (span_Sub.ok M a.p0 b.p0)
    (cond (span_Sub.ok M a.p1 b.p1)
       (cond (span_Sub.ok M a.p2 b.p2)
          (true)
          (false))
       (false))
    (false)
def vec_each_Sub.fns (c54 : LSpan → LSpan → LSpan) (c54ok : LSpan → LSpan → Bool) : FuncId → List Value → Option (Bool × Value) := ifId 54 (span_Sub.ph c54 c54ok) <| noFns
theorem vec_each_Sub.fnsOK : PureFns Tryz.prog (vec_each_Sub.fns (span_Sub M0) (span_Sub.ok M0)) := ifIdOK span_Sub.phOK <| noFnsOK
theorem vec_each_Sub.ev (M : Prims) (c54 : LSpan → LSpan → LSpan) (c54ok : LSpan → LSpan → Bool)  (a : LV3) (b : LV3) : evP tab M (vec_each_Sub.fns c54 c54ok) noLoops 300 Tryz.f89 [a.val, b.val, .func (.func 54) ⟨[]⟩ ⟨[]⟩] = vec_each_Sub.k M c54 c54ok  a b (fun r => some (r.val, [])) := by kernel_rfl
theorem vec_each_Sub.k_eq (M : Prims) (a : LV3) (b : LV3) (k : LV3 → R) : vec_each_Sub.ok M a b = true → vec_each_Sub.k M (span_Sub M) (span_Sub.ok M) a b k = k (vec_each_Sub M a b) := by
  unfold vec_each_Sub.ok vec_each_Sub.k vec_each_Sub
  exact kL (kL (kL (fun _ => rfl)))
theorem vec_each_Sub.call (a : LV3) (b : LV3) (h : vec_each_Sub.ok M0 a b = true) : PureOK Tryz.prog 89 [a.val, b.val, .func (.func 54) ⟨[]⟩ ⟨[]⟩] ((vec_each_Sub M0 a b).val) :=
  evP_sound (P := Tryz.prog) mixed tabOK vec_each_Sub.fnsOK Tryz.func89 rfl (Λ := noLoops) (c := Tryz.f89.body.getD .skip) rfl (noLoopsOK _) rfl (Nat.zero_le 1) rfl rfl ((vec_each_Sub.ev M0 (span_Sub M0) (span_Sub.ok M0) a b).trans (vec_each_Sub.k_eq M0 a b _ h))
def vec_each_Sub.ph (c89_54 : LV3 → LV3 → LV3) (c89_54ok : LV3 → LV3 → Bool) : Ph := fun args => match args with
  | [.agg ⟨[.float .f64 a0_0, .float .f64 a0_1, .float .f64 a0_2, .float .f64 a0_3, .float .f64 a0_4, .float .f64 a0_5]⟩, .agg ⟨[.float .f64 a1_0, .float .f64 a1_1, .float .f64 a1_2, .float .f64 a1_3, .float .f64 a1_4, .float .f64 a1_5]⟩, .func (.func 54) ⟨[]⟩ ⟨[]⟩] => some (c89_54ok (⟨⟨a0_0, a0_1⟩, ⟨a0_2, a0_3⟩, ⟨a0_4, a0_5⟩⟩ : LV3) (⟨⟨a1_0, a1_1⟩, ⟨a1_2, a1_3⟩, ⟨a1_4, a1_5⟩⟩ : LV3), (c89_54 (⟨⟨a0_0, a0_1⟩, ⟨a0_2, a0_3⟩, ⟨a0_4, a0_5⟩⟩ : LV3) (⟨⟨a1_0, a1_1⟩, ⟨a1_2, a1_3⟩, ⟨a1_4, a1_5⟩⟩ : LV3)).val)
  | _ => none
theorem vec_each_Sub.phOK : PhOK Tryz.prog 89 (vec_each_Sub.ph (vec_each_Sub M0) (vec_each_Sub.ok M0)) := ⟨by
  intro args v h
  unfold vec_each_Sub.ph at h
  split at h
  · rename_i a0_0 a0_1 a0_2 a0_3 a0_4 a0_5 a1_0 a1_1 a1_2 a1_3 a1_4 a1_5
    simp only [Option.some.injEq, Prod.mk.injEq] at h
    obtain ⟨hok, rfl⟩ := h
    exact ⟨rfl, rfl, vec_each_Sub.call (⟨⟨a0_0, a0_1⟩, ⟨a0_2, a0_3⟩, ⟨a0_4, a0_5⟩⟩ : LV3) (⟨⟨a1_0, a1_1⟩, ⟨a1_2, a1_3⟩, ⟨a1_4, a1_5⟩⟩ : LV3) hok⟩
  · cases h⟩
def vec_Sub.k (_ : Prims) (c89_54 : LV3 → LV3 → LV3) (c89_54ok : LV3 → LV3 → Bool) (a : LV3) (b : LV3) (k : LV3 → R) : R :=
  cond (c89_54ok a b)
    (k (c89_54 a b))
    (none)
def vec_Sub (M : Prims) (a : LV3) (b : LV3) : LV3 :=
  (vec_each_Sub M a b)
def vec_Sub.ok (M : Prims) (a : LV3) (b : LV3) : Bool :=
  cond (vec_each_Sub.ok M a b)
    (true)
    (false)
def vec_Sub.fns (c89_54 : LV3 → LV3 → LV3) (c89_54ok : LV3 → LV3 → Bool) : FuncId → List Value → Option (Bool × Value) := ifId 89 (vec_each_Sub.ph c89_54 c89_54ok) <| noFns
theorem vec_Sub.fnsOK : PureFns Tryz.prog (vec_Sub.fns (vec_each_Sub M0) (vec_each_Sub.ok M0)) := ifIdOK vec_each_Sub.phOK <| noFnsOK
theorem vec_Sub.ev (M : Prims) (c89_54 : LV3 → LV3 → LV3) (c89_54ok : LV3 → LV3 → Bool)  (a : LV3) (b : LV3) : evP tab M (vec_Sub.fns c89_54 c89_54ok) noLoops 300 Tryz.f41 [a.val, b.val] = vec_Sub.k M c89_54 c89_54ok  a b (fun r => some (r.val, [])) := by kernel_rfl
theorem vec_Sub.k_eq (M : Prims) (a : LV3) (b : LV3) (k : LV3 → R) : vec_Sub.ok M a b = true → vec_Sub.k M (vec_each_Sub M) (vec_each_Sub.ok M) a b k = k (vec_Sub M a b) := by
  unfold vec_Sub.ok vec_Sub.k vec_Sub
  exact kL (fun _ => rfl)
theorem vec_Sub.call (a : LV3) (b : LV3) (h : vec_Sub.ok M0 a b = true) : PureOK Tryz.prog 41 [a.val, b.val] ((vec_Sub M0 a b).val) :=
  evP_sound (P := Tryz.prog) mixed tabOK vec_Sub.fnsOK Tryz.func41 rfl (Λ := noLoops) (c := Tryz.f41.body.getD .skip) rfl (noLoopsOK _) rfl (Nat.zero_le 1) rfl rfl ((vec_Sub.ev M0 (vec_each_Sub M0) (vec_each_Sub.ok M0) a b).trans (vec_Sub.k_eq M0 a b _ h))
def vec_Sub.ph (c41 : LV3 → LV3 → LV3) (c41ok : LV3 → LV3 → Bool) : Ph := fun args => match args with
  | [.agg ⟨[.float .f64 a0_0, .float .f64 a0_1, .float .f64 a0_2, .float .f64 a0_3, .float .f64 a0_4, .float .f64 a0_5]⟩, .agg ⟨[.float .f64 a1_0, .float .f64 a1_1, .float .f64 a1_2, .float .f64 a1_3, .float .f64 a1_4, .float .f64 a1_5]⟩] => some (c41ok (⟨⟨a0_0, a0_1⟩, ⟨a0_2, a0_3⟩, ⟨a0_4, a0_5⟩⟩ : LV3) (⟨⟨a1_0, a1_1⟩, ⟨a1_2, a1_3⟩, ⟨a1_4, a1_5⟩⟩ : LV3), (c41 (⟨⟨a0_0, a0_1⟩, ⟨a0_2, a0_3⟩, ⟨a0_4, a0_5⟩⟩ : LV3) (⟨⟨a1_0, a1_1⟩, ⟨a1_2, a1_3⟩, ⟨a1_4, a1_5⟩⟩ : LV3)).val)
  | _ => none
theorem vec_Sub.phOK : PhOK Tryz.prog 41 (vec_Sub.ph (vec_Sub M0) (vec_Sub.ok M0)) := ⟨by
  intro args v h
  unfold vec_Sub.ph at h
  split at h
  · rename_i a0_0 a0_1 a0_2 a0_3 a0_4 a0_5 a1_0 a1_1 a1_2 a1_3 a1_4 a1_5
    simp only [Option.some.injEq, Prod.mk.injEq] at h
    obtain ⟨hok, rfl⟩ := h
    exact ⟨rfl, rfl, vec_Sub.call (⟨⟨a0_0, a0_1⟩, ⟨a0_2, a0_3⟩, ⟨a0_4, a0_5⟩⟩ : LV3) (⟨⟨a1_0, a1_1⟩, ⟨a1_2, a1_3⟩, ⟨a1_4, a1_5⟩⟩ : LV3) hok⟩
  · cases h⟩
def shape_edges.k (_ : Prims) (c41 : LV3 → LV3 → LV3) (c41ok : LV3 → LV3 → Bool) (s : LShape) (k : LV3 × LV3 → R) : R :=
  cond (c41ok s.p.p1 s.p.p0)
    (cond (c41ok s.p.p2 s.p.p0)
       (k ((c41 s.p.p1 s.p.p0), (c41 s.p.p2 s.p.p0)))
       (none))
    (none)
def shape_edges (M : Prims) (s : LShape) : LV3 × LV3 :=
  ((vec_Sub M s.p.p1 s.p.p0), (vec_Sub M s.p.p2 s.p.p0))
def shape_edges.ok (M : Prims) (s : LShape) : Bool :=
  cond (vec_Sub.ok M s.p.p1 s.p.p0)
    (cond (vec_Sub.ok M s.p.p2 s.p.p0)
       (true)
       (false))
    (false)
def shape_edges.fns (c41 : LV3 → LV3 → LV3) (c41ok : LV3 → LV3 → Bool) : FuncId → List Value → Option (Bool × Value) := ifId 41 (vec_Sub.ph c41 c41ok) <| noFns
theorem shape_edges.fnsOK : PureFns Tryz.prog (shape_edges.fns (vec_Sub M0) (vec_Sub.ok M0)) := ifIdOK vec_Sub.phOK <| noFnsOK
theorem shape_edges.ev (M : Prims) (c41 : LV3 → LV3 → LV3) (c41ok : LV3 → LV3 → Bool)  (s : LShape) : evP tab M (shape_edges.fns c41 c41ok) noLoops 300 Tryz.f42 [s.val] = shape_edges.k M c41 c41ok  s (fun r => some (.tuple ⟨[r.1.val, r.2.val]⟩, [])) := by kernel_rfl
theorem shape_edges.k_eq (M : Prims) (s : LShape) (k : LV3 × LV3 → R) : shape_edges.ok M s = true → shape_edges.k M (vec_Sub M) (vec_Sub.ok M) s k = k (shape_edges M s) := by
  unfold shape_edges.ok shape_edges.k shape_edges
  exact kL (kL (fun _ => rfl))
theorem shape_edges.call (s : LShape) (h : shape_edges.ok M0 s = true) : PureOK Tryz.prog 42 [s.val] (.tuple ⟨[((shape_edges M0 s).1).val, ((shape_edges M0 s).2).val]⟩) :=
  evP_sound (P := Tryz.prog) mixed tabOK shape_edges.fnsOK Tryz.func42 rfl (Λ := noLoops) (c := Tryz.f42.body.getD .skip) rfl (noLoopsOK _) rfl (Nat.zero_le 1) rfl rfl ((shape_edges.ev M0 (vec_Sub M0) (vec_Sub.ok M0) s).trans (shape_edges.k_eq M0 s _ h))
def shape_edges.ph (c42 : LShape → LV3 × LV3) (c42ok : LShape → Bool) : Ph := fun args => match args with
  | [.agg ⟨[.int .i64 a0_0, .float .f64 a0_1, .float .f64 a0_2, .float .f64 a0_3, .float .f64 a0_4, .float .f64 a0_5, .float .f64 a0_6, .float .f64 a0_7, .float .f64 a0_8, .float .f64 a0_9, .float .f64 a0_10, .float .f64 a0_11, .float .f64 a0_12, .float .f64 a0_13, .float .f64 a0_14, .float .f64 a0_15, .float .f64 a0_16, .float .f64 a0_17, .float .f64 a0_18, .float .f64 a0_19, .float .f64 a0_20]⟩] => some (c42ok (⟨a0_0, ⟨⟨⟨a0_1, a0_2⟩, ⟨a0_3, a0_4⟩, ⟨a0_5, a0_6⟩⟩, ⟨⟨a0_7, a0_8⟩, ⟨a0_9, a0_10⟩, ⟨a0_11, a0_12⟩⟩, ⟨⟨a0_13, a0_14⟩, ⟨a0_15, a0_16⟩, ⟨a0_17, a0_18⟩⟩⟩, ⟨a0_19, a0_20⟩⟩ : LShape), .tuple ⟨[((c42 (⟨a0_0, ⟨⟨⟨a0_1, a0_2⟩, ⟨a0_3, a0_4⟩, ⟨a0_5, a0_6⟩⟩, ⟨⟨a0_7, a0_8⟩, ⟨a0_9, a0_10⟩, ⟨a0_11, a0_12⟩⟩, ⟨⟨a0_13, a0_14⟩, ⟨a0_15, a0_16⟩, ⟨a0_17, a0_18⟩⟩⟩, ⟨a0_19, a0_20⟩⟩ : LShape)).1).val, ((c42 (⟨a0_0, ⟨⟨⟨a0_1, a0_2⟩, ⟨a0_3, a0_4⟩, ⟨a0_5, a0_6⟩⟩, ⟨⟨a0_7, a0_8⟩, ⟨a0_9, a0_10⟩, ⟨a0_11, a0_12⟩⟩, ⟨⟨a0_13, a0_14⟩, ⟨a0_15, a0_16⟩, ⟨a0_17, a0_18⟩⟩⟩, ⟨a0_19, a0_20⟩⟩ : LShape)).2).val]⟩)
  | _ => none
theorem shape_edges.phOK : PhOK Tryz.prog 42 (shape_edges.ph (shape_edges M0) (shape_edges.ok M0)) := ⟨by
  intro args v h
  unfold shape_edges.ph at h
  split at h
  · rename_i a0_0 a0_1 a0_2 a0_3 a0_4 a0_5 a0_6 a0_7 a0_8 a0_9 a0_10 a0_11 a0_12 a0_13 a0_14 a0_15 a0_16 a0_17 a0_18 a0_19 a0_20
    simp only [Option.some.injEq, Prod.mk.injEq] at h
    obtain ⟨hok, rfl⟩ := h
    exact ⟨rfl, rfl, shape_edges.call (⟨a0_0, ⟨⟨⟨a0_1, a0_2⟩, ⟨a0_3, a0_4⟩, ⟨a0_5, a0_6⟩⟩, ⟨⟨a0_7, a0_8⟩, ⟨a0_9, a0_10⟩, ⟨a0_11, a0_12⟩⟩, ⟨⟨a0_13, a0_14⟩, ⟨a0_15, a0_16⟩, ⟨a0_17, a0_18⟩⟩⟩, ⟨a0_19, a0_20⟩⟩ : LShape) hok⟩
  · cases h⟩
def span_Wide.k (_ : Prims) (c138 : Nat → Int → Bool) (c138ok : Nat → Int → Bool) (a : LSpan) (k : Bool → R) : R :=
  cond (c138ok a.lo 0)
    (cond (c138 a.lo 0)
       (k true)
       (cond (c138ok a.hi 0)
          (k (c138 a.hi 0))
          (none)))
    (none)
def span_Wide (M : Prims) (a : LSpan) : Bool :=
  cond (math_IsInf M a.lo 0)
    (true)
    ((math_IsInf M a.hi 0))
def span_Wide.ok (M : Prims) (a : LSpan) : Bool :=
  cond (math_IsInf.ok M a.lo 0)
    (cond (math_IsInf M a.lo 0)
       (true)
       (cond (math_IsInf.ok M a.hi 0)
          (true)
          (false)))
    (false)
def span_Wide.fns (c138 : Nat → Int → Bool) (c138ok : Nat → Int → Bool) : FuncId → List Value → Option (Bool × Value) := ifId 138 (math_IsInf.ph c138 c138ok) <| noFns
theorem span_Wide.fnsOK : PureFns Tryz.prog (span_Wide.fns (math_IsInf M0) (math_IsInf.ok M0)) := ifIdOK math_IsInf.phOK <| noFnsOK
theorem span_Wide.ev (M : Prims) (c138 : Nat → Int → Bool) (c138ok : Nat → Int → Bool)  (a : LSpan) : evP tab M (span_Wide.fns c138 c138ok) noLoops 300 Tryz.f93 [a.val] = span_Wide.k M c138 c138ok  a (fun r => some ((.bool r), [])) := by kernel_rfl
theorem span_Wide.k_eq (M : Prims) (a : LSpan) (k : Bool → R) : span_Wide.ok M a = true → span_Wide.k M (math_IsInf M) (math_IsInf.ok M) a k = k (span_Wide M a) := by
  unfold span_Wide.ok span_Wide.k span_Wide
  exact kL (kC (fun _ => rfl) (kL (fun _ => rfl)))
theorem span_Wide.call (a : LSpan) (h : span_Wide.ok M0 a = true) : PureOK Tryz.prog 93 [a.val] (.bool (span_Wide M0 a)) :=
  evP_sound (P := Tryz.prog) mixed tabOK span_Wide.fnsOK Tryz.func93 rfl (Λ := noLoops) (c := Tryz.f93.body.getD .skip) rfl (noLoopsOK _) rfl (Nat.zero_le 1) rfl rfl ((span_Wide.ev M0 (math_IsInf M0) (math_IsInf.ok M0) a).trans (span_Wide.k_eq M0 a _ h))
def span_Wide.ph (c93 : LSpan → Bool) (c93ok : LSpan → Bool) : Ph := fun args => match args with
  | [.agg ⟨[.float .f64 a0_0, .float .f64 a0_1]⟩] => some (c93ok (⟨a0_0, a0_1⟩ : LSpan), (.bool (c93 (⟨a0_0, a0_1⟩ : LSpan))))
  | _ => none
theorem span_Wide.phOK : PhOK Tryz.prog 93 (span_Wide.ph (span_Wide M0) (span_Wide.ok M0)) := ⟨by
  intro args v h
  unfold span_Wide.ph at h
  split at h
  · rename_i a0_0 a0_1
    simp only [Option.some.injEq, Prod.mk.injEq] at h
    obtain ⟨hok, rfl⟩ := h
    exact ⟨rfl, rfl, span_Wide.call (⟨a0_0, a0_1⟩ : LSpan) hok⟩
  · cases h⟩
def span_All.k (_ : Prims) (c67 : Int → Nat) (k : LSpan → R) : R :=
  k (⟨(c67 (-1)), (c67 1)⟩ : LSpan)
def span_All (M : Prims) : LSpan :=
  (⟨(math_Inf M (-1)), (math_Inf M 1)⟩ : LSpan)
def span_All.fns (c67 : Int → Nat) : FuncId → List Value → Option (Bool × Value) := ifId 67 (math_Inf.ph c67) <| noFns
theorem span_All.fnsOK : PureFns Tryz.prog (span_All.fns (math_Inf M0)) := ifIdOK math_Inf.phOK <| noFnsOK
theorem span_All.ev (M : Prims) (c67 : Int → Nat)   : evP tab M (span_All.fns c67) noLoops 300 Tryz.f94 [] = span_All.k M c67   (fun r => some (r.val, [])) := by kernel_rfl
theorem span_All.k_eq (M : Prims)  (k : LSpan → R) : span_All.k M (math_Inf M)  k = k (span_All M ) := by
  unfold span_All.k span_All
  exact rfl
theorem span_All.call  : PureOK Tryz.prog 94 [] ((span_All M0 ).val) :=
  evP_sound (P := Tryz.prog) mixed tabOK span_All.fnsOK Tryz.func94 rfl (Λ := noLoops) (c := Tryz.f94.body.getD .skip) rfl (noLoopsOK _) rfl (Nat.zero_le 1) rfl rfl ((span_All.ev M0 (math_Inf M0) ).trans (span_All.k_eq M0  _))
def span_All.ph (c94 : LSpan) : Ph := fun args => match args with
  | [] => some (true, (c94).val)
  | _ => none
theorem span_All.phOK : PhOK Tryz.prog 94 (span_All.ph (span_All M0)) := ⟨by
  intro args v h
  unfold span_All.ph at h
  split at h
  · simp only [Option.some.injEq, Prod.mk.injEq, true_and] at h
    subst h
    exact ⟨rfl, rfl, span_All.call ⟩
  · cases h⟩
def bits_Mul64.k (M : Prims) (x : Int) (y : Int) (k : Int × Int → R) : R :=
  let x1 := M.and .u64 x 4294967295
  let x2 := shrV .u64 x 32
  let x3 := M.and .u64 y 4294967295
  let x4 := shrV .u64 y 32
  let x8 := IntKind.u64.wrap ((IntKind.u64.wrap (x2 * x3)) + (shrV .u64 (IntKind.u64.wrap (x1 * x3)) 32))
  k ((IntKind.u64.wrap ((IntKind.u64.wrap ((IntKind.u64.wrap (x2 * x4)) + (shrV .u64 x8 32))) + (shrV .u64 (IntKind.u64.wrap ((M.and .u64 x8 4294967295) + (IntKind.u64.wrap (x1 * x4)))) 32))), (IntKind.u64.wrap (x * y)))
def bits_Mul64 (M : Prims) (x : Int) (y : Int) : Int × Int :=
  let x1 := M.and .u64 x 4294967295
  let x2 := shrV .u64 x 32
  let x3 := M.and .u64 y 4294967295
  let x4 := shrV .u64 y 32
  let x8 := IntKind.u64.wrap ((IntKind.u64.wrap (x2 * x3)) + (shrV .u64 (IntKind.u64.wrap (x1 * x3)) 32))
  ((IntKind.u64.wrap ((IntKind.u64.wrap ((IntKind.u64.wrap (x2 * x4)) + (shrV .u64 x8 32))) + (shrV .u64 (IntKind.u64.wrap ((M.and .u64 x8 4294967295) + (IntKind.u64.wrap (x1 * x4)))) 32))), (IntKind.u64.wrap (x * y)))
def bits_Mul64.fns : FuncId → List Value → Option (Bool × Value) := noFns
theorem bits_Mul64.fnsOK : PureFns Tryz.prog bits_Mul64.fns := noFnsOK
theorem bits_Mul64.ev (M : Prims)   (x : Int) (y : Int) : evP tab M bits_Mul64.fns noLoops 300 Tryz.f141 [(.int .u64 x), (.int .u64 y)] = bits_Mul64.k M   x y (fun r => some (.tuple ⟨[(.int .u64 r.1), (.int .u64 r.2)]⟩, [])) := by kernel_rfl
theorem bits_Mul64.k_eq (M : Prims) (x : Int) (y : Int) (k : Int × Int → R) : bits_Mul64.k M  x y k = k (bits_Mul64 M x y) := by
  unfold bits_Mul64.k bits_Mul64
  exact rfl
theorem bits_Mul64.call (x : Int) (y : Int) : PureOK Tryz.prog 141 [(.int .u64 x), (.int .u64 y)] (.tuple ⟨[(.int .u64 ((bits_Mul64 M0 x y).1)), (.int .u64 ((bits_Mul64 M0 x y).2))]⟩) :=
  evP_sound (P := Tryz.prog) mixed tabOK bits_Mul64.fnsOK Tryz.func141 rfl (Λ := noLoops) (c := Tryz.f141.body.getD .skip) rfl (noLoopsOK _) rfl (Nat.zero_le 1) rfl rfl ((bits_Mul64.ev M0  x y).trans (bits_Mul64.k_eq M0 x y _))
def bits_Mul64.ph (c141 : Int → Int → Int × Int) : Ph := fun args => match args with
  | [.int .u64 a0_, .int .u64 a1_] => some (true, .tuple ⟨[(.int .u64 ((c141 a0_ a1_).1)), (.int .u64 ((c141 a0_ a1_).2))]⟩)
  | _ => none
theorem bits_Mul64.phOK : PhOK Tryz.prog 141 (bits_Mul64.ph (bits_Mul64 M0)) := ⟨by
  intro args v h
  unfold bits_Mul64.ph at h
  split at h
  · rename_i a0_ a1_
    simp only [Option.some.injEq, Prod.mk.injEq, true_and] at h
    subst h
    exact ⟨rfl, rfl, bits_Mul64.call a0_ a1_⟩
  · cases h⟩
end Go.Lan
